/- dirent.Write. -/
import Derived.Test.YtodlapkmcnmmhaaDoorDa
namespace Go.Proofs.YtodlapkmcnmmhaaDoor
open Go.RowKit
set_option linter.unusedSimpArgs false
set_option linter.unusedVariables false

set_option maxRecDepth 100000 in
theorem infoWriter : (Tryd.prog.info? 73).map (fun i => (i.zero, i.size, i.bytes)) = some (some (.agg (encS (padL []) [I 0, I 0])), 130, 144) := by kernel_rfl
theorem zero_writer (w : World) : (zeroValue 73).run Tryd.prog w = .ok (.agg (encS (padL []) [I 0, I 0])) w := by
  obtain ⟨i, hi, hz0, _, _⟩ := info_parts infoWriter
  simp [zeroValue, typeInfo, hi, hz0]
def encE (E : List En) : List Value := E.flatMap (fun e => [I e.1, Sv e.2])
def encL (E : List En) : List Int := E.flatMap encD
theorem encL_len : ∀ {E : List En}, (∀ e ∈ E, OkE e) → (encL E).length = 32 * E.length
  | [], _ => rfl
  | e :: E, h => by
    have h1 := (h e (List.mem_cons_self ..)).len
    have h2 := encL_len (E := E) (fun x hx => h x (List.mem_cons_of_mem _ hx))
    show (encD e ++ encL E).length = _
    rw [List.length_append, encD_len (by omega), h2, List.length_cons]
    omega
theorem encL_snoc (E : List En) (k : Nat) (e : En) (h : E[k]? = some e) : encL (E.take (k + 1)) = encL (E.take k) ++ encD e := by
  rw [List.take_add_one, h]
  simp [encL]
set_option maxRecDepth 100000 in
theorem idx0 (a b c d : Value) (x y z u : Value) (w : World) : (Instr.index 31 (.agg #[a, x, b, y, c, z, d, u]) (.int .i64 0)).run Tryd.prog w = .ok (.agg #[a, x]) w := by
  kernel_rfl
set_option maxRecDepth 100000 in
theorem idx1 (a b c d : Value) (x y z u : Value) (w : World) : (Instr.index 31 (.agg #[a, x, b, y, c, z, d, u]) (.int .i64 1)).run Tryd.prog w = .ok (.agg #[b, y]) w := by
  kernel_rfl
set_option maxRecDepth 100000 in
theorem idx2 (a b c d : Value) (x y z u : Value) (w : World) : (Instr.index 31 (.agg #[a, x, b, y, c, z, d, u]) (.int .i64 2)).run Tryd.prog w = .ok (.agg #[c, z]) w := by
  kernel_rfl
set_option maxRecDepth 100000 in
theorem idx3 (a b c d : Value) (x y z u : Value) (w : World) : (Instr.index 31 (.agg #[a, x, b, y, c, z, d, u]) (.int .i64 3)).run Tryd.prog w = .ok (.agg #[d, u]) w := by
  kernel_rfl
theorem idx_ent (E : List En) (hE : E.length = 4) (k : Nat) (e : En) (h : E[k]? = some e) (w : World) : (Instr.index 31 (.agg (encE E).toArray) (.int .i64 k)).run Tryd.prog w = .ok (.agg #[I e.1, Sv e.2]) w := by
  match E, hE with
  | [e0, e1, e2, e3], _ =>
    have hk := (List.getElem?_eq_some_iff.1 h).1
    have h4 : k = 0 ∨ k = 1 ∨ k = 2 ∨ k = 3 := by simp at hk; omega
    rcases h4 with rfl | rfl | rfl | rfl
    · obtain rfl : e0 = e := Option.some.inj h
      exact idx0 _ _ _ _ _ _ _ _ w
    · obtain rfl : e1 = e := Option.some.inj h
      exact idx1 _ _ _ _ _ _ _ _ w
    · obtain rfl : e2 = e := Option.some.inj h
      exact idx2 _ _ _ _ _ _ _ _ w
    · obtain rfl : e3 = e := Option.some.inj h
      exact idx3 _ _ _ _ _ _ _ _ w
end Go.Proofs.YtodlapkmcnmmhaaDoor
