/- dirent: an entry; its bytes. -/
import Derived.Test.YtodlapkmcnmmhaaDoorMe
import Derived.Test.YtodlapkmcnmmhaaDoorNf
import Derived.Lib.ConvBytes
namespace Go.Proofs.YtodlapkmcnmmhaaDoor
open Go.RowKit
set_option linter.unusedSimpArgs false
set_option linter.unusedVariables false

abbrev En := Nat × Bs
def OkE (e : En) : Prop := (e.1 = 0 ∧ e.2 = []) ∨ (1 ≤ e.1 ∧ e.1 ≤ 200 ∧ goodM e.2 = 0 ∧ e.2.length ≤ 26)
theorem OkE.len {e : En} (h : OkE e) : e.2.length ≤ 26 ∧ e.1 ≤ 200 := by
  rcases h with ⟨h1, h2⟩ | ⟨_, h1, _, h2⟩
  · rw [h1, h2]; simp
  · exact ⟨h2, h1⟩
theorem good_ok {x : Bs} (g : GoodPart x) : goodM x = 0 := by
  unfold goodM
  rw [if_neg (fun h => by rcases h with h | h; exact g.z h; exact g.sl h), if_neg g.ne, if_neg (by have := g.len; omega)]
abbrev Ev (e : En) : Value := .agg #[I e.1, Sv e.2]
set_option maxRecDepth 100000 in
set_option maxHeartbeats 2000000 in
theorem may_yes (n : Nat) (x : Bs) (w : World) (h : OkE (n, x)) : Calls Tryd.prog 33 #[.agg #[I n, Sv x]] w fun e w' => e = .returned (.bool true) ∧ Safe w w' := by
  have hs : Safe w (w.alloc (.cells #[I n, Sv x] 30)) := (But.refl _ w).alloc _
  have HG := Lib.hid (fun W => good_any x W)
  have HS := Lib.hid hs
  rcases h with ⟨h1, h2⟩ | ⟨h1, h2, h3, _⟩
  · simp only at h1 h2
    subst h1 h2
    clear hs
    go_enter Tryd.func33, Tryd.ntmps33
    go_wp2_with fail
    go_ret
    exact ⟨rfl, HS.out⟩
  · simp only at h1 h2 h3
    rw [h3] at HG
    have i1 : (0 : Int) < n := by omega
    have i2 : (n : Int) ≤ 200 := by omega
    have i3 : ((n : Int) == 0) = false := beq_eq_false_iff_ne.2 (by omega)
    clear hs
    go_enter Tryd.func33, Tryd.ntmps33
    go_wp2_with fail
    refine (HG.out _).mono ?_
    rintro _ w2 ⟨rfl, rfl⟩
    go_wp2_with fail
    go_ret
    exact ⟨rfl, HS.out⟩
def bI (x : Bs) : List Int := x.map (fun b => (b.toNat : Int))
theorem bI_len (x : Bs) : (bI x).length = x.length := by simp [bI]
theorem bI_u8 (x : Bs) : ∀ v ∈ bI x, 0 ≤ v ∧ v < 256 := fun v hv => by
  unfold bI at hv
  rw [List.mem_map] at hv
  obtain ⟨b, _, rfl⟩ := hv
  have := b.toNat_lt
  omega
/-- []byte(x). -/
theorem conv_any (x : Bs) (w : World) : ∃ W c, (convert 9 77 (Sv x)).run Tryd.prog w = .ok (.slice (some ⟨w.heap.size, 0, none⟩) x.length c) W ∧ Rd U W (some ⟨w.heap.size, 0, none⟩) (bI x) ∧ Safe w W := by
  have h := Lib.run_convert_string_bytes (P := Tryd.prog) w 9 77 5 ⟨x.toArray⟩ Tryd.underlying9 Tryd.underlying77 Tryd.underlying5
  refine ⟨_, _, h, fun _ => ⟨_, rfl, fun k v hk => ?_⟩, ?_⟩
  · have hk' := (List.getElem?_eq_some_iff.1 hk).1
    rw [bI_len] at hk'
    rw [add_plain, Nat.zero_add, Lib.bytesWorld_cell w 5 ⟨x.toArray⟩ k hk']
    unfold bI at hk
    rw [List.getElem?_map, List.getElem?_eq_getElem hk'] at hk
    simp only [Option.map_some, Option.some.injEq] at hk
    rw [← hk]
    simp [List.getD, hk']
  · exact ⟨rfl, rfl, rfl, by rw [Lib.bytesWorld_size]; omega, fun k hk _ => Lib.bytesWorld_at_old w _ _ k hk⟩
/-- An entry's bytes. -/
def encD (e : En) : List Int := lowL 2 e.1 ++ lowL 1 e.2.length ++ bI e.2 ++ List.replicate (29 - e.2.length) 0
theorem encD_len {e : En} (h : e.2.length ≤ 29) : (encD e).length = 32 := by
  simp [encD, lowL_len, bI_len]; omega
theorem encD_u8 (e : En) : ∀ v ∈ encD e, 0 ≤ v ∧ v < 256 := fun v hv => by
  unfold encD at hv
  simp only [List.mem_append] at hv
  rcases hv with ((hv | hv) | hv) | hv
  · exact lowL_u8 _ _ v hv
  · exact lowL_u8 _ _ v hv
  · exact bI_u8 _ v hv
  · have := List.eq_of_mem_replicate hv
    omega
end Go.Proofs.YtodlapkmcnmmhaaDoor
