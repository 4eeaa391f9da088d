/- A map keyed by structs of three ints, kept as a list of keys and numbers: what its operations come to. -/
import Derived.Test.YtodlapkmcnmmhaaDoorProg
import Derived.Test.YtodlapkmcnmmhaaDoorG
import Derived.WalkKit
import Derived.WalkSpells
import Derived.Below
import Derived.Lib.Hide
import Derived.Outline
namespace Go.Proofs.YtodlapkmcnmmhaaDoor
open Go.RowKit
set_option linter.unusedSimpArgs false
set_option linter.unusedVariables false

abbrev K3 := Int × Int × Int
def ky (p : K3) : Value := .agg #[.int .i64 p.1, .int .i64 p.2.1, .int .i64 p.2.2]
/-- The entries of a map from which nothing was deleted: born in order. -/
def ents (n : Nat) : List (K3 × Int) → List MapEntry
  | [] => []
  | (p, v) :: r => { key := ky p, val := .int .i64 v, born := n } :: ents (n + 1) r
def mobj (M : List (K3 × Int)) : Obj := .map (ents 0 M).toArray M.length
/-- What a key holds: its place, its number. -/
def findP (p : K3) : Nat → List (K3 × Int) → Option (Nat × Int)
  | _, [] => none
  | i, (q, v) :: r => if p = q then some (i, v) else findP p (i + 1) r
def look (p : K3) (M : List (K3 × Int)) : Int := ((findP p 0 M).map (·.2)).getD 0

theorem ents_length (M : List (K3 × Int)) : ∀ n, (ents n M).length = M.length := by
  induction M with
  | nil => intro n; rfl
  | cons x r ih => intro n; obtain ⟨p, v⟩ := x; simp [ents, ih]

theorem stood36 : Tryd.prog.stoodInHeld 66 = false := by kernel_rfl

theorem eqint (d : Nat) (a b : Int) (w : World) : (Op.equalIn (d + 1) 3 (.int .i64 a) (.int .i64 b)).run Tryd.prog w = .ok (a == b) w := by
  simp [Op.equalIn, run_underlying Tryd.underlying3]
theorem eq36 (p q : K3) (w : World) : (Op.equal 66 (ky p) (ky q)).run Tryd.prog w = .ok (decide (p = q)) w := by
  have hs := Tryd.underlying66
  obtain ⟨a, b, c⟩ := p
  obtain ⟨a', b', c'⟩ := q
  have h := run_equalIn_struct (P := Tryd.prog) w 9999 66 #[.int .i64 a, .int .i64 b, .int .i64 c] #[.int .i64 a', .int .i64 b', .int .i64 c'] (by rw [Program.fieldsOf, hs]) stood36
  show (Op.equalIn (9999 + 1) 66 _ _).run Tryd.prog w = _
  rw [show ky (a, b, c) = .agg #[.int .i64 a, .int .i64 b, .int .i64 c] from rfl, show ky (a', b', c') = .agg #[.int .i64 a', .int .i64 b', .int .i64 c'] from rfl, h]
  have e := fun x y w => eqint 9998 x y w
  rw [show 9998 + 1 = 9999 from rfl] at e
  generalize 9999 = d at e
  simp [Program.fieldsOf, hs, Op.eqFields, go_sem, e]
  by_cases h1 : a = a' <;> by_cases h2 : b = b' <;> by_cases h3 : c = c' <;> simp [h1, h2, h3]

theorem ckint (em : Bool) (d : Nat) (a : Int) (w : World) : (Instr.checkKey em (d + 1) 3 (.int .i64 a)).run Tryd.prog w = .ok () w := by
  simp [Instr.checkKey, run_underlying Tryd.underlying3]
theorem ck36 (em : Bool) (p : K3) (w : World) : (Instr.checkKey em 10000 66 (ky p)).run Tryd.prog w = .ok () w := by
  show (Instr.checkKey em (9999 + 1) 66 _).run Tryd.prog w = _
  have e := fun x w => ckint em 9998 x w
  rw [show 9998 + 1 = 9999 from rfl] at e
  generalize 9999 = d at e
  obtain ⟨a, b, c⟩ := p
  have hs := Tryd.underlying66
  simp [Instr.checkKey, ky, run_underlying hs, go_sem, e]
theorem findAsk (p : K3) (w : World) : ∀ (M : List (K3 × Int)) (n i : Nat), (Instr.findAsking 66 (ky p) (ents n M) i).run Tryd.prog w = .ok ((findP p i M).map fun x => (x.1, .int .i64 x.2)) w
  | [], _, _ => by simp [ents, Instr.findAsking, findP]
  | (q, v) :: r, n, i => by
    simp only [ents, Instr.findAsking, findP, Sem.run_bind, eq36, Result.andThen_ok]
    by_cases h : p = q
    · simp [h]
    · simp [h, findAsk p w r (n + 1) (i + 1)]
theorem findNow36 (p : K3) (M : List (K3 × Int)) (n i : Nat) : Instr.findNow (.struct #[]) (ky p) (ents n M) i = if M = [] then some none else none := by
  cases M with
  | nil => simp [ents, Instr.findNow]
  | cons x r => obtain ⟨q, v⟩ := x; simp [ents, Instr.findNow, Instr.sameNow, ky]
theorem findKey36 (p : K3) (w : World) (M : List (K3 × Int)) (n : Nat) : (Instr.findKey 66 (ky p) (ents n M)).run Tryd.prog w = .ok ((findP p 0 M).map fun x => (x.1, .int .i64 x.2)) w := by
  simp only [Instr.findKey, Sem.run_bind, run_underlying Tryd.underlying66, Result.andThen_ok]
  cases M with
  | nil => simp [ents, Instr.findNow, findP]
  | cons x r =>
    have := findAsk p w (x :: r) n 0
    obtain ⟨q, v⟩ := x
    simpa [ents, Instr.findNow, Instr.sameNow, ky] using this
def setM (w : World) (b : Nat) (M : List (K3 × Int)) : World := { w with heap := w.heap.setIfInBounds b (mobj M) }
def touch (p : K3) (M : List (K3 × Int)) : List (K3 × Int) := if (findP p 0 M).isSome then M else M ++ [(p, 0)]
def idx (p : K3) (M : List (K3 × Int)) : Nat := ((findP p 0 M).map (·.1)).getD M.length
def putV (i : Nat) (v : Int) (M : List (K3 × Int)) : List (K3 × Int) := M.modify i (fun x => (x.1, v))

theorem run_getM {w : World} {b : Nat} {M : List (K3 × Int)} (h : w.heap[b]? = some (mobj M)) : (getObj b).run Tryd.prog w = .ok (mobj M) w := by
  simp [getObj, Sem.run, h, mobj]
theorem zero3 (w : World) : (zeroValue 3).run Tryd.prog w = .ok (.int .i64 0) w := by kernel_rfl
theorem run_look {w : World} {b : Nat} {M : List (K3 × Int)} (h : w.heap[b]? = some (mobj M)) (p : K3) : (Instr.lookup 64 (.map (some b)) (ky p) false).run Tryd.prog w = .ok (.int .i64 (look p M)) w := by
  have hk := findKey36 p w M 0
  simp only [Instr.lookup, Sem.run_bind, run_underlying Tryd.underlying64, Result.andThen_ok, run_getM h, mobj, ck36, Sem.run_pure, hk, List.toList_toArray]
  cases hf : findP p 0 M with
  | none => simp [look, hf, zero3]
  | some x => simp [look, hf]
theorem findP_spec (p : K3) : ∀ (M : List (K3 × Int)) (i : Nat), match findP p i M with
    | none => ∀ x ∈ M, x.1 ≠ p
    | some (j, v) => i ≤ j ∧ M[j - i]? = some (p, v)
  | [], i => by simp [findP]
  | (q, v) :: r, i => by
    simp only [findP]
    by_cases h : p = q
    · subst h; simp
    · have ih := findP_spec p r (i + 1)
      simp only [if_neg h]
      cases hf : findP p (i + 1) r with
      | none => rw [hf] at ih; intro x hx; rcases List.mem_cons.1 hx with rfl | hx; exact fun e => h e.symm; exact ih x hx
      | some y =>
        rw [hf] at ih
        obtain ⟨j, u⟩ := y
        simp only at ih ⊢
        refine ⟨by omega, ?_⟩
        rw [show j - i = (j - (i + 1)) + 1 from by omega, List.getElem?_cons_succ]
        exact ih.2
theorem ents_get (M : List (K3 × Int)) : ∀ (n i : Nat), (ents n M)[i]? = M[i]?.map fun x => { key := ky x.1, val := .int .i64 x.2, born := n + i } := by
  induction M with
  | nil => intro n i; simp [ents]
  | cons x r ih =>
    intro n i
    obtain ⟨p, v⟩ := x
    cases i with
    | zero => simp [ents]
    | succ i => simp only [ents, List.getElem?_cons_succ, ih]; congr 2; funext x; congr 1; omega
theorem sameB (p : K3) : Instr.sameBits 10000 (ky p) (ky p) = true := by
  show Instr.sameBits (9999 + 1) _ _ = true
  generalize 9999 = d
  obtain ⟨a, b, c⟩ := p
  simp [ky, Instr.sameBits]
theorem stays36 (p : K3) (w : World) : (Instr.keyThatStays (ky p) (ky p)).run Tryd.prog w = .ok (ky p) w := by
  simp [Instr.keyThatStays, sameB]
theorem ents_append (M : List (K3 × Int)) (p : K3) (v : Int) : ∀ n, ents n (M ++ [(p, v)]) = ents n M ++ [{ key := ky p, val := .int .i64 v, born := n + M.length }] := by
  induction M with
  | nil => intro n; simp [ents]
  | cons x r ih => intro n; obtain ⟨q, u⟩ := x; simp [ents, ih]; omega
theorem run_setM {w : World} {b : Nat} {M M' : List (K3 × Int)} (h : w.heap[b]? = some (mobj M)) : (setObj b (mobj M')).run Tryd.prog w = .ok () (setM w b M') := by
  simp [setObj, Sem.run, h, mobj, setM]
theorem run_entry {w : World} {b : Nat} {M : List (K3 × Int)} (h : w.heap[b]? = some (mobj M)) (p : K3) : (Instr.mapEntry 64 (.map (some b)) (ky p)).run Tryd.prog w = .ok (.tuple #[.int .i64 (look p M), .int .i64 (idx p M : Int)]) (setM w b (touch p M)) := by
  have hk := findKey36 p w M 0
  have hs := findP_spec p M 0
  simp only [Instr.mapEntry, Sem.run_bind, run_underlying Tryd.underlying64, Result.andThen_ok, run_getM h, ck36, Sem.run_pure]
  simp only [mobj, Sem.run_bind, Result.andThen_ok, ck36, Sem.run_pure, hk]
  cases hf : findP p 0 M with
  | none =>
    have := run_setM (M' := M ++ [(p, 0)]) h
    rw [mobj, ents_append] at this
    simp [look, hf, zero3, idx, touch, goInt] at this ⊢
    rw [this]
    rfl
  | some x =>
    rw [hf] at hs
    obtain ⟨j, v⟩ := x
    have := run_setM (M' := M) h
    simp only [Nat.sub_zero, Nat.zero_le, true_and] at hs
    have hg : (ents 0 M)[j]? = some { key := ky p, val := .int .i64 v, born := j } := by rw [ents_get, hs]; simp
    have hm : (ents 0 M).modify j (fun e => { e with key := ky p }) = (ents 0 M) := by
      apply List.ext_getElem?
      intro i
      rw [List.getElem?_modify]
      split
      · rename_i h; subst h; simp [hg]
      · simp
    rw [mobj] at this
    simp [look, hf, idx, touch, goInt, hg, stays36, hm, this]
theorem ents_putV (M : List (K3 × Int)) (i : Nat) (v : Int) : ents 0 (putV i v M) = (ents 0 M).modify i (fun e => { e with val := .int .i64 v }) := by
  apply List.ext_getElem?
  intro j
  rw [List.getElem?_modify, ents_get, ents_get, putV, List.getElem?_modify]
  by_cases h : i = j
  · subst h; cases M[i]? <;> simp
  · simp [h]
theorem find_born (M : List (K3 × Int)) : ∀ (n i : Nat), i < M.length → (ents n M).findIdx? (fun e => (e.born : Int) == ((n + i : Nat) : Int)) = some i := by
  induction M with
  | nil => intro n i h; simp at h
  | cons x r ih =>
    intro n i h
    obtain ⟨p, v⟩ := x
    cases i with
    | zero => simp [ents, List.findIdx?_cons]
    | succ i =>
      have := ih (n + 1) i (by simpa using h)
      rw [show n + 1 + i = n + (i + 1) from by omega] at this
      rw [ents, List.findIdx?_cons]
      simp only [this, Option.map_some]
      rw [if_neg]
      simp; omega
theorem run_entryStore {w : World} {b : Nat} {M : List (K3 × Int)} (h : w.heap[b]? = some (mobj M)) (i : Nat) (hi : i < M.length) (v : Int) :
    (Instr.entryStore 64 (.map (some b)) (.int .i64 (i : Int)) (.int .i64 v)).run Tryd.prog w = .ok () (setM w b (putV i v M)) := by
  have hf := find_born M 0 i hi
  rw [Nat.zero_add] at hf
  have hs := run_setM (M' := putV i v M) h
  have hl : (putV i v M).length = M.length := by simp [putV]
  rw [mobj, ents_putV, hl] at hs
  simp only [Instr.entryStore, Sem.run_bind, Result.andThen_ok, run_getM h, Sem.run_pure]
  simp only [mobj, Sem.run_bind, Result.andThen_ok, Sem.run_pure, asInt, asIntOf]
  simp only [List.findIdx?_toArray, hf]
  simp [hs]
end Go.Proofs.YtodlapkmcnmmhaaDoor
