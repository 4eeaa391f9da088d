/- Rows of structs: cells of one width, laid one behind the other. -/
import Derived.Test.YtlojadpbdbhmiaaRm
namespace Go.Proofs.Ytlojadpbdbhmiaa
open Go.RowKit
set_option linter.unusedSimpArgs false
set_option linter.unusedVariables false

section
variable {α : Type} {f : α → List Value} {s : Nat}
def flat (f : α → List Value) (l : List α) : Array Value := (l.flatMap f).toArray
theorem flat_size (hf : ∀ x, (f x).length = s) (l : List α) : (flat f l).size = l.length * s := by
  unfold flat; rw [List.size_toArray]; exact fm_len hf l
theorem flat_list (f : α → List Value) (l : List α) : (flat f l).toList = l.flatMap f := rfl
theorem flat_get (hf : ∀ x, (f x).length = s) {l : List α} {k j : Nat} {x : α} {v : Value} (hk : l[k]? = some x) (hv : (f x)[j]? = some v) : (flat f l)[k * s + j]? = some v := by
  have hj : j < s := by rw [← hf x]; exact (List.getElem?_eq_some_iff.1 hv).1
  unfold flat
  rw [List.getElem?_toArray, fm_get hf l k j x hk hj, hv]
theorem flat_set (hf : ∀ x, (f x).length = s) {l : List α} {k j : Nat} {x y : α} {v : Value} (hk : l[k]? = some x) (hj : j < s) (h : f y = (f x).set j v) :
    (flat f l).setIfInBounds (k * s + j) v = flat f (l.set k y) := by
  unfold flat
  rw [List.setIfInBounds_toArray, fm_set hf l k j x y v hk hj h]
theorem flat_put (hf : ∀ x, (f x).length = s) {l : List α} {k : Nat} (y : α) (hk : k < l.length) : setAt (flat f l) (k * s) (f y) = flat f (l.set k y) := by
  apply Array.ext'
  have h1 : k * s + s ≤ l.length * s := by
    rw [← Nat.succ_mul]; exact Nat.mul_le_mul_right s hk
  rw [setAt_list _ _ _ (by rw [flat_size hf, hf]; exact h1)]
  exact fm_put hf l k y hk
theorem flat_range (hf : ∀ x, (f x).length = s) {w : World} {g : Nat} {t : TypeId} {l : List α} {k : Nat} {x : α} (hb : Blk w g t (flat f l)) (hk : l[k]? = some x) : w.rangeAt g (k * s) (f x) := fun j v hv =>
  hb.cell' (flat_get hf hk hv)
theorem flat_cell (hf : ∀ x, (f x).length = s) {w : World} {g : Nat} {t : TypeId} {l : List α} {k j : Nat} {x : α} {v : Value} (hb : Blk w g t (flat f l)) (hk : l[k]? = some x) (hv : (f x)[j]? = some v) : w.cell? ⟨g, k * s + j, none⟩ = some v :=
  hb.cell' (flat_get hf hk hv)
theorem flat_there (hf : ∀ x, (f x).length = s) {w : World} {g : Nat} {t : TypeId} {l : List α} {k : Nat} (hb : Blk w g t (flat f l)) (hk : k < l.length) : w.there g (k * s) s := by
  have h1 : k * s + s ≤ l.length * s := by
    rw [← Nat.succ_mul]; exact Nat.mul_le_mul_right s hk
  exact hb.there (by rw [flat_size hf]; exact h1)
theorem flat_putB (hf : ∀ x, (f x).length = s) {w : World} {g : Nat} {t : TypeId} {l : List α} {k : Nat} (hb : Blk w g t (flat f l)) (y : α) (hk : k < l.length) : Blk (w.setCells g (k * s) (f y)) g t (flat f (l.set k y)) := by
  rw [← flat_put hf y hk]; exact hb.setAll _ _
theorem flat_setB (hf : ∀ x, (f x).length = s) {w : World} {g : Nat} {t : TypeId} {l : List α} {k j : Nat} {x y : α} {v : Value} (hb : Blk w g t (flat f l)) (hk : l[k]? = some x) (hj : j < s) (h : f y = (f x).set j v) :
    Blk (w.setCell ⟨g, k * s + j, none⟩ v) g t (flat f (l.set k y)) := by
  rw [← flat_set hf hk hj h]; exact hb.set _ _
theorem flat_made (hf : ∀ x, (f x).length = s) (z : α) (hs : 0 < s) (m : Nat) : madeCells (f z).toArray (m * s) = flat f (List.replicate m z) := by
  apply Array.ext'
  have h := madeCells_flat (f z).toArray m (by rw [List.size_toArray, hf]; exact hs)
  rw [List.size_toArray, hf] at h
  rw [h]
  unfold flat
  rw [List.flatMap_def, List.map_replicate]
theorem set_same' {l : List α} {k : Nat} {x : α} (h : l[k]? = some x) : l.set k x = l := by
  apply List.ext_getElem?
  intro j
  rw [List.getElem?_set]
  split
  · rename_i e
    subst e
    rw [if_pos (List.getElem?_eq_some_iff.1 h).1, h]
  · rfl
end
end Go.Proofs.Ytlojadpbdbhmiaa
