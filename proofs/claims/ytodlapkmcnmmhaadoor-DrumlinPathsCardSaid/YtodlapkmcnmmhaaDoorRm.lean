/- Many cells at once, in the midst of a block. -/
import Derived.Test.YtodlapkmcnmmhaaDoorRw
import Derived.Deep.MidRow
import Derived.Deep.Upon
namespace Go.Proofs.YtodlapkmcnmmhaaDoor
open Go.RowKit
set_option linter.unusedSimpArgs false
set_option linter.unusedVariables false

def setAt (cs : Array Value) (o : Nat) : List Value → Array Value
  | [] => cs
  | v :: r => setAt (cs.setIfInBounds o v) (o + 1) r
theorem setAt_size (vs : List Value) : ∀ (cs : Array Value) (o : Nat), (setAt cs o vs).size = cs.size := by
  induction vs with
  | nil => intro cs o; rfl
  | cons v r ih => intro cs o; rw [setAt, ih]; simp
theorem setAt_list (vs : List Value) : ∀ (cs : Array Value) (o : Nat), o + vs.length ≤ cs.size → (setAt cs o vs).toList = cs.toList.take o ++ vs ++ cs.toList.drop (o + vs.length) := by
  induction vs with
  | nil => intro cs o _; simp [setAt]
  | cons v r ih =>
    intro cs o h
    simp only [List.length_cons] at h
    rw [setAt, ih _ _ (by simp; omega), Array.toList_setIfInBounds]
    have ho : o < cs.toList.length := by simp; omega
    rw [List.take_set, List.drop_set, if_pos (by omega), List.take_succ_eq_append_getElem ho, List.set_append_right _ _ (by simp; omega)]
    simp [Nat.min_eq_left (Nat.le_of_lt ho), show o - min o cs.size = 0 from by simp at ho; omega, show o + (r.length + 1) = o + 1 + r.length from by omega]
theorem Blk.setAll {b : Nat} {t : TypeId} (vs : List Value) : ∀ {w : World} {cs : Array Value} (o : Nat), Blk w b t cs → Blk (w.setCells b o vs) b t (setAt cs o vs) := by
  induction vs with
  | nil => intro w cs o h; exact h
  | cons v r ih => intro w cs o h; exact ih (o + 1) (h.set o v)
theorem Blk.farAll {g b : Nat} {t : TypeId} (vs : List Value) (hn : g ≠ b) : ∀ {w : World} {cs : Array Value} (o : Nat), Blk w g t cs → Blk (w.setCells b o vs) g t cs := by
  induction vs with
  | nil => intro w cs o h; exact h
  | cons v r ih => intro w cs o h; exact ih (o + 1) (h.far (p := ⟨b, o, none⟩) hn v)
theorem But.setCells {S : Nat → Prop} {w : World} {b : Nat} (vs : List Value) : ∀ {w' : World} (o : Nat), But S w w' → (S b ∨ w.heap.size ≤ b) → But S w (w'.setCells b o vs) := by
  induction vs with
  | nil => intro w' o h _; exact h
  | cons v r ih => intro w' o h hb; exact ih (o + 1) (h.setCell (p := ⟨b, o, none⟩) hb v) hb
theorem Blk.there {w : World} {b : Nat} {t : TypeId} {cs : Array Value} (h : Blk w b t cs) {o n : Nat} (hn : o + n ≤ cs.size) : w.there b o n := fun j hj =>
  ⟨by rw [h.cell, Array.getElem?_eq_getElem (by omega)]; rfl, h.frozen _⟩
theorem setAt_whole (cs : Array Value) (vs : List Value) (h : vs.length = cs.size) : setAt cs 0 vs = vs.toArray := by
  apply Array.ext'
  rw [setAt_list _ _ _ (by omega)]
  simp [h]
section
variable {α : Type} {f : α → List Value} {s : Nat}
theorem fm_put (hf : ∀ x, (f x).length = s) (l : List α) (k : Nat) (y : α) (hk : k < l.length) : (l.flatMap f).take (k * s) ++ f y ++ (l.flatMap f).drop (k * s + (f y).length) = (l.set k y).flatMap f := by
  induction l generalizing k with
  | nil => simp at hk
  | cons z r ih =>
    have e0 : (f z).length = s := hf z
    cases k with
    | zero => simp [hf, List.drop_append, e0]
    | succ k =>
      have := ih k (by simpa using hk)
      rw [List.flatMap_cons, List.set_cons_succ, List.flatMap_cons, ← this, hf]
      rw [hf] at this
      rw [List.take_append, List.drop_append, hf, List.take_of_length_le (by rw [hf, Nat.add_mul]; omega), List.drop_of_length_le (by rw [hf, Nat.add_mul]; omega)]
      rw [show (k + 1) * s - s = k * s from by rw [Nat.add_mul]; omega, show (k + 1) * s + s - s = k * s + s from by rw [Nat.add_mul]; omega]
      simp
end
end Go.Proofs.YtodlapkmcnmmhaaDoor
