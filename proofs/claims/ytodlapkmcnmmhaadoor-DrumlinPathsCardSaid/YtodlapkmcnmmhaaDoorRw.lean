/- Rows of elements of one width, laid one behind the other. -/
import Derived.Test.YtodlapkmcnmmhaaDoorA
namespace Go.Proofs.YtodlapkmcnmmhaaDoor
open Go.RowKit
set_option linter.unusedSimpArgs false
set_option linter.unusedVariables false

section
variable {α : Type} {f : α → List Value} {s : Nat}
theorem fm_len (hf : ∀ x, (f x).length = s) (l : List α) : (l.flatMap f).length = l.length * s := by
  induction l with
  | nil => simp
  | cons x r ih => rw [List.flatMap_cons, List.length_append, ih, hf, List.length_cons, Nat.add_mul]; omega
theorem fm_get (hf : ∀ x, (f x).length = s) (l : List α) (k j : Nat) (x : α) (hk : l[k]? = some x) (hj : j < s) : (l.flatMap f)[k * s + j]? = (f x)[j]? := by
  induction l generalizing k with
  | nil => simp at hk
  | cons y r ih =>
    rw [List.flatMap_cons]
    cases k with
    | zero =>
      simp at hk; subst hk
      rw [List.getElem?_append_left (by rw [hf]; omega)]
      congr 1; omega
    | succ k =>
      rw [List.getElem?_append_right (by rw [hf, Nat.add_mul]; omega), hf, show (k + 1) * s + j - s = k * s + j from by rw [Nat.add_mul]; omega]
      exact ih k (by simpa using hk)
theorem fm_set (hf : ∀ x, (f x).length = s) (l : List α) (k j : Nat) (x y : α) (v : Value) (hk : l[k]? = some x) (hj : j < s) (h : f y = (f x).set j v) : (l.flatMap f).set (k * s + j) v = (l.set k y).flatMap f := by
  induction l generalizing k with
  | nil => simp at hk
  | cons z r ih =>
    cases k with
    | zero =>
      simp at hk; subst hk
      rw [List.flatMap_cons, List.set_append_left _ _ (by rw [hf]; omega), List.set_cons_zero, List.flatMap_cons, h]
      congr 2; omega
    | succ k =>
      rw [List.flatMap_cons, List.set_append_right _ _ (by rw [hf, Nat.add_mul]; omega), List.set_cons_succ, List.flatMap_cons, hf, show (k + 1) * s + j - s = k * s + j from by rw [Nat.add_mul]; omega]
      rw [ih k (by simpa using hk)]
theorem fm_seg (hf : ∀ x, (f x).length = s) (l : List α) (k : Nat) (x : α) (hk : l[k]? = some x) : ((l.flatMap f).drop (k * s)).take s = f x := by
  apply List.ext_getElem?
  intro j
  by_cases hj : j < s
  · rw [List.getElem?_take, if_pos hj, List.getElem?_drop]
    exact fm_get hf l k j x hk hj
  · rw [List.getElem?_take, if_neg hj, List.getElem?_eq_none (by rw [hf]; omega)]
end
theorem madeCells_flat (z : Array Value) (m : Nat) (hz : 0 < z.size) : (madeCells z (m * z.size)).toList = (List.replicate m z.toList).flatten := by
  apply List.ext_getElem?
  intro i
  have hl : ((List.replicate m z.toList).flatten).length = m * z.size := by simp
  by_cases hi : i < m * z.size
  · have hm : 0 < m := by rcases Nat.eq_zero_or_pos m with h | h
                          · subst h; omega
                          · exact h
    have hmod := Nat.mod_lt i hz
    have hdiv : i / z.size < m := Nat.div_lt_of_lt_mul (by rw [Nat.mul_comm]; exact hi)
    have h1 := fm_get (f := fun _ : Unit => z.toList) (s := z.size) (fun _ => by simp) (List.replicate m ()) (i / z.size) (i % z.size) () (by rw [List.getElem?_replicate, if_pos hdiv]) hmod
    have h2 : i / z.size * z.size + i % z.size = i := by rw [Nat.mul_comm]; exact Nat.div_add_mod i z.size
    rw [h2] at h1
    have h3 : (List.replicate m ()).flatMap (fun _ => z.toList) = (List.replicate m z.toList).flatten := by
      rw [List.flatMap_def, List.map_replicate]
    rw [h3] at h1
    rw [h1]
    simp [madeCells, hi, hmod]
  · have h1 : (List.replicate m z.toList).flatten[i]? = none := List.getElem?_eq_none (by rw [hl]; omega)
    rw [h1, List.getElem?_eq_none]
    simp [madeCells]
    omega
end Go.Proofs.YtodlapkmcnmmhaaDoor
