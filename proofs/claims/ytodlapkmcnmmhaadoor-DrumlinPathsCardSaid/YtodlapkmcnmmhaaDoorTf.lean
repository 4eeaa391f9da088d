/- Bytes cut block by block: the plain words. -/
import Derived.Test.YtodlapkmcnmmhaaDoorA
namespace Go.Proofs.YtodlapkmcnmmhaaDoor
open Go.RowKit
set_option linter.unusedSimpArgs false
set_option linter.unusedVariables false

abbrev T3 := Int × Int × Int
def enc3 (p : T3) : List Value := [I p.1, I p.2.1, I p.2.2]
def rows3 (l : List T3) : List Value := l.flatMap enc3
theorem rows3_len (l : List T3) : (rows3 l).length = l.length * 3 := by
  induction l with
  | nil => rfl
  | cons p r ih => rw [rows3, List.flatMap_cons, List.length_append]; show _ + (rows3 r).length = _; rw [ih]; simp [enc3]; omega
theorem rows3_snoc (l : List T3) (p : T3) : rows3 (l ++ [p]) = rows3 l ++ enc3 p := by simp [rows3, List.flatMap_append]
theorem rows3_get (l : List T3) (k : Nat) (p : T3) (h : l[k]? = some p) : (rows3 l)[k * 3]? = some (I p.1) ∧ (rows3 l)[k * 3 + 1]? = some (I p.2.1) ∧ (rows3 l)[k * 3 + 2]? = some (I p.2.2) := by
  induction l generalizing k with
  | nil => simp at h
  | cons q r ih =>
    have e : rows3 (q :: r) = enc3 q ++ rows3 r := rfl
    cases k with
    | zero => simp at h; subst h; exact ⟨rfl, rfl, rfl⟩
    | succ k =>
      have := ih k (by simpa using h)
      rw [e, List.getElem?_append_right (by simp [enc3]; omega), List.getElem?_append_right (by simp [enc3]; omega), List.getElem?_append_right (by simp [enc3]; omega)]
      simp only [enc3, List.length_cons, List.length_nil]
      rw [show (k + 1) * 3 - (0 + 1 + 1 + 1) = k * 3 from by omega, show (k + 1) * 3 + 1 - (0 + 1 + 1 + 1) = k * 3 + 1 from by omega, show (k + 1) * 3 + 2 - (0 + 1 + 1 + 1) = k * 3 + 2 from by omega]
      exact this
theorem rows3_set (l : List T3) (p : T3) (v : Int) : (rows3 (l ++ [p])).set (l.length * 3 + 2) (I v) = rows3 (l ++ [(p.1, p.2.1, v)]) := by
  rw [rows3_snoc, rows3_snoc, List.set_append_right _ _ (by rw [rows3_len]; omega), rows3_len, show l.length * 3 + 2 - l.length * 3 = 2 from by omega]
  rfl

/-- The reference's step: one byte more. -/
def radd (l : List T3) (i : Int) : List T3 :=
  match l.getLast? with
  | some p => if p.1 = i / 128 then l.dropLast ++ [(p.1, p.2.1, p.2.2 + 1)] else l ++ [(i / 128, i % 128, i % 128 + 1)]
  | none => l ++ [(i / 128, i % 128, i % 128 + 1)]
def rcut (a : Int) : Nat → List T3
  | 0 => []
  | k + 1 => radd (rcut a k) (a + k)
theorem radd_new {l : List T3} {i : Int} (h : ∀ p, l.getLast? = some p → p.1 ≠ i / 128) : radd l i = l ++ [(i / 128, i % 128, i % 128 + 1)] := by
  unfold radd
  cases hl : l.getLast? with
  | none => rfl
  | some p => simp only; rw [if_neg (h p hl)]
theorem radd_more (l : List T3) (p : T3) {i : Int} (h : p.1 = i / 128) : radd (l ++ [p]) i = l ++ [(p.1, p.2.1, p.2.2 + 1)] := by
  unfold radd
  simp [h]
theorem radd_last (l : List T3) (i : Int) : ∃ m q, radd l i = m ++ [q] ∧ q.1 = i / 128 := by
  unfold radd
  split
  · split
    · rename_i h; exact ⟨_, _, rfl, h⟩
    · exact ⟨_, _, rfl, rfl⟩
  · exact ⟨_, _, rfl, rfl⟩
theorem rcut_last (a : Int) (k : Nat) : ∃ m q, rcut a (k + 1) = m ++ [q] ∧ q.1 = (a + k) / 128 := radd_last _ _
theorem rcut_to (a : Int) (k : Nat) : ∃ m q, rcut a (k + 1) = m ++ [q] ∧ q.1 = (a + k) / 128 ∧ q.2.2 = (a + k) % 128 + 1 := by
  induction k with
  | zero => exact ⟨[], _, rfl, rfl, rfl⟩
  | succ k ih =>
    obtain ⟨m, q, hq, h1, h2⟩ := ih
    show ∃ m q, radd (rcut a (k + 1)) (a + ((k + 1 : Nat) : Int)) = m ++ [q] ∧ _
    rw [hq]
    by_cases h : q.1 = (a + ((k + 1 : Nat) : Int)) / 128
    · rw [radd_more m q h]
      exact ⟨m, _, rfl, h, by simp only; rw [h2]; rw [h1] at h; omega⟩
    · rw [radd_new (by intro p hp; simp at hp; subst hp; exact h)]
      exact ⟨_, _, rfl, rfl, rfl⟩
theorem radd_length (l : List T3) (i : Int) : (radd l i).length ≤ l.length + 1 := by
  unfold radd
  split
  · rename_i p hp
    have hne : l ≠ [] := by rintro rfl; simp at hp
    have : 0 < l.length := List.length_pos_iff.2 hne
    split
    · simp <;> omega
    · simp
  · simp
theorem rcut_length (a : Int) (k : Nat) : (rcut a k).length ≤ k := by
  induction k with
  | zero => simp [rcut]
  | succ k ih => have := radd_length (rcut a k) (a + k); simp only [rcut]; omega
/-- All bytes of a piece, in one. -/
theorem rcut_piece (a : Int) (k : Nat) (h0 : k = 0 ∨ (a + k) % 128 = 0) : ∀ m : Nat, 0 < m → (a + k) % 128 + m ≤ 128 → rcut a (k + m) = rcut a k ++ [((a + k) / 128, (a + k) % 128, (a + k) % 128 + m)]
  | 0, h, _ => by omega
  | 1, _, _ => by
    show radd (rcut a k) (a + k) = _
    rw [radd_new]
    · rfl
    · intro p hp
      cases k with
      | zero => simp [rcut] at hp
      | succ k =>
        obtain ⟨m, q, hq, hq1⟩ := rcut_last a k
        rw [hq] at hp
        simp at hp
        subst hp
        rw [hq1]
        rcases h0 with h0 | h0
        · omega
        · push_cast at h0 ⊢; omega
  | m + 2, _, hm => by
    have ih := rcut_piece a k h0 (m + 1) (by omega) (by omega)
    show radd (rcut a (k + (m + 1))) (a + ((k + (m + 1) : Nat) : Int)) = _
    rw [ih, radd_more]
    · simp only; congr 4; omega
    · simp only; omega
end Go.Proofs.YtodlapkmcnmmhaaDoor
