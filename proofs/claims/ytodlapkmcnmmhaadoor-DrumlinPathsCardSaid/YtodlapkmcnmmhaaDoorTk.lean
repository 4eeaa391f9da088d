/- What the pieces of a cut are: plain. -/
import Derived.Test.YtodlapkmcnmmhaaDoorTg
import Derived.Test.YtodlapkmcnmmhaaDoorTj
namespace Go.Proofs.YtodlapkmcnmmhaaDoor
open Go.RowKit
set_option linter.unusedSimpArgs false
set_option linter.unusedVariables false

structure Pc (a k : Nat) (R : List T3) : Prop where
  one : ∀ p ∈ R, 0 ≤ p.2.1 ∧ p.2.1 < p.2.2 ∧ p.2.2 ≤ 128
  two : ∀ (i : Nat) (p q : T3), R[i]? = some p → R[i + 1]? = some q → q.2.1 = 0 ∧ p.2.2 = 128 ∧ q.1 = p.1 + 1
  sum : (R.map (fun p => p.2.2 - p.2.1)).sum = (k : Int)
  idx : ∀ (i : Nat) (p : T3), R[i]? = some p → p.1 = ((a / 128 + i : Nat) : Int)
  last : ∀ p, R.getLast? = some p → p.1 = (((a + k - 1) / 128 : Nat) : Int) ∧ p.2.2 = (((a + k - 1) % 128 + 1 : Nat) : Int)
  ne : 0 < k → R ≠ []
theorem get_snoc {M : List T3} {x p : T3} {i : Nat} (h : (M ++ [x])[i]? = some p) : (M[i]? = some p ∧ i < M.length) ∨ (i = M.length ∧ p = x) := by
  by_cases hi : i < M.length
  · rw [List.getElem?_append_left hi] at h; exact .inl ⟨h, hi⟩
  · rw [List.getElem?_append_right (by omega)] at h
    by_cases h0 : i - M.length = 0
    · rw [h0] at h
      simp at h
      exact .inr ⟨by omega, h.symm⟩
    · obtain ⟨j, hj⟩ : ∃ j, i - M.length = j + 1 := ⟨i - M.length - 1, by omega⟩
      rw [hj] at h
      simp at h
theorem get_at_snoc (M : List T3) (x : T3) : (M ++ [x])[M.length]? = some x := by simp
theorem get_in_snoc {M : List T3} {x p : T3} {i : Nat} (h : M[i]? = some p) : (M ++ [x])[i]? = some p := by
  rw [List.getElem?_append_left (List.getElem?_eq_some_iff.1 h).1]; exact h
theorem snoc3 {R : List T3} (h : R ≠ []) : ∃ M p, R = M ++ [p] := ⟨R.dropLast, R.getLast h, (List.dropLast_concat_getLast h).symm⟩
theorem pc_rcut (a : Nat) : ∀ k : Nat, Pc a k (rcut (a : Int) k)
  | 0 => ⟨by simp [rcut], by simp [rcut], by simp [rcut], by simp [rcut], by simp [rcut], fun h => by omega⟩
  | k + 1 => by
    have ih := pc_rcut a k
    show Pc a (k + 1) (radd (rcut (a : Int) k) ((a : Int) + (k : Int)))
    by_cases hR : rcut (a : Int) k = []
    · have hk : k = 0 := by
        by_cases h : k = 0
        · exact h
        · exact absurd hR (ih.ne (by omega))
      subst hk
      rw [hR]
      show Pc a 1 [((((a : Int) + (0 : Nat)) / 128, ((a : Int) + (0 : Nat)) % 128, ((a : Int) + (0 : Nat)) % 128 + 1) : T3)]
      refine ⟨fun p hp => ?_, fun i p q h1 h2 => by simp at h2, by simp; omega, fun i p hp => ?_, fun p hp => ?_, fun _ => by simp⟩
      · simp only [List.mem_singleton] at hp; subst hp; simp only; omega
      · cases i with
        | zero => simp at hp; subst hp; simp only; omega
        | succ i => simp at hp
      · simp only [List.getLast?_singleton, Option.some.injEq] at hp; subst hp; simp only; omega
    · obtain ⟨M, p, hM⟩ := snoc3 hR
      rw [hM] at ih ⊢
      have hk0 : 0 < k := by
        by_cases h : k = 0
        · subst h; simp [rcut] at hR
        · omega
      have hl := ih.last p (by simp)
      have ho := ih.one p (by simp)
      have hs := ih.sum
      rw [List.map_append, List.sum_append] at hs
      simp only [List.map_cons, List.map_nil, List.sum_cons, List.sum_nil] at hs
      by_cases hb : p.1 = ((a : Int) + (k : Int)) / 128
      · rw [radd_more M p hb]
        refine ⟨fun q hq => ?_, fun i q r h1 h2 => ?_, ?_, fun i q hq => ?_, fun q hq => ?_, fun _ => by simp⟩
        · rw [List.mem_append, List.mem_singleton] at hq
          rcases hq with hq | rfl
          · exact ih.one q (List.mem_append_left _ hq)
          · simp only; omega
        · rcases get_snoc h2 with ⟨h2, h3⟩ | ⟨e2, rfl⟩
          · rcases get_snoc h1 with ⟨h1, h4⟩ | ⟨h1, rfl⟩
            · exact ih.two i q r (get_in_snoc h1) (get_in_snoc h2)
            · omega
          · rcases get_snoc h1 with ⟨h1, h4⟩ | ⟨h1, rfl⟩
            · have := ih.two i q p (get_in_snoc h1) (by rw [e2]; exact get_at_snoc M p)
              exact ⟨this.1, this.2.1, this.2.2⟩
            · omega
        · rw [List.map_append, List.sum_append]
          simp only [List.map_cons, List.map_nil, List.sum_cons, List.sum_nil]
          push_cast
          omega
        · rcases get_snoc hq with ⟨hq, _⟩ | ⟨eq, rfl⟩
          · exact ih.idx i q (get_in_snoc hq)
          · exact ih.idx i p (by rw [eq]; exact get_at_snoc M p)
        · simp only [List.getLast?_append, List.getLast?_singleton, Option.some_or, Option.some.injEq] at hq
          subst hq
          simp only
          omega
      · rw [radd_new (by intro q hq; simp at hq; subst hq; exact hb)]
        have hi := ih.idx M.length p (get_at_snoc M p)
        refine ⟨fun q hq => ?_, fun i q r h1 h2 => ?_, ?_, fun i q hq => ?_, fun q hq => ?_, fun _ => by simp⟩
        · rw [List.mem_append, List.mem_singleton] at hq
          rcases hq with hq | rfl
          · exact ih.one q hq
          · simp only; omega
        · rcases get_snoc h2 with ⟨h2, h3⟩ | ⟨e2, rfl⟩
          · rcases get_snoc h1 with ⟨h1, h4⟩ | ⟨h1, rfl⟩
            · exact ih.two i q r h1 h2
            · omega
          · rcases get_snoc h1 with ⟨h1, h4⟩ | ⟨h1, rfl⟩
            · simp only [List.length_append, List.length_singleton] at e2
              have hi2 : i = M.length := by omega
              rw [hi2, get_at_snoc] at h1
              injection h1 with h1
              subst h1
              simp only
              omega
            · omega
        · rw [List.map_append, List.sum_append, List.map_append, List.sum_append]
          simp only [List.map_cons, List.map_nil, List.sum_cons, List.sum_nil]
          push_cast
          omega
        · rcases get_snoc hq with ⟨hq, _⟩ | ⟨eq, rfl⟩
          · exact ih.idx i q hq
          · simp only [List.length_append, List.length_singleton] at eq
            simp only
            omega
        · simp only [List.getLast?_append, List.getLast?_singleton, Option.some_or, Option.some.injEq] at hq
          subst hq
          simp only
          omega
theorem Pc.con {a k : Nat} {R : List T3} (h : Pc a k R) : R.map (·.1) = conL (a / 128) R.length := by
  apply List.ext_getElem?
  intro i
  rw [List.getElem?_map]
  unfold conL
  rw [List.getElem?_map]
  by_cases hi : i < R.length
  · rw [List.getElem?_eq_getElem hi, List.getElem?_range hi]
    simp only [Option.map_some]
    rw [h.idx i R[i] (List.getElem?_eq_getElem hi)]
  · rw [List.getElem?_eq_none (by omega), List.getElem?_eq_none (by simp; omega)]
    rfl
theorem Pc.room {a k : Nat} {R : List T3} (h : Pc a k R) (hk : 0 < k) (ha : a + k ≤ 136192) : a / 128 + R.length ≤ 1064 ∧ ((a / 128 + R.length - 1 : Nat) : Int) = (((a + k - 1) / 128 : Nat) : Int) := by
  obtain ⟨M, p, rfl⟩ := snoc3 (h.ne hk)
  have h1 := h.idx M.length p (get_at_snoc M p)
  have h2 := (h.last p (by simp)).1
  simp only [List.length_append, List.length_singleton]
  omega
end Go.Proofs.YtodlapkmcnmmhaaDoor
