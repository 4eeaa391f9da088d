/- Clean, plain. -/
import Derived.Test.YtodlapkmcnmmhaaDoorMs
namespace Go.Proofs.YtodlapkmcnmmhaaDoor
open Go.RowKit
set_option linter.unusedSimpArgs false
set_option linter.unusedVariables false

theorem clean_fold_sum : ∀ (P O : List Bs), sumL (P.foldl cleanS O) ≤ sumL O + sumL P
  | [], O => by simp [sumL]
  | x :: P, O => by
    have := clean_fold_sum P (cleanS O x)
    have h : sumL (cleanS O x) ≤ sumL O + (x.length + 1) := by
      unfold cleanS
      split
      · rw [List.dropLast_eq_take]; have := sum_take O (O.length - 1); omega
      · rw [sumL_app, sumL_cons]; simp [sumL]
    rw [List.foldl_cons, sumL_cons]; omega
theorem clean_sum (P : List Bs) : sumL (cleanM P) ≤ sumL P := by
  have := clean_fold_sum P []
  simpa [cleanM, sumL] using this
theorem clean_fold_id : ∀ (P O : List Bs), (∀ x ∈ P, x ≠ [46, 46]) → P.foldl cleanS O = O ++ P
  | [], O, _ => by simp
  | x :: P, O, h => by
    have hx := h x (List.mem_cons_self ..)
    rw [List.foldl_cons, show cleanS O x = O ++ [x] from by simp [cleanS, hx], clean_fold_id P _ (fun z hz => h z (List.mem_cons_of_mem _ hz))]
    simp
theorem clean_id {P : List Bs} (h : ∀ x ∈ P, x ≠ [46, 46]) : cleanM P = P := by
  have := clean_fold_id P [] h
  simpa [cleanM] using this
theorem clean_up {P : List Bs} (h : ∀ x ∈ P, x ≠ [46, 46]) : cleanM (P ++ [[46, 46], [122, 122]]) = P.dropLast ++ [[122, 122]] := by
  have := clean_fold_id P [] h
  unfold cleanM
  rw [List.foldl_append, this]
  simp [cleanS]
/-- What is clean is read of its text. -/
theorem clean_text {a d : Bool} {P : List Bs} (o : OkP ⟨a, d, P⟩) (ha : a = true) : parseM (textM ⟨true, false, cleanM P⟩) = (⟨true, decide (cleanM P = []), cleanM P⟩, 0) := by
  by_cases hc : cleanM P = []
  · rw [hc]
    simp only [decide_true]
    rfl
  · rw [decide_eq_false hc]
    have og := o.good
    have ot := o.text
    have ol := o.len
    simp only at og ol
    have hs := clean_sum P
    have hj := join_sum _ hc
    have hP : P ≠ [] := fun e => by rw [e] at hc; exact hc rfl
    have hj2 := join_sum _ hP
    have hl := clean_len P
    have hlt : (joinM P).length + 1 ≤ 255 := by
      unfold textM at ot
      rw [if_neg (fun e => hP e.1)] at ot
      simp only [List.length_append, ha, if_true, List.length_singleton] at ot
      omega
    refine text_parse ⟨fun x hx => og x (clean_mem hx).2, by simp only; omega, fun e => absurd e hc, fun e => ?_, ?_⟩
    · exact absurd rfl (clean_mem (List.mem_of_getLast? e)).1
    · unfold textM
      rw [if_neg (fun e => hc e.1)]
      simp only [if_true, List.length_append, List.length_singleton, Bool.false_eq_true, false_and, and_false, if_false, List.length_nil]
      omega
theorem parse_two (s : Bs) : (∃ n : Int, ¬ n = 0 ∧ parseM s = (⟨false, false, []⟩, n)) ∨ (∃ a d P, OkP ⟨a, d, P⟩ ∧ parseM s = (⟨a, d, P⟩, 0)) := by
  rcases parse_kinds s with ⟨n, h⟩ | ⟨a, d, P, o, h, _⟩ | ⟨a, d, X, y, o, h, _⟩
  · exact .inl ⟨n, h⟩
  · exact .inr ⟨a, d, P, o, h⟩
  · exact .inr ⟨a, d, _, o, h⟩
theorem parse_abs {s : Bs} {a d : Bool} {P : List Bs} (h : parseM (47 :: s) = (⟨a, d, P⟩, 0)) : a = true := by
  obtain ⟨_, _, _, st, _, e⟩ := parse_inv h
  have e1 := congrArg PathM.abs e
  simpa using e1
end Go.Proofs.YtodlapkmcnmmhaaDoor
