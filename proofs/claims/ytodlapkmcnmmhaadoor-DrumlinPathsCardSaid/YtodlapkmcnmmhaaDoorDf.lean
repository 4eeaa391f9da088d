/- dirent.Read: plain facts on an entry's bytes. -/
import Derived.Test.YtodlapkmcnmmhaaDoorDd
namespace Go.Proofs.YtodlapkmcnmmhaaDoor
open Go.RowKit
set_option linter.unusedSimpArgs false
set_option linter.unusedVariables false

theorem segL_mid (A B C : List Int) {a n : Nat} (ha : a = A.length) (hn : n = B.length) : segL (A ++ B ++ C) a n = B := by
  subst ha hn
  unfold segL
  rw [List.append_assoc, List.drop_left, List.take_left]
theorem encL_part (E : List En) (k : Nat) (e : En) (h : E[k]? = some e) : encL E = encL (E.take k) ++ encD e ++ encL (E.drop (k + 1)) := by
  have hk := (List.getElem?_eq_some_iff.1 h)
  obtain ⟨hk, he⟩ := hk
  rw [← encL_snoc E k e h]
  unfold encL
  rw [← List.flatMap_append, List.take_append_drop]
theorem part_num (E : List En) (k : Nat) (e : En) (h : E[k]? = some e) (hA : (encL (E.take k)).length = 32 * k) (he : OkE e) :
    leN (segL (encL E) (32 * k) 2) = e.1 ∧ leN (segL (encL E) (32 * k + 2) 1) = e.2.length ∧ segL (encL E) (32 * k + 2 + 1) 29 = bI e.2 ++ List.replicate (29 - e.2.length) 0 := by
  have hl := he.len
  rw [encL_part E k e h]
  refine ⟨?_, ?_, ?_⟩
  · rw [show encL (E.take k) ++ encD e ++ encL (E.drop (k + 1)) = encL (E.take k) ++ lowL 2 e.1 ++ (lowL 1 e.2.length ++ bI e.2 ++ List.replicate (29 - e.2.length) 0 ++ encL (E.drop (k + 1))) from by unfold encD; simp only [List.append_assoc]]
    rw [segL_mid _ _ _ hA.symm (by rw [lowL_len]), leN_low _ _ (by omega)]
  · rw [show encL (E.take k) ++ encD e ++ encL (E.drop (k + 1)) = (encL (E.take k) ++ lowL 2 e.1) ++ lowL 1 e.2.length ++ (bI e.2 ++ List.replicate (29 - e.2.length) 0 ++ encL (E.drop (k + 1))) from by unfold encD; simp only [List.append_assoc]]
    rw [segL_mid _ _ _ (by rw [List.length_append, hA, lowL_len]) (by rw [lowL_len]), leN_low _ _ (by omega)]
  · rw [show encL (E.take k) ++ encD e ++ encL (E.drop (k + 1)) = (encL (E.take k) ++ lowL 2 e.1 ++ lowL 1 e.2.length) ++ (bI e.2 ++ List.replicate (29 - e.2.length) 0) ++ encL (E.drop (k + 1)) from by unfold encD; simp only [List.append_assoc]]
    rw [segL_mid _ _ _ (by rw [List.length_append, List.length_append, hA, lowL_len, lowL_len]) (by rw [List.length_append, bI_len, List.length_replicate]; omega)]
/-- What Read has filled in. -/
def outE (E : List En) (k : Nat) : Array Value := (encE (E.take k ++ List.replicate (4 - k) ((0, []) : En))).toArray
theorem outE_zero (E : List En) : outE E 0 = (encE (List.replicate 4 ((0, []) : En))).toArray := rfl
theorem outE_full (E : List En) (h : E.length = 4) : outE E 4 = (encE E).toArray := by
  unfold outE
  rw [List.take_of_length_le (by omega)]
  simp
theorem outE_step (E : List En) (h : E.length = 4) (k : Nat) (e : En) (he : E[k]? = some e) : ((outE E k).setIfInBounds (2 * k) (I e.1)).setIfInBounds (2 * k + 1) (Sv e.2) = outE E (k + 1) := by
  match E, h with
  | [e0, e1, e2, e3], _ =>
    have hk := (List.getElem?_eq_some_iff.1 he).1
    have h4 : k = 0 ∨ k = 1 ∨ k = 2 ∨ k = 3 := by simp at hk; omega
    rcases h4 with rfl | rfl | rfl | rfl
    all_goals
      cases he
      rfl
theorem outE_size (E : List En) (h : E.length = 4) (k : Nat) (hk : k ≤ 4) : (outE E k).size = 8 := by
  unfold outE
  rw [List.size_toArray, encE_len (by rw [List.length_append, List.length_take, List.length_replicate]; omega)]
theorem enc_one (E : List En) : (encE E).toArray.all (·.oneCell') = true := all_oneCell_toArray (fun v hv => by
  unfold encE at hv
  rw [List.mem_flatMap] at hv
  obtain ⟨e, _, he⟩ := hv
  simp only [List.mem_cons, List.not_mem_nil, or_false] at he
  rcases he with rfl | rfl <;> simp [Value.oneCell'])
theorem blk_all {w : World} {g : Nat} {t : TypeId} {cs : Array Value} {vs : List Value} (h : Blk w g t cs) (hl : vs.length = cs.size) : Blk (w.setCells g 0 vs) g t vs.toArray := by
  have := h.setAll vs 0
  rwa [setAt_whole _ _ hl] at this
end Go.Proofs.YtodlapkmcnmmhaaDoor
