/- dirent.Good: a name's fault. -/
import Derived.Test.YtodlapkmcnmmhaaDoorMb
import Derived.Test.YtodlapkmcnmmhaaDoorRm
import Derived.Test.YtodlapkmcnmmhaaDoorSh
import Derived.Deep.QuietTactic
import Derived.BigQuiet
namespace Go.Proofs.YtodlapkmcnmmhaaDoor
open Go.RowKit
set_option linter.unusedSimpArgs false
set_option linter.unusedVariables false

/-- A string of bytes. -/
abbrev Sv (l : Bs) : Value := .string ⟨l.toArray⟩
def goodM (x : Bs) : Int := if (0 : UInt8) ∈ x ∨ (47 : UInt8) ∈ x then 1 else if x = [] then 4 else if 26 < x.length then 9 else 0
theorem index_pos (c : UInt8) : ∀ x : Bs, (0 ≤ Lib.indexByte x c ↔ c ∈ x) ∧ -1 ≤ Lib.indexByte x c
  | [] => by simp [Lib.indexByte]
  | b :: x => by
    have := index_pos c x
    unfold Lib.indexByte
    by_cases hb : b = c
    · subst hb; simp
    · have hb' : (b == c) = false := by simpa using hb
      have hc : ¬ c = b := fun e => hb e.symm
      rw [hb']
      simp only [Bool.false_eq_true, if_false, List.mem_cons, hc, false_or]
      by_cases h : Lib.indexByte x c = -1
      · rw [h] at this ⊢
        simp at this ⊢
        exact this
      · have h' : (Lib.indexByte x c == -1) = false := by simpa using h
        rw [h']
        simp only [Bool.false_eq_true, if_false]
        rw [← this.1]
        omega
set_option maxRecDepth 100000 in
set_option maxHeartbeats 2000000 in
theorem good_any (x : Bs) (w : World) : Calls Tryd.prog 11 #[Sv x] w fun e w' => e = .returned (I (goodM x)) ∧ w = w' := by
  have h0 : Calls Tryd.prog 29 #[Sv x, .int .u8 0] w fun e w' => e = .returned (I (Lib.indexByte x 0)) ∧ w' = w := Tryd.strings_IndexByte ⟨x.toArray⟩ 0 w
  have h7 : Calls Tryd.prog 29 #[Sv x, .int .u8 47] w fun e w' => e = .returned (I (Lib.indexByte x 47)) ∧ w' = w := Tryd.strings_IndexByte ⟨x.toArray⟩ 47 w
  obtain ⟨p0, q0⟩ := index_pos 0 x
  obtain ⟨p7, q7⟩ := index_pos 47 x
  have hl : (⟨x.toArray⟩ : ByteArray).size = x.length := rfl
  obtain ⟨i0, e0⟩ : ∃ i, i = Lib.indexByte x 0 := ⟨_, rfl⟩
  obtain ⟨i7, e7⟩ : ∃ i, i = Lib.indexByte x 47 := ⟨_, rfl⟩
  rw [← e0] at h0 p0 q0
  rw [← e7] at h7 p7 q7
  have H0 := Lib.hid h0
  have H7 := Lib.hid h7
  clear h0 h7 e0 e7
  by_cases c0 : (0 : UInt8) ∈ x
  · have e : goodM x = 1 := by simp [goodM, c0]
    rw [e]
    have hp := p0.2 c0
    clear e p0 p7 c0 hl
    go_enter Tryd.func11, Tryd.ntmps11
    go_wp2_with fail
    refine (H0.out).mono ?_
    rintro _ _ ⟨rfl, rfl⟩
    go_wp2
    go_ret
    exact ⟨rfl, rfl⟩
  · have n0 : i0 < 0 := by have := p0.1; rcases Int.lt_or_le i0 0 with h | h; exact h; exact absurd (this h) c0
    by_cases c7 : (47 : UInt8) ∈ x
    · have e : goodM x = 1 := by simp [goodM, c7]
      rw [e]
      have hp := p7.2 c7
      clear e p0 p7 c0 c7 hl
      go_enter Tryd.func11, Tryd.ntmps11
      go_wp2_with fail
      refine (H0.out).mono ?_
      rintro _ _ ⟨rfl, rfl⟩
      go_wp2_with fail
      refine (H7.out).mono ?_
      rintro _ _ ⟨rfl, rfl⟩
      go_wp2
      go_ret
      exact ⟨rfl, rfl⟩
    · have n7 : i7 < 0 := by have := p7.1; rcases Int.lt_or_le i7 0 with h | h; exact h; exact absurd (this h) c7
      have e : goodM x = if x = [] then 4 else if 26 < x.length then 9 else 0 := by simp only [goodM]; rw [if_neg (fun h => by rcases h with h | h; exact c0 h; exact c7 h)]
      have hcs : (x.isEmpty = true ∧ goodM x = 4) ∨ (x.isEmpty = false ∧ (26 : Int) < x.length ∧ goodM x = 9) ∨ (x.isEmpty = false ∧ (x.length : Int) ≤ 26 ∧ goodM x = 0) := by
        by_cases ce : x = []
        · exact .inl ⟨by rw [ce]; rfl, by rw [e, if_pos ce]⟩
        · have hb : x.isEmpty = false := by simpa using ce
          by_cases hc : 26 < x.length
          · exact .inr (.inl ⟨hb, by omega, by rw [e, if_neg ce, if_pos hc]⟩)
          · exact .inr (.inr ⟨hb, by omega, by rw [e, if_neg ce, if_neg hc]⟩)
      clear e p0 p7 c0 c7
      rcases hcs with ⟨hb, e⟩ | ⟨hb, hc, e⟩ | ⟨hb, hc, e⟩
      all_goals
        rw [e]
        clear e
        go_enter Tryd.func11, Tryd.ntmps11
        go_wp2_with fail
        refine (H0.out).mono ?_
        rintro _ _ ⟨rfl, rfl⟩
        go_wp2_with fail
        refine (H7.out).mono ?_
        rintro _ _ ⟨rfl, rfl⟩
        go_wp2
        go_ret
        exact ⟨rfl, rfl⟩
end Go.Proofs.YtodlapkmcnmmhaaDoor
