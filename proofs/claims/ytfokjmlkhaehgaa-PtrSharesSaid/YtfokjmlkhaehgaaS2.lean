/- PtrShares: the law's walk. -/
import Derived.Test.YtfokjmlkhaehgaaS1
import Derived.Test.YtfokjmlkhaehgaaP1
namespace Go.Proofs.Ytfokjmlkhaehgaa
open Go.RowKit
set_option linter.unusedSimpArgs false
set_option linter.unusedVariables false

theorem shares_cases {a b : Int} (h : sharesB a b = true) : (8 ≤ a ∧ a < 40 ∧ 8 ≤ b ∧ b < 40) ∨ (40 ≤ a ∧ a < 1064 ∧ 40 ≤ b ∧ b < 1064 ∧ (a - 40) / 32 = (b - 40) / 32) := by
  unfold sharesB ofF at h
  by_cases h1 : a < 0
  · simp [h1] at h
  by_cases h2 : a < 8
  · simp [h1, h2] at h
  by_cases g1 : b < 0
  · simp [g1] at h
  by_cases g2 : b < 8
  · by_cases h3 : a < 40
    · simp [h1, h2, h3, g1, g2] at h
    · by_cases h4 : a < 1064 <;> simp [h1, h2, h3, h4, g1, g2] at h
  by_cases h3 : a < 40
  · by_cases g3 : b < 40
    · left; omega
    · by_cases g4 : b < 1064 <;> simp [h1, h2, h3, g1, g2, g3, g4] at h
  · by_cases h4 : a < 1064
    · by_cases g3 : b < 40
      · simp [h1, h2, h3, h4, g1, g2, g3] at h
      · by_cases g4 : b < 1064
        · simp [h1, h2, h3, h4, g1, g2, g3, g4] at h
          right; omega
        · simp [h1, h2, h3, h4, g1, g2, g3, g4] at h
    · simp [h1, h2, h3, h4] at h
theorem shares_cost {a b : Int} (h : sharesB a b = true) (hne : a ≠ b) : costL [a, b] = costL [a] + 1 := by
  rcases shares_cases h with ⟨h1, h2, h3, h4⟩ | ⟨h1, h2, h3, h4, h5⟩
  · have ka : keysOf a = [(1, 0, a - 8), (1, 0, -1)] := by unfold keysOf; rw [if_neg (by omega), if_neg (by omega), if_pos h2]
    have kb : keysOf b = [(1, 0, b - 8), (1, 0, -1)] := by unfold keysOf; rw [if_neg (by omega), if_neg (by omega), if_pos h4]
    have := costL_two [a] b _ _ kb (by simp; omega)
    rw [show ([a, b] : List Int) = [a] ++ [b] from rfl, this, if_neg (by simp [ka]; omega), if_pos (by simp [ka])]
    omega
  · have ka : keysOf a = [(2, (a - 40) / 32, (a - 40) % 32), (2, (a - 40) / 32, -1), (2, -1, -1)] := by unfold keysOf; rw [if_neg (by omega), if_neg (by omega), if_neg (by omega), if_pos h2]
    have kb : keysOf b = [(2, (b - 40) / 32, (b - 40) % 32), (2, (b - 40) / 32, -1), (2, -1, -1)] := by unfold keysOf; rw [if_neg (by omega), if_neg (by omega), if_neg (by omega), if_pos h4]
    have := costL_three [a] b _ _ _ kb (by simp; omega) (by simp; omega) (by simp; omega)
    rw [show ([a, b] : List Int) = [a] ++ [b] from rfl, this, if_neg (by simp [ka]; omega), if_pos (by simp [ka]; omega), if_pos (by simp [ka])]
    omega
theorem beq_comm' (a b : Int) : (a == b) = (b == a) := by
  by_cases h : a = b
  · subst h; rfl
  · rw [beq_eq_false_iff_ne.2 h, beq_eq_false_iff_ne.2 (Ne.symm h)]
theorem shares_symm (a b : Int) : sharesB b a = sharesB a b := by
  rw [Bool.eq_iff_iff]
  unfold sharesB
  simp only [Bool.and_eq_true, beq_iff_eq, bne_iff_ne]
  constructor
  · rintro ⟨⟨⟨⟨h1, h2⟩, h3⟩, h4⟩, h5⟩; exact ⟨⟨⟨⟨h2, h1⟩, by rw [← h4]; exact h3⟩, h4.symm⟩, h5.symm⟩
  · rintro ⟨⟨⟨⟨h1, h2⟩, h3⟩, h4⟩, h5⟩; exact ⟨⟨⟨⟨h2, h1⟩, by rw [← h4]; exact h3⟩, h4.symm⟩, h5.symm⟩

set_option maxRecDepth 100000 in
set_option maxHeartbeats 8000000 in
theorem ptrShares_walk (a b : Int) (w : World) (_ : -9223372036854775808 ≤ a) (_ : a ≤ 9223372036854775807) (_ : -9223372036854775808 ≤ b) (_ : b ≤ 9223372036854775807) : Calls Try.prog 5 #[.int .i64 a, .int .i64 b] w fun e w' => e = .returned (.bool true) ∧ Safe w w' := by
  have ha := fun w => refOf_any a w
  have hb := fun w => refOf_any b w
  have hl := lvl_nonneg a
  have hsym := shares_symm a b
  have hcost := @shares_cost a b
  have hsh : sharesB a b = ((ofF a).2 == 0 && (ofF b).2 == 0 && (ofF a).1.1 != 0 && (ofF a).1.1 == (ofF b).1.1 && (ofF a).1.2.1 == (ofF b).1.2.1) := rfl
  generalize ofF a = p at *
  generalize ofF b = q at *
  obtain ⟨⟨p1, p2, p3⟩, p4⟩ := p
  obtain ⟨⟨q1, q2, q3⟩, q4⟩ := q
  simp only at hl hsh
  have HA := Lib.hid ha
  have HB := Lib.hid hb
  have HCO := Lib.hid hcost
  clear ha hb hcost
  by_cases h0 : (p4 == 0) = true
  rotate_left
  · have h0 : (p4 == 0) = false := by simpa using h0
    have hr : sharesB a b = false := by rw [hsh]; simp [h0]
    rw [hr] at hsym
    have HR := Lib.hid hr
    have HR2 := Lib.hid hsym
    clear hr hsym hsh
    go_enter Try.func5, Try.ntmps5
    go_wp2_with fail
    refine (awake_any _).mono ?_
    rintro e w0 ⟨rfl, hs0⟩
    go_wp2_with fail
    refine (HA.out _).mono ?_
    rintro e w1 ⟨rfl, hs1⟩
    go_wp2_with fail
    refine (HB.out _).mono ?_
    rintro e w2 ⟨rfl, hs2⟩
    have hs3 := (((hs0.trans hs1).alloc (.cells #[.int .i64 p1, .int .i64 p2, .int .i64 p3] 32)).trans hs2).alloc (.cells #[.int .i64 q1, .int .i64 q2, .int .i64 q3] 32)
    have hB := (Blk.new w1 32 #[.int .i64 p1, .int .i64 p2, .int .i64 p3]).but hs2 id
    have c0 := hB.cell' (i := 0) rfl
    have c1 := hB.cell' (i := 1) rfl
    have c2 := cell_alloc c0 (.cells #[.int .i64 q1, .int .i64 q2, .int .i64 q3] 32)
    have c3 := cell_alloc c1 (.cells #[.int .i64 q1, .int .i64 q2, .int .i64 q3] 32)
    go_wp2_with fail
    refine (shares_any a b _).mono ?_
    rw [HR.out]
    rintro e w3 ⟨rfl, hs4⟩
    go_wp2_with fail
    refine (shares_any b a _).mono ?_
    rw [HR2.out]
    rintro e w4 ⟨rfl, hs5⟩
    go_wp2_with fail
    all_goals go_ret
    all_goals exact ⟨rfl, (hs3.trans hs4).trans hs5⟩
  by_cases h1 : (q4 == 0) = true
  rotate_left
  · have h1 : (q4 == 0) = false := by simpa using h1
    have hr : sharesB a b = false := by rw [hsh]; simp [h0, h1]
    rw [hr] at hsym
    have HR := Lib.hid hr
    have HR2 := Lib.hid hsym
    clear hr hsym hsh
    go_enter Try.func5, Try.ntmps5
    go_wp2_with fail
    refine (awake_any _).mono ?_
    rintro e w0 ⟨rfl, hs0⟩
    go_wp2_with fail
    refine (HA.out _).mono ?_
    rintro e w1 ⟨rfl, hs1⟩
    go_wp2_with fail
    refine (HB.out _).mono ?_
    rintro e w2 ⟨rfl, hs2⟩
    have hs3 := (((hs0.trans hs1).alloc (.cells #[.int .i64 p1, .int .i64 p2, .int .i64 p3] 32)).trans hs2).alloc (.cells #[.int .i64 q1, .int .i64 q2, .int .i64 q3] 32)
    have hB := (Blk.new w1 32 #[.int .i64 p1, .int .i64 p2, .int .i64 p3]).but hs2 id
    have c0 := hB.cell' (i := 0) rfl
    have c1 := hB.cell' (i := 1) rfl
    have c2 := cell_alloc c0 (.cells #[.int .i64 q1, .int .i64 q2, .int .i64 q3] 32)
    have c3 := cell_alloc c1 (.cells #[.int .i64 q1, .int .i64 q2, .int .i64 q3] 32)
    go_wp2_with fail
    refine (shares_any a b _).mono ?_
    rw [HR.out]
    rintro e w3 ⟨rfl, hs4⟩
    go_wp2_with fail
    refine (shares_any b a _).mono ?_
    rw [HR2.out]
    rintro e w4 ⟨rfl, hs5⟩
    go_wp2_with fail
    all_goals go_ret
    all_goals exact ⟨rfl, (hs3.trans hs4).trans hs5⟩
  by_cases h2 : (p1 != 0) = true
  rotate_left
  · have h2 : (p1 != 0) = false := by simpa using h2
    have hr : sharesB a b = false := by rw [hsh]; simp [h0, h1, h2]
    rw [hr] at hsym
    have HR := Lib.hid hr
    have HR2 := Lib.hid hsym
    clear hr hsym hsh
    have hz : p1 = 0 := by simpa using h2
    have hz2 : p1 ≤ 0 := by omega
    clear hz
    go_enter Try.func5, Try.ntmps5
    go_wp2_with fail
    refine (awake_any _).mono ?_
    rintro e w0 ⟨rfl, hs0⟩
    go_wp2_with fail
    refine (HA.out _).mono ?_
    rintro e w1 ⟨rfl, hs1⟩
    go_wp2_with fail
    refine (HB.out _).mono ?_
    rintro e w2 ⟨rfl, hs2⟩
    have hs3 := (((hs0.trans hs1).alloc (.cells #[.int .i64 p1, .int .i64 p2, .int .i64 p3] 32)).trans hs2).alloc (.cells #[.int .i64 q1, .int .i64 q2, .int .i64 q3] 32)
    have hB := (Blk.new w1 32 #[.int .i64 p1, .int .i64 p2, .int .i64 p3]).but hs2 id
    have c0 := hB.cell' (i := 0) rfl
    have c1 := hB.cell' (i := 1) rfl
    have c2 := cell_alloc c0 (.cells #[.int .i64 q1, .int .i64 q2, .int .i64 q3] 32)
    have c3 := cell_alloc c1 (.cells #[.int .i64 q1, .int .i64 q2, .int .i64 q3] 32)
    go_wp2_with fail
    refine (shares_any a b _).mono ?_
    rw [HR.out]
    rintro e w3 ⟨rfl, hs4⟩
    go_wp2_with fail
    refine (shares_any b a _).mono ?_
    rw [HR2.out]
    rintro e w4 ⟨rfl, hs5⟩
    go_wp2_with fail
    all_goals go_ret
    all_goals exact ⟨rfl, (hs3.trans hs4).trans hs5⟩
  by_cases h3 : (p1 == q1) = true
  rotate_left
  · have h3 : (p1 == q1) = false := by simpa using h3
    have hr : sharesB a b = false := by rw [hsh]; simp [h0, h1, h2, h3]
    rw [hr] at hsym
    have HR := Lib.hid hr
    have HR2 := Lib.hid hsym
    clear hr hsym hsh
    have hz : p1 ≠ 0 := by simpa using h2
    have hz2 : 0 < p1 := by omega
    clear hz
    go_enter Try.func5, Try.ntmps5
    go_wp2_with fail
    refine (awake_any _).mono ?_
    rintro e w0 ⟨rfl, hs0⟩
    go_wp2_with fail
    refine (HA.out _).mono ?_
    rintro e w1 ⟨rfl, hs1⟩
    go_wp2_with fail
    refine (HB.out _).mono ?_
    rintro e w2 ⟨rfl, hs2⟩
    have hs3 := (((hs0.trans hs1).alloc (.cells #[.int .i64 p1, .int .i64 p2, .int .i64 p3] 32)).trans hs2).alloc (.cells #[.int .i64 q1, .int .i64 q2, .int .i64 q3] 32)
    have hB := (Blk.new w1 32 #[.int .i64 p1, .int .i64 p2, .int .i64 p3]).but hs2 id
    have c0 := hB.cell' (i := 0) rfl
    have c1 := hB.cell' (i := 1) rfl
    have c2 := cell_alloc c0 (.cells #[.int .i64 q1, .int .i64 q2, .int .i64 q3] 32)
    have c3 := cell_alloc c1 (.cells #[.int .i64 q1, .int .i64 q2, .int .i64 q3] 32)
    go_wp2_with fail
    refine (shares_any a b _).mono ?_
    rw [HR.out]
    rintro e w3 ⟨rfl, hs4⟩
    go_wp2_with fail
    refine (shares_any b a _).mono ?_
    rw [HR2.out]
    rintro e w4 ⟨rfl, hs5⟩
    go_wp2_with fail
    all_goals go_ret
    all_goals exact ⟨rfl, (hs3.trans hs4).trans hs5⟩
  by_cases h4 : (p2 == q2) = true
  rotate_left
  · have h4 : (p2 == q2) = false := by simpa using h4
    have hr : sharesB a b = false := by rw [hsh]; simp [h0, h1, h2, h3, h4]
    rw [hr] at hsym
    have HR := Lib.hid hr
    have HR2 := Lib.hid hsym
    clear hr hsym hsh
    have hz : p1 ≠ 0 := by simpa using h2
    have hz2 : 0 < p1 := by omega
    clear hz
    go_enter Try.func5, Try.ntmps5
    go_wp2_with fail
    refine (awake_any _).mono ?_
    rintro e w0 ⟨rfl, hs0⟩
    go_wp2_with fail
    refine (HA.out _).mono ?_
    rintro e w1 ⟨rfl, hs1⟩
    go_wp2_with fail
    refine (HB.out _).mono ?_
    rintro e w2 ⟨rfl, hs2⟩
    have hs3 := (((hs0.trans hs1).alloc (.cells #[.int .i64 p1, .int .i64 p2, .int .i64 p3] 32)).trans hs2).alloc (.cells #[.int .i64 q1, .int .i64 q2, .int .i64 q3] 32)
    have hB := (Blk.new w1 32 #[.int .i64 p1, .int .i64 p2, .int .i64 p3]).but hs2 id
    have c0 := hB.cell' (i := 0) rfl
    have c1 := hB.cell' (i := 1) rfl
    have c2 := cell_alloc c0 (.cells #[.int .i64 q1, .int .i64 q2, .int .i64 q3] 32)
    have c3 := cell_alloc c1 (.cells #[.int .i64 q1, .int .i64 q2, .int .i64 q3] 32)
    go_wp2_with fail
    refine (shares_any a b _).mono ?_
    rw [HR.out]
    rintro e w3 ⟨rfl, hs4⟩
    go_wp2_with fail
    refine (shares_any b a _).mono ?_
    rw [HR2.out]
    rintro e w4 ⟨rfl, hs5⟩
    go_wp2_with fail
    all_goals go_ret
    all_goals exact ⟨rfl, (hs3.trans hs4).trans hs5⟩
  · have hr : sharesB a b = true := by rw [hsh]; simp [h0, h1, h2, h3, h4]
    rw [hr] at hsym
    have HR := Lib.hid hr
    have HR2 := Lib.hid hsym
    clear hr hsym hsh
    have hz : p1 ≠ 0 := by simpa using h2
    have hz2 : 0 < p1 := by omega
    clear hz
    by_cases hab : a = b
    · have hab1 : (a != b) = false := by simpa using hab
      clear hab
      go_enter Try.func5, Try.ntmps5
      go_wp2_with fail
      refine (awake_any _).mono ?_
      rintro e w0 ⟨rfl, hs0⟩
      go_wp2_with fail
      refine (HA.out _).mono ?_
      rintro e w1 ⟨rfl, hs1⟩
      go_wp2_with fail
      refine (HB.out _).mono ?_
      rintro e w2 ⟨rfl, hs2⟩
      have hs3 := (((hs0.trans hs1).alloc (.cells #[.int .i64 p1, .int .i64 p2, .int .i64 p3] 32)).trans hs2).alloc (.cells #[.int .i64 q1, .int .i64 q2, .int .i64 q3] 32)
      have hB := (Blk.new w1 32 #[.int .i64 p1, .int .i64 p2, .int .i64 p3]).but hs2 id
      have c0 := hB.cell' (i := 0) rfl
      have c1 := hB.cell' (i := 1) rfl
      have c2 := cell_alloc c0 (.cells #[.int .i64 q1, .int .i64 q2, .int .i64 q3] 32)
      have c3 := cell_alloc c1 (.cells #[.int .i64 q1, .int .i64 q2, .int .i64 q3] 32)
      go_wp2_with fail
      refine (shares_any a b _).mono ?_
      rw [HR.out]
      rintro e w3 ⟨rfl, hs4⟩
      go_wp2_with fail
      refine (shares_any b a _).mono ?_
      rw [HR2.out]
      rintro e w4 ⟨rfl, hs5⟩
      go_wp2_with fail
      go_ret
      exact ⟨rfl, (hs3.trans hs4).trans hs5⟩
    · have hab1 : (a != b) = true := by simpa using hab
      have HAB := Lib.hid hab
      clear hab
      go_enter Try.func5, Try.ntmps5
      go_wp2_with fail
      refine (awake_any _).mono ?_
      rintro e w0 ⟨rfl, hs0⟩
      go_wp2_with fail
      refine (HA.out _).mono ?_
      rintro e w1 ⟨rfl, hs1⟩
      go_wp2_with fail
      refine (HB.out _).mono ?_
      rintro e w2 ⟨rfl, hs2⟩
      have hs3 := (((hs0.trans hs1).alloc (.cells #[.int .i64 p1, .int .i64 p2, .int .i64 p3] 32)).trans hs2).alloc (.cells #[.int .i64 q1, .int .i64 q2, .int .i64 q3] 32)
      have hB := (Blk.new w1 32 #[.int .i64 p1, .int .i64 p2, .int .i64 p3]).but hs2 id
      have c0 := hB.cell' (i := 0) rfl
      have c1 := hB.cell' (i := 1) rfl
      have c2 := cell_alloc c0 (.cells #[.int .i64 q1, .int .i64 q2, .int .i64 q3] 32)
      have c3 := cell_alloc c1 (.cells #[.int .i64 q1, .int .i64 q2, .int .i64 q3] 32)
      go_wp2_with fail
      refine (shares_any a b _).mono ?_
      rw [HR.out]
      rintro e w3 ⟨rfl, hs4⟩
      go_wp2_with fail
      refine (shares_any b a _).mono ?_
      rw [HR2.out]
      rintro e w4 ⟨rfl, hs5⟩
      go_wp2_with fail
      refine (cost_any _ _ [a, b] _ ?_ (by simp)).mono ?_
      · exact Rd.of_blk (cs := #[I a, I b]) (Blk.new' 3 _ (by simp)) rfl
      rintro e w5 ⟨rfl, hs6⟩
      go_wp2_with fail
      refine (cost_any _ _ [a] _ ?_ (by simp)).mono ?_
      · exact Rd.of_blk (cs := #[I a]) (Blk.new' 3 _ (by simp)) rfl
      rintro e w6 ⟨rfl, hs7⟩
      have hco := HCO.out HR.out HAB.out
      have hb1 := (small_cst [a]).t1
      have hb0 := (small_cst [a]).t0
      have hc1 : costL [a] ≤ 4 := by unfold costL; simp only [List.length_cons, List.length_nil] at hb1; omega
      have hc0 : 1 ≤ costL [a] := hb0
      clear hb1 hb0
      generalize costL [a, b] = c2 at *
      generalize costL [a] = c1 at *
      subst hco
      go_wp2_with fail
      go_ret
      exact ⟨rfl, (((((hs3.trans hs4).trans hs5).alloc _).trans hs6).alloc _).trans hs7⟩
end Go.Proofs.Ytfokjmlkhaehgaa
