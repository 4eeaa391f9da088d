/- PtrShares: the walks. -/
import Derived.Test.YtfokjmlkhaehgaaB1
namespace Go.Proofs.Ytfokjmlkhaehgaa
open Go.RowKit
set_option linter.unusedSimpArgs false
set_option linter.unusedVariables false

def sharesB (a b : Int) : Bool := (ofF a).2 == 0 && (ofF b).2 == 0 && (ofF a).1.1 != 0 && (ofF a).1.1 == (ofF b).1.1 && (ofF a).1.2.1 == (ofF b).1.2.1
theorem lvl_nonneg (a : Int) : 0 ≤ (ofF a).1.1 := by unfold ofF; repeat' split
                                                     all_goals simp
set_option maxRecDepth 100000 in
theorem refOf_any (i : Int) (w : World) : Calls Try.prog 17 #[.int .i64 i] w fun e w' => e = .returned (val3of (ofF i)) ∧ Safe w w' := by
  unfold ofF
  by_cases h1 : i < 0
  · rw [if_pos h1]
    go_enter Try.func17, Try.ntmps17
    go_wp2
    exact bodyPost_ret (v := .tuple #[.agg #[.int .i64 0, .int .i64 0, .int .i64 0], .int .i64 1]) (by simp [results, Try.results17, go_sem]) rfl ⟨rfl, (But.refl _ _).alloc _⟩
  rw [if_neg h1]
  by_cases h2 : i < 8
  · rw [if_pos h2]
    go_enter Try.func17, Try.ntmps17
    go_wp2
    exact bodyPost_ret (v := .tuple #[.agg #[.int .i64 0, .int .i64 0, .int .i64 i], .int .i64 0]) (by simp [results, Try.results17, go_sem]) rfl ⟨rfl, (But.refl _ _).alloc _⟩
  rw [if_neg h2]
  by_cases h3 : i < 40
  · rw [if_pos h3]
    go_enter Try.func17, Try.ntmps17
    go_wp2
    exact bodyPost_ret (v := .tuple #[.agg #[.int .i64 1, .int .i64 0, .int .i64 (i - 8)], .int .i64 0]) (by simp [results, Try.results17, go_sem]) rfl ⟨rfl, (But.refl _ _).alloc _⟩
  rw [if_neg h3]
  by_cases h4 : i < 1064
  · rw [if_pos h4]
    go_enter Try.func17, Try.ntmps17
    go_wp2
    exact bodyPost_ret (v := .tuple #[.agg #[.int .i64 2, .int .i64 ((i - 40) / 32), .int .i64 ((i - 40) % 32)], .int .i64 0]) (by simp [results, Try.results17, go_sem]) rfl ⟨rfl, (But.refl _ _).alloc _⟩
  · rw [if_neg h4]
    go_enter Try.func17, Try.ntmps17
    go_wp2
    exact bodyPost_ret (v := .tuple #[.agg #[.int .i64 0, .int .i64 0, .int .i64 0], .int .i64 12]) (by simp [results, Try.results17, go_sem]) rfl ⟨rfl, (But.refl _ _).alloc _⟩

set_option maxRecDepth 100000 in
set_option maxHeartbeats 1000000 in
theorem shares_any (a b : Int) (w : World) : Calls Try.prog 18 #[.int .i64 a, .int .i64 b] w fun e w' => e = .returned (.bool (sharesB a b)) ∧ Safe w w' := by
  have ha := fun w => of_any a w
  have hb := fun w => of_any b w
  unfold sharesB
  generalize ofF a = p at *
  generalize ofF b = q at *
  obtain ⟨⟨p1, p2, p3⟩, p4⟩ := p
  obtain ⟨⟨q1, q2, q3⟩, q4⟩ := q
  have HA := Lib.hid ha
  have HB := Lib.hid hb
  clear ha hb
  simp only
  by_cases h0 : (p4 == 0) = true
  rotate_left
  · have h0 : (p4 == 0) = false := by simpa using h0
    rw [show (p4 == 0 && q4 == 0 && p1 != 0 && p1 == q1 && p2 == q2) = false from by simp [h0]]
    go_enter Try.func18, Try.ntmps18
    go_wp2_with fail
    refine (HA.out _).mono ?_
    rintro e w1 ⟨rfl, hs1⟩
    go_wp2_with fail
    refine (HB.out _).mono ?_
    rintro e w2 ⟨rfl, hs2⟩
    have hs3 := ((hs1.alloc (.cells #[.int .i64 p1, .int .i64 p2, .int .i64 p3] 36)).trans hs2)
    have hB := (Blk.new w1 36 #[.int .i64 p1, .int .i64 p2, .int .i64 p3]).but hs2 id
    have c0 := hB.cell' (i := 0) rfl
    have c1 := hB.cell' (i := 1) rfl
    have hne : w1.heap.size < w2.heap.size := hB.lt
    have c2 := cell_alloc c0 (.cells #[.int .i64 q1, .int .i64 q2, .int .i64 q3] 36)
    have c3 := cell_alloc c1 (.cells #[.int .i64 q1, .int .i64 q2, .int .i64 q3] 36)
    go_wp2_with fail
    go_ret
    exact ⟨rfl, hs3.alloc _⟩
  by_cases h1 : (q4 == 0) = true
  rotate_left
  · have h1 : (q4 == 0) = false := by simpa using h1
    rw [show (p4 == 0 && q4 == 0 && p1 != 0 && p1 == q1 && p2 == q2) = false from by simp [h0, h1]]
    go_enter Try.func18, Try.ntmps18
    go_wp2_with fail
    refine (HA.out _).mono ?_
    rintro e w1 ⟨rfl, hs1⟩
    go_wp2_with fail
    refine (HB.out _).mono ?_
    rintro e w2 ⟨rfl, hs2⟩
    have hs3 := ((hs1.alloc (.cells #[.int .i64 p1, .int .i64 p2, .int .i64 p3] 36)).trans hs2)
    have hB := (Blk.new w1 36 #[.int .i64 p1, .int .i64 p2, .int .i64 p3]).but hs2 id
    have c0 := hB.cell' (i := 0) rfl
    have c1 := hB.cell' (i := 1) rfl
    have hne : w1.heap.size < w2.heap.size := hB.lt
    have c2 := cell_alloc c0 (.cells #[.int .i64 q1, .int .i64 q2, .int .i64 q3] 36)
    have c3 := cell_alloc c1 (.cells #[.int .i64 q1, .int .i64 q2, .int .i64 q3] 36)
    go_wp2_with fail
    go_ret
    exact ⟨rfl, hs3.alloc _⟩
  by_cases h2 : (p1 != 0) = true
  rotate_left
  · have h2 : (p1 != 0) = false := by simpa using h2
    rw [show (p4 == 0 && q4 == 0 && p1 != 0 && p1 == q1 && p2 == q2) = false from by simp [h0, h1, h2]]
    go_enter Try.func18, Try.ntmps18
    go_wp2_with fail
    refine (HA.out _).mono ?_
    rintro e w1 ⟨rfl, hs1⟩
    go_wp2_with fail
    refine (HB.out _).mono ?_
    rintro e w2 ⟨rfl, hs2⟩
    have hs3 := ((hs1.alloc (.cells #[.int .i64 p1, .int .i64 p2, .int .i64 p3] 36)).trans hs2)
    have hB := (Blk.new w1 36 #[.int .i64 p1, .int .i64 p2, .int .i64 p3]).but hs2 id
    have c0 := hB.cell' (i := 0) rfl
    have c1 := hB.cell' (i := 1) rfl
    have hne : w1.heap.size < w2.heap.size := hB.lt
    have c2 := cell_alloc c0 (.cells #[.int .i64 q1, .int .i64 q2, .int .i64 q3] 36)
    have c3 := cell_alloc c1 (.cells #[.int .i64 q1, .int .i64 q2, .int .i64 q3] 36)
    go_wp2_with fail
    go_ret
    exact ⟨rfl, hs3.alloc _⟩
  by_cases h3 : (p1 == q1) = true
  rotate_left
  · have h3 : (p1 == q1) = false := by simpa using h3
    rw [show (p4 == 0 && q4 == 0 && p1 != 0 && p1 == q1 && p2 == q2) = false from by simp [h0, h1, h2, h3]]
    go_enter Try.func18, Try.ntmps18
    go_wp2_with fail
    refine (HA.out _).mono ?_
    rintro e w1 ⟨rfl, hs1⟩
    go_wp2_with fail
    refine (HB.out _).mono ?_
    rintro e w2 ⟨rfl, hs2⟩
    have hs3 := ((hs1.alloc (.cells #[.int .i64 p1, .int .i64 p2, .int .i64 p3] 36)).trans hs2)
    have hB := (Blk.new w1 36 #[.int .i64 p1, .int .i64 p2, .int .i64 p3]).but hs2 id
    have c0 := hB.cell' (i := 0) rfl
    have c1 := hB.cell' (i := 1) rfl
    have hne : w1.heap.size < w2.heap.size := hB.lt
    have c2 := cell_alloc c0 (.cells #[.int .i64 q1, .int .i64 q2, .int .i64 q3] 36)
    have c3 := cell_alloc c1 (.cells #[.int .i64 q1, .int .i64 q2, .int .i64 q3] 36)
    go_wp2_with fail
    go_ret
    exact ⟨rfl, hs3.alloc _⟩
  by_cases h4 : (p2 == q2) = true
  rotate_left
  · have h4 : (p2 == q2) = false := by simpa using h4
    rw [show (p4 == 0 && q4 == 0 && p1 != 0 && p1 == q1 && p2 == q2) = false from by simp [h0, h1, h2, h3, h4]]
    go_enter Try.func18, Try.ntmps18
    go_wp2_with fail
    refine (HA.out _).mono ?_
    rintro e w1 ⟨rfl, hs1⟩
    go_wp2_with fail
    refine (HB.out _).mono ?_
    rintro e w2 ⟨rfl, hs2⟩
    have hs3 := ((hs1.alloc (.cells #[.int .i64 p1, .int .i64 p2, .int .i64 p3] 36)).trans hs2)
    have hB := (Blk.new w1 36 #[.int .i64 p1, .int .i64 p2, .int .i64 p3]).but hs2 id
    have c0 := hB.cell' (i := 0) rfl
    have c1 := hB.cell' (i := 1) rfl
    have hne : w1.heap.size < w2.heap.size := hB.lt
    have c2 := cell_alloc c0 (.cells #[.int .i64 q1, .int .i64 q2, .int .i64 q3] 36)
    have c3 := cell_alloc c1 (.cells #[.int .i64 q1, .int .i64 q2, .int .i64 q3] 36)
    go_wp2_with fail
    go_ret
    exact ⟨rfl, hs3.alloc _⟩
  · rw [show (p4 == 0 && q4 == 0 && p1 != 0 && p1 == q1 && p2 == q2) = true from by simp [h0, h1, h2, h3, h4]]
    go_enter Try.func18, Try.ntmps18
    go_wp2_with fail
    refine (HA.out _).mono ?_
    rintro e w1 ⟨rfl, hs1⟩
    go_wp2_with fail
    refine (HB.out _).mono ?_
    rintro e w2 ⟨rfl, hs2⟩
    have hs3 := ((hs1.alloc (.cells #[.int .i64 p1, .int .i64 p2, .int .i64 p3] 36)).trans hs2)
    have hB := (Blk.new w1 36 #[.int .i64 p1, .int .i64 p2, .int .i64 p3]).but hs2 id
    have c0 := hB.cell' (i := 0) rfl
    have c1 := hB.cell' (i := 1) rfl
    have hne : w1.heap.size < w2.heap.size := hB.lt
    have c2 := cell_alloc c0 (.cells #[.int .i64 q1, .int .i64 q2, .int .i64 q3] 36)
    have c3 := cell_alloc c1 (.cells #[.int .i64 q1, .int .i64 q2, .int .i64 q3] 36)
    go_wp2_with fail
    go_ret
    exact ⟨rfl, hs3.alloc _⟩
end Go.Proofs.Ytfokjmlkhaehgaa
