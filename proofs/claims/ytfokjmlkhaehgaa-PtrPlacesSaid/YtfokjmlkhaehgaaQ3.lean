/- PtrPlaces: the law's walk. -/
import Derived.Test.YtfokjmlkhaehgaaQ1
import Derived.Test.YtfokjmlkhaehgaaQ2
import Derived.Test.YtfokjmlkhaehgaaS1
namespace Go.Proofs.Ytfokjmlkhaehgaa
open Go.RowKit
set_option linter.unusedSimpArgs false
set_option linter.unusedVariables false

theorem stood32 : Try.prog.stoodInHeld 32 = false := by kernel_rfl
theorem eqA32 (a b c a' b' c' : Int) (w : World) : (binOp .eql 32 (.agg #[.int .i64 a, .int .i64 b, .int .i64 c]) (.agg #[.int .i64 a', .int .i64 b', .int .i64 c'])).run Try.prog w = .ok (.bool (decide (a = a' ∧ b = b' ∧ c = c'))) w := by
  have hs := Try.underlying32
  have h := run_equalIn_struct (P := Try.prog) w 9999 32 #[.int .i64 a, .int .i64 b, .int .i64 c] #[.int .i64 a', .int .i64 b', .int .i64 c'] (by rw [Program.fieldsOf, hs]) stood32
  have h0 : (Op.equal 32 (.agg #[.int .i64 a, .int .i64 b, .int .i64 c]) (.agg #[.int .i64 a', .int .i64 b', .int .i64 c'])).run Try.prog w = .ok (decide (a = a' ∧ b = b' ∧ c = c')) w := by
    show (Op.equalIn (9999 + 1) 32 _ _).run Try.prog w = _
    rw [h]
    have e := fun x y w => eqint 9998 x y w
    rw [show 9998 + 1 = 9999 from rfl] at e
    generalize 9999 = d at e
    simp [Program.fieldsOf, hs, Op.eqFields, go_sem, e]
    by_cases h1 : a = a' <;> by_cases h2 : b = b' <;> by_cases h3 : c = c' <;> simp [h1, h2, h3]
  simp only [binOp, Sem.run_bind, h0, Result.andThen_ok, Sem.run_pure]

theorem idx_of {i a b c : Int} (h : ofF i = ((a, b, c), 0)) : idxF a b c = (i, 0) := by
  unfold ofF at h
  by_cases h1 : i < 0
  · simp [h1] at h
  by_cases h2 : i < 8
  · simp [h1, h2] at h; obtain ⟨rfl, rfl, rfl⟩ := h; unfold idxF leavesOf slotsOf baseOf; rw [if_neg (by simp; omega)]; simp
  by_cases h3 : i < 40
  · simp [h1, h2, h3] at h; obtain ⟨rfl, rfl, rfl⟩ := h; unfold idxF leavesOf slotsOf baseOf; rw [if_neg (by simp; omega)]; simp; omega
  by_cases h4 : i < 1064
  · simp [h1, h2, h3, h4] at h; obtain ⟨rfl, rfl, rfl⟩ := h; unfold idxF leavesOf slotsOf baseOf; rw [if_neg (by simp; omega)]; simp; omega
  · simp [h1, h2, h3, h4] at h
theorem of_nat (k : Nat) (h : k < 1064) : (ofF k).2 = 0 := by
  unfold ofF; rw [if_neg (by omega)]; repeat' split
  all_goals first | rfl | omega
theorem idx_cases (a b c : Int) : idxF a b c = (0, 1) ∨ ∃ k : Nat, k < 1064 ∧ (ofF k).1 = (a, b, c) := by
  unfold idxF
  split
  · exact .inl rfl
  · rename_i h
    right
    unfold leavesOf slotsOf at h
    rcases (show a = 0 ∨ a = 1 ∨ a = 2 from by omega) with rfl | rfl | rfl
    · simp at h
      exact ⟨c.toNat, by omega, by unfold ofF; rw [if_neg (by omega), if_pos (by omega)]; simp; omega⟩
    · simp at h
      exact ⟨(8 + c).toNat, by omega, by unfold ofF; rw [if_neg (by omega), if_neg (by omega), if_pos (by omega)]; simp; omega⟩
    · simp at h
      exact ⟨(40 + 32 * b + c).toNat, by omega, by unfold ofF; rw [if_neg (by omega), if_neg (by omega), if_neg (by omega), if_pos (by omega)]; simp; omega⟩
theorem plcs_get (n k : Nat) (h : k < n) : (plcs n)[k * 3]? = some (I (ofF k).1.1) ∧ (plcs n)[k * 3 + 1]? = some (I (ofF k).1.2.1) ∧ (plcs n)[k * 3 + 2]? = some (I (ofF k).1.2.2) := by
  have hl : ∀ n, (plcs n).length = 3 * n := by intro n; induction n with
    | zero => rfl
    | succ n ih => rw [plcs_succ, List.length_append, ih]; simp [plc]; omega
  induction n with
  | zero => omega
  | succ n ih =>
    rw [plcs_succ]
    by_cases e : k = n
    · subst e
      rw [List.getElem?_append_right (by rw [hl]; omega), List.getElem?_append_right (by rw [hl]; omega), List.getElem?_append_right (by rw [hl]; omega), hl, show k * 3 - 3 * k = 0 from by omega, show k * 3 + 1 - 3 * k = 1 from by omega, show k * 3 + 2 - 3 * k = 2 from by omega]
      exact ⟨rfl, rfl, rfl⟩
    · have := ih (by omega)
      rw [List.getElem?_append_left (by rw [hl]; omega), List.getElem?_append_left (by rw [hl]; omega), List.getElem?_append_left (by rw [hl]; omega)]
      exact this

set_option maxRecDepth 100000 in
set_option maxHeartbeats 4000000 in
theorem ptrPlaces_walk (x a b c : Int) (w : World) : Calls Try.prog 6 #[.int .i64 x, .agg #[.int .i64 a, .int .i64 b, .int .i64 c]] w fun e w' => e = .returned (.bool true) ∧ Safe w w' := by
  have h1 := fun w => of_any x w
  have h2 := fun w => refOf_any x w
  have h3 : ∀ a b c, ofF x = ((a, b, c), 0) → idxF a b c = (x, 0) := fun a b c h => idx_of h
  generalize ofF x = p at *
  obtain ⟨⟨p1, p2, p3⟩, p4⟩ := p
  have h4 := fun w => index_any p1 p2 p3 w
  have h5 := fun w => index_any a b c w
  generalize hm : idxF p1 p2 p3 = m at *
  obtain ⟨m1, m2⟩ := m
  have hid := idx_cases a b c
  have hix : ∀ k : Nat, (ofF k).1 = (a, b, c) → k < 1064 → idxF a b c = ((k : Int), 0) := fun k hk hlt => by
    have := of_nat k hlt
    exact idx_of (i := k) (by rw [← hk, ← this])
  generalize idxF a b c = r at *
  obtain ⟨r1, r2⟩ := r
  have H1 := Lib.hid h1
  have H2 := Lib.hid h2
  have H3 := Lib.hid h3
  have H4 := Lib.hid h4
  have H5 := Lib.hid h5
  have HM := Lib.hid hm
  have HID := Lib.hid hid
  have HIX := Lib.hid hix
  clear h1 h2 h3 h4 h5 hm hid hix
  by_cases hp4 : p4 = 0
  · subst hp4
    have hmm := H3.out p1 p2 p3 rfl
    rw [HM.out, Prod.mk.injEq] at hmm
    obtain ⟨rfl, rfl⟩ := hmm
    go_enter Try.func6, Try.ntmps6
    go_wp2_with fail
    refine (awake_any _).mono ?_
    rintro e w0 ⟨rfl, hs0⟩
    have hB0 := (Blk.new w 32 #[.int .i64 a, .int .i64 b, .int .i64 c]).but hs0 id
    go_wp2_with fail
    refine (H1.out _).mono ?_
    rintro e w1 ⟨rfl, hs1⟩
    have hB1 := hB0.but hs1 id
    go_wp2_with fail
    refine (H2.out _).mono ?_
    rintro e w2 ⟨rfl, hs2⟩
    have hB2 := (hB1.alloc (.cells #[.int .i64 p1, .int .i64 p2, .int .i64 p3] 36)).but hs2 id
    have hC2 := (Blk.new w1 36 #[.int .i64 p1, .int .i64 p2, .int .i64 p3]).but hs2 id
    have c20 := cell_alloc (hC2.cell' (i := 0) rfl) (.cells #[.int .i64 p1, .int .i64 p2, .int .i64 p3] 32)
    have c21 := cell_alloc (hC2.cell' (i := 1) rfl) (.cells #[.int .i64 p1, .int .i64 p2, .int .i64 p3] 32)
    have c22 := cell_alloc (hC2.cell' (i := 2) rfl) (.cells #[.int .i64 p1, .int .i64 p2, .int .i64 p3] 32)
    go_wp2_with fail
    refine (H4.out _).mono ?_
    rintro e w3 ⟨rfl, hs3⟩
    clear c20 c21 c22
    have hB3 := (hB2.alloc (.cells #[.int .i64 p1, .int .i64 p2, .int .i64 p3] 32)).but hs3 id
    have c30 := hB3.cell' (i := 0) rfl
    have c31 := hB3.cell' (i := 1) rfl
    have c32 := hB3.cell' (i := 2) rfl
    go_wp2_with fail
    refine (H5.out _).mono ?_
    rintro e w4 ⟨rfl, hs4⟩
    go_wp2_with fail
    refine (all_any _).mono ?_
    rintro e w5 ⟨v, rfl, hA⟩
    have hs5 := hA.safe
    have hB5 := (hB3.but hs4 id).but hs5 id
    have hS5 : Safe w w5 := ((((((But.refl _ w).alloc (.cells #[.int .i64 a, .int .i64 b, .int .i64 c] 32)).trans hs0).trans hs1).alloc (.cells #[.int .i64 p1, .int .i64 p2, .int .i64 p3] 36)).trans hs2).alloc (.cells #[.int .i64 p1, .int .i64 p2, .int .i64 p3] 32) |>.trans hs3 |>.trans hs4 |>.trans hs5
    obtain ⟨A, cp, rfl, hcp⟩ := own_form hA.own
    obtain ⟨g, cp', rfl, rfl, hO⟩ : ∃ g cp', A = some ⟨g, 0, none⟩ ∧ cp = cp' ∧ w5.ownsRow w4.heap.size 32 3 (.slice (some ⟨g, 0, none⟩) 1064 cp) 1064 (plcs 1064) := by
      have hO := hA.own
      rcases hO.2 with ⟨h, h0⟩ | ⟨g, cap, cur, hv, _⟩
      · omega
      · injection hv with h1 h2 h3
        subst h1
        exact ⟨g, cp, rfl, rfl, hO⟩
    clear hA c30 c31 c32 hs0 hs1 hs2 hs3 hs4 hs5 hB0 hB1 hB2 hB3 hC2
    go_wp2_with fail
    go_loopw [69] (fun i wr => ∃ k : Nat, k ≤ 1064 ∧ i = .int .i64 k ∧ Safe w5 wr ∧ ∀ j : Nat, j < k → (ofF j).1 ≠ (a, b, c)) (fun i _ => 1064 - (intOf i).toNat)
    case atStart => exact ⟨0, by omega, rfl, But.refl _ _, fun j hj => by omega⟩
    case round =>
      obtain ⟨k, hk, rfl, hsr, hno⟩ := hrel
      have HNO := Lib.hid hno
      clear hno
      have hBr := hB5.but hsr id
      by_cases hlt : k < 1064
      · have hO := own_safe hO hsr
        obtain ⟨q0, q1, q2⟩ := plcs_get 1064 k hlt
        have d0 := (hO.cellAt (k * 3) (by omega)).trans q0
        have d1 := (hO.cellAt (k * 3 + 1) (by omega)).trans q1
        have d2 := (hO.cellAt (k * 3 + 2) (by omega)).trans q2
        have hix := HIX.out k
        have hno2 : ∀ x y z, (ofF k).1 = (x, y, z) → (x, y, z) ≠ (a, b, c) → ∀ j : Nat, j < k + 1 → (ofF j).1 ≠ (a, b, c) := fun x y z he hne j hj => by
          rcases Nat.lt_or_ge j k with h | h
          · exact HNO.out j h
          · obtain rfl : j = k := by omega
            rw [he]; exact hne
        generalize (ofF (k : Int)).1 = t at *
        obtain ⟨t1, t2, t3⟩ := t
        have HIXk := Lib.hid hix
        have HNO2 := Lib.hid hno2
        clear q0 q1 q2 hix hno2
        simp only at d0 d1 d2
        have hnb : w.heap.size ≠ wr.heap.size := by have := hBr.lt; omega
        have b0 := cell_alloc (hBr.cell' (i := 0) rfl) (.cells #[.int .i64 t1, .int .i64 t2, .int .i64 t3] 32)
        have b1 := cell_alloc (hBr.cell' (i := 1) rfl) (.cells #[.int .i64 t1, .int .i64 t2, .int .i64 t3] 32)
        have b2 := cell_alloc (hBr.cell' (i := 2) rfl) (.cells #[.int .i64 t1, .int .i64 t2, .int .i64 t3] 32)
        by_cases heq : t1 = a ∧ t2 = b ∧ t3 = c
        · obtain ⟨rfl, rfl, rfl⟩ := heq
          have hrr := HIXk.out rfl hlt
          simp only [Prod.mk.injEq] at hrr
          obtain ⟨rfl, rfl⟩ := hrr
          go_wp2
          go_ret
          exact ⟨rfl, (hS5.trans hsr).alloc _⟩
        · have hq := fun w => eqA32 t1 t2 t3 a b c w
          rw [decide_eq_false heq] at hq
          go_wp2
          go_roundw
          case rel => exact ⟨k + 1, by omega, by go_num, hsr.alloc _, HNO2.out t1 t2 t3 rfl (fun e => heq (by simpa using e))⟩
          case measure => simp [intOf]; omega
      · obtain rfl : k = 1064 := by omega
        have hr : (r1, r2) = ((0 : Int), (1 : Int)) := by
          rcases HID.out with h | ⟨j, hj, h⟩
          · exact h
          · exact absurd h (HNO.out j hj)
        simp only [Prod.mk.injEq] at hr
        obtain ⟨rfl, rfl⟩ := hr
        go_wp2
        go_ret
        exact ⟨rfl, hS5.trans hsr⟩
  · have hp : (p4 == 0) = false := by simpa using hp4
    go_enter Try.func6, Try.ntmps6
    go_wp2_with fail
    refine (awake_any _).mono ?_
    rintro e w0 ⟨rfl, hs0⟩
    have hB0 := (Blk.new w 32 #[.int .i64 a, .int .i64 b, .int .i64 c]).but hs0 id
    go_wp2_with fail
    refine (H1.out _).mono ?_
    rintro e w1 ⟨rfl, hs1⟩
    have hB1 := hB0.but hs1 id
    go_wp2_with fail
    refine (H2.out _).mono ?_
    rintro e w2 ⟨rfl, hs2⟩
    have hB2 := (hB1.alloc (.cells #[.int .i64 p1, .int .i64 p2, .int .i64 p3] 36)).but hs2 id
    have hC2 := (Blk.new w1 36 #[.int .i64 p1, .int .i64 p2, .int .i64 p3]).but hs2 id
    have c20 := cell_alloc (hC2.cell' (i := 0) rfl) (.cells #[.int .i64 p1, .int .i64 p2, .int .i64 p3] 32)
    have c21 := cell_alloc (hC2.cell' (i := 1) rfl) (.cells #[.int .i64 p1, .int .i64 p2, .int .i64 p3] 32)
    have c22 := cell_alloc (hC2.cell' (i := 2) rfl) (.cells #[.int .i64 p1, .int .i64 p2, .int .i64 p3] 32)
    go_wp2_with fail
    refine (H4.out _).mono ?_
    rintro e w3 ⟨rfl, hs3⟩
    clear c20 c21 c22
    have hB3 := (hB2.alloc (.cells #[.int .i64 p1, .int .i64 p2, .int .i64 p3] 32)).but hs3 id
    have c30 := hB3.cell' (i := 0) rfl
    have c31 := hB3.cell' (i := 1) rfl
    have c32 := hB3.cell' (i := 2) rfl
    go_wp2_with fail
    refine (H5.out _).mono ?_
    rintro e w4 ⟨rfl, hs4⟩
    go_wp2_with fail
    refine (all_any _).mono ?_
    rintro e w5 ⟨v, rfl, hA⟩
    have hs5 := hA.safe
    have hB5 := (hB3.but hs4 id).but hs5 id
    have hS5 : Safe w w5 := ((((((But.refl _ w).alloc (.cells #[.int .i64 a, .int .i64 b, .int .i64 c] 32)).trans hs0).trans hs1).alloc (.cells #[.int .i64 p1, .int .i64 p2, .int .i64 p3] 36)).trans hs2).alloc (.cells #[.int .i64 p1, .int .i64 p2, .int .i64 p3] 32) |>.trans hs3 |>.trans hs4 |>.trans hs5
    obtain ⟨A, cp, rfl, hcp⟩ := own_form hA.own
    obtain ⟨g, cp', rfl, rfl, hO⟩ : ∃ g cp', A = some ⟨g, 0, none⟩ ∧ cp = cp' ∧ w5.ownsRow w4.heap.size 32 3 (.slice (some ⟨g, 0, none⟩) 1064 cp) 1064 (plcs 1064) := by
      have hO := hA.own
      rcases hO.2 with ⟨h, h0⟩ | ⟨g, cap, cur, hv, _⟩
      · omega
      · injection hv with h1 h2 h3
        subst h1
        exact ⟨g, cp, rfl, rfl, hO⟩
    clear hA c30 c31 c32 hs0 hs1 hs2 hs3 hs4 hs5 hB0 hB1 hB2 hB3 hC2
    go_wp2_with fail
    go_loopw [69] (fun i wr => ∃ k : Nat, k ≤ 1064 ∧ i = .int .i64 k ∧ Safe w5 wr ∧ ∀ j : Nat, j < k → (ofF j).1 ≠ (a, b, c)) (fun i _ => 1064 - (intOf i).toNat)
    case atStart => exact ⟨0, by omega, rfl, But.refl _ _, fun j hj => by omega⟩
    case round =>
      obtain ⟨k, hk, rfl, hsr, hno⟩ := hrel
      have HNO := Lib.hid hno
      clear hno
      have hBr := hB5.but hsr id
      by_cases hlt : k < 1064
      · have hO := own_safe hO hsr
        obtain ⟨q0, q1, q2⟩ := plcs_get 1064 k hlt
        have d0 := (hO.cellAt (k * 3) (by omega)).trans q0
        have d1 := (hO.cellAt (k * 3 + 1) (by omega)).trans q1
        have d2 := (hO.cellAt (k * 3 + 2) (by omega)).trans q2
        have hix := HIX.out k
        have hno2 : ∀ x y z, (ofF k).1 = (x, y, z) → (x, y, z) ≠ (a, b, c) → ∀ j : Nat, j < k + 1 → (ofF j).1 ≠ (a, b, c) := fun x y z he hne j hj => by
          rcases Nat.lt_or_ge j k with h | h
          · exact HNO.out j h
          · obtain rfl : j = k := by omega
            rw [he]; exact hne
        generalize (ofF (k : Int)).1 = t at *
        obtain ⟨t1, t2, t3⟩ := t
        have HIXk := Lib.hid hix
        have HNO2 := Lib.hid hno2
        clear q0 q1 q2 hix hno2
        simp only at d0 d1 d2
        have hnb : w.heap.size ≠ wr.heap.size := by have := hBr.lt; omega
        have b0 := cell_alloc (hBr.cell' (i := 0) rfl) (.cells #[.int .i64 t1, .int .i64 t2, .int .i64 t3] 32)
        have b1 := cell_alloc (hBr.cell' (i := 1) rfl) (.cells #[.int .i64 t1, .int .i64 t2, .int .i64 t3] 32)
        have b2 := cell_alloc (hBr.cell' (i := 2) rfl) (.cells #[.int .i64 t1, .int .i64 t2, .int .i64 t3] 32)
        by_cases heq : t1 = a ∧ t2 = b ∧ t3 = c
        · obtain ⟨rfl, rfl, rfl⟩ := heq
          have hrr := HIXk.out rfl hlt
          simp only [Prod.mk.injEq] at hrr
          obtain ⟨rfl, rfl⟩ := hrr
          go_wp2
          go_ret
          exact ⟨rfl, (hS5.trans hsr).alloc _⟩
        · have hq := fun w => eqA32 t1 t2 t3 a b c w
          rw [decide_eq_false heq] at hq
          go_wp2
          go_roundw
          case rel => exact ⟨k + 1, by omega, by go_num, hsr.alloc _, HNO2.out t1 t2 t3 rfl (fun e => heq (by simpa using e))⟩
          case measure => simp [intOf]; omega
      · obtain rfl : k = 1064 := by omega
        have hr : (r1, r2) = ((0 : Int), (1 : Int)) := by
          rcases HID.out with h | ⟨j, hj, h⟩
          · exact h
          · exact absurd h (HNO.out j hj)
        simp only [Prod.mk.injEq] at hr
        obtain ⟨rfl, rfl⟩ := hr
        go_wp2
        go_ret
        exact ⟨rfl, hS5.trans hsr⟩
end Go.Proofs.Ytfokjmlkhaehgaa
