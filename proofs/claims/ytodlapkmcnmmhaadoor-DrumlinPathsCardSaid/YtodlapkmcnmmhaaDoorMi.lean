/- The reference's Same. -/
import Derived.Test.YtodlapkmcnmmhaaDoorMh
namespace Go.Proofs.YtodlapkmcnmmhaaDoor
open Go.RowKit
set_option linter.unusedSimpArgs false
set_option linter.unusedVariables false

theorem take_snoc_eqB {xs ys : List Bs} {k : Nat} (h1 : k < xs.length) (h2 : k < ys.length) (h : xs.take k = ys.take k) : (xs[k] = ys[k]) ↔ xs.take (k + 1) = ys.take (k + 1) := by
  rw [List.take_succ_eq_append_getElem h1, List.take_succ_eq_append_getElem h2, h]
  refine ⟨fun e => by rw [e], fun e => ?_⟩
  have := List.append_cancel_left e
  injection this
abbrev Pv (a d : Bool) (A : Option Addr) (n c : Nat) : Value := .agg #[.bool a, .bool d, .slice A n c]
set_option maxRecDepth 100000 in
set_option maxHeartbeats 4000000 in
theorem same_any (a d a2 d2 : Bool) (A B : Option Addr) (xs ys : List Bs) (c c2 : Nat) (w : World) (hx : Rd Sv w A xs) (hy : Rd Sv w B ys) (hn : xs.length ≤ 100000) (hm : ys.length ≤ 100000) :
    Calls Tryd.prog 19 #[Pv a d A xs.length c, Pv a2 d2 B ys.length c2] w fun e w' => e = .returned (.bool (decide (a = a2 ∧ d = d2 ∧ xs = ys))) ∧ Safe w w' := by
  generalize hnn : xs.length = n at *
  generalize hmm : ys.length = m at *
  have hs : Safe w ((w.alloc (.cells #[.bool a, .bool d, .slice A n c] 49)).alloc (.cells #[.bool a2, .bool d2, .slice B m c2] 49)) := ((But.refl _ w).alloc _).alloc _
  have hx1 := hx.safe hs
  have hy1 := hy.safe hs
  by_cases hf : a = a2 ∧ d = d2 ∧ n = m
  · obtain ⟨rfl, rfl, rfl⟩ := hf
    have hab : (a != a) = false := by simp
    have hdb : (d != d) = false := by simp
    have hb1 : Blk ((w.alloc (.cells #[.bool a, .bool d, .slice A n c] 49)).alloc (.cells #[.bool a, .bool d, .slice B n c2] 49)) w.heap.size 49 #[.bool a, .bool d, .slice A n c] := (Blk.new _ _ _).alloc _
    have hb2 : Blk ((w.alloc (.cells #[.bool a, .bool d, .slice A n c] 49)).alloc (.cells #[.bool a, .bool d, .slice B n c2] 49)) (w.heap.size + 1) 49 #[.bool a, .bool d, .slice B n c2] := Blk.new' _ _ (by simp)
    have HN := Lib.hid hnn
    have HN2 := Lib.hid hmm
    have HS := Lib.hid hs
    have HB1 := Lib.hid hb1
    have HB2 := Lib.hid hb2
    have HX := Lib.hid hx1
    have HY := Lib.hid hy1
    clear hnn hmm hs hb1 hb2 hx hy hx1 hy1
    go_enter Tryd.func19, Tryd.ntmps19
    go_wp2
    go_loopw [5] (fun i wr => ∃ k : Nat, k ≤ n ∧ i = .int .i64 k ∧ xs.take k = ys.take k ∧ Safe ((w.alloc (.cells #[.bool a, .bool d, .slice A n c] 49)).alloc (.cells #[.bool a, .bool d, .slice B n c2] 49)) wr) (fun i _ => n - (intOf i).toNat)
    case atStart => exact ⟨0, by omega, rfl, rfl, But.refl _ _⟩
    case round =>
      obtain ⟨k, hk, rfl, htk, hS⟩ := hrel
      obtain ⟨wo, rfl⟩ : ∃ wo : World, wo = wr := ⟨_, rfl⟩
      have hx' := HX.out.safe hS
      have hy' := HY.out.safe hS
      have d3 : wo.cell? ⟨w.heap.size, 2, none⟩ = some (.slice A n c) := (HB1.out.but hS id).cell' (i := 2) rfl
      have e3 : wo.cell? ⟨w.heap.size + 1, 2, none⟩ = some (.slice B n c2) := (HB2.out.but hS id).cell' (i := 2) rfl
      have HS2 := Lib.hid hS
      clear hS
      by_cases hlt : k < n
      · obtain ⟨ad, hA, c1⟩ := hx'.at (k := k) (by rw [HN.out]; exact hlt)
        obtain ⟨bd, hB, c2⟩ := hy'.at (k := k) (by rw [HN2.out]; exact hlt)
        subst hA hB
        have hk1 : k < xs.length := by rw [HN.out]; exact hlt
        have hk2 : k < ys.length := by rw [HN2.out]; exact hlt
        have hiff := take_snoc_eqB (k := k) (by rw [HN.out]; exact hlt) (by rw [HN2.out]; exact hlt) htk
        have hi0 : (0 : Int) ≤ (k : Int) := by omega
        have hi1 : (k : Int) < n := by omega
        have HI := Lib.hid hiff
        have HT := Lib.hid htk
        clear hiff htk hx' hy'
        generalize xs[k]'hk1 = x at *
        generalize ys[k]'hk2 = y at *
        by_cases hxy : x = y
        · have hb : (x == y) = true := by simpa using hxy
          go_wp2
          go_quiet (fail)
          go_wp2
          go_roundw
          case rel => exact ⟨k + 1, by omega, by go_num, HI.out.1 hxy, HS2.out.drewN nq⟩
          case measure => simp [intOf]; omega
        · have hb : (x == y) = false := by simpa using hxy
          go_wp2
          go_quiet (fail)
          go_wp2
          go_ret
          have hne : ¬ (xs = ys) := fun e => hxy (HI.out.2 (by rw [e]))
          exact ⟨by rw [decide_eq_false (fun e => hne e.2.2)]; rfl, HS.out.trans (HS2.out.drewN nq)⟩
      · obtain rfl : k = n := by omega
        have HT := Lib.hid htk
        clear htk
        go_wp2
        go_ret
        have : xs = ys := by
          have := HT.out
          rwa [← HN.out, List.take_length, HN.out, ← HN2.out, List.take_length] at this
        exact ⟨by rw [decide_eq_true ⟨trivial, trivial, this⟩]; rfl, HS.out.trans HS2.out⟩
  · have hne : ¬ (a = a2 ∧ d = d2 ∧ xs = ys) := fun e => hf ⟨e.1, e.2.1, by rw [← hnn, ← hmm, e.2.2]⟩
    rw [decide_eq_false hne]
    have hb1 : Blk ((w.alloc (.cells #[.bool a, .bool d, .slice A n c] 49)).alloc (.cells #[.bool a2, .bool d2, .slice B m c2] 49)) w.heap.size 49 #[.bool a, .bool d, .slice A n c] := (Blk.new _ _ _).alloc _
    have hb2 : Blk ((w.alloc (.cells #[.bool a, .bool d, .slice A n c] 49)).alloc (.cells #[.bool a2, .bool d2, .slice B m c2] 49)) (w.heap.size + 1) 49 #[.bool a2, .bool d2, .slice B m c2] := Blk.new' _ _ (by simp)
    have HS := Lib.hid hs
    have hcs : (a == a2) = false ∨ (a == a2) = true ∧ (d == d2) = false ∨ (a == a2) = true ∧ (d == d2) = true ∧ ¬ (n : Int) = m := by
      by_cases h1 : a = a2
      · by_cases h2 : d = d2
        · exact .inr (.inr ⟨by simp [h1], by simp [h2], fun e => hf ⟨h1, h2, by omega⟩⟩)
        · exact .inr (.inl ⟨by simp [h1], by simp [h2]⟩)
      · exact .inl (by simp [h1])
    clear hf hne hs hb1 hb2 hx hy hx1 hy1 hnn hmm
    rcases hcs with h1 | ⟨h1, h2⟩ | ⟨h1, h2, h3⟩
    all_goals
      go_enter Tryd.func19, Tryd.ntmps19
      go_wp2
      go_ret
      exact ⟨rfl, HS.out⟩
end Go.Proofs.YtodlapkmcnmmhaaDoor
