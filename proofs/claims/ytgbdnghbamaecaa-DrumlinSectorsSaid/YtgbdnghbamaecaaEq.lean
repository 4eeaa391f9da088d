/- The reference's Equal. -/
import Derived.Test.YtgbdnghbamaecaaA
import Derived.Test.YtgbdnghbamaecaaProg
import Derived.Deep.QuietTactic
import Derived.BigQuiet
namespace Go.Proofs.Ytgbdnghbamaecaa
open Go.RowKit
set_option linter.unusedSimpArgs false
set_option linter.unusedVariables false
abbrev U' (x : Int) : Value := .int .u8 x

theorem take_snoc_eq {xs ys : List Int} {k : Nat} (h1 : k < xs.length) (h2 : k < ys.length) (h : xs.take k = ys.take k) : (xs[k] = ys[k]) ↔ xs.take (k + 1) = ys.take (k + 1) := by
  rw [List.take_succ_eq_append_getElem h1, List.take_succ_eq_append_getElem h2, h]
  refine ⟨fun e => by rw [e], fun e => ?_⟩
  have := List.append_cancel_left e
  injection this
set_option maxRecDepth 100000 in
set_option maxHeartbeats 2000000 in
theorem equal_any (A B : Option Addr) (c d : Nat) (xs ys : List Int) (w : World) (hx : Rd U' w A xs) (hy : Rd U' w B ys) (hn : xs.length ≤ 9223372036854775807) (hm : ys.length ≤ 9223372036854775807) :
    Calls Try.prog 12 #[.slice A xs.length c, .slice B ys.length d] w fun e w' => e = .returned (.bool (decide (xs = ys))) ∧ Safe w w' := by
  by_cases hl : xs.length = ys.length
  · have hli : (xs.length : Int) = ys.length := by omega
    obtain ⟨n, hnn⟩ : ∃ n, n = xs.length := ⟨_, rfl⟩
    have hnn2 : n = ys.length := by omega
    rw [← hnn, ← hnn2]
    have HN := Lib.hid hnn
    have HN2 := Lib.hid hnn2
    have hn' : n ≤ 9223372036854775807 := by omega
    clear hnn hnn2 hli hn hm
    go_enter Try.func12, Try.ntmps12
    go_wp2
    go_loopw [5] (fun i wr => ∃ k : Nat, k ≤ n ∧ i = .int .i64 k ∧ xs.take k = ys.take k ∧ Safe w wr) (fun i _ => n - (intOf i).toNat)
    case atStart => exact ⟨0, by omega, rfl, rfl, But.refl _ _⟩
    case round =>
      obtain ⟨k, hk, rfl, htk, hS⟩ := hrel
      obtain ⟨wo, rfl⟩ : ∃ wo : World, wo = wr := ⟨_, rfl⟩
      have hx' := hx.safe hS
      have hy' := hy.safe hS
      by_cases hlt : k < n
      · obtain ⟨ad, hA, c1⟩ := hx'.at (k := k) (by rw [← HN.out]; exact hlt)
        obtain ⟨bd, hB, c2⟩ := hy'.at (k := k) (by rw [← HN2.out]; exact hlt)
        subst hA hB
        have hiff := take_snoc_eq (k := k) (by rw [← HN.out]; exact hlt) (by rw [← HN2.out]; exact hlt) htk
        have hi0 : (0 : Int) ≤ (k : Int) := by omega
        have hi1 : (k : Int) < n := by omega
        have HI := Lib.hid hiff
        have HT := Lib.hid htk
        have HX := Lib.hid hx
        have HY := Lib.hid hy
        clear hiff htk hx hy hx' hy'
        generalize xs[k] = x at *
        generalize ys[k] = y at *
        by_cases hxy : x = y
        · have hb : (x != y) = false := by simp [hxy]
          go_wp2
          go_quiet (fail)
          go_wp2
          go_roundw
          case rel => exact ⟨k + 1, by omega, by go_num, HI.out.1 hxy, hS.drewN nq⟩
          case measure => simp [intOf]; omega
        · have hb : (x != y) = true := by simp [hxy]
          go_wp2
          go_quiet (fail)
          go_wp2
          go_ret
          have hne : ¬ (xs = ys) := fun e => hxy (HI.out.2 (by rw [e]))
          exact ⟨by rw [decide_eq_false hne]; rfl, hS.drewN nq⟩
      · obtain rfl : k = n := by omega
        have HT := Lib.hid htk
        clear htk
        go_wp2
        go_ret
        have : xs = ys := by
          have := HT.out
          rwa [HN.out, List.take_length, ← HN.out, HN2.out, List.take_length] at this
        exact ⟨by rw [decide_eq_true this]; rfl, hS⟩
  · have hne : ¬ (xs = ys) := fun e => hl (by rw [e])
    rw [decide_eq_false hne]
    have hli : ¬ (xs.length : Int) = ys.length := by omega
    go_enter Try.func12, Try.ntmps12
    go_wp2
    go_ret
    exact ⟨rfl, But.refl _ _⟩
theorem equal_is (A B : Option Addr) (l c m d : Nat) (xs ys : List Int) (w : World) (hl : l = xs.length) (hm : m = ys.length) (hx : Rd U' w A xs) (hy : Rd U' w B ys) (hn : xs.length ≤ 9223372036854775807) (hm' : ys.length ≤ 9223372036854775807) :
    Calls Try.prog 12 #[.slice A l c, .slice B m d] w fun e w' => e = .returned (.bool (decide (xs = ys))) ∧ Safe w w' := by
  subst hl hm
  exact equal_any A B c d xs ys w hx hy hn hm'
end Go.Proofs.Ytgbdnghbamaecaa
