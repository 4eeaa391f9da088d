/- PtrBlocks: the walk. -/
import Derived.Test.YtfokjmlkhaehgaaB1
namespace Go.Proofs.Ytfokjmlkhaehgaa
open Go.RowKit
set_option linter.unusedSimpArgs false
set_option linter.unusedVariables false

set_option maxRecDepth 100000 in
theorem refBlocks_any (s : Int) (w : World) (h0 : 0 < s) (h1 : s < 200000) : Calls Try.prog 13 #[.int .i64 s] w fun e w' => e = .returned (.int .i64 (blocksF s)) ∧ w = w' := by
  go_enter Try.func13, Try.ntmps13
  go_wp2
  go_loop [3] (fun i => ∃ k : Nat, (k : Int) ≤ (s - 1) / 128 + 1 ∧ i = .int .i64 k) (fun i => 2000 - (intOf i).toNat)
  case atStart => exact ⟨0, by omega, rfl⟩
  case round =>
    obtain ⟨k, hk, rfl⟩ := hrel
    by_cases hlt : 128 * (k : Int) < s
    · go_wp2
      go_round
      case rel => exact ⟨k + 1, by omega, by go_num⟩
      case measure => simp [intOf]; omega
    · go_wp2
      go_ret
      refine ⟨?_, rfl⟩
      have : (k : Int) = blocksF s := by unfold blocksF; rw [if_neg (by omega)]; omega
      rw [← this]; rfl
set_option maxRecDepth 100000 in
theorem ptrBlocks_walk (s : Int) (w : World) (h0 : -9223372036854775808 ≤ s) (h1 : s ≤ 9223372036854775807) : Calls Try.prog 3 #[.int .i64 s] w fun e w' => e = .returned (.bool true) ∧ Safe w w' := by
  have hb := fun w => blocks_any s w h0 h1
  have HB := Lib.hid hb
  clear hb
  by_cases c1 : s ≤ 0
  · have e : blocksF s = 0 := by unfold blocksF; rw [if_pos c1]
    have E := Lib.hid e
    clear e
    go_enter Try.func3, Try.ntmps3
    go_wp2_with fail
    refine (awake_any _).mono ?_
    rintro e w1 ⟨rfl, hs1⟩
    go_wp2_with fail
    refine (HB.out _).mono ?_
    rw [E.out]
    rintro e w2 ⟨rfl, rfl⟩
    go_wp2_with fail
    go_ret
    exact ⟨rfl, hs1⟩
  · have e : blocksF s = (s - 1) / 128 + 1 := by unfold blocksF; rw [if_neg c1]
    have E := Lib.hid e
    clear e
    by_cases c2 : s < 200000
    · go_enter Try.func3, Try.ntmps3
      go_wp2_with fail
      refine (awake_any _).mono ?_
      rintro e w1 ⟨rfl, hs1⟩
      go_wp2_with fail
      refine (HB.out _).mono ?_
      rw [E.out]
      rintro e w2 ⟨rfl, rfl⟩
      go_wp2_with fail
      refine (refBlocks_any s _ (by omega) c2).mono ?_
      rw [E.out]
      rintro e w2 ⟨rfl, rfl⟩
      go_wp2_with fail
      go_ret
      exact ⟨rfl, hs1⟩
    · go_enter Try.func3, Try.ntmps3
      go_wp2_with fail
      refine (awake_any _).mono ?_
      rintro e w1 ⟨rfl, hs1⟩
      go_wp2_with fail
      refine (HB.out _).mono ?_
      rw [E.out]
      rintro e w2 ⟨rfl, rfl⟩
      go_wp2_with fail
      go_ret
      exact ⟨rfl, hs1⟩
end Go.Proofs.Ytfokjmlkhaehgaa
