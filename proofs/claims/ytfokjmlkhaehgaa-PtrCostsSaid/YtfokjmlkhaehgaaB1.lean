/- The fixed fact of layer 7; sizes in blocks. -/
import Derived.Test.YtfokjmlkhaehgaaM5
namespace Go.Proofs.Ytfokjmlkhaehgaa
open Go.RowKit
set_option linter.unusedSimpArgs false
set_option linter.unusedVariables false

def blocksF (s : Int) : Int := if s ≤ 0 then 0 else (s - 1) / 128 + 1
set_option maxRecDepth 100000 in
theorem blocks_any (s : Int) (w : World) (h0 : -9223372036854775808 ≤ s) (h1 : s ≤ 9223372036854775807) : Calls Try.prog 12 #[.int .i64 s] w fun e w' => e = .returned (.int .i64 (blocksF s)) ∧ w = w' := by
  unfold blocksF
  by_cases h : s ≤ 0
  · rw [if_pos h]
    go_enter Try.func12, Try.ntmps12
    go_wp2
    go_ret
    exact ⟨rfl, rfl⟩
  · rw [if_neg h]
    go_enter Try.func12, Try.ntmps12
    go_wp2
    go_ret
    exact ⟨rfl, rfl⟩
theorem cost4 : costL [0, 8, 40, 41] = 8 := by decide +kernel
set_option maxRecDepth 100000 in
theorem awake_any (w : World) : Calls Try.prog 11 #[] w fun e w' => e = .returned (.bool true) ∧ Safe w w' := by
  have hof : ∀ w, Calls Try.prog 19 #[.int .i64 40] w fun e w' => e = .returned (.tuple #[.agg #[.int .i64 2, .int .i64 0, .int .i64 0], .int .i64 0]) ∧ Safe w w' := fun w => of_any 40 w
  have HC := Lib.hid hof
  clear hof
  go_enter Try.func11, Try.ntmps11
  go_wp2_with fail
  refine (HC.out _).mono ?_
  rintro e w1 ⟨rfl, hs1⟩
  go_wp2_with fail
  refine (blocks_any 129 _ (by omega) (by omega)).mono ?_
  rintro e w2 ⟨rfl, rfl⟩
  go_wp2_with fail
  refine (cost_any _ _ [0, 8, 40, 41] _ ?_ (by simp)).mono ?_
  · exact Rd.of_blk (cs := #[I 0, I 8, I 40, I 41]) (Blk.new' 3 _ (by simp)) rfl
  rintro e w2 ⟨rfl, hs2⟩
  rw [cost4]
  go_wp2_with fail
  go_ret
  exact ⟨rfl, ((hs1.alloc _).alloc _).trans hs2⟩
end Go.Proofs.Ytfokjmlkhaehgaa
