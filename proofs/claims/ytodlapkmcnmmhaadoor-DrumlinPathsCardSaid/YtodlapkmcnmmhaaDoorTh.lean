/- The fixed fact of layer 7; sizes in blocks. -/
import Derived.Test.YtodlapkmcnmmhaaDoorTe
namespace Go.Proofs.YtodlapkmcnmmhaaDoor
open Go.RowKit
set_option linter.unusedSimpArgs false
set_option linter.unusedVariables false

def blocksF (s : Int) : Int := if s ≤ 0 then 0 else (s - 1) / 128 + 1
set_option maxRecDepth 100000 in
theorem blocks_any (s : Int) (w : World) (h0 : -9223372036854775808 ≤ s) (h1 : s ≤ 9223372036854775807) : Calls Tryd.prog 15 #[.int .i64 s] w fun e w' => e = .returned (.int .i64 (blocksF s)) ∧ w = w' := by
  unfold blocksF
  by_cases h : s ≤ 0
  · rw [if_pos h]
    go_enter Tryd.func15, Tryd.ntmps15
    go_wp2
    go_ret
    exact ⟨rfl, rfl⟩
  · rw [if_neg h]
    go_enter Tryd.func15, Tryd.ntmps15
    go_wp2
    go_ret
    exact ⟨rfl, rfl⟩
end Go.Proofs.YtodlapkmcnmmhaaDoor
