/- The laws' short; told. -/
import Derived.Test.YtodlapkmcnmmhaaDoorMf
namespace Go.Proofs.YtodlapkmcnmmhaaDoor
open Go.RowKit
set_option linter.unusedSimpArgs false
set_option linter.unusedVariables false

set_option maxRecDepth 100000 in
set_option maxHeartbeats 1000000 in
theorem short_any (l : Bs) (w : World) : Calls Tryd.prog 17 #[Sv l] w fun e w' => e = .returned (Sv (l.take 300)) ∧ w = w' := by
  have hsz : (⟨l.toArray⟩ : ByteArray).size = l.length := rfl
  by_cases h : 300 < l.length
  · have hi : (300 : Int) < l.length := by omega
    have he : (⟨l.toArray⟩ : ByteArray).extract 0 300 = ⟨(l.take 300).toArray⟩ := by
      apply ByteArray.ext
      rw [ByteArray.data_extract]
      apply Array.ext'
      simp
    go_enter Tryd.func17, Tryd.ntmps17
    go_wp2
    go_ret
    exact ⟨rfl, rfl⟩
  · have hi : (l.length : Int) ≤ 300 := by omega
    rw [List.take_of_length_le (by omega)]
    go_enter Tryd.func17, Tryd.ntmps17
    go_wp2
    go_ret
    exact ⟨rfl, rfl⟩
set_option maxRecDepth 100000 in
set_option maxHeartbeats 1000000 in
theorem told_any (a d : Bool) (A : Option Addr) (n c : Nat) (w : World) : Calls Tryd.prog 20 #[.agg #[.bool a, .bool d, .slice A n c]] w fun e w' => e = .returned (.agg #[.bool a, .bool d, .slice A n c]) ∧ Safe w w' := by
  have hs : Safe w ((w.alloc (.cells #[.bool a, .bool d, .slice A n c] 25)).alloc (.cells #[.bool a, .bool d, .slice A n c] 49)) := ((But.refl _ w).alloc _).alloc _
  go_enter Tryd.func20, Tryd.ntmps20
  go_wp2
  exact bodyPost_ret (v := .agg #[.bool a, .bool d, .slice A n c]) (by simp [results, Tryd.results20, go_sem]) rfl ⟨rfl, hs⟩
end Go.Proofs.YtodlapkmcnmmhaaDoor
