/- ptr.Of: where a block hangs. -/
import Derived.Test.YtodlapkmcnmmhaaDoorTb
namespace Go.Proofs.YtodlapkmcnmmhaaDoor
open Go.RowKit
set_option linter.unusedSimpArgs false
set_option linter.unusedVariables false

def ofF (i : Int) : (Int × Int × Int) × Int :=
  if i < 0 then ((0, 0, 0), 1) else if i < 8 then ((0, 0, i), 0) else if i < 40 then ((1, 0, i - 8), 0)
  else if i < 1064 then ((2, (i - 40) / 32, (i - 40) % 32), 0) else ((0, 0, 0), 12)
abbrev val3of (p : (Int × Int × Int) × Int) : Value := .tuple #[.agg #[.int .i64 p.1.1, .int .i64 p.1.2.1, .int .i64 p.1.2.2], .int .i64 p.2]

set_option maxRecDepth 100000 in
theorem of_any (i : Int) (w : World) : Calls Tryd.prog 28 #[.int .i64 i] w fun e w' => e = .returned (val3of (ofF i)) ∧ Safe w w' := by
  unfold ofF
  by_cases h1 : i < 0
  · rw [if_pos h1]
    go_enter Tryd.func28, Tryd.ntmps28
    go_wp2
    exact bodyPost_ret (v := .tuple #[.agg #[.int .i64 0, .int .i64 0, .int .i64 0], .int .i64 1]) (by simp [results, Tryd.results28, go_sem]) rfl ⟨rfl, (But.refl _ _).alloc _⟩
  rw [if_neg h1]
  by_cases h2 : i < 8
  · rw [if_pos h2]
    go_enter Tryd.func28, Tryd.ntmps28
    go_wp2
    exact bodyPost_ret (v := .tuple #[.agg #[.int .i64 0, .int .i64 0, .int .i64 i], .int .i64 0]) (by simp [results, Tryd.results28, go_sem]) rfl ⟨rfl, (But.refl _ _).alloc _⟩
  rw [if_neg h2]
  by_cases h3 : i < 40
  · rw [if_pos h3]
    go_enter Tryd.func28, Tryd.ntmps28
    go_wp2
    exact bodyPost_ret (v := .tuple #[.agg #[.int .i64 1, .int .i64 0, .int .i64 (i - 8)], .int .i64 0]) (by simp [results, Tryd.results28, go_sem]) rfl ⟨rfl, (But.refl _ _).alloc _⟩
  rw [if_neg h3]
  by_cases h4 : i < 1064
  · rw [if_pos h4]
    go_enter Tryd.func28, Tryd.ntmps28
    go_wp2
    exact bodyPost_ret (v := .tuple #[.agg #[.int .i64 2, .int .i64 ((i - 40) / 32), .int .i64 ((i - 40) % 32)], .int .i64 0]) (by simp [results, Tryd.results28, go_sem]) rfl ⟨rfl, (But.refl _ _).alloc _⟩
  · rw [if_neg h4]
    go_enter Tryd.func28, Tryd.ntmps28
    go_wp2
    exact bodyPost_ret (v := .tuple #[.agg #[.int .i64 0, .int .i64 0, .int .i64 0], .int .i64 12]) (by simp [results, Tryd.results28, go_sem]) rfl ⟨rfl, (But.refl _ _).alloc _⟩
end Go.Proofs.YtodlapkmcnmmhaaDoor
