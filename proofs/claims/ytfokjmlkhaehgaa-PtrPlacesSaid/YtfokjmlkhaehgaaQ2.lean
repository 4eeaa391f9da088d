/- (Place).Index: the block that hangs at a place. -/
import Derived.Test.YtfokjmlkhaehgaaM3
namespace Go.Proofs.Ytfokjmlkhaehgaa
open Go.RowKit
set_option linter.unusedSimpArgs false
set_option linter.unusedVariables false

def baseOf (l : Int) : Int := if l = 0 then 0 else if l = 1 then 8 else 40
def leavesOf (l : Int) : Int := if l = 2 then 32 else 1
def slotsOf (l : Int) : Int := if l = 0 then 8 else 32
def idxF (a b c : Int) : Int × Int :=
  if a < 0 ∨ 2 < a ∨ b < 0 ∨ leavesOf a ≤ b ∨ c < 0 ∨ slotsOf a ≤ c then (0, 1) else (baseOf a + b * 32 + c, 0)
abbrev val2 (p : Int × Int) : Value := .tuple #[.int .i64 p.1, .int .i64 p.2]
set_option maxRecDepth 100000 in
set_option maxHeartbeats 2000000 in
theorem index_any (a b c : Int) (w : World) : Calls Try.prog 20 #[.agg #[.int .i64 a, .int .i64 b, .int .i64 c]] w fun e w' => e = .returned (val2 (idxF a b c)) ∧ Safe w w' := by
  by_cases h1 : a < 0
  · rw [show idxF a b c = (0, 1) from by unfold idxF; rw [if_pos (by omega)]]
    go_enter Try.func20, Try.ntmps20
    go_wp2
    go_ret2
    exact ⟨rfl, ((But.refl _ _).alloc _).alloc _⟩
  by_cases h2 : 2 < a
  · rw [show idxF a b c = (0, 1) from by unfold idxF; rw [if_pos (by omega)]]
    go_enter Try.func20, Try.ntmps20
    go_wp2
    go_ret2
    exact ⟨rfl, ((But.refl _ _).alloc _).alloc _⟩
  rcases (show a = 0 ∨ a = 1 ∨ a = 2 from by omega) with rfl | rfl | rfl
  · clear h1 h2
    by_cases g0 : b < 0
    · rw [show idxF 0 b c = (0, 1) from by unfold idxF leavesOf slotsOf; rw [if_pos (by simp; omega)]]
      go_enter Try.func20, Try.ntmps20
      go_wp2
      go_ret2
      exact ⟨rfl, (((But.refl _ _).alloc _).alloc _).alloc _⟩
    by_cases g1 : 1 ≤ b
    · rw [show idxF 0 b c = (0, 1) from by unfold idxF leavesOf slotsOf; rw [if_pos (by simp; omega)]]
      go_enter Try.func20, Try.ntmps20
      go_wp2
      go_ret2
      exact ⟨rfl, (((But.refl _ _).alloc _).alloc _).alloc _⟩
    by_cases g2 : c < 0
    · rw [show idxF 0 b c = (0, 1) from by unfold idxF leavesOf slotsOf; rw [if_pos (by simp; omega)]]
      go_enter Try.func20, Try.ntmps20
      go_wp2
      go_ret2
      exact ⟨rfl, (((But.refl _ _).alloc _).alloc _).alloc _⟩
    by_cases g3 : 8 ≤ c
    · rw [show idxF 0 b c = (0, 1) from by unfold idxF leavesOf slotsOf; rw [if_pos (by simp; omega)]]
      go_enter Try.func20, Try.ntmps20
      go_wp2
      go_ret2
      exact ⟨rfl, (((But.refl _ _).alloc _).alloc _).alloc _⟩
    rw [show idxF 0 b c = (0 + b * 32 + c, 0) from by unfold idxF leavesOf slotsOf baseOf; rw [if_neg (by simp; omega)]; simp]
    go_enter Try.func20, Try.ntmps20
    go_wp2
    go_ret2
    refine ⟨?_, (((But.refl _ _).alloc _).alloc _).alloc _⟩
    first | rfl | (simp; omega)
  · clear h1 h2
    by_cases g0 : b < 0
    · rw [show idxF 1 b c = (0, 1) from by unfold idxF leavesOf slotsOf; rw [if_pos (by simp; omega)]]
      go_enter Try.func20, Try.ntmps20
      go_wp2
      go_ret2
      exact ⟨rfl, (((But.refl _ _).alloc _).alloc _).alloc _⟩
    by_cases g1 : 1 ≤ b
    · rw [show idxF 1 b c = (0, 1) from by unfold idxF leavesOf slotsOf; rw [if_pos (by simp; omega)]]
      go_enter Try.func20, Try.ntmps20
      go_wp2
      go_ret2
      exact ⟨rfl, (((But.refl _ _).alloc _).alloc _).alloc _⟩
    by_cases g2 : c < 0
    · rw [show idxF 1 b c = (0, 1) from by unfold idxF leavesOf slotsOf; rw [if_pos (by simp; omega)]]
      go_enter Try.func20, Try.ntmps20
      go_wp2
      go_ret2
      exact ⟨rfl, (((But.refl _ _).alloc _).alloc _).alloc _⟩
    by_cases g3 : 32 ≤ c
    · rw [show idxF 1 b c = (0, 1) from by unfold idxF leavesOf slotsOf; rw [if_pos (by simp; omega)]]
      go_enter Try.func20, Try.ntmps20
      go_wp2
      go_ret2
      exact ⟨rfl, (((But.refl _ _).alloc _).alloc _).alloc _⟩
    rw [show idxF 1 b c = (8 + b * 32 + c, 0) from by unfold idxF leavesOf slotsOf baseOf; rw [if_neg (by simp; omega)]; simp]
    go_enter Try.func20, Try.ntmps20
    go_wp2
    go_ret2
    refine ⟨?_, (((But.refl _ _).alloc _).alloc _).alloc _⟩
    first | rfl | (simp; omega)
  · clear h1 h2
    by_cases g0 : b < 0
    · rw [show idxF 2 b c = (0, 1) from by unfold idxF leavesOf slotsOf; rw [if_pos (by simp; omega)]]
      go_enter Try.func20, Try.ntmps20
      go_wp2
      go_ret2
      exact ⟨rfl, (((But.refl _ _).alloc _).alloc _).alloc _⟩
    by_cases g1 : 32 ≤ b
    · rw [show idxF 2 b c = (0, 1) from by unfold idxF leavesOf slotsOf; rw [if_pos (by simp; omega)]]
      go_enter Try.func20, Try.ntmps20
      go_wp2
      go_ret2
      exact ⟨rfl, (((But.refl _ _).alloc _).alloc _).alloc _⟩
    by_cases g2 : c < 0
    · rw [show idxF 2 b c = (0, 1) from by unfold idxF leavesOf slotsOf; rw [if_pos (by simp; omega)]]
      go_enter Try.func20, Try.ntmps20
      go_wp2
      go_ret2
      exact ⟨rfl, (((But.refl _ _).alloc _).alloc _).alloc _⟩
    by_cases g3 : 32 ≤ c
    · rw [show idxF 2 b c = (0, 1) from by unfold idxF leavesOf slotsOf; rw [if_pos (by simp; omega)]]
      go_enter Try.func20, Try.ntmps20
      go_wp2
      go_ret2
      exact ⟨rfl, (((But.refl _ _).alloc _).alloc _).alloc _⟩
    rw [show idxF 2 b c = (40 + b * 32 + c, 0) from by unfold idxF leavesOf slotsOf baseOf; rw [if_neg (by simp; omega)]; simp]
    go_enter Try.func20, Try.ntmps20
    go_wp2
    go_ret2
    refine ⟨?_, (((But.refl _ _).alloc _).alloc _).alloc _⟩
    first | rfl | (simp; omega)
end Go.Proofs.Ytfokjmlkhaehgaa
