/- The reference's list of all places. -/
import Derived.Test.YtfokjmlkhaehgaaA
import Derived.Test.YtfokjmlkhaehgaaM3
namespace Go.Proofs.Ytfokjmlkhaehgaa
open Go.RowKit
set_option linter.unusedSimpArgs false
set_option linter.unusedVariables false

def plc (i : Nat) : List Value := [I (ofF i).1.1, I (ofF i).1.2.1, I (ofF i).1.2.2]
def plcs (n : Nat) : List Value := (List.range n).flatMap plc
theorem plcs_succ (n : Nat) : plcs (n + 1) = plcs n ++ plc n := by simp [plcs, List.range_succ, List.flatMap_append]
theorem T42 : SlT Try.prog 42 32 (.agg #[I 0, I 0, I 0]) 3 24 := ⟨Try.underlying42, by kernel_rfl, rfl, by omega⟩
theorem plc_0 (k : Nat) (h : k < 8) : plc k = [I 0, I 0, I k] := by
  unfold plc ofF; rw [if_neg (by omega), if_pos (by omega)]
theorem plc_1 (k : Nat) (h : k < 32) : plc (8 + k) = [I 1, I 0, I k] := by
  unfold plc ofF; rw [if_neg (by omega), if_neg (by omega), if_pos (by omega)]; simp; omega
theorem plc_2 (k i : Nat) (h : k < 32) (hi : i < 32) : plc (40 + 32 * k + i) = [I 2, I k, I i] := by
  unfold plc ofF; rw [if_neg (by omega), if_neg (by omega), if_neg (by omega), if_pos (by omega)]; simp; omega
structure Alls (w : World) (n : Nat) (v : Value) (wr : World) : Prop where
  own : wr.ownsRow w.heap.size 32 3 v n (plcs n)
  safe : Safe w wr
theorem Alls.push {w : World} {n : Nat} {v v' : Value} {wr w1 : World} {ys : List Value} (h : Alls w n v wr) (ho : w1.ownsRow w.heap.size 32 3 v' (n + 1) (plcs n ++ ys)) (hg : wr.grownBy w1 v.ownBlock) (hy : plc n = ys) : Alls w (n + 1) v' w1 :=
  ⟨by rw [plcs_succ, hy]; exact ho, safe_own h.safe h.own hg (Nat.le_refl _)⟩
theorem Alls.alloc {w : World} {n : Nat} {v : Value} {wr : World} (h : Alls w n v wr) (o : Obj) : Alls w n v (wr.alloc o) := ⟨h.own.alloc o, h.safe.alloc o⟩

set_option maxRecDepth 100000 in
set_option maxHeartbeats 1000000 in
theorem all_any (w : World) : Calls Try.prog 21 #[] w fun e w' => ∃ v, e = .returned v ∧ Alls w 1064 v w' := by
  go_enter Try.func21, Try.ntmps21
  go_wp2
  go_loopw [1, 2] (fun v i wr => ∃ k : Nat, k ≤ 8 ∧ i = .int .i64 k ∧ Alls w k v wr) (fun _ i _ => 8 - (intOf i).toNat)
  case atStart => exact ⟨0, by omega, rfl, World.ownsRow_nil _ _ _ _, But.refl _ _⟩
  case round =>
    obtain ⟨k, hk, rfl, hA⟩ := hrel
    by_cases hlt : k < 8
    · go_wp2_with (at_builtin; refine wpList_push T42 rfl (.tmp 10) (.tmp 13) rfl w.heap.size _ k (plcs k) rfl (hA.own.alloc _) wr.heap.size 32 #[I 0, I 0, I k] rfl (Blk.new _ _ _) rfl (by simp [Value.oneCell']) (by simp [maxLen]; omega) (by omega) (by have := hA.safe.size; simp; omega) ?_; intro v1 w1 ho hg _)
      go_roundw
      case rel => exact ⟨k + 1, by omega, by go_num, (hA.alloc _).push ho hg (plc_0 k hlt)⟩
      case measure => simp [intOf]; omega
    · obtain rfl : k = 8 := by omega
      go_wp2
      go_loopw [1, 3] (fun v i wr => ∃ k : Nat, k ≤ 32 ∧ i = .int .i64 k ∧ Alls w (8 + k) v wr) (fun _ i _ => 32 - (intOf i).toNat)
      case atStart => exact ⟨0, by omega, rfl, hA⟩
      clear hA hlt
      case round =>
        obtain ⟨k, hk, rfl, hA⟩ := hrel
        by_cases hlt : k < 32
        · go_wp2_with (at_builtin; refine wpList_push T42 rfl (.tmp 19) (.tmp 22) rfl w.heap.size _ (8 + k) (plcs (8 + k)) rfl (hA.own.alloc _) wr.heap.size 32 #[I 1, I 0, I k] rfl (Blk.new _ _ _) rfl (by simp [Value.oneCell']) (by simp [maxLen]; omega) (by omega) (by have := hA.safe.size; simp; omega) ?_; intro v1 w1 ho hg _)
          go_roundw
          case rel => exact ⟨k + 1, by omega, by go_num, by have := (hA.alloc _).push ho hg (plc_1 k hlt); rwa [Nat.add_assoc] at this⟩
          case measure => simp [intOf]; omega
        · obtain rfl : k = 32 := by omega
          go_wp2
          go_loopw [1, 4] (fun v i wr => ∃ k : Nat, k ≤ 32 ∧ i = .int .i64 k ∧ Alls w (40 + 32 * k) v wr) (fun _ i _ => 32 - (intOf i).toNat)
          case atStart => exact ⟨0, by omega, rfl, hA⟩
          clear hA hlt
          case round =>
            obtain ⟨k, hk, rfl, hA⟩ := hrel
            by_cases hlt : k < 32
            · go_wp2
              obtain ⟨wo, rfl⟩ : ∃ wo : World, wo = wr := ⟨_, rfl⟩
              go_loopw [1, 5] (fun v i wr => ∃ j : Nat, j ≤ 32 ∧ i = .int .i64 j ∧ Alls w (40 + 32 * k + j) v wr) (fun _ i _ => 32 - (intOf i).toNat)
              case atStart => exact ⟨0, by omega, rfl, hA⟩
              clear hA
              case round =>
                obtain ⟨j, hj, rfl, hA⟩ := hrel
                by_cases hlj : j < 32
                · go_wp2_with (at_builtin; refine wpList_push T42 rfl (.tmp 32) (.tmp 36) rfl w.heap.size _ (40 + 32 * k + j) (plcs (40 + 32 * k + j)) rfl (hA.own.alloc _) wr.heap.size 32 #[I 2, I k, I j] rfl (Blk.new _ _ _) rfl (by simp [Value.oneCell']) (by simp [maxLen]; omega) (by omega) (by have := hA.safe.size; simp; omega) ?_; intro v1 w1 ho hg _)
                  go_roundw
                  case rel => exact ⟨j + 1, by omega, by go_num, by have := (hA.alloc _).push ho hg (plc_2 k j hlt hlj); rwa [Nat.add_assoc _ j 1] at this⟩
                  case measure => simp [intOf]; omega
                · obtain rfl : j = 32 := by omega
                  go_wp2
                  go_roundw
                  case rel => exact ⟨k + 1, by omega, by go_num, by rw [show 40 + 32 * (k + 1) = 40 + 32 * k + 32 from by omega]; exact hA⟩
                  case measure => simp [intOf]; omega
            · obtain rfl : k = 32 := by omega
              go_wp2
              go_ret
              exact ⟨_, rfl, hA⟩
end Go.Proofs.Ytfokjmlkhaehgaa
