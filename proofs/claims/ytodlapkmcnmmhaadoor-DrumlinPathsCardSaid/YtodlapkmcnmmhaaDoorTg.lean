/- ptr.Cut and the reference's Cut: the walks. -/
import Derived.Test.YtodlapkmcnmmhaaDoorTf
import Derived.Test.YtodlapkmcnmmhaaDoorProg
namespace Go.Proofs.YtodlapkmcnmmhaaDoor
open Go.RowKit
set_option linter.unusedSimpArgs false
set_option linter.unusedVariables false

theorem T45 : SlT Tryd.prog 39 44 (.agg #[I 0, I 0, I 0]) 3 24 := ⟨Tryd.underlying39, by kernel_rfl, rfl, by omega⟩
def cutF (a n : Int) : List T3 × Int := if a < 0 ∨ n < 0 then ([], 1) else if 136192 < a ∨ 136192 - a < n then ([], 12) else (rcut a n.toNat, 0)
/-- What is told of a row of pieces. -/
structure Owns3 (w : World) (e : Nat) (v : Value) (l : List T3) (wr : World) : Prop where
  own : wr.ownsRow w.heap.size e 3 v l.length (rows3 l)
  safe : Safe w wr
theorem Owns3.nil (w : World) (e : Nat) : Owns3 w e (.slice none 0 0) [] w := ⟨World.ownsRow_nil _ _ _ _, But.refl _ _⟩
theorem Owns3.alloc {w : World} {e : Nat} {v : Value} {l : List T3} {wr : World} (h : Owns3 w e v l wr) (o : Obj) : Owns3 w e v l (wr.alloc o) := ⟨h.own.alloc o, h.safe.alloc o⟩
theorem Owns3.push {w : World} {e : Nat} {v v' : Value} {l : List T3} {wr w1 : World} {p : T3} {ys : List Value} (h : Owns3 w e v l wr) (ho : w1.ownsRow w.heap.size e 3 v' (l.length + 1) (rows3 l ++ ys)) (hg : wr.grownBy w1 v.ownBlock) (hy : ys = enc3 p) : Owns3 w e v' (l ++ [p]) w1 :=
  ⟨by rw [rows3_snoc, ← hy, List.length_append]; exact ho, safe_own h.safe h.own hg (Nat.le_refl _)⟩

set_option maxRecDepth 100000 in
set_option maxHeartbeats 2000000 in
theorem cut_any (a n : Int) (w : World) (hn : n ≤ 9223372036854775807) : Calls Tryd.prog 14 #[.int .i64 a, .int .i64 n] w fun e w' => ∃ v, e = .returned (.tuple #[v, I (cutF a n).2]) ∧ Owns3 w 44 v (cutF a n).1 w' := by
  by_cases h1 : a < 0
  · rw [show cutF a n = ([], 1) from by unfold cutF; rw [if_pos (by omega)]]
    go_enter Tryd.func14, Tryd.ntmps14
    go_wp2
    go_ret2
    exact ⟨_, rfl, Owns3.nil _ _⟩
  by_cases h2 : n < 0
  · rw [show cutF a n = ([], 1) from by unfold cutF; rw [if_pos (by omega)]]
    go_enter Tryd.func14, Tryd.ntmps14
    go_wp2
    go_ret2
    exact ⟨_, rfl, Owns3.nil _ _⟩
  by_cases h3 : 136192 < a
  · rw [show cutF a n = ([], 12) from by unfold cutF; rw [if_neg (by omega), if_pos (by omega)]]
    go_enter Tryd.func14, Tryd.ntmps14
    go_wp2
    go_ret2
    exact ⟨_, rfl, Owns3.nil _ _⟩
  by_cases h4 : 136192 - a < n
  · rw [show cutF a n = ([], 12) from by unfold cutF; rw [if_neg (by omega), if_pos (by omega)]]
    go_enter Tryd.func14, Tryd.ntmps14
    go_wp2
    go_ret2
    exact ⟨_, rfl, Owns3.nil _ _⟩
  rw [show cutF a n = (rcut a n.toNat, 0) from by unfold cutF; rw [if_neg (by omega), if_neg (by omega)]]
  go_enter Tryd.func14, Tryd.ntmps14
  go_wp2
  go_loopw [0, 6] (fun i v wr => ∃ k : Nat, (k : Int) ≤ n ∧ i = .int .i64 (a + k) ∧ (k = 0 ∨ (a + k) % 128 = 0 ∨ (k : Int) = n) ∧ Owns3 w 44 v (rcut a k) wr) (fun i _ _ => (a + n - intOf i).toNat)
  case atStart => exact ⟨0, by omega, by simp, .inl rfl, Owns3.nil _ _⟩
  case round =>
    obtain ⟨k, hk, rfl, hb, hO⟩ := hrel
    have hlen := rcut_length a k
    by_cases hlt : (k : Int) < n
    · have hk0 : k = 0 ∨ (a + k) % 128 = 0 := by rcases hb with h | h | h <;> omega
      clear hb
      by_cases hm : (a + k) % 128 + (a + n) - (a + k) ≤ 128
      · obtain ⟨m, rfl⟩ : ∃ m : Nat, n = k + m := ⟨(n - k).toNat, by omega⟩
        have hp := rcut_piece a k hk0 m (by omega) (by omega)
        have HP := Lib.hid hp
        have HK := Lib.hid hk0
        clear hp hk0
        go_wp2_with (at_builtin; refine wpList_push T45 rfl (.tmp 40) (.tmp 46) rfl w.heap.size u6 _ _ rfl (hO.own.alloc _) wr.heap.size 44 _ rfl (Blk.new _ _ _) rfl (by simp [Value.oneCell']) (by simp [maxLen]; omega) (by omega) (by have := hO.safe.size; simp; omega) ?_; intro v1 w1 ho hg _)
        go_roundw
        case rel => exact ⟨k + m, by omega, by congr 1; omega, .inr (.inr (by omega)), by rw [HP.out]; exact (hO.alloc _).push ho hg (by simp [enc3]; omega)⟩
        case measure => simp [intOf]; omega
      · obtain ⟨m, hm2⟩ : ∃ m : Nat, (a + k) % 128 + m = 128 := ⟨(128 - (a + k) % 128).toNat, by omega⟩
        have hp := rcut_piece a k hk0 m (by omega) (by omega)
        rw [hm2] at hp
        have HP := Lib.hid hp
        have HK := Lib.hid hk0
        have HM := Lib.hid hm2
        clear hp hk0 hm2
        go_wp2_with (at_builtin; refine wpList_push T45 rfl (.tmp 40) (.tmp 46) rfl w.heap.size u6 _ _ rfl (hO.own.alloc _) wr.heap.size 44 #[I ((a + k) / 128), I ((a + k) % 128), I 128] rfl (Blk.new _ _ _) rfl (by simp [Value.oneCell']) (by simp [maxLen]; omega) (by omega) (by have := hO.safe.size; simp; omega) ?_; intro v1 w1 ho hg _)
        have hm2 := HM.out
        go_roundw
        case rel => exact ⟨k + m, by omega, by congr 1; omega, .inr (.inl (by omega)), by rw [HP.out]; exact (hO.alloc _).push ho hg rfl⟩
        case measure => simp [intOf]; omega
    · obtain rfl : n = k := by omega
      go_wp2
      go_ret2
      exact ⟨_, rfl, by simpa using hO⟩
end Go.Proofs.YtodlapkmcnmmhaaDoor
