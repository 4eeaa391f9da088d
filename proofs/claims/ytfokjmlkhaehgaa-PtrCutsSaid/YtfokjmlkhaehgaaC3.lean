/- the reference's Cut: the walk. -/
import Derived.Test.YtfokjmlkhaehgaaC2
namespace Go.Proofs.Ytfokjmlkhaehgaa
open Go.RowKit
set_option linter.unusedSimpArgs false
set_option linter.unusedVariables false

set_option maxRecDepth 100000 in
set_option maxHeartbeats 2000000 in
theorem refCut_any (a n : Int) (w : World) (hn : n ≤ 9223372036854775807) : Calls Try.prog 23 #[.int .i64 a, .int .i64 n] w fun e w' => ∃ v, e = .returned (.tuple #[v, I (cutF a n).2]) ∧ Owns3 w 53 v (cutF a n).1 w' := by
  by_cases h1 : a < 0
  · rw [show cutF a n = ([], 1) from by unfold cutF; rw [if_pos (by omega)]]
    go_enter Try.func23, Try.ntmps23
    go_wp2
    go_ret2
    exact ⟨_, rfl, Owns3.nil _ _⟩
  by_cases h2 : n < 0
  · rw [show cutF a n = ([], 1) from by unfold cutF; rw [if_pos (by omega)]]
    go_enter Try.func23, Try.ntmps23
    go_wp2
    go_ret2
    exact ⟨_, rfl, Owns3.nil _ _⟩
  by_cases h3 : 136192 < a
  · rw [show cutF a n = ([], 12) from by unfold cutF; rw [if_neg (by omega), if_pos (by omega)]]
    go_enter Try.func23, Try.ntmps23
    go_wp2
    go_ret2
    exact ⟨_, rfl, Owns3.nil _ _⟩
  by_cases h4 : 136192 - a < n
  · rw [show cutF a n = ([], 12) from by unfold cutF; rw [if_neg (by omega), if_pos (by omega)]]
    go_enter Try.func23, Try.ntmps23
    go_wp2
    go_ret2
    exact ⟨_, rfl, Owns3.nil _ _⟩
  rw [show cutF a n = (rcut a n.toNat, 0) from by unfold cutF; rw [if_neg (by omega), if_neg (by omega)]]
  go_enter Try.func23, Try.ntmps23
  go_wp2
  go_loopw [6, 7] (fun v i wr => ∃ k : Nat, (k : Int) ≤ n ∧ i = .int .i64 (a + k) ∧ Owns3 w 53 v (rcut a k) wr) (fun _ i _ => (a + n - intOf i).toNat)
  case atStart => exact ⟨0, by omega, by simp, Owns3.nil _ _⟩
  case round =>
    obtain ⟨k, hk, rfl, hO⟩ := hrel
    have hlen := rcut_length a k
    by_cases hlt : (k : Int) < n
    · have hstep : rcut a (k + 1) = radd (rcut a k) (a + k) := rfl
      obtain ⟨A, cp, rfl, hcp⟩ := own_form hO.own
      rcases List.eq_nil_or_concat (rcut a k) with hnil | ⟨l, p, hl⟩
      · rw [hnil] at hO hstep
        rw [radd_new (by simp), List.nil_append] at hstep
        have HS := Lib.hid hstep
        have HN := Lib.hid hnil
        simp only [hnil, List.length_nil] at hcp hO hlen ⊢
        clear hstep hnil
        go_wp2_with (at_builtin; refine wpList_push T48 rfl (.tmp 56) (.tmp 65) rfl w.heap.size _ _ _ rfl (hO.own.alloc _) wr.heap.size 53 _ rfl (Blk.new _ _ _) rfl (by simp [Value.oneCell']) (by simp [maxLen]) (by simp) (by have := hO.safe.size; simp; omega) ?_; intro v1 w1 ho hg _)
        go_roundw
        case rel => exact ⟨k + 1, by omega, by congr 1; omega, by rw [HS.out]; exact (hO.alloc _).push ho hg rfl⟩
        case measure => simp [intOf]; omega
      · rw [List.concat_eq_append] at hl
        have hl' := hl
        have hOwn := hO.own
        rw [hl] at hOwn hlen
        obtain ⟨m, hm⟩ : ∃ m, l.length = m := ⟨_, rfl⟩
        rw [List.length_append, hm, List.length_singleton] at hOwn hlen
        have hlen2 : (rcut a k).length = m + 1 := by rw [hl, List.length_append, hm]; rfl
        rw [hlen2] at hcp ⊢
        rw [hlen2] at hO
        obtain ⟨g, rfl⟩ : ∃ g, A = some ⟨g, 0, none⟩ := by
          rcases hOwn.2 with ⟨_, h⟩ | ⟨g, cap, cur, hv, _⟩
          · omega
          · injection hv with h1 h2 h3; exact ⟨g, h1⟩
        obtain ⟨q0, q1, q2⟩ := rows3_get (l ++ [p]) m p (by rw [List.getElem?_append_right (by omega), hm]; simp)
        have c0 := (hOwn.cellAt (m * 3) (by omega)).trans q0
        have c2 := (hOwn.cellAt (m * 3 + 2) (by omega)).trans q2
        have f2 := hOwn.frozenAt (m * 3 + 2)
        obtain ⟨p1, p2, p3⟩ := p
        simp only at c0 c2
        have hb3 : 0 ≤ p3 ∧ p3 ≤ 128 := by
          cases k with
          | zero => omega
          | succ k' =>
            obtain ⟨m', q, hq, _, hq2⟩ := rcut_to a k'
            rw [hl] at hq
            obtain ⟨_, hq3⟩ := List.append_inj' hq rfl
            simp only [List.cons.injEq, and_true] at hq3
            subst hq3
            simp only at hq2
            omega
        obtain ⟨hb30, hb31⟩ := hb3
        have hsafe := hO.safe
        have HL := Lib.hid hl
        have HM := Lib.hid hm
        have HS := Lib.hid hstep
        have HL2 := Lib.hid hlen2
        clear hl hl' hm q0 q1 q2 hstep hlen2 hO
        by_cases hp : p1 = (a + k) / 128
        · have hp' : (p1 == (a + k) / 128) = true := by simpa using hp
          have HPP := Lib.hid hp
          clear hp
          go_wp2_with fail
          have hw := hOwn.stored (m * 3 + 2) (I (p3 + 1))
          go_roundw
          case rel =>
            refine ⟨k + 1, by omega, by congr 1; omega, ?_⟩
            rw [HS.out, HL.out, radd_more _ _ HPP.out]
            refine ⟨?_, safe_own hsafe hOwn hw.2 (Nat.le_refl _)⟩
            have := hw.1
            rw [show m * 3 + 2 = l.length * 3 + 2 from by rw [HM.out], rows3_set] at this
            rw [List.length_append, HM.out]
            rw [HM.out] at this
            exact this
          case measure => simp [intOf]; omega
        · have hp' : (p1 == (a + k) / 128) = false := by simpa using hp
          have HPP := Lib.hid hp
          clear hp
          have hO : Owns3 w 53 (.slice (some ⟨g, 0, none⟩) (m + 1) cp) (l ++ [(p1, p2, p3)]) wr := ⟨by rw [List.length_append, HM.out]; exact hOwn, hsafe⟩
          go_wp2_with (at_builtin; refine wpList_push T48 rfl (.tmp 56) (.tmp 65) rfl w.heap.size _ _ _ rfl (hOwn.alloc _) wr.heap.size 53 _ rfl (Blk.new _ _ _) rfl (by simp [Value.oneCell']) (by simp [maxLen]; omega) (by omega) (by have := hsafe.size; simp; omega) ?_; intro v1 w1 ho hg _)
          go_roundw
          case rel =>
            refine ⟨k + 1, by omega, by congr 1; omega, ?_⟩
            rw [HS.out, HL.out, radd_new (by intro p hp; simp at hp; subst hp; exact HPP.out)]
            exact (hO.alloc _).push (by rw [List.length_append, HM.out]; exact ho) hg rfl
          case measure => simp [intOf]; omega
    · obtain rfl : n = k := by omega
      go_wp2
      go_ret2
      exact ⟨_, rfl, by simpa using hO⟩
end Go.Proofs.Ytfokjmlkhaehgaa
