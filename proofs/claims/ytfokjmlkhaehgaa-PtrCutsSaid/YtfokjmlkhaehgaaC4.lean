/- PtrCuts: the law's walk. -/
import Derived.Test.YtfokjmlkhaehgaaC3
import Derived.Test.YtfokjmlkhaehgaaB1
import Derived.Deep.QuietTactic
import Derived.BigQuiet
namespace Go.Proofs.Ytfokjmlkhaehgaa
open Go.RowKit
set_option linter.unusedSimpArgs false
set_option linter.unusedVariables false

theorem cutF_length (a n : Int) : (cutF a n).1.length ≤ 136192 := by
  unfold cutF
  split
  · simp
  · split
    · simp
    · have := rcut_length a n.toNat
      simp only
      omega
theorem own_head {w : World} {base n size : Nat} {e : TypeId} {A : Option Addr} {c : Nat} {xs : List Value} (h : w.ownsRow base e size (.slice A n c) n xs) (hn : 0 < n) : ∃ g, A = some ⟨g, 0, none⟩ := by
  rcases h.2 with ⟨_, h0⟩ | ⟨g, cap, cur, hv, _⟩
  · omega
  · injection hv with h1 h2 h3
    exact ⟨g, h1⟩
set_option maxRecDepth 100000 in
set_option maxHeartbeats 2000000 in
theorem ptrCuts_walk (a n : Int) (w : World) (h0 : -9223372036854775808 ≤ a) (h1 : a ≤ 9223372036854775807) (h2 : -9223372036854775808 ≤ n) (h3 : n ≤ 9223372036854775807) :
    Calls Try.prog 7 #[.int .i64 a, .int .i64 n] w fun e w' => e = .returned (.bool true) ∧ Safe w w' := by
  have hc := fun w => cut_any a n w h3
  have hr := fun w => refCut_any a n w h3
  have hlen := cutF_length a n
  generalize cutF a n = p at *
  obtain ⟨l, e⟩ := p
  have HC := Lib.hid hc
  have HR := Lib.hid hr
  clear hc hr
  simp only at hlen
  go_enter Try.func7, Try.ntmps7
  go_wp2_with fail
  refine (awake_any _).mono ?_
  rintro _ w0 ⟨rfl, hs0⟩
  go_wp2_with fail
  refine (HC.out _).mono ?_
  rintro _ w1 ⟨v1, rfl, hO1⟩
  go_wp2_with fail
  refine (HR.out _).mono ?_
  rintro _ w2 ⟨v2, rfl, hO2⟩
  have hOw1 := own_safe hO1.own hO2.safe
  have hOw2 := hO2.own
  have hS := (hs0.trans hO1.safe).trans hO2.safe
  obtain ⟨A1, c1, rfl, hc1⟩ := own_form hOw1
  obtain ⟨A2, c2, rfl, hc2⟩ := own_form hOw2
  have HO1 := Lib.hid hOw1
  have HO2 := Lib.hid hOw2
  have HS := Lib.hid hS
  clear hO1 hO2 hs0 hOw1 hOw2 hS
  go_wp2_with fail
  go_loopw [37] (fun i wr => ∃ k : Nat, k ≤ l.length ∧ i = .int .i64 k ∧ Safe w2 wr) (fun i _ => l.length - (intOf i).toNat)
  case atStart => exact ⟨0, by omega, rfl, But.refl _ _⟩
  case round =>
    obtain ⟨k, hk, rfl, hsr⟩ := hrel
    by_cases hlt : k < l.length
    · obtain ⟨g1, rfl⟩ := own_head HO1.out (by omega)
      obtain ⟨g2, rfl⟩ := own_head HO2.out (by omega)
      have o1 := own_safe HO1.out hsr
      have o2 := own_safe HO2.out hsr
      obtain ⟨q0, q1, q2⟩ := rows3_get l k _ (List.getElem?_eq_getElem hlt)
      generalize l[k] = p at *
      obtain ⟨p1, p2, p3⟩ := p
      have d0 := (o1.cellAt (k * 3) (by omega)).trans q0
      have d1 := (o1.cellAt (k * 3 + 1) (by omega)).trans q1
      have d2 := (o1.cellAt (k * 3 + 2) (by omega)).trans q2
      have e0 := cell_alloc ((o2.cellAt (k * 3) (by omega)).trans q0) (.cells #[.int .i64 p1, .int .i64 p2, .int .i64 p3] 52)
      have e1 := cell_alloc ((o2.cellAt (k * 3 + 1) (by omega)).trans q1) (.cells #[.int .i64 p1, .int .i64 p2, .int .i64 p3] 52)
      have e2 := cell_alloc ((o2.cellAt (k * 3 + 2) (by omega)).trans q2) (.cells #[.int .i64 p1, .int .i64 p2, .int .i64 p3] 52)
      simp only at d0 d1 d2 e0 e1 e2
      have hk0 : (0 : Int) ≤ (k : Int) := by omega
      have hk1 : (k : Int) < (l.length : Int) := by omega
      clear q0 q1 q2 o1 o2
      go_wp2
      go_quiet (fail)
      go_wp2
      go_roundw
      case rel => exact ⟨k + 1, by omega, by go_num, (hsr.alloc _).drewN _⟩
      case measure => simp [intOf]; omega
    · go_wp2
      go_ret
      exact ⟨rfl, HS.out.trans hsr⟩
end Go.Proofs.Ytfokjmlkhaehgaa
