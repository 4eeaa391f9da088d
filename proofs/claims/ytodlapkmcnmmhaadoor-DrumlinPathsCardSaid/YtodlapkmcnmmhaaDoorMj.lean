/- awake. -/
import Derived.Test.YtodlapkmcnmmhaaDoorMi
namespace Go.Proofs.YtodlapkmcnmmhaaDoor
open Go.RowKit
set_option linter.unusedSimpArgs false
set_option linter.unusedVariables false

/-- A path's parts as they lie: read as P, in a row of one's own. -/
structure Pr (w : World) (base : Nat) (A : Option Addr) (P : List Bs) (c : Nat) : Prop where
  own : w.ownsRow base 9 1 (.slice A P.length c) P.length (P.map Sv)
  rd : Rd Sv w A P
  ad : 0 < P.length → ∃ g, A = some ⟨g, 0, none⟩
  cap : P.length ≤ c
theorem Pr.of {w : World} {base : Nat} {v : Value} {P : List Bs} (h : w.ownsRow base 9 1 v P.length (P.map Sv)) : ∃ A c, v = .slice A P.length c ∧ Pr w base A P c := by
  obtain ⟨A, c, rfl, hc⟩ := own_form h
  refine ⟨A, c, rfl, h, Rd.of_own h, fun hn => ?_, hc⟩
  obtain ⟨h1, h2⟩ := h
  rcases h2 with h2 | ⟨g, cap, cur, h2, h3, hr⟩
  · omega
  · injection h2 with h2
    exact ⟨g, h2⟩
theorem Pr.safe {w w' : World} {base : Nat} {A : Option Addr} {P : List Bs} {c : Nat} (h : Pr w base A P c) (hs : Safe w w') : Pr w' base A P c := ⟨own_safe h.own hs, h.rd.safe hs, h.ad, h.cap⟩
set_option maxRecDepth 100000 in
set_option maxHeartbeats 4000000 in
theorem awake_any (w : World) (hm : ∃ m, w.cell? ⟨0, 0, none⟩ = some (.int .i64 m)) : Calls Tryd.prog 16 #[] w fun e w' => e = .returned (.bool true) ∧ Safe w w' := by
  have hp := parse_any [47, 97, 47, 47, 46, 47, 98, 47] w (by simp) hm
  have e : parseM [47, 97, 47, 47, 46, 47, 98, 47] = (⟨true, true, [[97], [98]]⟩, 0) := by rfl
  have HP := Lib.hid hp
  clear hp
  go_enter Tryd.func16, Tryd.ntmps16
  go_wp2_with fail
  refine (HP.out).mono ?_
  unfold PRet
  rw [e]
  rintro _ w1 ⟨v, rfl, ho, hs⟩
  obtain ⟨A, c, rfl, hP⟩ := Pr.of ho
  have HP1 := Lib.hid hP
  have HS := Lib.hid hs
  clear hP hs ho e
  go_wp2_with fail
  have hs2 : Safe w1 (w1.alloc (.cells #[.bool true, .bool true, .slice A 2 c] 25)) := (But.refl _ w1).alloc _
  have hP2 := HP1.out.safe hs2
  have ht : Calls Tryd.prog 21 #[Pv true true A 2 c] (w1.alloc (.cells #[.bool true, .bool true, .slice A 2 c] 25)) _ := text_any true true A [[97], [98]] c _ hP2.rd hP2.ad hP2.cap (by simp) (by decide)
  refine ht.mono ?_
  rintro _ w2 ⟨rfl, hs3⟩
  have HS3 := Lib.hid ((HS.out.trans hs2).trans hs3)
  clear hs2 hs3 ht hP2
  rw [show textM ⟨true, true, [[97], [98]]⟩ = [47, 97, 47, 98, 47] from by decide]
  go_wp2_with fail
  go_ret
  exact ⟨rfl, HS3.out⟩
end Go.Proofs.YtodlapkmcnmmhaaDoor
