/- The fixed fact of law 20. -/
import Derived.Test.YtlojadpbdbhmiaaFc
import Derived.Test.YtlojadpbdbhmiaaFu
namespace Go.Proofs.Ytlojadpbdbhmiaa
open Go.RowKit
set_option linter.unusedSimpArgs false
set_option linter.unusedVariables false
set_option maxRecDepth 100000 in
set_option maxHeartbeats 1000000 in
theorem awake20 (w : World) : Calls Try.prog 17 #[] w fun e w' => e = .returned (.bool true) ∧ Safe w w' := by
  go_enter Try.func17, Try.ntmps17
  go_wp2_with fail
  refine (newf_any 2 _).mono ?_
  rintro _ w1 ⟨rfl, hf1, hs1⟩
  go_wp2_with fail
  refine (news_any 3 _).mono ?_
  rintro _ w2 ⟨gs, gl, sp, rfl, hS2, hb1, hb2, hs2⟩
  rw [show mostF 2 = 2 from rfl] at hf1
  rw [show mostS 3 = 3 from rfl] at hS2
  have hf2 := hf1.safe hs2
  have hn := fnew_yes _ _ _ 0 1 5 1 w2 hf2 rfl rfl
  have hlf := hf1.hp.lt
  have hll := hf1.hl.lt
  have HN := Lib.hid hn
  have HS1 := Lib.hid hs1
  have HS2 := Lib.hid hs2
  clear hn hf1 hf2 hs1 hs2
  go_wp2_with fail
  refine (HN.out).mono ?_
  rintro _ w3 ⟨rfl, hf3, hs3⟩
  have hS3 := hS2.but hs3 (by omega) (by omega)
  have hp := sput_yes gs gl sp (List.replicate 3 (-1)) 0 7 w3 hS3 (by omega) rfl
  have HP := Lib.hid hp
  have HF3 := Lib.hid hf3
  have HS3 := Lib.hid hs3
  clear hp hS3 hS2 hf3 hs3
  go_wp2_with fail
  refine (HP.out).mono ?_
  rintro _ w4 ⟨rfl, hS4, hs4⟩
  have hf4 := HF3.out.but hs4 (by omega) (by omega)
  have hsa : Safe w w4 := ((HS1.out.trans HS2.out).step HS3.out (fun k hk => .inr (by rw [show k = w.heap.size from hk]; exact Nat.le_refl _))).step hs4 (fun k hk => .inr (by rw [show k = gl from hk]; have := HS1.out.size; omega))
  have HF4 := Lib.hid hf4
  have HS4 := Lib.hid hS4
  have HSA := Lib.hid hsa
  clear hf4 hS4 hsa hs4
  go_wp2_with fail
  refine (fcount_any _ _ _ w4 HF4.out).mono ?_
  rintro _ w5 ⟨rfl, hs5⟩
  have hS5 := HS4.out.safe hs5
  have hall := sall_any gs gl sp _ w5 hS5
  have HA := Lib.hid hall
  have HS5 := Lib.hid (HSA.out.trans hs5)
  clear hall hS5 hs5
  rw [show ((List.replicate 2 zeroF).set 0 (newO 1 5 1)).countP (fun o => decide (0 < o.refs)) = 1 from rfl]
  go_wp2_with fail
  refine (HA.out).mono ?_
  rintro e w6 ⟨v, rfl, ho, hs6⟩
  obtain ⟨A, c, rfl, hc⟩ := own_form ho
  have HS6 := Lib.hid (HS5.out.trans hs6)
  clear ho hs6
  rw [show (allS ((List.replicate 3 (-1)).set 0 7)).length = 1 from rfl]
  go_wp2_with fail
  go_ret
  exact ⟨rfl, HS6.out⟩
end Go.Proofs.Ytlojadpbdbhmiaa
