/- Processes: awake of law 22. -/
import Derived.Test.YtlojadpbdbhmiaaXi
namespace Go.Proofs.Ytlojadpbdbhmiaa
open Go.RowKit
set_option linter.unusedSimpArgs false
set_option linter.unusedVariables false

theorem TRet.kept {w0 w w' : World} {gt B : Nat} {v : Value} {ps ps' : List PR} {most last now most' last' now' : Int} (h0 : Safe w0 w) (hT : TW w gt B v ps most last now) (hB : w0.heap.size ≤ B) (hg : w0.heap.size ≤ gt) (hr : TRet w w' gt B v ps' most' last' now') : Safe w0 w' := by
  obtain ⟨v', h1, h2, h3⟩ := hr
  refine h0.step h2 (fun i hi => .inr ?_)
  rcases hi with rfl | hi
  · exact hg
  · exact Nat.le_trans hB (own_blk6 hT.ho hi).1
theorem aw1 : forkM [initR] 4 1 1 = ([initR, ⟨2, 1, 1, 0, 0, false⟩], 2, 2, 0) := rfl
theorem aw2 : forkM [initR, ⟨2, 1, 1, 0, 0, false⟩] 4 2 2 = ([initR, ⟨2, 1, 1, 0, 0, false⟩, ⟨3, 2, 1, 0, 0, false⟩], 3, 3, 0) := rfl
theorem aw3 : exitM [initR, ⟨2, 1, 1, 0, 0, false⟩, ⟨3, 2, 1, 0, 0, false⟩] 3 7 = ([initR, ⟨2, 1, 1, 0, 0, false⟩, ⟨3, 2, 3, 7, 0, false⟩], 0) := rfl
theorem aw4 : waitM [initR, ⟨2, 1, 1, 0, 0, false⟩, ⟨3, 2, 3, 7, 0, false⟩] 2 = ([initR, ⟨2, 1, 1, 0, 0, false⟩], 3, 7, 0) := rfl
set_option maxRecDepth 100000 in
set_option maxHeartbeats 1000000 in
theorem awake22 (w : World) : Calls Try.prog 10 #[] w fun e w' => e = .returned (.bool true) ∧ Safe w w' := by
  go_enter Try.func10, Try.ntmps10
  go_wp2_with fail
  refine (pnew_any 4 w).mono ?_
  rintro _ w1 ⟨v1, rfl, hT1, hs1⟩
  rw [show mostP 4 = 4 from rfl] at hT1
  generalize hgt : w.heap.size + 1 = gt at *
  have hgle : w.heap.size ≤ gt := by omega
  have hF1 := pfork_any gt w.heap.size v1 [initR] 4 1 0 1 w1 hT1 (by simp) (by simp) (by omega) (by omega) (by omega)
  rw [aw1] at hF1
  have HF1 := Lib.hid hF1
  have HT1 := Lib.hid hT1
  have HS1 := Lib.hid hs1
  clear hF1 hT1 hs1
  go_wp2_with fail
  refine (HF1.out).mono ?_
  rintro _ w2 ⟨rfl, hr2⟩
  have hs2 := TRet.kept HS1.out HT1.out (Nat.le_refl _) hgle hr2
  obtain ⟨v2, hT2, _, _⟩ := hr2
  have hF2 := pfork_any gt w.heap.size v2 _ 4 2 0 2 w2 hT2 (by simp) (by simp) (by omega) (by omega) (by omega)
  rw [aw2] at hF2
  have HF2 := Lib.hid hF2
  have HT2 := Lib.hid hT2
  have HS2 := Lib.hid hs2
  clear hF2 hT2 hs2
  go_wp2_with fail
  refine (HF2.out).mono ?_
  rintro _ w3 ⟨rfl, hr3⟩
  have hs3 := TRet.kept HS2.out HT2.out (Nat.le_refl _) hgle hr3
  obtain ⟨v3, hT3, _, _⟩ := hr3
  have hF3 := pexit_any gt w.heap.size v3 _ 4 3 0 3 7 w3 hT3 (by simp) (by omega) (by omega)
  rw [aw3] at hF3
  have HF3 := Lib.hid hF3
  have HT3 := Lib.hid hT3
  have HS3 := Lib.hid hs3
  clear hF3 hT3 hs3
  go_wp2_with fail
  refine (HF3.out).mono ?_
  rintro _ w4 ⟨rfl, hr4⟩
  have hs4 := TRet.kept HS3.out HT3.out (Nat.le_refl _) hgle hr4
  obtain ⟨v4, hT4, _, _⟩ := hr4
  have hF4 := pwait_any gt w.heap.size v4 _ 4 3 0 2 w4 hT4 (by simp)
  rw [aw4] at hF4
  have HF4 := Lib.hid hF4
  have HT4 := Lib.hid hT4
  have HS4 := Lib.hid hs4
  clear hF4 hT4 hs4
  go_wp2_with fail
  refine (HF4.out).mono ?_
  rintro _ w5 ⟨rfl, hr5⟩
  have HS5 := Lib.hid (TRet.kept HS4.out HT4.out (Nat.le_refl _) hgle hr5)
  clear hr5
  go_wp2_with fail
  go_ret
  exact ⟨rfl, HS5.out⟩
end Go.Proofs.Ytlojadpbdbhmiaa
