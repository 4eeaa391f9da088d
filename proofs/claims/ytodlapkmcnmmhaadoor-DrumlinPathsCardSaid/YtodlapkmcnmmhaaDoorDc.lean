/- dirent.Write. -/
import Derived.Test.YtodlapkmcnmmhaaDoorDb
namespace Go.Proofs.YtodlapkmcnmmhaaDoor
open Go.RowKit
set_option linter.unusedSimpArgs false
set_option linter.unusedVariables false

theorem Safe.far {S : Nat → Prop} {w w1 w2 : World} (h : Safe w w1) (k : But S w1 w2) (hs : ∀ i, S i → w.heap.size ≤ i) : Safe w w2 := h.step k (fun i hi => .inr (hs i hi))
theorem padL_full {B : List Int} (h : B.length = 128) : padL B = B := by unfold padL; rw [h]; simp
theorem sizeEnts : (Tryd.prog.info? 31).map (·.size) = some 8 := by kernel_rfl
theorem encE_len {E : List En} (h : E.length = 4) : (encE E).length = 8 := by
  match E, h with
  | [_, _, _, _], _ => rfl
theorem blk_range {w : World} {g : Nat} {t : TypeId} {cs : Array Value} (h : Blk w g t cs) : w.rangeAt g 0 cs.toList := fun j v hv => by
  rw [Nat.zero_add]
  exact h.cell' (by rw [← Array.getElem?_toList]; exact hv)
set_option maxRecDepth 100000 in
set_option maxHeartbeats 2000000 in
theorem write_any (E : List En) (hE : E.length = 4) (hok : ∀ e ∈ E, OkE e) (w : World) : Calls Tryd.prog 12 #[.agg (encE E).toArray] w fun e w' => e = .returned (.tuple #[.agg (sectA (encL E)), I 0]) ∧ Safe w w' := by
  have hzs := fun W => zero_sect W
  have hzw := fun W => zero_writer W
  have hix := fun k e h W => idx_ent E hE k e h W
  have hZ : ∀ (W : World) (t : TypeId), Blk (W.alloc (.cells (sectA (padL [])) t)) W.heap.size t (sectA (padL [])) := fun W t => Blk.new W _ _
  have hY : ∀ (W : World), WS (W.alloc (.cells (encS (padL []) [I 0, I 0]) 73)) W.heap.size [] := fun W => ⟨Blk.new W _ _, by simp⟩
  have hZs : (sectA (padL [])).size = 128 := by rw [sectA_size, padL_len (by simp)]
  generalize hZe : sectA (padL []) = Z at *
  generalize hYe : encS (padL []) [I 0, I 0] = Y at *
  have HZE := Lib.hid hZe
  have HYE := Lib.hid hYe
  have HZ := Lib.hid hZ
  have HY := Lib.hid hY
  have HZS := Lib.hid hZs
  have HIX := Lib.hid hix
  clear hZe hYe hZ hY hZs hix
  have hAL : (Tryd.prog.info? 31).map (·.size) = some (encE E).length := by rw [sizeEnts, encE_len hE]
  generalize hA : encE E = AL at *
  have hAR := blk_range ((Blk.new w 31 AL.toArray).alloc (.cells Z 34) |>.alloc (.cells Y 73))
  have HAR := Lib.hid hAR
  have HAL := Lib.hid hAL
  clear hA hAR hAL
  go_enter Tryd.func12, Tryd.ntmps12
  go_wp2_with (refine wpList_load_mid rfl 31 (.tmp 1) rfl w.heap.size 0 rfl _ _ HAR.out Tryd.underlying31 rfl HAL.out ?_)
  clear HAR HAL
  go_loopw [8] (fun x wr => ∃ k : Nat, k ≤ 4 ∧ x = .int .i64 k ∧ WS wr (w.heap.size + 1 + 1) (encL (E.take k)) ∧ Safe w wr ∧ Blk wr (w.heap.size + 1) 34 Z) (fun x _ => 4 - (intOf x).toNat)
  case atStart =>
    refine ⟨0, by omega, rfl, ?_, (((But.refl _ w).alloc _).alloc _).alloc _, ?_⟩
    · have := HY.out ((w.alloc (.cells AL.toArray 31)).alloc (.cells Z 34))
      rwa [show ((w.alloc (.cells AL.toArray 31)).alloc (.cells Z 34)).heap.size = w.heap.size + 1 + 1 from by simp] at this
    · have := (HZ.out (w.alloc (.cells AL.toArray 31)) 34).alloc (.cells Y 73)
      rwa [show (w.alloc (.cells AL.toArray 31)).heap.size = w.heap.size + 1 from by simp] at this
  case round =>
    obtain ⟨k, hk, rfl, hW, hS, hB⟩ := hrel
    by_cases hlt : k < 4
    · obtain ⟨e, he⟩ : ∃ e, E[k]? = some e := ⟨_, List.getElem?_eq_getElem (by omega)⟩
      have hoe := hok e (List.mem_of_getElem? he)
      have hi := fun W => HIX.out k e he W
      have hlt2 : (k : Int) < 4 := by omega
      have hM := Lib.hid (fun W => may_yes e.1 e.2 W hoe)
      have hlw := hoe.len
      have h75 := u64_small (n := e.1) (by omega)
      have h76 := u64_small (n := e.2.length) (by omega)
      have hN1 : Blk (wr.alloc (.cells #[I e.1, Sv e.2] 30)) wr.heap.size 30 #[I e.1, Sv e.2] := Blk.new _ _ _
      have hW1 : WS (wr.alloc (.cells #[I e.1, Sv e.2] 30)) (w.heap.size + 1 + 1) (encL (E.take k)) := hW.safe ((But.refl _ wr).alloc _)
      have hB1 : Blk (wr.alloc (.cells #[I e.1, Sv e.2] 30)) (w.heap.size + 1) 34 Z := hB.alloc _
      have hS1 : Safe w (wr.alloc (.cells #[I e.1, Sv e.2] 30)) := hS.alloc _
      have hb : (encL (E.take k)).length = 32 * k := by
        rw [encL_len (fun x hx => hok x (List.mem_of_mem_take hx)), List.length_take]
        omega
      have hsz := hS.size
      have hwl := hW.hb.lt
      have HB := Lib.hid hb
      have HW1 := Lib.hid hW1
      have HB1 := Lib.hid hB1
      have HS1 := Lib.hid hS1
      have HN1 := Lib.hid hN1
      have HOE := Lib.hid hoe
      have HE := Lib.hid he
      have HOK := Lib.hid hok
      clear hW1 hB1 hN1 hS1 hW hS hB hoe he HY HZ hzw hzs hb hok
      go_wp2_with fail
      refine (hM.out _).mono ?_
      rintro _ w2 ⟨rfl, hs2⟩
      have hW2 := HW1.out.safe hs2
      have hB2 := HB1.out.but hs2 id
      have hN2 := HN1.out.but hs2 id
      have hS2 := HS1.out.trans hs2
      clear hs2 HW1 HB1 HN1 HS1 hM
      have d0 := hN2.cell' (i := 0) (v := I e.1) rfl
      go_wp2_with fail
      refine (wnum_yes (w.heap.size + 1 + 1) _ 2 e.1 w2 hW2 (by omega) (by omega) (by rw [HB.out]; omega) (by omega)).mono ?_
      rintro _ w3 ⟨rfl, hW3, hb3⟩
      have far : ∀ i, (· = w.heap.size + 1 + 1) i → w.heap.size ≤ i := fun i hi => by have : i = w.heap.size + 1 + 1 := hi; omega
      have far1 : ¬ (· = w.heap.size + 1 + 1) (w.heap.size + 1) := fun e => by have : w.heap.size + 1 = w.heap.size + 1 + 1 := e; omega
      have far2 : ¬ (· = w.heap.size + 1 + 1) wr.heap.size := fun e => by have : wr.heap.size = w.heap.size + 1 + 1 := e; omega
      have hS3 := Safe.far hS2 hb3 far
      have hB3 := hB2.but hb3 far1
      have hN3 := hN2.but hb3 far2
      clear hS2 hB2 hN2 hb3 hW2 d0
      have d1 := hN3.cell' (i := 1) (v := Sv e.2) rfl
      go_wp2_with fail
      refine (wnum_yes (w.heap.size + 1 + 1) _ 1 e.2.length w3 hW3 (by omega) (by omega) (by rw [List.length_append, HB.out, lowL_len]; omega) (by omega)).mono ?_
      rintro _ w4 ⟨rfl, hW4, hb4⟩
      have hS4 := Safe.far hS3 hb4 far
      have hB4 := hB3.but hb4 far1
      have hN4 := hN3.but hb4 far2
      clear hS3 hB3 hN3 hb4 hW3 d1
      have d1 := hN4.cell' (i := 1) (v := Sv e.2) rfl
      obtain ⟨w5, c, hcv, hR5, hb5⟩ := conv_any e.2 w4
      have hW5 := hW4.safe hb5
      have hS5 := hS4.trans hb5
      have hB5 := hB4.but hb5 id
      clear hS4 hB4 hN4 hb5 hW4
      go_wp2_with fail
      have hwb := wbytes_yes (w.heap.size + 1 + 1) _ 29 (some ⟨w4.heap.size, 0, none⟩) (bI e.2) c w5 hW5 hR5 (by rw [bI_len]; omega) (by rw [List.length_append, List.length_append, HB.out, lowL_len, lowL_len]; omega) (by rw [List.length_append, List.length_append, HB.out, lowL_len, lowL_len]; omega)
      rw [bI_len] at hwb
      refine hwb.mono ?_
      rintro _ w6 ⟨rfl, hW6, hb6⟩
      have hS6 := Safe.far hS5 hb6 far
      have hB6 := hB5.but hb6 far1
      have hsn := encL_snoc E k e HE.out
      have hW7 : WS w6 (w.heap.size + 1 + 1) (encL (E.take (k + 1))) := by
        rw [hsn]
        unfold encD
        simpa only [List.append_assoc] using hW6
      clear hsn hW6 hW5 hS5 hB5 hb6 hcv hR5 d1 hwb hi
      have HW7 := Lib.hid hW7
      have HS6 := Lib.hid hS6
      have HB6 := Lib.hid hB6
      clear hW7 hS6 hB6
      go_wp2_with fail
      go_roundw
      case rel => exact ⟨k + 1, by omega, by go_num, HW7.out, HS6.out, HB6.out⟩
      case measure => simp [intOf]; omega
    · obtain rfl : k = 4 := by omega
      have hW : WS wr (w.heap.size + 1 + 1) (encL E) := by rw [List.take_of_length_le (by omega)] at hW; exact hW
      have hsz := hS.size
      have hlt := hB.lt
      have hpl : (padL (encL E)).length = 128 := padL_len hW.len
      have hpe : padL (encL E) = encL E := padL_full (by rw [encL_len hok, hE])
      clear HY HZ hzw hzs
      go_wp2_with fail
      refine (wsector_yes (w.heap.size + 1 + 1) _ wr hW).mono ?_
      rintro _ w7 ⟨rfl, hb7⟩
      have hS7 := hS.trans hb7
      have hB7 := hB.but hb7 id
      have ht : w7.there (w.heap.size + 1) 0 (sectA (padL (encL E))).size := hB7.there (by rw [sectA_size, hpl, HZS.out]; omega)
      have hi2 : (Tryd.prog.info? 34).map (·.size) = some (sectA (padL (encL E))).size := by rw [sizeSect, sectA_size, hpl]
      have hone : (sectA (padL (encL E))).all (·.oneCell') = true := all_oneCell_toArray (sect_one _)
      have hbA := blk_sect (bs := padL (encL E)) (cs := padL []) (by rw [HZE.out]; exact hB7) (by rw [hpl, padL_len (by simp)])
      have hsA : Safe w (w7.setCells (w.heap.size + 1) 0 (sectA (padL (encL E))).toList) := hS7.setCells _ _ (.inr (by omega))
      have HT := Lib.hid ht
      have HI2 := Lib.hid hi2
      have HO := Lib.hid hone
      have HBA := Lib.hid hbA
      have HSA := Lib.hid hsA
      have HPL := Lib.hid hpl
      have HPE := Lib.hid hpe
      clear ht hi2 hone hbA hsA hS7 hB7 hb7 hS hB hW hok hpl hpe
      go_wp2_with (refine wpList_store_mid rfl 34 (.tmp 2) (.tmp 30) rfl (w.heap.size + 1) 0 (sectA (padL (encL E))) rfl rfl HT.out HI2.out HO.out ?_)
      have hll : (loadVar 34 ⟨w.heap.size + 1, 0, none⟩).run Tryd.prog (w7.setCells (w.heap.size + 1) 0 (sectA (padL (encL E))).toList) = .ok (.agg (sectA (padL (encL E)))) _ :=
        run_loadVar_mid (P := Tryd.prog) _ (w.heap.size + 1) 0 34 ((padL (encL E)).map U) _ (encS_range (rest := []) (by rw [← sectA_enc]; exact HBA.out)) Tryd.underlying34 rfl (by rw [sizeSect, List.length_map, HPL.out])
      generalize w7.setCells (w.heap.size + 1) 0 (sectA (padL (encL E))).toList = wA at *
      exact ret_cell_tmp Tryd.results12 rfl rfl hll rfl ⟨congrArg (fun l => Ending.returned (.tuple #[.agg (sectA l), I 0])) HPE.out, HSA.out⟩
end Go.Proofs.YtodlapkmcnmmhaaDoor
