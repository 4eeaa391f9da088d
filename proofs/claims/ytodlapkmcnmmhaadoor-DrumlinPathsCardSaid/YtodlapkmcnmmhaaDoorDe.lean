/- dirent.Read. -/
import Derived.Test.YtodlapkmcnmmhaaDoorDf
import Derived.Laws.IdiomStrings
namespace Go.Proofs.YtodlapkmcnmmhaaDoor
open Go.RowKit
set_option linter.unusedSimpArgs false
set_option linter.unusedVariables false

set_option maxRecDepth 100000 in
set_option maxHeartbeats 2000000 in
theorem dread_any (E : List En) (hE : E.length = 4) (hok : ∀ e ∈ E, OkE e) (w : World) : Calls Tryd.prog 13 #[.agg (sectA (encL E))] w fun e w' => e = .returned (.tuple #[.agg (encE E).toArray, I 0]) ∧ Safe w w' := by
  have hl : (encL E).length = 128 := by rw [encL_len hok, hE]
  have HRD := Lib.hid (fun W => read_any (encL E) hl (encL_u8 E) W)
  have HWR := Lib.hid (fun W => write_any E hE hok W)
  have hzs := fun W => zero_ents W
  rw [← outE_zero E] at hzs
  have HEQ := Lib.hid (fun W => eq_sect (encL E) hl W)
  have HL := Lib.hid hl
  have HI : Hid ((Tryd.prog.info? 34).map (·.size) = some ((encL E).map U).length) := by rw [sizeSect, List.length_map, hl]; trivial
  have HSE : Hid (((encL E).map U).toArray = sectA (encL E)) := rfl
  have hO : ∀ k e, E[k]? = some e → ((outE E k).setIfInBounds (k * 2) (I e.1)).setIfInBounds (k * 2 + 1) (Sv e.2) = outE E (k + 1) := fun k e he => by rw [Nat.mul_comm]; exact outE_step E hE k e he
  have HO := Lib.hid hO
  have hZ0 : outE E 0 = outE E 0 := rfl
  have hr1 : (((w.alloc (.cells (sectA (encL E)) 34)).alloc (.cells (outE E 0) 31)).alloc (.cells (outE E 0) 31)).rangeAt w.heap.size 0 ((encL E).map U) := encS_range (rest := []) (by rw [← sectA_enc]; exact ((Blk.new w _ _).alloc _).alloc _)
  have hb1 : Blk (((w.alloc (.cells (sectA (encL E)) 34)).alloc (.cells (outE E 0) 31)).alloc (.cells (outE E 0) 31)) w.heap.size 34 (sectA (encL E)) := ((Blk.new w _ _).alloc _).alloc _
  have hb2 : Blk (((w.alloc (.cells (sectA (encL E)) 34)).alloc (.cells (outE E 0) 31)).alloc (.cells (outE E 0) 31)) (w.heap.size + 1) 31 (outE E 0) := (Blk.new' (w := w.alloc (.cells (sectA (encL E)) 34)) (g := w.heap.size + 1) _ _ (by simp)).alloc _
  have hb4 : Blk (((w.alloc (.cells (sectA (encL E)) 34)).alloc (.cells (outE E 0) 31)).alloc (.cells (outE E 0) 31)) (w.heap.size + 1 + 1) 31 (outE E 0) := Blk.new' _ _ (by simp)
  have hs0 : Safe w (((w.alloc (.cells (sectA (encL E)) 34)).alloc (.cells (outE E 0) 31)).alloc (.cells (outE E 0) 31)) := (((But.refl _ w).alloc _).alloc _).alloc _
  have hn0 : (((w.alloc (.cells (sectA (encL E)) 34)).alloc (.cells (outE E 0) 31)).alloc (.cells (outE E 0) 31)).heap.size = w.heap.size + 1 + 1 + 1 := by simp
  have HR1 := Lib.hid hr1
  have HB1 := Lib.hid hb1
  have HB2 := Lib.hid hb2
  have HB4 := Lib.hid hb4
  have HS0 := Lib.hid hs0
  have HN0 := Lib.hid hn0
  generalize hZ : outE E 0 = Z at *
  have HZ := Lib.hid hZ
  clear hr1 hb1 hb2 hb4 hs0 hn0 hZ hO hZ0 hl
  generalize hS : sectA (encL E) = S at *
  have HS := Lib.hid hS
  clear hS
  go_enter Tryd.func13, Tryd.ntmps13
  go_wp2_with (first | refine wpList_load_mid rfl 34 (.tmp 1) rfl w.heap.size 0 rfl _ _ HR1.out Tryd.underlying34 rfl HI.out ?_ | refine wp_load_mid 34 (.tmp 1) rfl w.heap.size 0 rfl _ _ HR1.out Tryd.underlying34 rfl HI.out ?_)
  rw [HSE.out]
  refine (HRD.out _).mono ?_
  rintro _ w1 ⟨rfl, hr, hs1⟩
  rw [HN0.out] at hr ⊢
  have hS1 := HS0.out.trans hs1
  have hb1 := HB1.out.but hs1 id
  have hb2 := HB2.out.but hs1 id
  have hb4 := HB4.out.but hs1 id
  rw [← HZ.out] at hb4
  clear hs1 HR1 HS0 HB1 HB2 HB4 HN0 HRD
  go_wp2_with fail
  go_loopw [14] (fun x wr => ∃ k : Nat, k ≤ 4 ∧ x = .int .i64 k ∧ RS wr (w.heap.size + 1 + 1 + 1 + 1) (encL E) (32 * k) ∧ Blk wr (w.heap.size + 1 + 1) 31 (outE E k) ∧ Blk wr w.heap.size 34 S ∧ Blk wr (w.heap.size + 1) 31 Z ∧ Safe w wr) (fun x _ => 4 - (intOf x).toNat)
  case atStart => exact ⟨0, by omega, rfl, hr, hb4, hb1, hb2, hS1⟩
  case round =>
    obtain ⟨k, hk, rfl, hR, hB4, hB1, hB2, hS⟩ := hrel
    by_cases hlt : k < 4
    · obtain ⟨e, he⟩ : ∃ e, E[k]? = some e := ⟨_, List.getElem?_eq_getElem (by omega)⟩
      have hoe := hok e (List.mem_of_getElem? he)
      obtain ⟨E1, E2, E3⟩ := part_num E k e he (by rw [encL_len (fun x hx => hok x (List.mem_of_mem_take hx)), List.length_take]; omega) hoe
      have hlt2 : (k : Int) < 4 := by omega
      have hsz := hS.size
      have hrl := hR.hb.lt
      have hlw := hoe.len
      have HB4 := Lib.hid hB4
      have HB1 := Lib.hid hB1
      have HB2 := Lib.hid hB2
      have HSS := Lib.hid hS
      have HE := Lib.hid he
      have HOK := Lib.hid hok
      have far : ∀ i, (· = w.heap.size + 1 + 1 + 1 + 1) i → w.heap.size ≤ i := fun i hi => by have : i = w.heap.size + 1 + 1 + 1 + 1 := hi; omega
      have far1 : ∀ j, j < w.heap.size + 1 + 1 + 1 + 1 → ¬ (· = w.heap.size + 1 + 1 + 1 + 1) j := fun j hj e => by have : j = w.heap.size + 1 + 1 + 1 + 1 := e; omega
      have HF := Lib.hid far
      have HF1 := Lib.hid far1
      clear hB4 hB1 hB2 hS hok hoe he far far1 hzs
      go_wp2_with fail
      have hN := rnum_yes (w.heap.size + 1 + 1 + 1 + 1) (encL E) (32 * k) 2 wr hR (by omega) (by omega) (by omega)
      rw [E1] at hN
      refine hN.mono ?_
      rintro _ w3 ⟨rfl, hR3, hs3⟩
      clear hN hR
      have c1 : IntKind.i64.wrap (e.1 : Int) = e.1 := IntWalk.i64_in _ (by omega)
      go_wp2_with fail
      have hN := rnum_yes (w.heap.size + 1 + 1 + 1 + 1) (encL E) (32 * k + 2) 1 w3 hR3 (by omega) (by omega) (by omega)
      rw [E2] at hN
      refine hN.mono ?_
      rintro _ w4 ⟨rfl, hR4, hs4⟩
      have hs4 := hs3.trans hs4
      clear hN hR3 hs3
      have c2 : IntKind.i64.wrap (e.2.length : Int) = e.2.length := IntWalk.i64_in _ (by omega)
      go_wp2_with fail
      have hN := rbytes_yes (w.heap.size + 1 + 1 + 1 + 1) (encL E) (32 * k + 2 + 1) 29 w4 hR4 (by omega) (by omega)
      rw [E3] at hN
      refine hN.mono ?_
      rintro _ w5 ⟨A, c, rfl, hAc, ho5, hR5, hs5⟩
      have hs5 := hs4.trans hs5
      clear hN hR4 hs4
      obtain ⟨g5, rfl⟩ := own_hd ho5 (by omega)
      have hrd : Rd U w5 (some ⟨g5, 0, none⟩) (bI e.2 ++ List.replicate (29 - e.2.length) 0) := Rd.of_own (by rw [List.length_append, bI_len, List.length_replicate, show e.2.length + (29 - e.2.length) = 29 from by omega]; exact ho5)
      have hcv := run_convert_bytes_back (P := Tryd.prog) w5 77 9 5 ⟨g5, 0, none⟩ c e.2 Tryd.underlying77 Tryd.underlying5 Tryd.underlying9 (fun j hj => by
        obtain ⟨ad, h1, h2⟩ := hrd.at (k := j) (by rw [List.length_append, bI_len]; omega)
        cases h1
        rw [h2]
        rw [List.getElem_append_left (by rw [bI_len]; exact hj)]
        simp [bI])
      have hB4 := HB4.out.but hs5 (HF1.out _ (by omega))
      have hB1 := HB1.out.but hs5 (HF1.out _ (by omega))
      have hB2 := HB2.out.but hs5 (HF1.out _ (by omega))
      have hS5 := Safe.far HSS.out hs5 HF.out
      have i1 : (e.2.length : Int) ≤ 29 := by omega
      have i2 : (e.2.length : Int) ≤ (c : Int) := by omega
      clear ho5 hrd hs5 HB4 HB1 HB2 HSS E1 E2 E3
      have hsz4 := outE_size E hE k (by omega)
      obtain ⟨v0, hv0⟩ : ∃ v, (outE E k)[k * 2]? = some v := ⟨_, Array.getElem?_eq_getElem (by omega)⟩
      obtain ⟨v1, hv1⟩ : ∃ v, (outE E k)[k * 2 + 1]? = some v := ⟨_, Array.getElem?_eq_getElem (by omega)⟩
      have d0 := hB4.cell' hv0
      have d1 := hB4.cell' hv1
      have f0 := hB4.frozen (k * 2)
      have f1 := hB4.frozen (k * 2 + 1)
      have hB5 := (hB4.set (k * 2) (I e.1)).set (k * 2 + 1) (Sv e.2)
      rw [HO.out k e HE.out] at hB5
      have hB15 := (hB1.far (p := ⟨w.heap.size + 1 + 1, k * 2, none⟩) (by show w.heap.size ≠ w.heap.size + 1 + 1; omega) (I e.1)).far (p := ⟨w.heap.size + 1 + 1, k * 2 + 1, none⟩) (by show w.heap.size ≠ w.heap.size + 1 + 1; omega) (Sv e.2)
      have hB25 := (hB2.far (p := ⟨w.heap.size + 1 + 1, k * 2, none⟩) (by show w.heap.size + 1 ≠ w.heap.size + 1 + 1; omega) (I e.1)).far (p := ⟨w.heap.size + 1 + 1, k * 2 + 1, none⟩) (by show w.heap.size + 1 ≠ w.heap.size + 1 + 1; omega) (Sv e.2)
      have hS6 : Safe w ((w5.setCell ⟨w.heap.size + 1 + 1, k * 2, none⟩ (I e.1)).setCell ⟨w.heap.size + 1 + 1, k * 2 + 1, none⟩ (Sv e.2)) := (hS5.setCell (p := ⟨w.heap.size + 1 + 1, k * 2, none⟩) (.inr (by show w.heap.size ≤ w.heap.size + 1 + 1; omega)) (I e.1)).setCell (p := ⟨w.heap.size + 1 + 1, k * 2 + 1, none⟩) (.inr (by show w.heap.size ≤ w.heap.size + 1 + 1; omega)) (Sv e.2)
      have hs6 : But (· = w.heap.size + 1 + 1) w5 ((w5.setCell ⟨w.heap.size + 1 + 1, k * 2, none⟩ (I e.1)).setCell ⟨w.heap.size + 1 + 1, k * 2 + 1, none⟩ (Sv e.2)) := ((But.refl (· = w.heap.size + 1 + 1) w5).setCell (p := ⟨w.heap.size + 1 + 1, k * 2, none⟩) (.inl rfl) (I e.1)).setCell (p := ⟨w.heap.size + 1 + 1, k * 2 + 1, none⟩) (.inl rfl) (Sv e.2)
      have hR6 := hR5.but hs6 (fun e => by have : w.heap.size + 1 + 1 + 1 + 1 = w.heap.size + 1 + 1 := e; omega)
      rw [show 32 * k + 2 + 1 + 29 = 32 * (k + 1) from by omega] at hR6
      have i3 : ¬ ((29 : Int) < e.2.length) := by omega
      have HB5 := Lib.hid hB5
      have HB15 := Lib.hid hB15
      have HB25 := Lib.hid hB25
      have HS6 := Lib.hid hS6
      have HR6 := Lib.hid hR6
      clear hB5 hB15 hB25 hS6 hR6 hs6 hB4 hB1 hB2 hS5 hR5 hv0 hv1
      go_wp2_with fail
      go_roundw
      case rel => exact ⟨k + 1, by omega, by go_num, HR6.out, HB5.out, HB15.out, HB25.out, HS6.out⟩
      case measure => simp [intOf]; omega
    · obtain rfl : k = 4 := by omega
      have hsz := hS.size
      rw [outE_full E hE] at hB4
      have hAL : (Tryd.prog.info? 31).map (·.size) = some (encE E).length := by rw [sizeEnts, encE_len hE]
      have hZl : Z.size = 8 := by rw [← HZ.out, outE_size E hE 0 (by omega)]
      have hel := encE_len hE
      have hr4 : wr.rangeAt (w.heap.size + 1 + 1) 0 (encE E) := by simpa using blk_range hB4
      have hzs2 := fun W => zero_sect W
      have HR4 := Lib.hid hr4
      have HAL := Lib.hid hAL
      have HB4 := Lib.hid hB4
      have HB1 := Lib.hid hB1
      have HB2 := Lib.hid hB2
      have HSS := Lib.hid hS
      have HZL := Lib.hid hZl
      have HEL := Lib.hid hel
      clear hB4 hB1 hB2 hS hAL hr4 hok hr hS1 hb1 hb2 hb4 hR hZl hel
      go_wp2_with (refine wpList_load_mid rfl 31 (.tmp 4) rfl (w.heap.size + 1 + 1) 0 rfl _ _ HR4.out Tryd.underlying31 rfl HAL.out ?_)
      refine (HWR.out wr).mono ?_
      rintro _ w2 ⟨rfl, hs2⟩
      have hS2 := HSS.out.trans hs2
      have hB4 := HB4.out.but hs2 id
      have hB1 := HB1.out.but hs2 id
      have hB2 := HB2.out.but hs2 id
      clear HB4 HB1 HB2 HSS HR4 hs2
      have hSz : S.size = 128 := by rw [← HS.out, sectA_size, HL.out]
      have hZ9 : Blk (w2.alloc (.cells (sectA (padL [])) 34)) w2.heap.size 34 (sectA (padL [])) := Blk.new _ _ _
      have ht9 : (w2.alloc (.cells (sectA (padL [])) 34)).there w2.heap.size 0 S.size := hZ9.there (by rw [sectA_size, hSz, padL_len (by simp)]; omega)
      have hb9 := blk_sect (bs := encL E) hZ9 (by rw [HL.out, padL_len (by simp)])
      rw [HS.out] at hb9
      have hs9 : Safe w2 ((w2.alloc (.cells (sectA (padL [])) 34)).setCells w2.heap.size 0 S.toList) := ((But.refl (fun _ => False) w2).alloc _).setCells _ _ (.inr (Nat.le_refl _))
      have hB4 := hB4.but hs9 id
      have hB1 := hB1.but hs9 id
      have hB2 := hB2.but hs9 id
      have hS9 := hS2.trans hs9
      have hl9 : ((w2.alloc (.cells (sectA (padL [])) 34)).setCells w2.heap.size 0 S.toList).rangeAt w2.heap.size 0 ((encL E).map U) := encS_range (rest := []) (by rw [← sectA_enc, HS.out]; exact hb9)
      have hl1 : ((w2.alloc (.cells (sectA (padL [])) 34)).setCells w2.heap.size 0 S.toList).rangeAt w.heap.size 0 ((encL E).map U) := encS_range (rest := []) (by rw [← sectA_enc, HS.out]; exact hB1)
      have hl4 : ((w2.alloc (.cells (sectA (padL [])) 34)).setCells w2.heap.size 0 S.toList).rangeAt (w.heap.size + 1 + 1) 0 (encE E) := by simpa using blk_range hB4
      have HI2 : Hid ((Tryd.prog.info? 34).map (·.size) = some S.size) := by rw [sizeSect, hSz]; trivial
      have HO2 : Hid (S.all (·.oneCell') = true) := by rw [← HS.out]; exact all_oneCell_toArray (sect_one _)
      generalize hZe : sectA (padL []) = ZS at *
      have HT := Lib.hid ht9
      have HL9 := Lib.hid hl9
      have HL1 := Lib.hid hl1
      have HL4 := Lib.hid hl4
      have HB2 := Lib.hid hB2
      have HS9 := Lib.hid hS9
      clear hZ9 ht9 hb9 hs9 hB4 hB1 hB2 hS9 hl9 hl1 hl4 hS2 hSz hZe
      go_wp2_with (refine wpList_store_mid rfl 34 (.tmp 10) (.tmp 42) rfl w2.heap.size 0 S rfl rfl HT.out HI2.out HO2.out ?_)
      generalize (w2.alloc (.cells ZS 34)).setCells w2.heap.size 0 S.toList = w9 at *
      have heq := HEQ.out w9
      refine wp_load_mid 34 (.tmp 10) rfl w2.heap.size 0 rfl _ _ HL9.out Tryd.underlying34 rfl HI.out ?_
      go_wp2_with fail
      refine wp_load_mid 34 (.tmp 1) rfl w.heap.size 0 rfl _ _ HL1.out Tryd.underlying34 rfl HI.out ?_
      have ht2 : w9.there (w.heap.size + 1) 0 (encE E).toArray.size := HB2.out.there (by rw [List.size_toArray, HEL.out, HZL.out]; omega)
      have hi3 : (Tryd.prog.info? 31).map (·.size) = some (encE E).toArray.size := by rw [List.size_toArray]; exact HAL.out
      have hbE := blk_all (vs := (encE E).toArray.toList) HB2.out (by rw [List.toList_toArray, HEL.out, HZL.out])
      have hsE : Safe w (w9.setCells (w.heap.size + 1) 0 (encE E).toArray.toList) := HS9.out.setCells _ _ (.inr (by omega))
      have HT2 := Lib.hid ht2
      have HI3 := Lib.hid hi3
      have HBE := Lib.hid hbE
      have HSE := Lib.hid hsE
      have HON := Lib.hid (enc_one E)
      clear ht2 hi3 hbE hsE
      go_wp2_with (first | refine wpList_load_mid rfl 31 (.tmp 4) rfl (w.heap.size + 1 + 1) 0 rfl _ _ HL4.out Tryd.underlying31 rfl HAL.out ?_ | refine wp_load_mid 31 (.tmp 4) rfl (w.heap.size + 1 + 1) 0 rfl _ _ HL4.out Tryd.underlying31 rfl HAL.out ?_ | refine wpList_store_mid rfl 31 (.tmp 2) (.tmp 52) rfl (w.heap.size + 1) 0 (encE E).toArray rfl rfl HT2.out HI3.out HON.out ?_)
      have hll : (loadVar 31 ⟨w.heap.size + 1, 0, none⟩).run Tryd.prog (w9.setCells (w.heap.size + 1) 0 (encE E).toArray.toList) = .ok (.agg (encE E).toArray) _ :=
        run_loadVar_mid (P := Tryd.prog) _ (w.heap.size + 1) 0 31 (encE E) _ (by simpa using blk_range HBE.out) Tryd.underlying31 rfl HAL.out
      generalize w9.setCells (w.heap.size + 1) 0 (encE E).toArray.toList = wA at *
      exact ret_cell_tmp Tryd.results13 rfl rfl hll rfl ⟨rfl, HSE.out⟩
end Go.Proofs.YtodlapkmcnmmhaaDoor
