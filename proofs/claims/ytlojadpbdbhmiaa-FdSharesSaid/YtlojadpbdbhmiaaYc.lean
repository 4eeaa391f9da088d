/- FdShares: the walk. -/
import Derived.Test.YtlojadpbdbhmiaaYb
import Derived.Test.YtlojadpbdbhmiaaFw
import Derived.Test.YtlojadpbdbhmiaaFk
import Derived.IntWalk
namespace Go.Proofs.Ytlojadpbdbhmiaa
open Go.RowKit
open Go.Maps (Keyed)
set_option linter.unusedSimpArgs false
set_option linter.unusedVariables false

theorem mod_at (x : Int) {n : Nat} (hn : 1 ≤ n) (h6 : n ≤ 1000) : ∃ m : Nat, m < n ∧ (wrap64 (x.tmod n + n)).tmod n = m := by
  have h1 := Int.tmod_lt_of_pos x (show (0 : Int) < n by omega)
  have h2 : -(n : Int) < x.tmod n := by
    have := Int.lt_tmod_of_pos x (show (0 : Int) < n by omega)
    omega
  rw [IntWalk.wrap64_in _ (by omega)]
  have h3 : 0 ≤ x.tmod n + n := by omega
  have h4 := Int.tmod_nonneg (n : Int) h3
  have h5 := Int.tmod_lt_of_pos (x.tmod n + n) (show (0 : Int) < n by omega)
  exact ⟨((x.tmod n + n).tmod n).toNat, by omega, by omega⟩
theorem map_set_ids (L : List ST) (m : Nat) (s : ST) (ids' : List Int) : (L.set m { s with ids := ids' }).map (·.ids) = (L.map (·.ids)).set m ids' := by rw [List.map_set]
set_option maxRecDepth 100000 in
set_option maxHeartbeats 4000000 in
theorem shares_walk (A : Option Addr) (n c : Nat) (D : Nat → ActF) (w : World) (hn : n ≤ c) (hc : c ≤ 9223372036854775807) (hD : ActsAt w A n D) :
    Calls Try.prog 9 #[.slice A n c] w fun e w' => e = .returned (.bool true) ∧ Safe w w' := by
  have hmm := @run_makeMap Try.prog
  have HD := Lib.hid hD
  clear hD
  go_enter Try.func9, Try.ntmps9
  go_wp2_with fail
  refine (awake20 _).mono ?_
  rintro _ w1 ⟨rfl, hs1⟩
  go_wp2_with fail
  refine (newf_any 20 w1).mono ?_
  rintro _ w2 ⟨rfl, hF2, hs2⟩
  rw [show mostF 20 = 20 from rfl] at hF2
  have hgf : w.heap.size ≤ w1.heap.size := hs1.size
  generalize hgf1 : w1.heap.size + 1 = gf at *
  generalize hgf0 : w1.heap.size = gfl at *
  have HF2 := Lib.hid hF2
  have HS2 := Lib.hid (hs1.trans hs2)
  clear hF2 hs1 hs2
  go_wp2_with fail
  refine (news_any 8 w2).mono ?_
  rintro _ w3 ⟨gs0, gl0, sp0, rfl, hS3, hb1, hb2, hs3⟩
  rw [show mostS 8 = 8 from rfl] at hS3
  have h0 : SH w (w3.alloc (.cells #[.pointer (some ⟨gs0, 0, none⟩)] 61)) gf gfl (List.replicate 20 zeroF) [⟨gs0, gl0, sp0, List.replicate 8 (-1)⟩] (.slice (some ⟨w3.heap.size, 0, none⟩) 1 1) := by
    have ha : Safe w3 (w3.alloc (.cells #[.pointer (some ⟨gs0, 0, none⟩)] 61)) := (But.refl _ w3).alloc _
    have h1 := HS2.out.size
    have h2 := hs3.size
    refine ⟨(HF2.out.safe hs3).safe ha, fun s m => ?_, by simp, ?_, ⟨by omega, by omega⟩, fun s m => ?_, (HS2.out.trans hs3).trans ha⟩
    · rw [List.mem_singleton] at m; subst m; exact hS3.safe ha
    · exact World.ownsRow_lit (base := w.heap.size) (e := 61) (size := 1) w3 #[.pointer (some ⟨gs0, 0, none⟩)] 1 (by omega) (by simp [maxLen]) rfl
    · rw [List.mem_singleton] at m; subst m; exact ⟨by show _ ≤ gs0; omega, by show _ ≤ gl0; omega⟩
  have hsh := Sh.start
  have H0 := Lib.hid h0
  have HSH := Lib.hid hsh
  obtain ⟨W3, hW3⟩ : ∃ W3, W3 = w3.alloc (.cells #[.pointer (some ⟨gs0, 0, none⟩)] 61) := ⟨_, rfl⟩
  rw [← hW3] at h0
  have H0 := Lib.hid h0
  have HW3 := Lib.hid hW3
  clear h0 hsh hS3 hs3 hgf1 hgf0 hW3
  go_wp2_with fail
  rw [← HW3.out]
  generalize w3.heap.size = q3 at *
  go_loopw [4, 5] (fun v x wr => ∃ (i : Nat) (os : List FO) (L : List ST), i ≤ n ∧ i ≤ 60 ∧ x = .int .i64 i ∧ Sh os (L.map (·.ids)) noE ∧ SH w wr gf gfl os L v) (fun _ x _ => 60 - (intOf x).toNat)
  case atStart => exact ⟨0, _, _, by omega, by omega, rfl, HSH.out, H0.out⟩
  case round =>
    obtain ⟨i, os, L, hin, hi60, rfl, hP, hH⟩ := hrel
    obtain ⟨wo, rfl⟩ : ∃ wo : World, wo = wr := ⟨_, rfl⟩
    obtain ⟨Av, cv, hv, hcv⟩ := own_form hH.row
    subst hv
    have hL1 : 1 ≤ L.length := by have := hP.n1; simpa using this
    have hL6 : L.length ≤ 6 := by have := hP.n6; simpa using this
    have HP := Lib.hid hP
    have HH := Lib.hid hH
    clear hP hH
    by_cases hlt : i < n ∧ i < 60
    · obtain ⟨hlt, h60⟩ := hlt
      obtain ⟨ad, hA, c0, c1, c2, c3, -, -, -, -⟩ := HD.out i hlt
      subst hA
      rw [add_split4] at c1 c2 c3
      rw [Nat.add_zero] at c0
      have c0 := HH.out.safe.cell c0 id
      have c1 := HH.out.safe.cell c1 id
      have c2 := HH.out.safe.cell c2 id
      have c3 := HH.out.safe.cell c3 id
      generalize D i = a at *
      obtain ⟨m, hm, hmm2⟩ := mod_at a.a hL1 (show L.length ≤ 1000 by omega)
      have hmi : (m : Int) < L.length := by omega
      obtain ⟨kk, hkl, hkk⟩ := mod_at a.kind (n := 4) (by omega) (by omega)
      rw [show ((4 : Nat) : Int) = 4 from rfl] at hkk
      obtain ⟨s, hs⟩ : ∃ s, L[m]? = some s := ⟨_, List.getElem?_eq_getElem hm⟩
      obtain ⟨gv, rfl⟩ := own_hd HH.out.row (show 0 < L.length by omega)
      have hcs : wo.cell? ⟨gv, m, none⟩ = some (.pointer (some ⟨s.gs, 0, none⟩)) := by
        have := (Rd.of_own HH.out.row) (by omega)
        obtain ⟨ad2, e, hcc⟩ := this
        injection e with e
        have := hcc m s hs
        rwa [← e, add_plain, Nat.zero_add] at this
      have hcs2 : (wo.alloc (.cells #[I a.kind, I a.a, I a.b, I a.c] 44)).cell? ⟨gv, m, none⟩ = some (.pointer (some ⟨s.gs, 0, none⟩)) := cell_alloc hcs _
      have hsi : (L.map (·.ids))[m]? = some s.ids := by rw [List.getElem?_map, hs]; rfl
      obtain ⟨wa, hwa⟩ : ∃ wa, wa = wo.alloc (.cells #[I a.kind, I a.a, I a.b, I a.c] 44) := ⟨_, rfl⟩
      have hsa : Safe wo wa := by rw [hwa]; exact (But.refl _ wo).alloc _
      have hHa := HH.out.move hsa
      have hsw := hHa.all s (List.mem_of_getElem? hs)
      have HWA := Lib.hid hwa
      have HHA := Lib.hid hHa
      have HS := Lib.hid hs
      have HSI := Lib.hid hsi
      have HSW := Lib.hid hsw
      clear hwa hsa hHa hs hsi hsw
      have hk4 : kk = 0 ∨ kk = 1 ∨ kk = 2 ∨ kk = 3 := by omega
      clear hkl
      rcases hk4 with rfl | rfl | rfl | rfl
      · rw [show ((0 : Nat) : Int) = 0 from rfl] at hkk
        have hO := fopenM gf gfl os 1 1 1 wa HHA.out.fw
        rcases HP.out.open_ with e | ⟨k, hk, e, hc0, hp, hh⟩
        · rw [e] at hO
          have HO := Lib.hid hO
          clear hO e
          go_wp2_with fail
          rw [← HWA.out]
          refine (HO.out).mono ?_
          rintro _ w4 ⟨rfl, hf4, hb4⟩
          have H4 := Lib.hid (HHA.out.turnF hb4 hf4)
          clear hf4 hb4
          go_wp2_with fail
          go_roundw
          case rel => exact ⟨i + 1, os, L, by omega, by omega, by go_num, HP.out, H4.out⟩
          case measure => simp [intOf]; omega
        · rw [e] at hO
          have HO := Lib.hid hO
          have HPF := Lib.hid hp
          clear hO e hp
          cases hj : freeS s.ids with
          | some j =>
            obtain ⟨e2, hP2⟩ := HP.out.put_yes hk hc0 HSI.out hj
            rw [← map_set_ids L m s] at hP2
            have HP2 := Lib.hid hP2
            have HE2 := Lib.hid e2
            clear hj e2 hP2 hh hc0
            go_wp2_with fail
            rw [← HWA.out]
            refine (HO.out).mono ?_
            rintro _ w4 ⟨rfl, hf4, hb4⟩
            have hH4 := HHA.out.turnF hb4 hf4
            have hS4 := sputM s.gs s.gl s.sp s.ids w4 k (hH4.all s (List.mem_of_getElem? HS.out))
            rw [HE2.out] at hS4
            have H4 := Lib.hid hH4
            have HS4 := Lib.hid hS4
            clear hf4 hb4 hS4 hH4
            go_wp2_with fail
            refine (HS4.out).mono ?_
            rintro _ w5 ⟨rfl, hS5, hb5⟩
            have H5 := Lib.hid (H4.out.turnS HS.out hb5 hS5)
            clear hS5 hb5
            go_wp2_with fail
            go_roundw
            case rel => exact ⟨i + 1, _, _, by omega, by omega, by go_num, HP2.out, H5.out⟩
            case measure => simp [intOf]; omega
          | none =>
            obtain ⟨e2, e3, hP2⟩ := HP.out.put_no hk hc0 hh hj
            have HP2 := Lib.hid hP2
            have HE2 := Lib.hid e2
            have HE3 := Lib.hid e3
            clear hj e2 e3 hP2 hh hc0
            go_wp2_with fail
            rw [← HWA.out]
            refine (HO.out).mono ?_
            rintro _ w4 ⟨rfl, hf4, hb4⟩
            have hH4 := HHA.out.turnF hb4 hf4
            have hS4 := sputM s.gs s.gl s.sp s.ids w4 k (hH4.all s (List.mem_of_getElem? HS.out))
            rw [HE2.out] at hS4
            have H4 := Lib.hid hH4
            have HS4 := Lib.hid hS4
            clear hf4 hb4 hS4 hH4
            go_wp2_with fail
            refine (HS4.out).mono ?_
            rintro _ w5 ⟨rfl, hS5, hb5⟩
            have hH5 := H4.out.turnS HS.out hb5 hS5
            rw [show L.set m { s with ids := s.ids } = L from set_same' HS.out] at hH5
            have hC5 := fcloseM gf gfl _ k w5 hH5.fw HPF.out
            rw [HE3.out] at hC5
            have H5 := Lib.hid hH5
            have HC5 := Lib.hid hC5
            clear hS5 hb5 hC5 hH5
            go_wp2_with fail
            refine (HC5.out).mono ?_
            rintro _ w6 ⟨rfl, hf6, hb6⟩
            have H6 := Lib.hid (H5.out.turnF hb6 hf6)
            clear hf6 hb6
            go_wp2_with fail
            go_roundw
            case rel =>
              first
                | exact ⟨i + 1, _, L, by omega, by omega, by go_num, HP2.out, H6.out.move ((But.refl _ _).alloc _)⟩
                | exact ⟨i + 1, _, L, by omega, by omega, by go_num, HP2.out, H6.out.move (((But.refl _ _).alloc _).setCells _ _ (.inr (Nat.le_refl _)))⟩
            case measure => simp [intOf]; omega
      · rw [show ((1 : Nat) : Int) = 1 from rfl] at hkk
        have hT := stakeM s.gs s.gl s.sp s.ids wa a.b HSW.out
        rcases HP.out.take HSI.out a.b with e | ⟨x, ids', os', o, b, e, e2, hP2⟩
        · rw [e] at hT
          have HT := Lib.hid hT
          clear hT e
          go_wp2_with fail
          rw [← HWA.out]
          refine (HT.out).mono ?_
          rintro _ w4 ⟨rfl, hS4, hb4⟩
          have hH4 := HHA.out.turnS HS.out hb4 hS4
          rw [show L.set m { s with ids := s.ids } = L from set_same' HS.out] at hH4
          have H4 := Lib.hid hH4
          clear hS4 hb4 hH4
          go_wp2_with fail
          go_roundw
          case rel => exact ⟨i + 1, os, L, by omega, by omega, by go_num, HP.out, H4.out⟩
          case measure => simp [intOf]; omega
        · rw [e] at hT
          rw [← map_set_ids L m s] at hP2
          have HT := Lib.hid hT
          have HE2 := Lib.hid e2
          have HP2 := Lib.hid hP2
          clear hT e e2 hP2
          go_wp2_with fail
          rw [← HWA.out]
          refine (HT.out).mono ?_
          rintro _ w4 ⟨rfl, hS4, hb4⟩
          have hH4 := HHA.out.turnS HS.out hb4 hS4
          have hC4 := fcloseM gf gfl os x w4 hH4.fw HP.out.pos
          rw [HE2.out] at hC4
          have H4 := Lib.hid hH4
          have HC4 := Lib.hid hC4
          clear hS4 hb4 hH4 hC4
          go_wp2_with fail
          refine (HC4.out).mono ?_
          rintro _ w6 ⟨rfl, hf6, hb6⟩
          have H6 := Lib.hid (H4.out.turnF hb6 hf6)
          clear hf6 hb6
          go_wp2_with fail
          go_roundw
          case rel =>
            first
              | exact ⟨i + 1, _, _, by omega, by omega, by go_num, HP2.out, H6.out.move ((But.refl _ _).alloc _)⟩
              | exact ⟨i + 1, _, _, by omega, by omega, by go_num, HP2.out, H6.out.move (((But.refl _ _).alloc _).setCells _ _ (.inr (Nat.le_refl _)))⟩
          case measure => simp [intOf]; omega
      · rw [show ((2 : Nat) : Int) = 2 from rfl] at hkk
        have hG := sgetM s.gs s.gl s.sp s.ids wa a.b HSW.out
        rcases HP.out.get HSI.out a.b with e | ⟨x, e, e2 | ⟨j, ids', os', e2, e3, hP2⟩⟩
        · rw [e] at hG
          have HG := Lib.hid hG
          clear hG e
          go_wp2_with fail
          rw [← HWA.out]
          refine (HG.out).mono ?_
          rintro _ _ ⟨rfl, rfl⟩
          go_wp2_with fail
          go_roundw
          case rel => exact ⟨i + 1, os, L, by omega, by omega, by go_num, HP.out, HHA.out⟩
          case measure => simp [intOf]; omega
        · rw [e] at hG
          have HG := Lib.hid hG
          have hQ := sputM s.gs s.gl s.sp s.ids wa x HSW.out
          rw [e2] at hQ
          have HQ := Lib.hid hQ
          clear hG e e2 hQ
          go_wp2_with fail
          rw [← HWA.out]
          refine (HG.out).mono ?_
          rintro _ _ ⟨rfl, rfl⟩
          go_wp2_with fail
          refine (HQ.out).mono ?_
          rintro _ w4 ⟨rfl, hS4, hb4⟩
          have hH4 := HHA.out.turnS HS.out hb4 hS4
          rw [show L.set m { s with ids := s.ids } = L from set_same' HS.out] at hH4
          have H4 := Lib.hid hH4
          clear hS4 hb4 hH4
          go_wp2_with fail
          go_roundw
          case rel => exact ⟨i + 1, os, L, by omega, by omega, by go_num, HP.out, H4.out⟩
          case measure => simp [intOf]; omega
        · rw [e] at hG
          have HG := Lib.hid hG
          have hQ := sputM s.gs s.gl s.sp s.ids wa x HSW.out
          rw [e2] at hQ
          rw [← map_set_ids L m s] at hP2
          have HQ := Lib.hid hQ
          have HE3 := Lib.hid e3
          have HP2 := Lib.hid hP2
          clear hG e e2 hQ e3 hP2
          go_wp2_with fail
          rw [← HWA.out]
          refine (HG.out).mono ?_
          rintro _ _ ⟨rfl, rfl⟩
          go_wp2_with fail
          refine (HQ.out).mono ?_
          rintro _ w4 ⟨rfl, hS4, hb4⟩
          have hH4 := HHA.out.turnS HS.out hb4 hS4
          have hR4 := frefM gf gfl os x w4 hH4.fw HP.out.pos
          rw [HE3.out] at hR4
          have H4 := Lib.hid hH4
          have HR4 := Lib.hid hR4
          clear hS4 hb4 hH4 hR4
          go_wp2_with fail
          refine (HR4.out).mono ?_
          rintro _ w6 ⟨rfl, hf6, hb6⟩
          have H6 := Lib.hid (H4.out.turnF hb6 hf6)
          clear hf6 hb6
          go_wp2_with fail
          go_roundw
          case rel => exact ⟨i + 1, _, _, by omega, by omega, by go_num, HP2.out, H6.out⟩
          case measure => simp [intOf]; omega
      · rw [show ((3 : Nat) : Int) = 3 from rfl] at hkk
        have hfit := HP.out.fit s.ids (List.mem_of_getElem? HSI.out)
        by_cases h5 : L.length < 6
        · have h5i : (L.length : Int) < 6 := by omega
          have hCl := sclone_any s.gs s.gl s.sp s.ids wa HSW.out (by rw [hfit.1]; omega)
          have HCl := Lib.hid hCl
          clear hCl
          go_wp2_with fail
          rw [← HWA.out]
          refine (HCl.out).mono ?_
          rintro e w4 ⟨gs', gl', sp', rfl, hS4, hg1, hg2, hs4⟩
          have hH4 := HHA.out.move hs4
          have hA4 := sall_any gs' gl' sp' s.ids w4 hS4
          have HS4 := Lib.hid hS4
          have HSF4 := Lib.hid hs4
          have HA4 := Lib.hid hA4
          clear hS4 hs4 hA4
          go_wp2_with fail
          refine (HA4.out).mono ?_
          rintro e w5 ⟨v5, rfl, ho5, hs5⟩
          obtain ⟨A5, c5, rfl, hc5⟩ := own_form ho5
          have hH5 := hH4.move hs5
          have hS5 := HS4.out.safe hs5
          have hal : (allS s.ids).length ≤ 8 := by have := List.length_filter_le (fun x => x != -1) s.ids; unfold allS; rw [hfit.1] at this; omega
          have HO5 := Lib.hid ho5
          have H5 := Lib.hid hH5
          have HS5 := Lib.hid hS5
          have hgl5 : w.heap.size ≤ gs' ∧ w.heap.size ≤ gl' := by have := HHA.out.safe.size; omega
          have hne5 : ∀ a ∈ L, a.gl ≠ gl' := fun a ha => by have := (HHA.out.all a ha).hl.lt; omega
          have HNE5 := Lib.hid hne5
          clear hne5
          have HSW5 := Lib.hid (HSF4.out.trans hs5)
          have hPe := HP.out.ref0 (allS s.ids)
          have HPE := Lib.hid hPe
          clear ho5 hH5 hS5 hs5 hH4 hg1 hg2 hPe
          go_wp2_with fail
          go_loopw [82] (fun x wr => ∃ (q : Nat) (os2 : List FO), q ≤ (allS s.ids).length ∧ x = .int .i64 q ∧ Sh os2 (L.map (·.ids)) (eAt (allS s.ids) q) ∧ FW wr gf gfl os2 ∧ But (· = gfl) w5 wr) (fun x _ => (allS s.ids).length - (intOf x).toNat)
          case atStart => exact ⟨0, os, by omega, rfl, HPE.out, H5.out.fw, But.refl _ _⟩
          case round =>
            obtain ⟨q, os2, hq, rfl, hPq, hFq, hbq⟩ := hrel
            obtain ⟨wq, rfl⟩ : ∃ wq : World, wq = wr := ⟨_, rfl⟩
            have HPQ := Lib.hid hPq
            have HFQ := Lib.hid hFq
            have HBQ := Lib.hid hbq
            clear hPq hFq hbq
            by_cases hlq : q < (allS s.ids).length
            · obtain ⟨x, hx⟩ : ∃ x, (allS s.ids)[q]? = some x := ⟨_, List.getElem?_eq_getElem hlq⟩
              have hoq := own_but_kept HO5.out HBQ.out (fun k hk e => by
                obtain ⟨_, cs, hB⟩ := ownT_blk HO5.out hk
                exact hB.ne H5.out.fw.hl (by decide) e)
              obtain ⟨ad5, rfl, hcell⟩ := (Rd.of_own (enc := I) hoq).at hlq
              have ex : (allS s.ids)[q] = x := by rw [List.getElem?_eq_getElem hlq] at hx; injection hx
              rw [ex] at hcell
              obtain ⟨os3, e3, hP3⟩ := HPQ.out.ref1 (List.mem_of_getElem? HSI.out) hx
              have hR := frefM gf gfl os2 x wq HFQ.out HPQ.out.pos
              rw [e3] at hR
              have hqi : (q : Int) < (allS s.ids).length := by omega
              have HR := Lib.hid hR
              have HP3 := Lib.hid hP3
              clear hR hP3 e3 ex hx hoq
              go_wp2_with fail
              refine (HR.out).mono ?_
              rintro _ w6 ⟨rfl, hf6, hb6⟩
              have HF6 := Lib.hid hf6
              have HB6 := Lib.hid (HBQ.out.trans hb6)
              clear hf6 hb6 hcell
              go_wp2_with fail
              go_roundw
              case rel => exact ⟨q + 1, os3, by omega, by go_num, HP3.out, HF6.out, HB6.out⟩
              case measure => simp [intOf]; omega
            · obtain rfl : q = (allS s.ids).length := by omega
              have hP6 := HPQ.out.cloned (List.mem_of_getElem? HSI.out) (by simpa using h5)
              rw [show L.map (·.ids) ++ [s.ids] = (L ++ [(⟨gs', gl', sp', s.ids⟩ : ST)]).map (·.ids) from by simp] at hP6
              have hH6 := H5.out.turnF HBQ.out HFQ.out
              have hS6 := HS5.out.but HBQ.out (fun e => HS5.out.hp.ne H5.out.fw.hl (by decide) e) (fun e => HS5.out.hl.ne H5.out.fw.hl (by decide) e)
              have HP6 := Lib.hid hP6
              have H6 := Lib.hid hH6
              have HS6 := Lib.hid hS6
              clear hP6 hH6 hS6
              have h63 : L.length + 1 ≤ maxLen := by simp [maxLen]; omega
              have hby1 : (L.length + 1) * 8 ≤ 140737488355328 := by omega
              have hone1 : ∀ u ∈ (#[.pointer (some ⟨gs', 0, none⟩)] : Array Value).toList, u.oneCell' = true := by simp [Value.oneCell']
              have H11 := Lib.hid hone1
              clear hone1
              go_wp2_with (at_builtin; (refine wpList_push slPsetT rfl (.tmp 91) (.tmp 93) rfl w.heap.size (.slice (some ⟨gv, 0, none⟩) L.length cv) L.length (L.map ptrT) rfl (own_safe H6.out.row ((But.refl _ _).alloc _)) wq.heap.size 61 #[.pointer (some ⟨gs', 0, none⟩)] rfl (Blk.new _ _ _) rfl H11.out h63 hby1 (Nat.le_trans H6.out.safe.size (((But.refl (fun _ => False) wq).alloc _).size)) ?_); intro v1 w7 ho hg hd; have hH7 := H6.out.push (s := ⟨gs', gl', sp', s.ids⟩) ((But.refl _ wq).alloc _) (HS6.out.safe ((But.refl _ wq).alloc _)) HNE5.out hgl5.1 hgl5.2 v1 ho hg; have H7 := Lib.hid hH7; clear ho hg hd hH7)
              go_roundw
              case rel => exact ⟨i + 1, os2, _, by omega, by omega, by go_num, HP6.out, H7.out⟩
              case measure => simp [intOf]; omega
        · have h5i : ¬ (L.length : Int) < 6 := by omega
          go_wp2_with fail
          go_roundw
          case rel => exact ⟨i + 1, os, L, by omega, by omega, by go_num, HP.out, HH.out.move ((But.refl _ _).alloc _)⟩
          case measure => simp [intOf]; omega
    · have hne2 : (¬ i < n) ∨ (i < n ∧ ¬ ((i : Int) < 60)) := by
        by_cases h1 : i < n
        · exact .inr ⟨h1, fun h2 => hlt ⟨h1, by omega⟩⟩
        · exact .inl h1
      clear hlt
      obtain ⟨bm, hbm⟩ : ∃ bm, bm = wo.heap.size := ⟨_, rfl⟩
      obtain ⟨wm, hwm⟩ : ∃ wm, wm = wo.alloc (.map #[] 0) := ⟨_, rfl⟩
      have hm0 : wm.ownsMap Try.prog 3 (plainElem (H := Unit) Try.prog 3) bm 0 (.map []) := by rw [hwm, hbm]; exact World.ownsMap_made _ _ _ _
      have hHm := HH.out.move ((But.refl _ wo).alloc (.map #[] 0))
      rw [← hwm] at hHm
      have hbm0 : w.heap.size ≤ bm := by rw [hbm]; exact HH.out.safe.size
      have HM0 := Lib.hid hm0
      have HHM := Lib.hid hHm
      have HWM := Lib.hid hwm
      have HBM := Lib.hid hbm
      clear hm0 hHm hwm hbm
      rcases hne2 with h1 | ⟨h1, h2⟩
      all_goals
        go_wp2_with fail
        rw [← HWM.out, ← HBM.out]
        go_loopw [173] (fun x wr => ∃ (p : Nat) (D2 : DataW Unit), p ≤ L.length ∧ x = .int .i64 p ∧ MapN D2 (doneS (L.map (·.ids)) p) ∧ SH w wr gf gfl os L (.slice Av L.length cv) ∧ wr.ownsMap Try.prog 3 (plainElem Try.prog 3) bm (p * 8) D2) (fun x _ => L.length - (intOf x).toNat)
        case atStart => exact ⟨0, .map [], by omega, rfl, MapN.nil, HHM.out, HM0.out⟩
        case round =>
          obtain ⟨p, D2, hp, rfl, hN, hHp, hmp⟩ := hrel
          obtain ⟨wp, rfl⟩ : ∃ wp : World, wp = wr := ⟨_, rfl⟩
          have HN := Lib.hid hN
          have HHP := Lib.hid hHp
          have HMP := Lib.hid hmp
          clear hN hHp
          by_cases hlp : p < L.length
          · have hpi : (p : Int) < L.length := by omega
            obtain ⟨s, hs⟩ : ∃ s, L[p]? = some s := ⟨_, List.getElem?_eq_getElem hlp⟩
            obtain ⟨gv, rfl⟩ := own_hd HHP.out.row (show 0 < L.length by omega)
            have hcs : wp.cell? ⟨gv, p, none⟩ = some (.pointer (some ⟨s.gs, 0, none⟩)) := by
              obtain ⟨ad2, e, hcc⟩ := (Rd.of_own HHP.out.row) (by omega)
              injection e with e
              have := hcc p s hs
              rwa [← e, add_plain, Nat.zero_add] at this
            have hsi : (L.map (·.ids))[p]? = some s.ids := by rw [List.getElem?_map, hs]; rfl
            have hfit := HP.out.fit s.ids (List.mem_of_getElem? hsi)
            have hal : (allS s.ids).length ≤ 8 := by have := List.length_filter_le (fun x => x != -1) s.ids; unfold allS; rw [hfit.1] at this; omega
            have hA := sall_any s.gs s.gl s.sp s.ids wp (HHP.out.all s (List.mem_of_getElem? hs))
            have HA := Lib.hid hA
            have HSI := Lib.hid hsi
            clear hA hsi hs hmp
            go_wp2_with fail
            refine (HA.out).mono ?_
            rintro e w5 ⟨v5, rfl, ho5, hs5⟩
            obtain ⟨A5, c5, rfl, hc5⟩ := own_form ho5
            have H5 := Lib.hid (HHP.out.move hs5)
            have HM5 := Lib.hid (mapB_but HMP.out hs5 id)
            have HO5 := Lib.hid ho5
            clear ho5 hs5 hcs
            go_wp2_with fail
            go_loopw [180] (fun x wr => ∃ (q : Nat) (D3 : DataW Unit), q ≤ (allS s.ids).length ∧ x = .int .i64 q ∧ MapN D3 (doneS (L.map (·.ids)) p ++ (allS s.ids).take q) ∧ SH w wr gf gfl os L (.slice (some ⟨gv, 0, none⟩) L.length cv) ∧ wr.ownsMap Try.prog 3 (plainElem Try.prog 3) bm (p * 8 + q) D3 ∧ But (fun k => some k = some bm) w5 wr) (fun x _ => (allS s.ids).length - (intOf x).toNat)
            case atStart => exact ⟨0, D2, by omega, rfl, by simpa using HN.out, H5.out, HM5.out, But.refl _ _⟩
            case round =>
              obtain ⟨q, D3, hq, rfl, hN3, hH3, hm3, hb3⟩ := hrel
              obtain ⟨wq, rfl⟩ : ∃ wq : World, wq = wr := ⟨_, rfl⟩
              have HN3 := Lib.hid hN3
              have HH3 := Lib.hid hH3
              have HB3 := Lib.hid hb3
              have HTD := Lib.hid (hm3.tidy keyedInt)
              clear hN3 hH3 hb3
              by_cases hlq : q < (allS s.ids).length
              · obtain ⟨x, hx⟩ : ∃ x, (allS s.ids)[q]? = some x := ⟨_, List.getElem?_eq_getElem hlq⟩
                have hoq := own_but_kept HO5.out HB3.out (fun k hk e => by
                  obtain ⟨_, cs, hB⟩ := ownT_blk HO5.out hk
                  exact mapB_ne HM5.out _ _ _ hB (by injection e))
                obtain ⟨ad5, rfl, hcell⟩ := (Rd.of_own (enc := I) hoq).at hlq
                have ex : (allS s.ids)[q] = x := by rw [List.getElem?_eq_getElem hlq] at hx; injection hx
                rw [ex] at hcell
                have hxr := HP.out.rng (List.mem_of_getElem? HSI.out) (List.mem_of_getElem? hx)
                have hqi : (q : Int) < (allS s.ids).length := by omega
                have hkey : keyOf Try.prog 3 (.int .i64 x) = some (.int .i64 x) := Maps.keyOf_int_mk Try.underlying3 (wfB (by omega) (by omega))
                have hstep := HN3.out.step HTD.out hxr.1 hxr.2
                have htk : doneS (L.map (·.ids)) p ++ (allS s.ids).take q ++ [x] = doneS (L.map (·.ids)) p ++ (allS s.ids).take (q + 1) := by
                  rw [List.take_add_one, hx, List.append_assoc]; rfl
                rw [htk] at hstep
                have hct : (doneS (L.map (·.ids)) p ++ (allS s.ids).take q).count x ≤ p * 8 + q := by
                  have h1 := List.count_le_length (a := x) (l := doneS (L.map (·.ids)) p ++ (allS s.ids).take q)
                  have h2 := HP.out.done_len p
                  have h3 : ((allS s.ids).take q).length ≤ q := List.length_take_le _ _
                  rw [List.length_append] at h1
                  omega
                have HSTEP := Lib.hid hstep
                generalize hLL : doneS (L.map (·.ids)) p ++ (allS s.ids).take q = LL at *
                obtain ⟨ct, hcte⟩ : ∃ ct : Int, ct = LL.count x := ⟨_, rfl⟩
                have hct0 : 0 ≤ ct ∧ ct ≤ 1000 := by omega
                rw [← hcte] at hstep
                have HSTEP := Lib.hid hstep
                have HCT := Lib.hid hcte
                have HLL := Lib.hid hLL
                have hwf : (Lit.int .i64 (ct + 1)).wf = true := wfB (by omega) (by omega)
                clear hstep htk hx ex hoq hcte hLL hct
                go_wp2_with (first
                  | (at_lookup; refine wpList_lookup_own_int _ rfl _ _ 26 rfl 3 3 .i64 keyedInt Try.underlying26 Try.underlying3 (zeroB _) bm _ D3 rfl hm3 _ _ rfl hkey ?_; intro c6 hat hwc; obtain rfl : c6 = ct := (by rw [HCT.out]; exact HN3.out.look hat); clear hat hwc)
                  | (at_mapUpdate; refine wpList_mapUpdate_own _ rfl _ _ _ 26 rfl 3 3 keyedInt Try.underlying26 _ bm _ D3 rfl hm3 (by unfold maxLen; omega) _ _ _ rfl rfl hkey _ [] (plainElem_int Try.underlying3 hwf) ?_; intro w6 hown6 hg6))
                go_roundw
                case rel => exact ⟨q + 1, _, by omega, by go_num, HSTEP.out, HH3.out.far (But.of_grown hg6) (mapB_ne hm3) hbm0, hown6, HB3.out.trans (But.of_grown hg6)⟩
                case measure => simp [intOf]; omega
              · obtain rfl : q = (allS s.ids).length := by omega
                have hN4 : MapN D3 (doneS (L.map (·.ids)) (p + 1)) := by rw [doneS_snoc HSI.out]; have := HN3.out; rwa [List.take_length] at this
                have HN4 := Lib.hid hN4
                have HM4 := Lib.hid (hm3.mono (show p * 8 + (allS s.ids).length ≤ (p + 1) * 8 by omega))
                clear hN4 hm3
                go_wp2_with fail
                go_roundw
                case rel => exact ⟨p + 1, D3, by omega, by go_num, HN4.out, HH3.out, HM4.out⟩
                case measure => simp [intOf]; omega
          · obtain rfl : p = L.length := by omega
            have hN9 : MapN D2 (doneS (L.map (·.ids)) (L.map (·.ids)).length) := by rw [List.length_map]; exact HN.out
            have HN9 := Lib.hid hN9
            obtain ⟨r, hr⟩ : ∃ r, r = wp.heap.size := ⟨_, rfl⟩
            have hr0 : w.heap.size ≤ r := by rw [hr]; exact HHP.out.safe.size
            have HR := Lib.hid hr
            clear hN9 hr
            go_wp2_with (at_range; refine wpList_range_own _ rfl _ 26 rfl 3 3 keyedInt Try.underlying26 _ bm _ D2 rfl hmp ?_; intro w4 hrg4 hg4 hs4; have hH4 := HHP.out.move (But.of_grown hg4 |>.mono (fun k _ e => by cases e)); have HRG4 := Lib.hid hrg4; have HH4 := Lib.hid hH4; clear hrg4 hg4 hs4 hH4)
            try go_frame
            rw [← HR.out] at *
            go_loopw [32] (fun _ wr => ∃ (left : Lit → Bool) (cnt : Nat), wr.ranges Try.prog 3 (plainElem Try.prog 3) bm r (L.length * 8) D2 left cnt ∧ SH w wr gf gfl os L (.slice Av L.length cv)) (fun _ wr => wr.rangeLeft bm r)
            case atStart => exact ⟨_, _, HRG4.out, HH4.out⟩
            case round =>
              obtain ⟨left, cnt, hrg, hHr⟩ := hrel
              obtain ⟨wz, rfl⟩ : ∃ wz : World, wz = wr := ⟨_, rfl⟩
              have HHR := Lib.hid hHr
              have HRG := Lib.hid hrg
              clear hHr
              go_wp2_with (at_next; refine wpList_next_ranges_ii _ rfl _ rfl 3 3 .i64 .i64 keyedInt Try.underlying3 Try.underlying3 bm r _ _ _ _ rfl hrg ?_ ?_)
              · intro _ _
                clear hrg
                have hcn := fcount_any gf gfl os wz HHR.out.fw
                rw [HP.out.count HN9.out] at hcn
                have HCN := Lib.hid hcn
                clear hcn
                go_wp2_with fail
                refine (HCN.out).mono ?_
                rintro _ w6 ⟨rfl, hs6⟩
                have hm6 := mapB_but HRG.out.owns hs6 id
                have HS6 := Lib.hid hs6
                clear hs6
                go_wp2_with (at_len; refine wpList_len_own _ rfl _ 26 rfl 3 3 Try.underlying26 _ bm _ D2 rfl hm6 ?_)
                go_ret
                exact ⟨by simp, HHR.out.safe.trans HS6.out⟩
              · intro x c5 w5 cnt5 hwx hwc hlx hat hrg5 hlt hg5 hs5 hen
                obtain ⟨k, o, rfl, ho, hr1, hr2⟩ := HP.out.got HN9.out hat
                have hH5 := HHR.out.far (But.of_grown hg5) (iterB_ne HRG.out) hr0
                have hG := fget_yes gf gfl os k o w5 hH5.fw ho hr1
                obtain ⟨o1, o2, o3, o4, o5⟩ := o
                simp only at hr2
                subst hr2
                have HH5 := Lib.hid hH5
                have HRG5 := Lib.hid hrg5
                have HLT := Lib.hid hlt
                have HG := Lib.hid hG
                clear hH5 hrg5 hlt hat hG hwx hwc hlx hrg hg5 hs5 ho hr1
                go_wp2_with fail
                refine (HG.out).mono ?_
                rintro _ w6 ⟨rfl, hs6⟩
                have HS6 := Lib.hid hs6
                clear hs6
                go_wp2_with fail
                go_roundw
                case rel =>
                  have hfin : ∀ W, Safe w5 W → (∃ (left : Lit → Bool) (cnt : Nat), W.ranges Try.prog 3 (plainElem Try.prog 3) bm r (L.length * 8) D2 left cnt ∧ SH w W gf gfl os L (.slice Av L.length cv)) := fun W hW => ⟨_, cnt5, rangesB_but HRG5.out hW id id, HH5.out.move hW⟩
                  first
                    | exact hfin _ (HS6.out.alloc _)
                    | exact hfin _ ((HS6.out.alloc _).setCells _ _ (.inr HS6.out.size))
                case measure =>
                  have hml : ∀ W, Safe w5 W → W.rangeLeft bm r < wz.rangeLeft bm r := fun W hW => by
                    rw [(rangesB_but HRG5.out hW id id).left_eq, HRG.out.left_eq]; exact HLT.out
                  first
                    | exact hml _ (HS6.out.alloc _)
                    | exact hml _ ((HS6.out.alloc _).setCells _ _ (.inr HS6.out.size))
end Go.Proofs.Ytlojadpbdbhmiaa
