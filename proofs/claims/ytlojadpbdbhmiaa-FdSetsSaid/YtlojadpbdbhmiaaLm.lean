/- FdSets: the walk. -/
import Derived.Test.YtlojadpbdbhmiaaLl
import Derived.Test.YtlojadpbdbhmiaaFw
import Derived.Test.YtlojadpbdbhmiaaFk
namespace Go.Proofs.Ytlojadpbdbhmiaa
open Go.RowKit
set_option linter.unusedSimpArgs false
set_option linter.unusedVariables false

set_option maxRecDepth 100000 in
set_option maxHeartbeats 4000000 in
theorem sets_walk (m : Int) (A : Option Addr) (n c : Nat) (D : Nat → ActF) (w : World) (hn : n ≤ c) (hc : c ≤ 9223372036854775807) (hD : ActsAt w A n D) :
    Calls Try.prog 5 #[.int .i64 m, .slice A n c] w fun e w' => e = .returned (.bool true) ∧ Safe w w' := by
  have HD := Lib.hid hD
  clear hD
  go_enter Try.func5, Try.ntmps5
  go_wp2_with fail
  refine (awake20 _).mono ?_
  rintro _ w1 ⟨rfl, hs1⟩
  go_wp2_with fail
  refine (news_any m _).mono ?_
  rintro _ w2 ⟨gs0, gl0, sp0, rfl, hS2, hb1, hb2, hs2⟩
  have HN := Lib.hid (rnews_any m w2)
  have HS2 := Lib.hid hS2
  have HSF := Lib.hid (hs1.trans hs2)
  have hsz1 := hs1.size
  clear hS2 hs1 hs2
  go_wp2_with fail
  refine (HN.out).mono ?_
  rintro e w3 ⟨v, rfl, hl3, hs3⟩
  have h0 : SI w w3 gs0 gl0 sp0 v (List.replicate (mostS m) (-1)) [] [] [] (.slice none 0 0) (.slice none 0 0) :=
    ⟨HS2.out.safe hs3, hl3.lower HSF.out.size, (fun j x hx => by rw [List.getElem?_replicate] at hx; split at hx <;> simp_all), (by rw [List.length_replicate]; unfold mostS; omega), HSF.out.trans hs3, by omega, by omega,
      (fun k hk => by have := (hl3.blk hk).1; have := HS2.out.hl.lt; omega), World.ownsRow_nil _ _ _ _, World.ownsRow_nil _ _ _ _, (fun o ho => by simp at ho)⟩
  generalize List.replicate (mostS m) (-1) = ids0 at *
  have H0 := Lib.hid h0
  obtain ⟨A3, c3, hv3, -⟩ := h0.lv
  rw [hv3] at H0 ⊢
  clear h0 hl3 hs3 hv3
  go_wp2_with fail
  go_loopw [5, 6, 7, 8, 9] (fun s v vo vw x wr => ∃ (i gs gl : Nat) (sp : List Value) (ids : List Int) (ol : List Old), i ≤ n ∧ i ≤ 60 ∧ ol.length ≤ i ∧ x = .int .i64 i ∧ s = .pointer (some ⟨gs, 0, none⟩) ∧ SI w wr gs gl sp v ids ol ol ol vo vw) (fun _ _ _ _ x _ => 60 - (intOf x).toNat)
  case atStart => exact ⟨0, gs0, gl0, sp0, ids0, [], by omega, by omega, by simp, rfl, rfl, H0.out⟩
  case round =>
    obtain ⟨i, gs, gl, sp, ids, ol, hin, hi60, hol, rfl, rfl, hI⟩ := hrel
    obtain ⟨wo, rfl⟩ : ∃ wo : World, wo = wr := ⟨_, rfl⟩
    obtain ⟨Av, cv, hv, -⟩ := hI.lv
    obtain ⟨Ao, co, hvo, hco⟩ := own_form hI.oo
    obtain ⟨Aw, cw, hvw, hcw⟩ := own_form hI.ow
    subst hv hvo hvw
    have HI := Lib.hid hI
    have h16 := hI.sw.len
    clear hI
    by_cases hlt : i < n ∧ i < 60
    · obtain ⟨hlt, h60⟩ := hlt
      obtain ⟨ad, hA, c0, c1, c2, c3, -, -, -, -⟩ := HD.out i hlt
      subst hA
      rw [add_split4] at c1 c2 c3
      rw [Nat.add_zero] at c0
      have c0 := HI.out.safe.cell c0 id
      have c1 := HI.out.safe.cell c1 id
      have c2 := HI.out.safe.cell c2 id
      have c3 := HI.out.safe.cell c3 id
      generalize D i = a at *
      obtain ⟨wa, hwa⟩ : ∃ wa, wa = wo.alloc (.cells #[I a.kind, I a.a, I a.b, I a.c] 44) := ⟨_, rfl⟩
      have hsa : Safe wo wa := by rw [hwa]; exact (But.refl _ wo).alloc _
      have hba : Blk wa wo.heap.size 44 #[I a.kind, I a.a, I a.b, I a.c] := by rw [hwa]; exact Blk.new _ _ _
      have hIa := HI.out.move hsa
      have hglt : ¬ wo.heap.size = gl := by have := HI.out.sw.hl.lt; omega
      have HWA := Lib.hid hwa
      have HIA := Lib.hid hIa
      have HBA := Lib.hid hba
      have HNE := Lib.hid hglt
      have HV := Lib.hid hIa.vs
      clear hwa hsa hIa hba hglt
      have hkc : ((a.kind == 1) = true) ∨ ((a.kind == 1) = false ∧ (a.kind == 2) = true) ∨ ((a.kind == 1) = false ∧ (a.kind == 2) = false ∧ (a.kind == 3) = true) ∨ ((a.kind == 1) = false ∧ (a.kind == 2) = false ∧ (a.kind == 3) = false ∧ (a.kind == 4) = true) ∨ ((a.kind == 1) = false ∧ (a.kind == 2) = false ∧ (a.kind == 3) = false ∧ (a.kind == 4) = false) := by
        cases (a.kind == 1) <;> cases (a.kind == 2) <;> cases (a.kind == 3) <;> cases (a.kind == 4) <;> simp
      rcases hkc with e0 | ⟨e0, e1⟩ | ⟨e0, e1, e2⟩ | ⟨e0, e1, e2, e3⟩ | ⟨e0, e1, e2, e3⟩
      · have hf := sputM gs gl sp ids wa a.a HIA.out.sw
        have hr := fun W (hl : LV W w.heap.size (.slice Av ids.length cv) ids) (hb : w.heap.size ≤ W.heap.size) => rputM ids W w.heap.size _ a.a hl HV.out h16 hb
        have hp := ptM_ok HV.out a.a
        generalize ptM ids a.a = r at hf hr hp
        obtain ⟨ids2, n2, e9⟩ := r
        simp only at hf hr hp
        have HF := Lib.hid hf
        have HRR := Lib.hid hr
        have HPP := Lib.hid hp
        clear hf hr hp
        go_wp2_with fail
        rw [← HWA.out]
        refine (HF.out).mono ?_
        rintro _ w4 ⟨rfl, hf4, hb4⟩
        have hba4 := HBA.out.but hb4 HNE.out
        have d0 := hba4.cell' (i := 0) rfl
        have d1 := hba4.cell' (i := 1) rfl
        have d2 := hba4.cell' (i := 2) rfl
        have hlt4 := hba4.lt
        have hlv4 := HIA.out.lv.but hb4 (fun k hk e => HIA.out.ne k hk e)
        have hsz4 := Nat.le_trans HIA.out.safe.size hb4.size
        have HL4 := Lib.hid hlv4
        have HB4 := Lib.hid hb4
        have HF4 := Lib.hid hf4
        clear hf4 hb4 hba4 hlv4
        go_wp2_with fail
        refine (HRR.out _ HL4.out hsz4).mono ?_
        rintro e w5 ⟨v5, rfl, hl5, hs5, hfr5⟩
        have h5 := HIA.out.turn HB4.out HF4.out hs5 hl5 hfr5 HPP.out.1 HPP.out.2
        have hfa := set_any gs gl w.heap.size sp ids2 v5 w5 h5.sw hl5 HPP.out.1
        obtain ⟨A5, c5, rfl, -⟩ := hl5
        have H5 := Lib.hid h5
        have HFA := Lib.hid hfa
        clear h5 hfa hs5 hfr5
        go_wp2_with fail
        refine (HFA.out).mono ?_
        rintro _ w6 ⟨rfl, hs6⟩
        have H6 := Lib.hid (H5.out.move hs6)
        clear hs6
        go_wp2_with fail
        go_roundw
        case rel => exact ⟨i + 1, gs, gl, sp, ids2, ol, by omega, by omega, by omega, by go_num, rfl, H6.out⟩
        case measure => simp [intOf]; omega
      · have hf := stakeM gs gl sp ids wa a.a HIA.out.sw
        have hr := fun W (hl : LV W w.heap.size (.slice Av ids.length cv) ids) (hb : w.heap.size ≤ W.heap.size) => rtakeM ids W w.heap.size _ a.a hl HV.out h16 hb
        have hp := tkM_ok HV.out a.a
        generalize tkM ids a.a = r at hf hr hp
        obtain ⟨ids2, n2, e9⟩ := r
        simp only at hf hr hp
        have HF := Lib.hid hf
        have HRR := Lib.hid hr
        have HPP := Lib.hid hp
        clear hf hr hp
        go_wp2_with fail
        rw [← HWA.out]
        refine (HF.out).mono ?_
        rintro _ w4 ⟨rfl, hf4, hb4⟩
        have hba4 := HBA.out.but hb4 HNE.out
        have d0 := hba4.cell' (i := 0) rfl
        have d1 := hba4.cell' (i := 1) rfl
        have d2 := hba4.cell' (i := 2) rfl
        have hlt4 := hba4.lt
        have hlv4 := HIA.out.lv.but hb4 (fun k hk e => HIA.out.ne k hk e)
        have hsz4 := Nat.le_trans HIA.out.safe.size hb4.size
        have HL4 := Lib.hid hlv4
        have HB4 := Lib.hid hb4
        have HF4 := Lib.hid hf4
        clear hf4 hb4 hba4 hlv4
        go_wp2_with fail
        refine (HRR.out _ HL4.out hsz4).mono ?_
        rintro e w5 ⟨v5, rfl, hl5, hs5, hfr5⟩
        have h5 := HIA.out.turn HB4.out HF4.out hs5 hl5 hfr5 HPP.out.1 HPP.out.2
        have hfa := set_any gs gl w.heap.size sp ids2 v5 w5 h5.sw hl5 HPP.out.1
        obtain ⟨A5, c5, rfl, -⟩ := hl5
        have H5 := Lib.hid h5
        have HFA := Lib.hid hfa
        clear h5 hfa hs5 hfr5
        go_wp2_with fail
        refine (HFA.out).mono ?_
        rintro _ w6 ⟨rfl, hs6⟩
        have H6 := Lib.hid (H5.out.move hs6)
        clear hs6
        go_wp2_with fail
        go_roundw
        case rel => exact ⟨i + 1, gs, gl, sp, ids2, ol, by omega, by omega, by omega, by go_num, rfl, H6.out⟩
        case measure => simp [intOf]; omega
      · have hf := satM gs gl sp ids wa a.a a.b HIA.out.sw
        have hr := fun W (hl : LV W w.heap.size (.slice Av ids.length cv) ids) (hb : w.heap.size ≤ W.heap.size) => ratM ids W w.heap.size _ a.a a.b hl h16 hb
        have hp := atM_ok HV.out a.a a.b
        generalize atM ids a.a a.b = r at hf hr hp
        obtain ⟨ids2, n2, e9⟩ := r
        simp only at hf hr hp
        have HF := Lib.hid hf
        have HRR := Lib.hid hr
        have HPP := Lib.hid hp
        clear hf hr hp
        go_wp2_with fail
        rw [← HWA.out]
        refine (HF.out).mono ?_
        rintro _ w4 ⟨rfl, hf4, hb4⟩
        have hba4 := HBA.out.but hb4 HNE.out
        have d0 := hba4.cell' (i := 0) rfl
        have d1 := hba4.cell' (i := 1) rfl
        have d2 := hba4.cell' (i := 2) rfl
        have hlt4 := hba4.lt
        have hlv4 := HIA.out.lv.but hb4 (fun k hk e => HIA.out.ne k hk e)
        have hsz4 := Nat.le_trans HIA.out.safe.size hb4.size
        have HL4 := Lib.hid hlv4
        have HB4 := Lib.hid hb4
        have HF4 := Lib.hid hf4
        clear hf4 hb4 hba4 hlv4
        go_wp2_with fail
        refine (HRR.out _ HL4.out hsz4).mono ?_
        rintro e w5 ⟨v5, rfl, hl5, hs5, hfr5⟩
        have h5 := HIA.out.turn HB4.out HF4.out hs5 hl5 hfr5 HPP.out.1 HPP.out.2
        have hfa := set_any gs gl w.heap.size sp ids2 v5 w5 h5.sw hl5 HPP.out.1
        obtain ⟨A5, c5, rfl, -⟩ := hl5
        have H5 := Lib.hid h5
        have HFA := Lib.hid hfa
        clear h5 hfa hs5 hfr5
        go_wp2_with fail
        refine (HFA.out).mono ?_
        rintro _ w6 ⟨rfl, hs6⟩
        have H6 := Lib.hid (H5.out.move hs6)
        clear hs6
        go_wp2_with fail
        go_roundw
        case rel => exact ⟨i + 1, gs, gl, sp, ids2, ol, by omega, by omega, by omega, by go_num, rfl, H6.out⟩
        case measure => simp [intOf]; omega
      · obtain ⟨x, hx⟩ : ∃ x : Old, x = ⟨gs, gl, sp, ids, .slice Av ids.length cv⟩ := ⟨_, rfl⟩
        have hIb := (HI.out.move ((But.refl _ wo).alloc (.cells #[I a.kind, I a.a, I a.b, I a.c] 44))).move ((But.refl _ _).alloc (.cells #[.pointer (some ⟨gs, 0, none⟩)] 61))
        have hboo : w.heap.size ≤ ((wo.alloc (.cells #[I a.kind, I a.a, I a.b, I a.c] 44)).alloc (.cells #[.pointer (some ⟨gs, 0, none⟩)] 61)).heap.size := hIb.safe.size
        have hbp : Blk ((wo.alloc (.cells #[I a.kind, I a.a, I a.b, I a.c] 44)).alloc (.cells #[.pointer (some ⟨gs, 0, none⟩)] 61)) (wo.heap.size + 1) 61 #[.pointer (some ⟨gs, 0, none⟩)] := Blk.new' _ _ (by simp)
        have h63 : ol.length + 1 ≤ maxLen := by simp [maxLen]; omega
        have hby1 : (ol.length + 1) * 8 ≤ 140737488355328 := by omega
        have hby2 : (ol.length + 1) * 24 ≤ 140737488355328 := by omega
        have hone1 : ∀ u ∈ (#[.pointer (some ⟨gs, 0, none⟩)] : Array Value).toList, u.oneCell' = true := by simp [Value.oneCell']
        have hone2 : ∀ u ∈ (#[.slice Av ids.length cv] : Array Value).toList, u.oneCell' = true := by simp [Value.oneCell']
        have HIB := Lib.hid hIb
        have HBP := Lib.hid hbp
        have H11 := Lib.hid hone1
        have H12 := Lib.hid hone2
        have HXX := Lib.hid hx
        have hpx : [Value.pointer (some ⟨gs, 0, none⟩)] = [ptrO x] := by rw [hx]; rfl
        have hvx : [Value.slice Av ids.length cv] = [x.v] := by rw [hx]
        have HPX := Lib.hid hpx
        have HVX := Lib.hid hvx
        clear hIb hone1 hone2 hbp hx hpx hvx
        go_wp2_with (first
          | (at_builtin; (refine wpList_push slPset rfl (.tmp 134) (.tmp 136) rfl w.heap.size (.slice Ao ol.length co) ol.length (ol.map ptrO) rfl HIB.out.oo (wo.heap.size + 1) 61 #[.pointer (some ⟨gs, 0, none⟩)] rfl HBP.out rfl H11.out h63 hby1 hboo ?_); intro v1 w5 ho hg hd; have hI5 := HIB.out.push1 (x := x) (by rw [← HPX.out]; exact ho) hg; have hI5' := hI5.move ((But.refl _ w5).alloc (.cells #[.slice Av ids.length cv] 22)); have hboo5 := hI5'.safe.size; have HI5 := Lib.hid hI5'; clear ho hg hd hI5 hI5')
          | (at_builtin; (refine wpList_push slIntss rfl (.tmp 138) (.tmp 140) rfl w.heap.size (.slice Aw ol.length cw) ol.length (ol.map (·.v)) rfl HI5.out.ow w5.heap.size 22 #[.slice Av ids.length cv] rfl (Blk.new _ _ _) rfl H12.out h63 hby2 hboo5 ?_); intro v2 w6 ho hg hd; have hI6 := HI5.out.push2 (x := x) (by rw [← HVX.out]; exact ho) hg; have HI6 := Lib.hid hI6; clear ho hg hd hI6))
        refine (sclone_any gs gl sp ids w6 HI6.out.sw HI6.out.n1).mono ?_
        rintro e w7 ⟨gs', gl', sp', rfl, hS7, hg1, hg2, hs7⟩
        have hI7 := HI6.out.clone hS7 hg1 hg2 hs7
        rw [← HXX.out] at hI7
        have hfa := set_any gs' gl' w.heap.size sp' ids _ w7 hI7.sw hI7.lv HV.out
        have HFA := Lib.hid hfa
        have H7 := Lib.hid hI7
        clear hfa hI7 hS7 hs7
        go_wp2_with fail
        refine (HFA.out).mono ?_
        rintro _ w8 ⟨rfl, hs8⟩
        have H8 := Lib.hid (H7.out.move hs8)
        clear hs8
        go_wp2_with fail
        go_roundw
        case rel => exact ⟨i + 1, gs', gl', sp', ids, ol ++ [x], by omega, by omega, by rw [List.length_append]; simp; omega, by go_num, rfl, H8.out⟩
        case measure => simp [intOf]; omega
      · have hfa := set_any gs gl w.heap.size sp ids _ wa HIA.out.sw HIA.out.lv HV.out
        have HFA := Lib.hid hfa
        clear hfa
        go_wp2_with fail
        rw [← HWA.out]
        refine (HFA.out).mono ?_
        rintro _ w6 ⟨rfl, hs6⟩
        have H6 := Lib.hid (HIA.out.move hs6)
        clear hs6
        go_wp2_with fail
        go_roundw
        case rel => exact ⟨i + 1, gs, gl, sp, ids, ol, by omega, by omega, by omega, by go_num, rfl, H6.out⟩
        case measure => simp [intOf]; omega
    · have hne2 : (¬ i < n) ∨ (i < n ∧ ¬ ((i : Int) < 60)) := by
        by_cases h1 : i < n
        · exact .inr ⟨h1, fun h2 => hlt ⟨h1, by omega⟩⟩
        · exact .inl h1
      clear hlt
      have hro : Rd ptrO wo Ao ol := Rd.of_own HI.out.oo
      have hrw : Rd (fun o : Old => o.v) wo Aw ol := Rd.of_own HI.out.ow
      have HRO := Lib.hid hro
      have HRW := Lib.hid hrw
      clear hro hrw
      rcases hne2 with h1 | ⟨h1, h2⟩
      all_goals
        go_wp2_with fail
        go_loopw [150] (fun x wr => ∃ j : Nat, j ≤ ol.length ∧ x = .int .i64 j ∧ Safe wo wr) (fun x _ => ol.length - (intOf x).toNat)
        case atStart => exact ⟨0, by omega, rfl, But.refl _ _⟩
        case round =>
          obtain ⟨j, hj, rfl, hS⟩ := hrel
          obtain ⟨wj, rfl⟩ : ∃ wj : World, wj = wr := ⟨_, rfl⟩
          by_cases hltj : j < ol.length
          · obtain ⟨ao, rfl, k1⟩ := (HRO.out.safe hS).at hltj
            obtain ⟨aw, rfl, k2⟩ := (HRW.out.safe hS).at hltj
            have hok := (HI.out.move hS).old ol[j] (List.getElem_mem hltj)
            have hfa := set_any ol[j].gs ol[j].gl w.heap.size ol[j].sp ol[j].ids ol[j].v wj hok.sw hok.lv hok.vs
            have hji : (j : Int) < ol.length := by omega
            have hlv := hok.lv
            clear hok
            generalize ol[j] = o at *
            obtain ⟨Aj, cj, hvj, -⟩ := hlv
            unfold ptrO at k1
            rw [hvj] at k2 hfa
            have HFA := Lib.hid hfa
            have HS := Lib.hid hS
            clear hfa hS hvj
            go_wp2_with fail
            refine (HFA.out).mono ?_
            rintro _ w8 ⟨rfl, hs8⟩
            go_wp2_with fail
            go_roundw
            case rel => exact ⟨j + 1, by omega, by go_num, HS.out.trans hs8⟩
            case measure => simp [intOf]; omega
          · obtain rfl : j = ol.length := by omega
            go_wp2
            go_ret
            exact ⟨rfl, HI.out.safe.trans hS⟩
end Go.Proofs.Ytlojadpbdbhmiaa
