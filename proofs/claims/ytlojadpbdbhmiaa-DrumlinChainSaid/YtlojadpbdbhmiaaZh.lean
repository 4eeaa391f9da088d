/- The reference's processes: Wait. -/
import Derived.Test.YtlojadpbdbhmiaaZe
import Derived.Test.YtlojadpbdbhmiaaZf
import Derived.IntWalk
namespace Go.Proofs.Ytlojadpbdbhmiaa
open Go.RowKit
set_option linter.unusedSimpArgs false
set_option linter.unusedVariables false

abbrev t3v (a b d : Int) (most last now : Int) (v : Value) : Value := .tuple #[aggT v most last now, I a, I b, I d]
theorem split_at (ps : List PR) (k : Nat) : ps.flatMap encR = (ps.take k).flatMap encR ++ (ps.drop k).flatMap encR := by rw [← List.flatMap_append, List.take_append_drop]
theorem RdR.take {w : World} {A : Option Addr} {ps : List PR} (h : RdR w A (ps.flatMap encR)) (k : Nat) (hk : k ≤ ps.length) : 0 < k → ∃ ad, A = some ad ∧ ∀ j u, ((ps.take k).flatMap encR)[j]? = some u → w.cell? (ad.add j) = some u := by
  intro h0
  obtain ⟨ad, e, hc⟩ := h (by rw [flatR_len]; omega)
  refine ⟨ad, e, fun j u hu => hc j u ?_⟩
  have hj := (List.getElem?_eq_some_iff.1 hu).1
  rw [split_at ps k, List.getElem?_append_left hj]
  exact hu
theorem RdR.drop {w : World} {ad a0 : Addr} {ps : List PR} (h : RdR w (some ad) (ps.flatMap encR)) (k : Nat) (hk : k ≤ ps.length) (ha : 0 < ps.length - k → a0 = ad.add (k * 6)) : 0 < ps.length - k → ∃ a, some a0 = some a ∧ ∀ j u, ((ps.drop k).flatMap encR)[j]? = some u → w.cell? (a.add j) = some u := by
  intro h0
  obtain ⟨ad', e, hc⟩ := h (by rw [flatR_len]; omega)
  injection e with e
  subst e
  refine ⟨a0, rfl, fun j u hu => ?_⟩
  rw [ha h0, Go.Deep.add_add]
  apply hc
  have hl : ((ps.take k).flatMap encR).length = k * 6 := by rw [flatR_len, List.length_take, Nat.min_eq_left hk]
  rw [split_at ps k, List.getElem?_append_right (by omega), hl, Nat.add_sub_cancel_left]
  exact hu
theorem own_new {g n1 n2 : Nat} {v1 v0 : Value} (hd : v1.ownBlock = v0.ownBlock ∨ v1.ownBlock = some n2) (h0 : v0.ownBlock = some n1) (h1 : g < n1) (h2 : g < n2) : ¬ (some g = v1.ownBlock) := by
  intro e
  rcases hd with hd | hd
  · rw [hd, h0] at e; injection e with e; omega
  · rw [hd] at e; injection e with e; omega
set_option maxRecDepth 100000 in
set_option maxHeartbeats 4000000 in
theorem rwait_any (base : Nat) (v : Value) (ps : List PR) (most last now pid : Int) (w : World) (h : LP w base v ps) (h16 : ps.length ≤ 16) (hb : base ≤ w.heap.size) :
    Calls Try.prog 86 #[aggT v most last now, .int .i64 pid] w fun e w' => PRet w w' base e (t3v (waitM ps pid).2.1 (waitM ps pid).2.2.1 (waitM ps pid).2.2.2 most last now) (waitM ps pid).1 := by
  obtain ⟨W, hW, hsW, b0, b1, hsz⟩ := two_blocks w v most last now
  have hlive := rlive_any base v ps most last now pid W (h.safe hsW) h16
  have hchild := fun W' (hs : Safe w W') => rchildren_any base v ps most last now pid W' (h.safe hs) h16
  have HLIVE := Lib.hid hlive
  have HCH := Lib.hid hchild
  have HW := Lib.hid hW
  have HSW := Lib.hid hsW
  have HB0 := Lib.hid b0
  have HB1 := Lib.hid b1
  have H := Lib.hid h
  obtain ⟨A, c, rfl, hc, hcm, hrd, hbd⟩ := h
  clear hW hsW b0 b1 hsz hchild
  by_cases hl : liveP ps pid ≠ 0
  · have e : waitM ps pid = (ps, 0, 0, liveP ps pid) := by unfold waitM; rw [if_pos hl]
    rw [e]
    have hbl : (liveP ps pid != 0) = true := by simpa using hl
    generalize liveP ps pid = L at *
    clear hrd hbd hl e hlive
    go_enter Try.func86, Try.ntmps86
    go_wp2_with fail
    rw [← HW.out]
    refine (HLIVE.out).mono ?_
    rintro _ w1 ⟨rfl, hs1⟩
    obtain ⟨d0, d1, d2, d3⟩ := cells4 (HB0.out.but hs1 id)
    obtain ⟨r0, r1, r2, r3⟩ := cells4 (HB1.out.but hs1 id)
    obtain ⟨f0, f1, f2, f3⟩ := frz4 (HB1.out.but hs1 id)
    have HF := Lib.hid (fin4 (HSW.out.trans hs1) (show w.heap.size ≤ w.heap.size + 1 by omega) (H.out.safe (HSW.out.trans hs1)) (HB1.out.but hs1 id) [.slice A ps.length c, I most, I last, I now])
    clear hs1
    go_wp2
    exact bodyPost_ret (v := t3v 0 0 L most last now (.slice A ps.length c)) (by simp [results, Try.results86, go_sem, r0, r1, r2, r3]) rfl ⟨_, rfl, HF.out⟩
  · have hl0 : liveP ps pid = 0 := by omega
    rw [hl0] at hlive
    have HLIVE := Lib.hid hlive
    by_cases h0 : (whichP (fun p => p.parent == pid) ps).length = 0
    · have e : waitM ps pid = (ps, 0, 0, 17) := by unfold waitM; rw [if_neg hl, if_pos h0]
      rw [e]
      have h0i : (((whichP (fun p => p.parent == pid) ps).length : Int) == 0) = true := by simp [h0]
      generalize whichP (fun p => p.parent == pid) ps = L at *
      clear hrd hbd hl e hlive hl0 h0
      go_enter Try.func86, Try.ntmps86
      go_wp2_with fail
      rw [← HW.out]
      refine (HLIVE.out).mono ?_
      rintro _ w0 ⟨rfl, hs0⟩
      obtain ⟨d0, d1, d2, d3⟩ := cells4 (HB0.out.but hs0 id)
      have HS0 := Lib.hid hs0
      clear hs0
      go_wp2_with fail
      refine (HCH.out _ (HSW.out.trans HS0.out)).mono ?_
      rintro e w1 ⟨u, rfl, ho1, hs1'⟩
      obtain ⟨A1, c1, rfl, -⟩ := own_form ho1
      have hs1 := HS0.out.trans hs1'
      clear ho1 hs1' d0 d1 d2 d3
      obtain ⟨d0, d1, d2, d3⟩ := cells4 (HB0.out.but hs1 id)
      obtain ⟨r0, r1, r2, r3⟩ := cells4 (HB1.out.but hs1 id)
      obtain ⟨f0, f1, f2, f3⟩ := frz4 (HB1.out.but hs1 id)
      have HF := Lib.hid (fin4 (HSW.out.trans hs1) (show w.heap.size ≤ w.heap.size + 1 by omega) (H.out.safe (HSW.out.trans hs1)) (HB1.out.but hs1 id) [.slice A ps.length c, I most, I last, I now])
      clear hs1
      go_wp2
      exact bodyPost_ret (v := t3v 0 0 17 most last now (.slice A ps.length c)) (by simp [results, Try.results86, go_sem, r0, r1, r2, r3]) rfl ⟨_, rfl, HF.out⟩
    · have h0i : (((whichP (fun p => p.parent == pid) ps).length : Int) == 0) = false := beq_eq_false_iff_ne.2 (by omega)
      obtain ⟨M, hM⟩ : ∃ M, M = waitM ps pid := ⟨_, rfl⟩
      rw [← hM]
      have e : waitM ps pid = (match ps.findIdx? (gone pid) with
          | some k => (ps.eraseIdx k, (ps.getD k zeroR).pid, (ps.getD k zeroR).code, 0)
          | none => (ps, 0, 0, 15)) := by unfold waitM; rw [if_neg hl, if_neg h0]; rfl
      have HM := Lib.hid (hM.trans e)
      generalize whichP (fun p => p.parent == pid) ps = L at *
      have HRD := Lib.hid hrd
      clear hrd hbd hl e hlive hl0 h0 hM
      go_enter Try.func86, Try.ntmps86
      go_wp2_with fail
      rw [← HW.out]
      refine (HLIVE.out).mono ?_
      rintro _ w0 ⟨rfl, hs0⟩
      obtain ⟨d0, d1, d2, d3⟩ := cells4 (HB0.out.but hs0 id)
      have HS0 := Lib.hid hs0
      clear hs0
      go_wp2_with fail
      refine (HCH.out _ (HSW.out.trans HS0.out)).mono ?_
      rintro e w1 ⟨u, rfl, ho1, hs1'⟩
      obtain ⟨A1, c1, rfl, -⟩ := own_form ho1
      have hs1 := HS0.out.trans hs1'
      have HS1 := Lib.hid (HSW.out.trans hs1)
      have HT1 := Lib.hid (HB0.out.but hs1 id)
      have HR1 := Lib.hid (HB1.out.but hs1 id)
      have HRD1 := Lib.hid (HRD.out.but (HSW.out.trans hs1) (fun _ _ => id))
      clear ho1 hs1' hs1 d0 d1 d2 d3
      go_wp2_with fail
      go_loopw [9] (fun i wr => ∃ k : Nat, k ≤ ps.length ∧ i = .int .i64 k ∧ (∀ j (q : PR), j < k → ps[j]? = some q → gone pid q = false) ∧ Safe w1 wr) (fun i _ => ps.length - (intOf i).toNat)
      case atStart => exact ⟨0, by omega, rfl, fun j q hj => absurd hj (by omega), But.refl _ _⟩
      case round =>
        obtain ⟨k, hk, rfl, hall, hS⟩ := hrel
        obtain ⟨wo, rfl⟩ : ∃ wo : World, wo = wr := ⟨_, rfl⟩
        have HALL := Lib.hid hall
        obtain ⟨d0, d1, d2, d3⟩ := cells4 (HT1.out.but hS id)
        have HS := Lib.hid hS
        clear hall hS
        by_cases hlt : k < ps.length
        · obtain ⟨p, hp⟩ : ∃ p, ps[k]? = some p := ⟨_, List.getElem?_eq_getElem hlt⟩
          obtain ⟨ad, rfl, hat⟩ := (HRD1.out.but HS.out (fun _ _ => id)).at hp
          obtain ⟨a0, a1, a2, a3, a4, a5⟩ := hat
          have hki : (k : Int) < ps.length := by omega
          have HP := Lib.hid hp
          clear hp
          cases hg : gone pid p
          · have hgc : ((p.parent == pid) = false) ∨ ((p.parent == pid) = true ∧ (p.state == 3) = false) := by
              unfold gone at hg
              cases h1 : (p.parent == pid) <;> simp_all
            have HG := Lib.hid hg
            clear hg
            have hnext : ∀ j (q : PR), j < k + 1 → ps[j]? = some q → gone pid q = false := fun j q hj hq => by
              by_cases e : j = k
              · subst e
                have := hq.symm.trans HP.out
                injection this with this
                rw [this]; exact HG.out
              · exact HALL.out j q (by omega) hq
            have HNX := Lib.hid hnext
            clear hnext
            rcases hgc with g1 | ⟨g1, g2⟩
            all_goals
              go_wp2_with fail
              go_roundw
              case rel => exact ⟨k + 1, by omega, by go_num, HNX.out, HS.out.alloc _⟩
              case measure => simp [intOf]; omega
          · have hgc : (p.parent == pid) = true ∧ (p.state == 3) = true := by
              unfold gone at hg
              cases h1 : (p.parent == pid) <;> simp_all
            obtain ⟨g1, g2⟩ := hgc
            have hfi : ps.findIdx? (gone pid) = some k := findP_hit HP.out hg HALL.out
            have hMM : M = (ps.eraseIdx k, p.pid, p.code, 0) := by
              rw [HM.out, hfi]
              simp only
              rw [List.getD_eq_getElem?_getD, HP.out]
              rfl
            have HMM := Lib.hid hMM
            clear hg hfi hMM
            go_upto_region 11 with fail
            obtain ⟨W2, hW2⟩ : ∃ W2, W2 = wo.alloc (.cells #[I p.pid, I p.parent, I p.state, I p.code, I p.until_, .bool p.killed] 145) := ⟨_, rfl⟩
            obtain ⟨g5, hg5⟩ : ∃ g5, g5 = wo.heap.size := ⟨_, rfl⟩
            rw [← hW2, ← hg5]
            have hs2 : Safe w W2 := by rw [hW2]; exact (HS1.out.trans HS.out).alloc _
            have hs21 : Safe w1 W2 := by rw [hW2]; exact HS.out.alloc _
            have ht2 : Blk W2 w.heap.size 91 #[.slice (some ad) ps.length c, I most, I last, I now] := HT1.out.but hs21 id
            have hr2 : Blk W2 (w.heap.size + 1) 91 #[.slice none 0 0, I 0, I 0, I 0] := HR1.out.but hs21 id
            have hb2 : Blk W2 g5 145 (encR p).toArray := by rw [hW2, hg5]; exact Blk.new _ _ _
            have hrd2 := HRD1.out.but hs21 (fun _ _ => id)
            have hg5w : w.heap.size + 1 < g5 := by rw [hg5]; have := HR1.out.lt; have := HS.out.size; omega
            obtain ⟨a9, ha, ha0⟩ : ∃ a9 : Addr, (if c = k + 1 then some ad else some (ad.add ((k + 1) * 6))) = some a9 ∧ (0 < ps.length - (k + 1) → a9 = ad.add ((k + 1) * 6)) := by
              by_cases hce : c = k + 1
              · exact ⟨_, if_pos hce, fun hh => by omega⟩
              · exact ⟨_, if_neg hce, fun _ => rfl⟩
            have HS2 := Lib.hid hs2
            have HT2 := Lib.hid ht2
            have HR2 := Lib.hid hr2
            have HB2 := Lib.hid hb2
            have HRD2 := Lib.hid hrd2
            have HA0 := Lib.hid ha0
            clear hW2 hg5 hs2 hs21 ht2 hr2 hb2 hrd2 ha0 d0 d1 d2 d3 a0 a1 a2 a3 a4 a5
            go_cut [56] from 45 to 57 (fun _ wx => ∃ v', Fk7 w wx w.heap.size v' (ps.eraseIdx k) most last now ∧ Blk wx g5 145 (encR p).toArray)
            case first =>
              have hw2 : w.heap.size ≤ W2.heap.size := HS2.out.size
              have h63a : 0 + k ≤ maxLen := by simp [maxLen]; omega
              have hby1 : (0 + k) * 48 ≤ 140737488355328 := by omega
              have h63b : k + (ps.length - (k + 1)) ≤ maxLen := by simp [maxLen]; omega
              have hby2 : (k + (ps.length - (k + 1))) * 48 ≤ 140737488355328 := by omega
              have HM1 : Hid (((ps.take k).flatMap encR).length = k * 6) := Lib.hid (by rw [flatR_len, List.length_take, Nat.min_eq_left (by omega)])
              have HM2 : Hid (((ps.drop (k + 1)).flatMap encR).length = (ps.length - (k + 1)) * 6) := Lib.hid (by rw [flatR_len, List.length_drop])
              have HN1 : Hid (∀ u ∈ (ps.take k).flatMap encR, u.oneCell' = true) := Lib.hid (flatR_one _)
              have HN2 : Hid (∀ u ∈ (ps.drop (k + 1)).flatMap encR, u.oneCell' = true) := Lib.hid (flatR_one _)
              have HGW : Hid (g5 ≠ w.heap.size) := Lib.hid (by omega)
              have HEL : Hid (k + (ps.length - (k + 1)) = (ps.eraseIdx k).length) := Lib.hid (by rw [List.length_eraseIdx_of_lt hlt]; omega)
              have HEF : Hid ((ps.take k).flatMap encR ++ (ps.drop (k + 1)).flatMap encR = (ps.eraseIdx k).flatMap encR) := Lib.hid (by rw [← List.flatMap_append, List.eraseIdx_eq_take_drop_succ])
              have HADL : Hid (ad.block < W2.heap.size) := Lib.hid (by
                obtain ⟨ad', e, hcc⟩ := HRD2.out (by rw [flatR_len]; omega)
                injection e with e
                subst e
                have := cell_lt (hcc 0 _ (List.getElem?_eq_getElem (by rw [flatR_len]; omega)))
                rwa [block_add] at this)
              have HGL : Hid (g5 < W2.heap.size) := Lib.hid HB2.out.lt
              have HGL2 : Hid (g5 < ((W2.alloc (.cells #[] 145)).drew).heap.size) := Lib.hid (by have := HB2.out.lt; show g5 < (W2.heap.push _).size; rw [Array.size_push]; omega)
              have HNG : Hid (¬ (some g5 = (Value.slice (some ⟨W2.heap.size, 0, none⟩) 0 0).ownBlock)) := Lib.hid (fun e => by have := HGL.out; have e3 : g5 = W2.heap.size := (by injection e); omega)
              have HNA : Hid (∀ a, some ad = some a → ¬ (some a.block = (Value.slice (some ⟨W2.heap.size, 0, none⟩) 0 0).ownBlock)) := Lib.hid (fun a e e2 => by have := HADL.out; injection e with e; have e3 : a.block = W2.heap.size := (by injection e2); rw [← e] at e3; omega)
              have HA1 : Hid (∀ W', Safe W2 W' → ∀ q, Blk W' q 145 #[] → W2.heap.size ≤ q → Ap1 w W' w.heap.size (.slice (some ⟨q, 0, none⟩) 0 0) 0 [] (.slice (some ad) ps.length c) most last now) := Lib.hid (fun W' hs q hB hq => ⟨own_none6 hB (by omega), HT2.out.but hs id, HR2.out.but hs id, HS2.out.trans hs⟩)
              obtain ⟨d0, d1, d2, d3⟩ := cells4 HT2.out
              have e00 : (W2.alloc (.cells #[] 145)).cell? ⟨w.heap.size, 0, none⟩ = some (.slice (some ad) ps.length c) := cell_alloc d0 _
              have q1 : (0 : Int) ≤ (k : Int) + 1 := by omega
              have q2 : (k : Int) + 1 ≤ (ps.length : Int) := by omega
              have q3 : (k : Int) ≤ (c : Int) := by omega
              have q4 : (ps.length : Int) ≤ (c : Int) := by omega
              have q6 : ((k : Int) + 1).toNat = k + 1 := by omega
              have q5 : IntKind.i64.wrap ((k : Int) + 1) = (k : Int) + 1 := IntWalk.i64_in _ (by omega)
              go_region_law (first
                | (refine step_pushAll slRP (by rfl) (.tmp 45) (.tmp 49) (by rfl) w.heap.size (.slice (some ⟨W2.heap.size, 0, none⟩) 0 0) 0 [] (by rfl) (own_none6 ((Blk.new W2 145 #[]).drew) (by omega)) (some ad) k c ((ps.take k).flatMap encR) (by rfl) HM1.out ((HRD2.out.but (((But.refl (fun _ => False) W2).alloc (.cells #[] 145)).drew) (fun _ _ => id)).take k (by omega)) HN1.out h63a hby1 (Nat.le_trans hw2 (((But.refl (fun _ => False) W2).alloc (.cells #[] 145)).drew).size) ?_; intro v1 w5 ho hg hd; rw [Nat.zero_add, List.nil_append] at ho; have hp1 := (HA1.out _ (((But.refl (fun _ => False) W2).alloc (.cells #[] 145)).drew) _ ((Blk.new W2 145 #[]).drew) (by omega)).grow hg ho; have g0 := hp1.tb.cell' (i := 0) rfl; have k0 := hp1.tb.frozen 0; have HB5 := Lib.hid ((HB2.out.but (((But.refl (fun _ => False) W2).alloc (.cells #[] 145)).drew) id).but (But.of_grown hg) HNG.out); have HV1 := Lib.hid (own_new hd rfl HGL.out HGL2.out); have HP1 := Lib.hid hp1; have HRD5 := Lib.hid ((HRD2.out.but (((But.refl (fun _ => False) W2).alloc (.cells #[] 145)).drew) (fun _ _ => id)).but (But.of_grown hg) HNA.out); clear ho hg hd hp1)
                | (refine step_pushAll slRP (by rfl) (.tmp 50) (.tmp 55) (by rfl) w.heap.size v1 k ((ps.take k).flatMap encR) (by rfl) HP1.out.ow (some a9) (ps.length - (k + 1)) (c - (k + 1)) ((ps.drop (k + 1)).flatMap encR) (by rfl) HM2.out (HRD5.out.drop (k + 1) (by omega) HA0.out) HN2.out h63b hby2 HP1.out.sf.size ?_; intro v2 w6 ho hg hd; obtain ⟨Z2, z2, rfl, -⟩ := own_form ho; have hp2 := HP1.out.grow hg ho; have j0 := hp2.tb.cell' (i := 0) rfl; have i0 := hp2.tb.frozen 0; have HB6 := Lib.hid (HB5.out.but (But.of_grown hg) HV1.out); have HP2 := Lib.hid hp2; clear ho hg hd hp2))
              all_goals
                go_wp2_with fail
                go_meet
                exact ⟨_, HP2.out.fin HEL.out HEF.out (Nat.le_refl _), HB6.out.far (p := ⟨w.heap.size, 0, none⟩) (show g5 ≠ w.heap.size from HGW.out) _⟩
            case rest =>
              obtain ⟨v', hF, hb5⟩ := hcut
              obtain ⟨d0, d1, d2, d3⟩ := cells4 hF.tb
              obtain ⟨r0, r1, r2, r3⟩ := cells4 hF.rb
              obtain ⟨f0, f1, f2, f3⟩ := frz4 hF.rb
              obtain ⟨q0, q1, q2, q3, q4, q5⟩ := cells6 hb5
              have hlp := hF.lp
              have hff := fun l => fin4 hF.sf (show w.heap.size ≤ w.heap.size + 1 by omega) (hF.lp.lower hb) hF.rb l
              generalize ps.eraseIdx k = es at *
              obtain ⟨A7, c7, rfl, -⟩ := hlp
              have HFF := Lib.hid (hff [.slice A7 es.length c7, I most, I last, I now])
              have hgo := Lib.hid (show LP _ _ _ _ ∧ Safe _ _ from ⟨HFF.out.1.safe ((But.refl _ _).drew), HFF.out.2.drew⟩)
              clear hF hff hb5
              have n1 : ¬ g5 = w.heap.size + 1 := by omega
              have n2 : ¬ w.heap.size + 1 = g5 := by omega
              go_wp2_with fail
              go_region
              all_goals
                go_wp2
                exact bodyPost_ret (v := t3v p.pid p.code 0 most last now (.slice A7 es.length c7)) (by simp [results, Try.results86, go_sem, r0, r1, r2, r3]) rfl (by rw [HMM.out]; exact ⟨_, rfl, hgo.out⟩)
        · obtain rfl : k = ps.length := by omega
          have hfi : ps.findIdx? (gone pid) = none := findP_miss HALL.out
          have hMM : M = (ps, 0, 0, 15) := by rw [HM.out, hfi]
          have HMM := Lib.hid hMM
          have HF := Lib.hid (fin4 (HS1.out.trans HS.out) (show w.heap.size ≤ w.heap.size + 1 by omega) (H.out.safe (HS1.out.trans HS.out)) (HR1.out.but HS.out id) [.slice A ps.length c, I most, I last, I now])
          obtain ⟨r0, r1, r2, r3⟩ := cells4 (HR1.out.but HS.out id)
          obtain ⟨f0, f1, f2, f3⟩ := frz4 (HR1.out.but HS.out id)
          clear hfi hMM
          go_wp2
          exact bodyPost_ret (v := t3v 0 0 15 most last now (.slice A ps.length c)) (by simp [results, Try.results86, go_sem, r0, r1, r2, r3]) rfl (by rw [HMM.out]; exact ⟨_, rfl, HF.out⟩)
end Go.Proofs.Ytlojadpbdbhmiaa
