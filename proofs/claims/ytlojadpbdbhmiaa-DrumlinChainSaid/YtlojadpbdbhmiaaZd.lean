/- The reference's processes: Sleep. -/
import Derived.Test.YtlojadpbdbhmiaaZc
namespace Go.Proofs.Ytlojadpbdbhmiaa
open Go.RowKit
set_option linter.unusedSimpArgs false
set_option linter.unusedVariables false

set_option maxRecDepth 100000 in
set_option maxHeartbeats 4000000 in
theorem rsleep_any (base : Nat) (v : Value) (ps : List PR) (most last now pid ticks : Int) (w : World) (h : LP w base v ps) (h16 : ps.length ≤ 16) (hb : base ≤ w.heap.size) (hn0 : 0 ≤ now) (hn1 : now ≤ 1099511627776) (hr : Ranged64 ticks) :
    Calls Try.prog 89 #[aggT v most last now, .int .i64 pid, .int .i64 ticks] w fun e w' => PRet w w' base e (t1 (sleepM ps now pid ticks).2 most last now) (sleepM ps now pid ticks).1 := by
  obtain ⟨W, hW, hsW, b0, b1, hsz⟩ := two_blocks w v most last now
  have hlive := rlive_any base v ps most last now pid W (h.safe hsW) h16
  have HLIVE := Lib.hid hlive
  have HW := Lib.hid hW
  have HSW := Lib.hid hsW
  have HB0 := Lib.hid b0
  have HB1 := Lib.hid b1
  have H := Lib.hid h
  obtain ⟨A, c, rfl, hc, hcm, hrd, hbd⟩ := h
  clear hW hsW b0 b1 hsz
  by_cases hl : liveP ps pid ≠ 0
  · have e : sleepM ps now pid ticks = (ps, liveP ps pid) := by unfold sleepM; rw [if_pos hl]
    rw [e]
    have hbl : (liveP ps pid != 0) = true := by simpa using hl
    generalize liveP ps pid = L at *
    clear hrd hbd hl e hlive
    go_enter Try.func89, Try.ntmps89
    go_wp2_with fail
    rw [← HW.out]
    refine (HLIVE.out).mono ?_
    rintro _ w1 ⟨rfl, hs1⟩
    obtain ⟨d0, d1, d2, d3⟩ := cells4 (HB0.out.but hs1 id)
    obtain ⟨r0, r1, r2, r3⟩ := cells4 (HB1.out.but hs1 id)
    obtain ⟨f0, f1, f2, f3⟩ := frz4 (HB1.out.but hs1 id)
    have HF := Lib.hid (fin4 (HSW.out.trans hs1) (show w.heap.size ≤ w.heap.size + 1 by omega) (H.out.safe (HSW.out.trans hs1)) (HB1.out.but hs1 id) [.slice A ps.length c, I most, I last, I now])
    clear hs1
    go_wp2
    exact bodyPost_ret (v := t1 L most last now (.slice A ps.length c)) (by simp [results, Try.results89, go_sem, r0, r1, r2, r3]) rfl ⟨_, rfl, HF.out⟩
  · have hl0 : liveP ps pid = 0 := by omega
    rw [hl0] at hlive
    have HLIVE := Lib.hid hlive
    cases hk : oneP ps pid with
    | none => exact absurd (by unfold liveP; rw [hk]; simp) hl
    | some k =>
      obtain ⟨p, hp, hpid, hlt⟩ := oneP_get hk
      have hgd : ps.getD k zeroR = p := by rw [List.getD_eq_getElem?_getD, hp]; rfl
      have e : sleepM ps now pid ticks = if p.state = 2 then (ps, 22) else if 1 ≤ ticks then (ps.set k { p with state := 2, until_ := now + min ticks (longest - now) }, 0) else (ps, 0) := by unfold sleepM; rw [if_neg hl, hk]; simp only [hgd]
      obtain ⟨M, hM⟩ : ∃ M, M = sleepM ps now pid ticks := ⟨_, rfl⟩
      rw [← hM]
      have HM := Lib.hid (hM.trans e)
      clear hM
      obtain ⟨ad, rfl, hat⟩ := hrd.at hp
      have hki : (k : Int) < ps.length := by omega
      have hA := fun W' (hs : Safe w W') => rat_any base _ ps most last now pid W' (H.out.safe hs) h16
      rw [hk, show ixP (some k) = (k : Int) from rfl] at hA
      have hP := fun (u : Int) W' (hs : Safe w W') => rput_any base _ ps most last now k { p with state := 2, until_ := u } W' (H.out.safe hs) h16 (by rw [← hpid] at hk; exact hk)
      have HA := Lib.hid hA
      have HP := Lib.hid hP
      have HAT := Lib.hid hat
      clear hrd hbd hl e hlive hl0 hA hP hat hp hpid hgd hk
      go_enter Try.func89, Try.ntmps89
      go_wp2_with fail
      rw [← HW.out]
      refine (HLIVE.out).mono ?_
      rintro _ w1 ⟨rfl, hs1⟩
      have hK := K10.mk (HB0.out.but hs1 id) (HAT.out.safe (HSW.out.trans hs1))
      have HK := Lib.hid hK
      have HS1 := Lib.hid (HSW.out.trans hs1)
      have HB1' := Lib.hid (HB1.out.but hs1 id)
      have HB0' := Lib.hid (HB0.out.but hs1 id)
      clear hs1
      obtain ⟨m0, m1, m2, m3, n0, n1, n2, n3, n4, n5⟩ := hK
      go_wp2_with fail
      have HG0 : Hid (w.heap.size ≠ w1.heap.size) := Lib.hid (by have := HB0'.out.lt; omega)
      have HG1 : Hid ((ad.add (k * 6)).block ≠ w1.heap.size) := Lib.hid (by have := cell_lt HK.out.2.2.2.2.1; omega)
      go_region_held3 (fun w' => w'.cell? ⟨w.heap.size, 0, none⟩ = some (.slice (some ad) ps.length c) ∧ w'.cell? ⟨w.heap.size, 1, none⟩ = some (I most) ∧ w'.cell? ⟨w.heap.size, 2, none⟩ = some (I last) ∧ w'.cell? ⟨w.heap.size, 3, none⟩ = some (I now) ∧ w'.cell? (ad.add (k * 6)) = some (I p.pid) ∧ w'.cell? ⟨(ad.add (k * 6)).block, (ad.add (k * 6)).off + 1, none⟩ = some (I p.parent) ∧ w'.cell? ⟨(ad.add (k * 6)).block, (ad.add (k * 6)).off + 2, none⟩ = some (I p.state) ∧ w'.cell? ⟨(ad.add (k * 6)).block, (ad.add (k * 6)).off + 3, none⟩ = some (I p.code) ∧ w'.cell? ⟨(ad.add (k * 6)).block, (ad.add (k * 6)).off + 4, none⟩ = some (I p.until_) ∧ w'.cell? ⟨(ad.add (k * 6)).block, (ad.add (k * 6)).off + 5, none⟩ = some (.bool p.killed))
        (first | (with_reducible exact HKC.out) | (with_reducible exact HKC.out.set6 HG0.out HG1.out _) | (with_reducible exact HKC.out.safe ((But.refl _ _).alloc _)) | (with_reducible exact HK.out.safe (But.refl _ _).drew) | (with_reducible exact HK.out.safe ((But.refl _ _).alloc _).drew) | go_keep)
        ((go_at_call 100; (first | (refine (HA.out _ HS1.out.drew).mono ?_; rintro _ w2 ⟨rfl, hs2⟩; have HS2 := Lib.hid (((But.refl (fun _ => False) w1).drew).trans hs2)) | (refine (HA.out _ (HS1.out.alloc _).drew).mono ?_; rintro _ w2 ⟨rfl, hs2⟩; have HS2 := Lib.hid ((((But.refl (fun _ => False) w1).alloc _).drew).trans hs2); have hbz := (Blk.new w1 145 (encR zeroR).toArray).drew.but hs2 id; obtain ⟨y0, y1, y2, y3, y4, y5⟩ := cells6 hbz; obtain ⟨x0, x1, x2, x3, x4, x5⟩ := frz6c hbz; clear hbz)); have HKC := Lib.hid (HK.out.safe HS2.out)))
      · obtain ⟨W5, hW5⟩ : ∃ W5, W5 = w2.alloc (.cells #[I p.pid, I p.parent, I p.state, I p.code, I p.until_, .bool p.killed] 145) := ⟨_, rfl⟩
        obtain ⟨g5, hg5⟩ : ∃ g5, g5 = w2.heap.size := ⟨_, rfl⟩
        rw [← hW5, ← hg5]
        have hs5 : Safe w1 W5 := by rw [hW5]; exact HS2.out.alloc _
        have hk5 : Kn5 w W5 w.heap.size g5 (.slice (some ad) ps.length c) most last now p := ⟨by rw [hW5, hg5]; exact Blk.new _ _ _, HS1.out.trans hs5, HB0'.out.but hs5 id, HB1'.out.but hs5 id, by rw [hg5]; have := HB1'.out.lt; have := HS2.out.size; omega⟩
        have HK5 := Lib.hid hk5
        clear hk5 hs5 hW5 hg5
        obtain ⟨q0, q1, q2, q3, q4, q5⟩ := cells6 HK5.out.b5
        obtain ⟨x0, x1, x2, x3, x4, x5⟩ := frz6c HK5.out.b5
        obtain ⟨d0, d1, d2, d3⟩ := cells4 HK5.out.t5
        have hn5 := HK5.out.n5
        have hle : w.heap.size ≤ g5 := by omega
        by_cases h2 : p.state = 2
        · have hb2 : (p.state == 2) = true := by simpa using h2
          have HMM := Lib.hid (HM.out.trans (if_pos h2))
          clear h2
          have HF := Lib.hid (fin4 HK5.out.s5 (show w.heap.size ≤ w.heap.size + 1 by omega) (H.out.safe HK5.out.s5) HK5.out.r5 [.slice (some ad) ps.length c, I most, I last, I now])
          obtain ⟨r0, r1, r2, r3⟩ := cells4 HK5.out.r5
          obtain ⟨f0, f1, f2, f3⟩ := frz4 HK5.out.r5
          go_wp2
          exact bodyPost_ret (v := t1 22 most last now (.slice (some ad) ps.length c)) (by simp [results, Try.results89, go_sem, r0, r1, r2, r3]) rfl (by rw [show M = (ps, 22) from HMM.out]; exact ⟨_, rfl, HF.out⟩)
        · have hb2 : (p.state == 2) = false := by simpa using h2
          have hm2 := HM.out.trans (if_neg h2)
          clear h2
          by_cases h3 : 1 ≤ ticks
          · have hm3 := hm2.trans (if_pos h3)
            have h3' : ¬ ticks < 1 := by omega
            obtain ⟨ps2, hps2⟩ : ∃ ps2, ps.set k { p with state := 2, until_ := now + min ticks (longest - now) } = ps2 := ⟨_, rfl⟩
            rw [hps2] at hm3
            have HMM := Lib.hid hm3
            clear hm3 hm2
            by_cases h4 : ticks < 1099511627776 - now
            · rw [show now + min ticks (longest - now) = now + ticks by unfold longest; omega] at hps2
              have HS8 := Lib.hid (((HK5.out.s5.setCell (p := ⟨g5, 2, none⟩) (.inr hle) (.int .i64 2)).setCell (p := ⟨g5, 4, none⟩) (.inr hle) (.int .i64 1099511627776)).setCell (p := ⟨g5, 4, none⟩) (.inr hle) (.int .i64 (now + ticks)))
              have HR8 := Lib.hid (((HK5.out.r5.far (p := ⟨g5, 2, none⟩) (show w.heap.size + 1 ≠ g5 by omega) (.int .i64 2)).far (p := ⟨g5, 4, none⟩) (show w.heap.size + 1 ≠ g5 by omega) (.int .i64 1099511627776)).far (p := ⟨g5, 4, none⟩) (show w.heap.size + 1 ≠ g5 by omega) (.int .i64 (now + ticks)))
              have hb8 : Blk (((W5.setCell ⟨g5, 2, none⟩ (.int .i64 2)).setCell ⟨g5, 4, none⟩ (.int .i64 1099511627776)).setCell ⟨g5, 4, none⟩ (.int .i64 (now + ticks))) g5 145 (encR { p with state := 2, until_ := now + ticks }).toArray := ((HK5.out.b5.set 2 (.int .i64 2)).set 4 (.int .i64 1099511627776)).set 4 (.int .i64 (now + ticks))
              obtain ⟨s0, s1, s2, s3, s4, s5⟩ := cells6 hb8
              clear hb8
              go_wp2_with fail
              refine (HP.out (now + ticks) _ HS8.out).mono ?_
              rintro e w7 ⟨v7, rfl, hlp7, hs7⟩
              have hr7 := HR8.out.but hs7 id
              have hs8 := HS8.out.trans hs7
              rw [hps2] at hlp7
              have HF := fun l => fin4 hs8 (show w.heap.size ≤ w.heap.size + 1 by omega) (hlp7.lower (Nat.le_trans hb HS8.out.size)) hr7 l
              obtain ⟨A7, c7, rfl, -⟩ := hlp7
              have HFF := Lib.hid (HF [.slice A7 ps2.length c7, I most, I last, I now])
              obtain ⟨r0, r1, r2, r3⟩ := cells4 hr7
              obtain ⟨f0, f1, f2, f3⟩ := frz4 hr7
              clear HF hr7 hs8 hs7 q0 q1 q2 q3 q4 q5 x0 x1 x2 x3 x4 x5 d0 d1 d2 d3
              go_wp2
              exact bodyPost_ret (v := t1 0 most last now (.slice A7 ps2.length c7)) (by simp [results, Try.results89, go_sem, r0, r1, r2, r3]) rfl (by rw [show M = (ps2, 0) from HMM.out]; exact ⟨_, rfl, HFF.out⟩)
            · rw [show now + min ticks (longest - now) = 1099511627776 by unfold longest; omega] at hps2
              have HS8 := Lib.hid ((HK5.out.s5.setCell (p := ⟨g5, 2, none⟩) (.inr hle) (.int .i64 2)).setCell (p := ⟨g5, 4, none⟩) (.inr hle) (.int .i64 1099511627776))
              have HR8 := Lib.hid ((HK5.out.r5.far (p := ⟨g5, 2, none⟩) (show w.heap.size + 1 ≠ g5 by omega) (.int .i64 2)).far (p := ⟨g5, 4, none⟩) (show w.heap.size + 1 ≠ g5 by omega) (.int .i64 1099511627776))
              have hb8 : Blk ((W5.setCell ⟨g5, 2, none⟩ (.int .i64 2)).setCell ⟨g5, 4, none⟩ (.int .i64 1099511627776)) g5 145 (encR { p with state := 2, until_ := 1099511627776 }).toArray := (HK5.out.b5.set 2 (.int .i64 2)).set 4 (.int .i64 1099511627776)
              obtain ⟨s0, s1, s2, s3, s4, s5⟩ := cells6 hb8
              clear hb8
              go_wp2_with fail
              refine (HP.out (1099511627776) _ HS8.out).mono ?_
              rintro e w7 ⟨v7, rfl, hlp7, hs7⟩
              have hr7 := HR8.out.but hs7 id
              have hs8 := HS8.out.trans hs7
              rw [hps2] at hlp7
              have HF := fun l => fin4 hs8 (show w.heap.size ≤ w.heap.size + 1 by omega) (hlp7.lower (Nat.le_trans hb HS8.out.size)) hr7 l
              obtain ⟨A7, c7, rfl, -⟩ := hlp7
              have HFF := Lib.hid (HF [.slice A7 ps2.length c7, I most, I last, I now])
              obtain ⟨r0, r1, r2, r3⟩ := cells4 hr7
              obtain ⟨f0, f1, f2, f3⟩ := frz4 hr7
              clear HF hr7 hs8 hs7 q0 q1 q2 q3 q4 q5 x0 x1 x2 x3 x4 x5 d0 d1 d2 d3
              go_wp2
              exact bodyPost_ret (v := t1 0 most last now (.slice A7 ps2.length c7)) (by simp [results, Try.results89, go_sem, r0, r1, r2, r3]) rfl (by rw [show M = (ps2, 0) from HMM.out]; exact ⟨_, rfl, HFF.out⟩)
          · have HMM := Lib.hid (hm2.trans (if_neg h3))
            clear hm2
            have h3' : ticks < 1 := by omega
            have HF := Lib.hid (fin4 HK5.out.s5 (show w.heap.size ≤ w.heap.size + 1 by omega) (H.out.safe HK5.out.s5) HK5.out.r5 [.slice (some ad) ps.length c, I most, I last, I now])
            obtain ⟨r0, r1, r2, r3⟩ := cells4 HK5.out.r5
            obtain ⟨f0, f1, f2, f3⟩ := frz4 HK5.out.r5
            go_wp2
            exact bodyPost_ret (v := t1 0 most last now (.slice (some ad) ps.length c)) (by simp [results, Try.results89, go_sem, r0, r1, r2, r3]) rfl (by rw [show M = (ps, 0) from HMM.out]; exact ⟨_, rfl, HF.out⟩)
      · obtain ⟨W5, hW5⟩ : ∃ W5, W5 = w2.setCells w1.heap.size 0 (encR p) := ⟨_, rfl⟩
        obtain ⟨g5, hg5⟩ : ∃ g5, g5 = w1.heap.size := ⟨_, rfl⟩
        rw [show ((((((w2.setCell ⟨w1.heap.size, 0, none⟩ (.int .i64 p.pid)).setCell ⟨w1.heap.size, 1, none⟩ (.int .i64 p.parent)).setCell ⟨w1.heap.size, 2, none⟩ (.int .i64 p.state)).setCell ⟨w1.heap.size, 3, none⟩ (.int .i64 p.code)).setCell ⟨w1.heap.size, 4, none⟩ (.int .i64 p.until_)).setCell ⟨w1.heap.size, 5, none⟩ (.bool p.killed)) = W5 from hW5.symm, ← hg5]
        have hs5 : Safe w1 W5 := by rw [hW5]; exact HS2.out.setCells _ _ (.inr (Nat.le_refl _))
        have hk5 : Kn5 w W5 w.heap.size g5 (.slice (some ad) ps.length c) most last now p := ⟨by
            rw [hW5, hg5]
            have := ((Blk.new w1 145 (encR zeroR).toArray).drew.but hs2 id).setAll (encR p) 0
            rw [setAt_whole _ _ (by rfl)] at this
            exact this, HS1.out.trans hs5, HB0'.out.but hs5 id, HB1'.out.but hs5 id, by rw [hg5]; have := HB1'.out.lt; omega⟩
        have HK5 := Lib.hid hk5
        clear hk5 hs5 hW5 hg5
        obtain ⟨q0, q1, q2, q3, q4, q5⟩ := cells6 HK5.out.b5
        obtain ⟨x0, x1, x2, x3, x4, x5⟩ := frz6c HK5.out.b5
        obtain ⟨d0, d1, d2, d3⟩ := cells4 HK5.out.t5
        have hn5 := HK5.out.n5
        have hle : w.heap.size ≤ g5 := by omega
        by_cases h2 : p.state = 2
        · have hb2 : (p.state == 2) = true := by simpa using h2
          have HMM := Lib.hid (HM.out.trans (if_pos h2))
          clear h2
          have HF := Lib.hid (fin4 HK5.out.s5 (show w.heap.size ≤ w.heap.size + 1 by omega) (H.out.safe HK5.out.s5) HK5.out.r5 [.slice (some ad) ps.length c, I most, I last, I now])
          obtain ⟨r0, r1, r2, r3⟩ := cells4 HK5.out.r5
          obtain ⟨f0, f1, f2, f3⟩ := frz4 HK5.out.r5
          go_wp2
          exact bodyPost_ret (v := t1 22 most last now (.slice (some ad) ps.length c)) (by simp [results, Try.results89, go_sem, r0, r1, r2, r3]) rfl (by rw [show M = (ps, 22) from HMM.out]; exact ⟨_, rfl, HF.out⟩)
        · have hb2 : (p.state == 2) = false := by simpa using h2
          have hm2 := HM.out.trans (if_neg h2)
          clear h2
          by_cases h3 : 1 ≤ ticks
          · have hm3 := hm2.trans (if_pos h3)
            have h3' : ¬ ticks < 1 := by omega
            obtain ⟨ps2, hps2⟩ : ∃ ps2, ps.set k { p with state := 2, until_ := now + min ticks (longest - now) } = ps2 := ⟨_, rfl⟩
            rw [hps2] at hm3
            have HMM := Lib.hid hm3
            clear hm3 hm2
            by_cases h4 : ticks < 1099511627776 - now
            · rw [show now + min ticks (longest - now) = now + ticks by unfold longest; omega] at hps2
              have HS8 := Lib.hid (((HK5.out.s5.setCell (p := ⟨g5, 2, none⟩) (.inr hle) (.int .i64 2)).setCell (p := ⟨g5, 4, none⟩) (.inr hle) (.int .i64 1099511627776)).setCell (p := ⟨g5, 4, none⟩) (.inr hle) (.int .i64 (now + ticks)))
              have HR8 := Lib.hid (((HK5.out.r5.far (p := ⟨g5, 2, none⟩) (show w.heap.size + 1 ≠ g5 by omega) (.int .i64 2)).far (p := ⟨g5, 4, none⟩) (show w.heap.size + 1 ≠ g5 by omega) (.int .i64 1099511627776)).far (p := ⟨g5, 4, none⟩) (show w.heap.size + 1 ≠ g5 by omega) (.int .i64 (now + ticks)))
              have hb8 : Blk (((W5.setCell ⟨g5, 2, none⟩ (.int .i64 2)).setCell ⟨g5, 4, none⟩ (.int .i64 1099511627776)).setCell ⟨g5, 4, none⟩ (.int .i64 (now + ticks))) g5 145 (encR { p with state := 2, until_ := now + ticks }).toArray := ((HK5.out.b5.set 2 (.int .i64 2)).set 4 (.int .i64 1099511627776)).set 4 (.int .i64 (now + ticks))
              obtain ⟨s0, s1, s2, s3, s4, s5⟩ := cells6 hb8
              clear hb8
              go_wp2_with fail
              refine (HP.out (now + ticks) _ HS8.out).mono ?_
              rintro e w7 ⟨v7, rfl, hlp7, hs7⟩
              have hr7 := HR8.out.but hs7 id
              have hs8 := HS8.out.trans hs7
              rw [hps2] at hlp7
              have HF := fun l => fin4 hs8 (show w.heap.size ≤ w.heap.size + 1 by omega) (hlp7.lower (Nat.le_trans hb HS8.out.size)) hr7 l
              obtain ⟨A7, c7, rfl, -⟩ := hlp7
              have HFF := Lib.hid (HF [.slice A7 ps2.length c7, I most, I last, I now])
              obtain ⟨r0, r1, r2, r3⟩ := cells4 hr7
              obtain ⟨f0, f1, f2, f3⟩ := frz4 hr7
              clear HF hr7 hs8 hs7 q0 q1 q2 q3 q4 q5 x0 x1 x2 x3 x4 x5 d0 d1 d2 d3
              go_wp2
              exact bodyPost_ret (v := t1 0 most last now (.slice A7 ps2.length c7)) (by simp [results, Try.results89, go_sem, r0, r1, r2, r3]) rfl (by rw [show M = (ps2, 0) from HMM.out]; exact ⟨_, rfl, HFF.out⟩)
            · rw [show now + min ticks (longest - now) = 1099511627776 by unfold longest; omega] at hps2
              have HS8 := Lib.hid ((HK5.out.s5.setCell (p := ⟨g5, 2, none⟩) (.inr hle) (.int .i64 2)).setCell (p := ⟨g5, 4, none⟩) (.inr hle) (.int .i64 1099511627776))
              have HR8 := Lib.hid ((HK5.out.r5.far (p := ⟨g5, 2, none⟩) (show w.heap.size + 1 ≠ g5 by omega) (.int .i64 2)).far (p := ⟨g5, 4, none⟩) (show w.heap.size + 1 ≠ g5 by omega) (.int .i64 1099511627776))
              have hb8 : Blk ((W5.setCell ⟨g5, 2, none⟩ (.int .i64 2)).setCell ⟨g5, 4, none⟩ (.int .i64 1099511627776)) g5 145 (encR { p with state := 2, until_ := 1099511627776 }).toArray := (HK5.out.b5.set 2 (.int .i64 2)).set 4 (.int .i64 1099511627776)
              obtain ⟨s0, s1, s2, s3, s4, s5⟩ := cells6 hb8
              clear hb8
              go_wp2_with fail
              refine (HP.out (1099511627776) _ HS8.out).mono ?_
              rintro e w7 ⟨v7, rfl, hlp7, hs7⟩
              have hr7 := HR8.out.but hs7 id
              have hs8 := HS8.out.trans hs7
              rw [hps2] at hlp7
              have HF := fun l => fin4 hs8 (show w.heap.size ≤ w.heap.size + 1 by omega) (hlp7.lower (Nat.le_trans hb HS8.out.size)) hr7 l
              obtain ⟨A7, c7, rfl, -⟩ := hlp7
              have HFF := Lib.hid (HF [.slice A7 ps2.length c7, I most, I last, I now])
              obtain ⟨r0, r1, r2, r3⟩ := cells4 hr7
              obtain ⟨f0, f1, f2, f3⟩ := frz4 hr7
              clear HF hr7 hs8 hs7 q0 q1 q2 q3 q4 q5 x0 x1 x2 x3 x4 x5 d0 d1 d2 d3
              go_wp2
              exact bodyPost_ret (v := t1 0 most last now (.slice A7 ps2.length c7)) (by simp [results, Try.results89, go_sem, r0, r1, r2, r3]) rfl (by rw [show M = (ps2, 0) from HMM.out]; exact ⟨_, rfl, HFF.out⟩)
          · have HMM := Lib.hid (hm2.trans (if_neg h3))
            clear hm2
            have h3' : ticks < 1 := by omega
            have HF := Lib.hid (fin4 HK5.out.s5 (show w.heap.size ≤ w.heap.size + 1 by omega) (H.out.safe HK5.out.s5) HK5.out.r5 [.slice (some ad) ps.length c, I most, I last, I now])
            obtain ⟨r0, r1, r2, r3⟩ := cells4 HK5.out.r5
            obtain ⟨f0, f1, f2, f3⟩ := frz4 HK5.out.r5
            go_wp2
            exact bodyPost_ret (v := t1 0 most last now (.slice (some ad) ps.length c)) (by simp [results, Try.results89, go_sem, r0, r1, r2, r3]) rfl (by rw [show M = (ps, 0) from HMM.out]; exact ⟨_, rfl, HF.out⟩)
end Go.Proofs.Ytlojadpbdbhmiaa
