/- The reference's processes: Kill, Sleep. -/
import Derived.Test.YtlojadpbdbhmiaaZb
namespace Go.Proofs.Ytlojadpbdbhmiaa
open Go.RowKit
set_option linter.unusedSimpArgs false
set_option linter.unusedVariables false

def Ranged64 (x : Int) : Prop := -9223372036854775808 ≤ x ∧ x ≤ 9223372036854775807
def killR (ps : List PR) (pid : Int) : List PR × Int :=
  if liveP ps pid ≠ 0 then (ps, liveP ps pid) else if pid = 1 then (ps, 1) else match oneP ps pid with
  | some k => (ps.set k { ps.getD k zeroR with killed := true, state := 1, until_ := 0 }, 0)
  | none => (ps, 18)
abbrev t1 (a : Int) (most last now : Int) (v : Value) : Value := .tuple #[aggT v most last now, I a]
theorem frz6c {W : World} {t : TypeId} {g : Nat} {cs : Array Value} (h : Blk W g t cs) :
    W.frozen? ⟨g, 0, none⟩ = false ∧ W.frozen? ⟨g, 1, none⟩ = false ∧ W.frozen? ⟨g, 2, none⟩ = false ∧ W.frozen? ⟨g, 3, none⟩ = false ∧ W.frozen? ⟨g, 4, none⟩ = false ∧ W.frozen? ⟨g, 5, none⟩ = false :=
  ⟨h.frozen _, h.frozen _, h.frozen _, h.frozen _, h.frozen _, h.frozen _⟩
/-- Two blocks more: the table, and the one for the result. -/
theorem two_blocks (w : World) (v : Value) (most last now : Int) : ∃ W, W = (w.alloc (.cells #[v, I most, I last, I now] 91)).alloc (.cells #[.slice none 0 0, I 0, I 0, I 0] 91) ∧ Safe w W ∧ Blk W w.heap.size 91 #[v, I most, I last, I now] ∧ Blk W (w.heap.size + 1) 91 #[.slice none 0 0, I 0, I 0, I 0] ∧ W.heap.size = w.heap.size + 2 :=
  ⟨_, rfl, ((But.refl _ w).alloc _).alloc _, (Blk.new _ _ _).alloc _, Blk.new' _ _ (by simp), by simp⟩
/-- The cells that are read: a table's four, and one process's six. -/
abbrev K10 (w' : World) (b : Nat) (v : Value) (most last now : Int) (ad : Addr) (p : PR) : Prop :=
  w'.cell? ⟨b, 0, none⟩ = some v ∧ w'.cell? ⟨b, 1, none⟩ = some (I most) ∧ w'.cell? ⟨b, 2, none⟩ = some (I last) ∧ w'.cell? ⟨b, 3, none⟩ = some (I now) ∧ w'.cell? ad = some (I p.pid) ∧ w'.cell? ⟨ad.block, ad.off + 1, none⟩ = some (I p.parent) ∧ w'.cell? ⟨ad.block, ad.off + 2, none⟩ = some (I p.state) ∧ w'.cell? ⟨ad.block, ad.off + 3, none⟩ = some (I p.code) ∧ w'.cell? ⟨ad.block, ad.off + 4, none⟩ = some (I p.until_) ∧ w'.cell? ⟨ad.block, ad.off + 5, none⟩ = some (.bool p.killed)
theorem K10.mk {w : World} {b : Nat} {v : Value} {most last now : Int} {ad : Addr} {p : PR} (hB : Blk w b 91 #[v, I most, I last, I now]) (ha : At6 w ad p) : K10 w b v most last now ad p :=
  ⟨hB.cell' rfl, hB.cell' rfl, hB.cell' rfl, hB.cell' rfl, ha.c0, ha.c1, ha.c2, ha.c3, ha.c4, ha.c5⟩
theorem K10.safe {w w' : World} {b : Nat} {v : Value} {most last now : Int} {ad : Addr} {p : PR} (h : K10 w b v most last now ad p) (hs : Safe w w') : K10 w' b v most last now ad p := by
  obtain ⟨m0, m1, m2, m3, n0, n1, n2, n3, n4, n5⟩ := h
  exact ⟨hs.cell m0 id, hs.cell m1 id, hs.cell m2 id, hs.cell m3 id, hs.cell n0 id, hs.cell n1 id, hs.cell n2 id, hs.cell n3 id, hs.cell n4 id, hs.cell n5 id⟩
theorem K10.but {w w' : World} {b g : Nat} {v : Value} {most last now : Int} {ad : Addr} {p : PR} (h : K10 w b v most last now ad p) (hs : But (· = g) w w') (h1 : b ≠ g) (h2 : ad.block ≠ g) : K10 w' b v most last now ad p := by
  obtain ⟨m0, m1, m2, m3, n0, n1, n2, n3, n4, n5⟩ := h
  exact ⟨hs.cell m0 h1, hs.cell m1 h1, hs.cell m2 h1, hs.cell m3 h1, hs.cell n0 h2, hs.cell n1 h2, hs.cell n2 h2, hs.cell n3 h2, hs.cell n4 h2, hs.cell n5 h2⟩
theorem K10.set6 {w : World} {b g : Nat} {v : Value} {most last now : Int} {ad : Addr} {p : PR} (h : K10 w b v most last now ad p) (h1 : b ≠ g) (h2 : ad.block ≠ g) (q : PR) :
    K10 ((((((w.setCell ⟨g, 0, none⟩ (.int .i64 q.pid)).setCell ⟨g, 1, none⟩ (.int .i64 q.parent)).setCell ⟨g, 2, none⟩ (.int .i64 q.state)).setCell ⟨g, 3, none⟩ (.int .i64 q.code)).setCell ⟨g, 4, none⟩ (.int .i64 q.until_)).setCell ⟨g, 5, none⟩ (.bool q.killed)) b v most last now ad p :=
  h.but (((((((But.refl (· = g) w).setCell (p := ⟨g, 0, none⟩) (.inl rfl) _).setCell (p := ⟨g, 1, none⟩) (.inl rfl) _).setCell (p := ⟨g, 2, none⟩) (.inl rfl) _).setCell (p := ⟨g, 3, none⟩) (.inl rfl) _).setCell (p := ⟨g, 4, none⟩) (.inl rfl) _).setCell (p := ⟨g, 5, none⟩) (.inl rfl) _) h1 h2
/-- What stands when one process has been read into a block of its own. -/
structure Kn5 (w W : World) (b g : Nat) (v : Value) (most last now : Int) (p : PR) : Prop where
  b5 : Blk W g 145 (encR p).toArray
  s5 : Safe w W
  t5 : Blk W b 91 #[v, I most, I last, I now]
  r5 : Blk W (b + 1) 91 #[.slice none 0 0, I 0, I 0, I 0]
  n5 : b + 1 < g
set_option maxRecDepth 100000 in
set_option maxHeartbeats 2000000 in
theorem rkill_any (base : Nat) (v : Value) (ps : List PR) (most last now pid : Int) (w : World) (h : LP w base v ps) (h16 : ps.length ≤ 16) (hb : base ≤ w.heap.size) :
    Calls Try.prog 88 #[aggT v most last now, .int .i64 pid] w fun e w' => PRet w w' base e (t1 (killR ps pid).2 most last now) (killR ps pid).1 := by
  obtain ⟨W, hW, hsW, b0, b1, hsz⟩ := two_blocks w v most last now
  have hlive := rlive_any base v ps most last now pid W (h.safe hsW) h16
  have HLIVE := Lib.hid hlive
  have HW := Lib.hid hW
  have HSW := Lib.hid hsW
  have HB0 := Lib.hid b0
  have HB1 := Lib.hid b1
  have HSZ := Lib.hid hsz
  have H := Lib.hid h
  obtain ⟨A, c, rfl, hc, hcm, hrd, hbd⟩ := h
  clear hW hsW b0 b1 hsz
  by_cases hl : liveP ps pid ≠ 0
  · have e : killR ps pid = (ps, liveP ps pid) := by unfold killR; rw [if_pos hl]
    rw [e]
    have hbl : (liveP ps pid != 0) = true := by simpa using hl
    generalize liveP ps pid = L at *
    clear hrd hbd hl e hlive
    go_enter Try.func88, Try.ntmps88
    go_wp2_with fail
    rw [← HW.out]
    refine (HLIVE.out).mono ?_
    rintro _ w1 ⟨rfl, hs1⟩
    obtain ⟨d0, d1, d2, d3⟩ := cells4 (HB0.out.but hs1 id)
    obtain ⟨r0, r1, r2, r3⟩ := cells4 (HB1.out.but hs1 id)
    obtain ⟨f0, f1, f2, f3⟩ := frz4 (HB1.out.but hs1 id)
    have HF := Lib.hid (fin4 (HSW.out.trans hs1) (show w.heap.size ≤ w.heap.size + 1 by omega) (H.out.safe (HSW.out.trans hs1)) (HB1.out.but hs1 id) [.slice A ps.length c, I most, I last, I now])
    clear hs1
    go_wp2
    exact bodyPost_ret (v := t1 L most last now (.slice A ps.length c)) (by simp [results, Try.results88, go_sem, r0, r1, r2, r3]) rfl ⟨_, rfl, HF.out⟩
  · have hl0 : liveP ps pid = 0 := by omega
    rw [hl0] at hlive
    have HLIVE := Lib.hid hlive
    by_cases h1 : pid = 1
    · have e : killR ps pid = (ps, 1) := by unfold killR; rw [if_neg hl, if_pos h1]
      rw [e]
      have hb1 : (pid == 1) = true := by simpa using h1
      clear hrd hbd hl e hlive hl0 h1
      go_enter Try.func88, Try.ntmps88
      go_wp2_with fail
      rw [← HW.out]
      refine (HLIVE.out).mono ?_
      rintro _ w1 ⟨rfl, hs1⟩
      obtain ⟨d0, d1, d2, d3⟩ := cells4 (HB0.out.but hs1 id)
      obtain ⟨r0, r1, r2, r3⟩ := cells4 (HB1.out.but hs1 id)
      obtain ⟨f0, f1, f2, f3⟩ := frz4 (HB1.out.but hs1 id)
      have HF := Lib.hid (fin4 (HSW.out.trans hs1) (show w.heap.size ≤ w.heap.size + 1 by omega) (H.out.safe (HSW.out.trans hs1)) (HB1.out.but hs1 id) [.slice A ps.length c, I most, I last, I now])
      clear hs1
      go_wp2
      exact bodyPost_ret (v := t1 1 most last now (.slice A ps.length c)) (by simp [results, Try.results88, go_sem, r0, r1, r2, r3]) rfl ⟨_, rfl, HF.out⟩
    · have hb1 : (pid == 1) = false := by simpa using h1
      cases hk : oneP ps pid with
      | none => exact absurd (by unfold liveP; rw [hk]; simp) hl
      | some k =>
        obtain ⟨p, hp, hpid, hlt⟩ := oneP_get hk
        have hgd : ps.getD k zeroR = p := by rw [List.getD_eq_getElem?_getD, hp]; rfl
        have e : killR ps pid = (ps.set k { p with killed := true, state := 1, until_ := 0 }, 0) := by unfold killR; rw [if_neg hl, if_neg h1, hk]; simp only [hgd]
        rw [e]
        obtain ⟨ad, rfl, hat⟩ := hrd.at hp
        have hki : (k : Int) < ps.length := by omega
        have hA := fun W' (hs : Safe w W') => rat_any base _ ps most last now pid W' (H.out.safe hs) h16
        rw [hk, show ixP (some k) = (k : Int) from rfl] at hA
        have hP := fun W' (hs : Safe w W') => rput_any base _ ps most last now k { p with killed := true, state := 1, until_ := 0 } W' (H.out.safe hs) h16 (by rw [← hpid] at hk; exact hk)
        generalize hps2 : ps.set k { p with killed := true, state := 1, until_ := 0 } = ps2 at *
        have HA := Lib.hid hA
        have HP := Lib.hid hP
        have HAT := Lib.hid hat
        clear hrd hbd hl e hlive hl0 h1 hA hP hat hp hpid hgd hk hps2
        go_enter Try.func88, Try.ntmps88
        go_wp2_with fail
        rw [← HW.out]
        refine (HLIVE.out).mono ?_
        rintro _ w1 ⟨rfl, hs1⟩
        have hK := K10.mk (HB0.out.but hs1 id) (HAT.out.safe (HSW.out.trans hs1))
        have HK := Lib.hid hK
        have HS1 := Lib.hid (HSW.out.trans hs1)
        have HB1' := Lib.hid (HB1.out.but hs1 id)
        have HB0' := Lib.hid (HB0.out.but hs1 id)
        clear hs1
        obtain ⟨m0, m1, m2, m3, n0, n1, n2, n3, n4, n5⟩ := hK
        go_wp2_with fail
        have HG0 : Hid (w.heap.size ≠ w1.heap.size) := Lib.hid (by have := HB0'.out.lt; omega)
        have HG1 : Hid ((ad.add (k * 6)).block ≠ w1.heap.size) := Lib.hid (by have := cell_lt HK.out.2.2.2.2.1; omega)
        go_region_held3 (fun w' => w'.cell? ⟨w.heap.size, 0, none⟩ = some (.slice (some ad) ps.length c) ∧ w'.cell? ⟨w.heap.size, 1, none⟩ = some (I most) ∧ w'.cell? ⟨w.heap.size, 2, none⟩ = some (I last) ∧ w'.cell? ⟨w.heap.size, 3, none⟩ = some (I now) ∧ w'.cell? (ad.add (k * 6)) = some (I p.pid) ∧ w'.cell? ⟨(ad.add (k * 6)).block, (ad.add (k * 6)).off + 1, none⟩ = some (I p.parent) ∧ w'.cell? ⟨(ad.add (k * 6)).block, (ad.add (k * 6)).off + 2, none⟩ = some (I p.state) ∧ w'.cell? ⟨(ad.add (k * 6)).block, (ad.add (k * 6)).off + 3, none⟩ = some (I p.code) ∧ w'.cell? ⟨(ad.add (k * 6)).block, (ad.add (k * 6)).off + 4, none⟩ = some (I p.until_) ∧ w'.cell? ⟨(ad.add (k * 6)).block, (ad.add (k * 6)).off + 5, none⟩ = some (.bool p.killed))
          (first | (with_reducible exact HKC.out) | (with_reducible exact HKC.out.set6 HG0.out HG1.out _) | (with_reducible exact HKC.out.safe ((But.refl _ _).alloc _)) | (with_reducible exact HK.out.safe (But.refl _ _).drew) | (with_reducible exact HK.out.safe ((But.refl _ _).alloc _).drew) | go_keep)
          ((go_at_call 100; (first | (refine (HA.out _ HS1.out.drew).mono ?_; rintro _ w2 ⟨rfl, hs2⟩; have HS2 := Lib.hid (((But.refl (fun _ => False) w1).drew).trans hs2)) | (refine (HA.out _ (HS1.out.alloc _).drew).mono ?_; rintro _ w2 ⟨rfl, hs2⟩; have HS2 := Lib.hid ((((But.refl (fun _ => False) w1).alloc _).drew).trans hs2); have hbz := (Blk.new w1 145 (encR zeroR).toArray).drew.but hs2 id; obtain ⟨y0, y1, y2, y3, y4, y5⟩ := cells6 hbz; obtain ⟨x0, x1, x2, x3, x4, x5⟩ := frz6c hbz; clear hbz)); have HKC := Lib.hid (HK.out.safe HS2.out)))
        · obtain ⟨W5, hW5⟩ : ∃ W5, W5 = w2.alloc (.cells #[I p.pid, I p.parent, I p.state, I p.code, I p.until_, .bool p.killed] 145) := ⟨_, rfl⟩
          obtain ⟨g5, hg5⟩ : ∃ g5, g5 = w2.heap.size := ⟨_, rfl⟩
          rw [← hW5, ← hg5]
          have hs5 : Safe w1 W5 := by rw [hW5]; exact HS2.out.alloc _
          have hk5 : Kn5 w W5 w.heap.size g5 (.slice (some ad) ps.length c) most last now p := ⟨by rw [hW5, hg5]; exact Blk.new _ _ _, HS1.out.trans hs5, HB0'.out.but hs5 id, HB1'.out.but hs5 id, by rw [hg5]; have := HB1'.out.lt; have := HS2.out.size; omega⟩
          have HK5 := Lib.hid hk5
          clear hk5 hs5 hW5 hg5
          obtain ⟨q0, q1, q2, q3, q4, q5⟩ := cells6 HK5.out.b5
          obtain ⟨x0, x1, x2, x3, x4, x5⟩ := frz6c HK5.out.b5
          obtain ⟨d0, d1, d2, d3⟩ := cells4 HK5.out.t5
          have hn5 := HK5.out.n5
          have hle : w.heap.size ≤ g5 := by omega
          go_wp2_with fail
          refine (HP.out _ (((HK5.out.s5.setCell (p := ⟨g5, 5, none⟩) (.inr hle) _).setCell (p := ⟨g5, 2, none⟩) (.inr hle) _).setCell (p := ⟨g5, 4, none⟩) (.inr hle) _)).mono ?_
          rintro e w7 ⟨v7, rfl, hlp7, hs7⟩
          have hr7 := (((HK5.out.r5.far (p := ⟨g5, 5, none⟩) (show w.heap.size + 1 ≠ g5 by omega) (.bool true)).far (p := ⟨g5, 2, none⟩) (show w.heap.size + 1 ≠ g5 by omega) (.int .i64 1)).far (p := ⟨g5, 4, none⟩) (show w.heap.size + 1 ≠ g5 by omega) (.int .i64 0)).but hs7 id
          have hs8 := ((((HK5.out.s5.setCell (p := ⟨g5, 5, none⟩) (.inr hle) (.bool true)).setCell (p := ⟨g5, 2, none⟩) (.inr hle) (.int .i64 1)).setCell (p := ⟨g5, 4, none⟩) (.inr hle) (.int .i64 0))).trans hs7
          have HF := fun l => fin4 hs8 (show w.heap.size ≤ w.heap.size + 1 by omega) (hlp7.lower (Nat.le_trans hb (show w.heap.size ≤ _ from (((HK5.out.s5.setCell (p := ⟨g5, 5, none⟩) (.inr hle) (.bool true)).setCell (p := ⟨g5, 2, none⟩) (.inr hle) (.int .i64 1)).setCell (p := ⟨g5, 4, none⟩) (.inr hle) (.int .i64 0)).size))) hr7 l
          obtain ⟨A7, c7, rfl, -⟩ := hlp7
          have HFF := Lib.hid (HF [.slice A7 ps2.length c7, I most, I last, I now])
          obtain ⟨r0, r1, r2, r3⟩ := cells4 hr7
          obtain ⟨f0, f1, f2, f3⟩ := frz4 hr7
          clear HF hr7 hs8 hs7 q0 q1 q2 q3 q4 q5 x0 x1 x2 x3 x4 x5 d0 d1 d2 d3
          go_wp2
          exact bodyPost_ret (v := t1 0 most last now (.slice A7 ps2.length c7)) (by simp [results, Try.results88, go_sem, r0, r1, r2, r3]) rfl ⟨_, rfl, HFF.out⟩
        · obtain ⟨W5, hW5⟩ : ∃ W5, W5 = w2.setCells w1.heap.size 0 (encR p) := ⟨_, rfl⟩
          obtain ⟨g5, hg5⟩ : ∃ g5, g5 = w1.heap.size := ⟨_, rfl⟩
          rw [show ((((((w2.setCell ⟨w1.heap.size, 0, none⟩ (.int .i64 p.pid)).setCell ⟨w1.heap.size, 1, none⟩ (.int .i64 p.parent)).setCell ⟨w1.heap.size, 2, none⟩ (.int .i64 p.state)).setCell ⟨w1.heap.size, 3, none⟩ (.int .i64 p.code)).setCell ⟨w1.heap.size, 4, none⟩ (.int .i64 p.until_)).setCell ⟨w1.heap.size, 5, none⟩ (.bool p.killed)) = W5 from hW5.symm, ← hg5]
          have hs5 : Safe w1 W5 := by rw [hW5]; exact HS2.out.setCells _ _ (.inr (Nat.le_refl _))
          have hk5 : Kn5 w W5 w.heap.size g5 (.slice (some ad) ps.length c) most last now p := ⟨by
              rw [hW5, hg5]
              have := ((Blk.new w1 145 (encR zeroR).toArray).drew.but hs2 id).setAll (encR p) 0
              rw [setAt_whole _ _ (by rfl)] at this
              exact this, HS1.out.trans hs5, HB0'.out.but hs5 id, HB1'.out.but hs5 id, by rw [hg5]; have := HB1'.out.lt; omega⟩
          have HK5 := Lib.hid hk5
          clear hk5 hs5 hW5 hg5
          obtain ⟨q0, q1, q2, q3, q4, q5⟩ := cells6 HK5.out.b5
          obtain ⟨x0, x1, x2, x3, x4, x5⟩ := frz6c HK5.out.b5
          obtain ⟨d0, d1, d2, d3⟩ := cells4 HK5.out.t5
          have hn5 := HK5.out.n5
          have hle : w.heap.size ≤ g5 := by omega
          go_wp2_with fail
          refine (HP.out _ (((HK5.out.s5.setCell (p := ⟨g5, 5, none⟩) (.inr hle) _).setCell (p := ⟨g5, 2, none⟩) (.inr hle) _).setCell (p := ⟨g5, 4, none⟩) (.inr hle) _)).mono ?_
          rintro e w7 ⟨v7, rfl, hlp7, hs7⟩
          have hr7 := (((HK5.out.r5.far (p := ⟨g5, 5, none⟩) (show w.heap.size + 1 ≠ g5 by omega) (.bool true)).far (p := ⟨g5, 2, none⟩) (show w.heap.size + 1 ≠ g5 by omega) (.int .i64 1)).far (p := ⟨g5, 4, none⟩) (show w.heap.size + 1 ≠ g5 by omega) (.int .i64 0)).but hs7 id
          have hs8 := ((((HK5.out.s5.setCell (p := ⟨g5, 5, none⟩) (.inr hle) (.bool true)).setCell (p := ⟨g5, 2, none⟩) (.inr hle) (.int .i64 1)).setCell (p := ⟨g5, 4, none⟩) (.inr hle) (.int .i64 0))).trans hs7
          have HF := fun l => fin4 hs8 (show w.heap.size ≤ w.heap.size + 1 by omega) (hlp7.lower (Nat.le_trans hb (show w.heap.size ≤ _ from (((HK5.out.s5.setCell (p := ⟨g5, 5, none⟩) (.inr hle) (.bool true)).setCell (p := ⟨g5, 2, none⟩) (.inr hle) (.int .i64 1)).setCell (p := ⟨g5, 4, none⟩) (.inr hle) (.int .i64 0)).size))) hr7 l
          obtain ⟨A7, c7, rfl, -⟩ := hlp7
          have HFF := Lib.hid (HF [.slice A7 ps2.length c7, I most, I last, I now])
          obtain ⟨r0, r1, r2, r3⟩ := cells4 hr7
          obtain ⟨f0, f1, f2, f3⟩ := frz4 hr7
          clear HF hr7 hs8 hs7 q0 q1 q2 q3 q4 q5 x0 x1 x2 x3 x4 x5 d0 d1 d2 d3
          go_wp2
          exact bodyPost_ret (v := t1 0 most last now (.slice A7 ps2.length c7)) (by simp [results, Try.results88, go_sem, r0, r1, r2, r3]) rfl ⟨_, rfl, HFF.out⟩
end Go.Proofs.Ytlojadpbdbhmiaa
