/- Law 22: Do, Tick. -/
import Derived.Test.YtlojadpbdbhmiaaZk
namespace Go.Proofs.Ytlojadpbdbhmiaa
open Go.RowKit
set_option linter.unusedSimpArgs false
set_option linter.unusedVariables false

abbrev K4 (w' : World) (b : Nat) (v : Value) (most last now : Int) : Prop :=
  w'.cell? ⟨b, 0, none⟩ = some v ∧ w'.cell? ⟨b, 1, none⟩ = some (I most) ∧ w'.cell? ⟨b, 2, none⟩ = some (I last) ∧ w'.cell? ⟨b, 3, none⟩ = some (I now)
theorem K4.safe {w w' : World} {b : Nat} {v : Value} {most last now : Int} (h : K4 w b v most last now) (hs : Safe w w') : K4 w' b v most last now := by
  obtain ⟨m0, m1, m2, m3⟩ := h
  exact ⟨hs.cell m0 id, hs.cell m1 id, hs.cell m2 id, hs.cell m3 id⟩
theorem K4.set4 {w : World} {b g : Nat} {v : Value} {most last now : Int} (h : K4 w b v most last now) (h1 : b ≠ g) (a b' c d : Value) :
    K4 ((((w.setCell ⟨g, 0, none⟩ a).setCell ⟨g, 1, none⟩ b').setCell ⟨g, 2, none⟩ c).setCell ⟨g, 3, none⟩ d) b v most last now := by
  obtain ⟨m0, m1, m2, m3⟩ := h
  have hs := ((((But.refl (· = g) w).setCell (p := ⟨g, 0, none⟩) (.inl rfl) a).setCell (p := ⟨g, 1, none⟩) (.inl rfl) b').setCell (p := ⟨g, 2, none⟩) (.inl rfl) c).setCell (p := ⟨g, 3, none⟩) (.inl rfl) d
  exact ⟨hs.cell m0 h1, hs.cell m1 h1, hs.cell m2 h1, hs.cell m3 h1⟩
set_option maxRecDepth 100000 in
set_option maxHeartbeats 2000000 in
theorem do5 (gt B base N M : Nat) (v vq : Value) (ps qs : List PR) (most last now mostq lastq nowq : Int) (a : ActP) (w : World) (h : TW w gt B v ps most last now) (hP : PT ps last N) (hm : most = N) (hN : N ≤ 16) (hl0 : 0 ≤ last) (hl1 : last ≤ 1000000) (hn0 : 0 ≤ now) (hn1 : now ≤ 1099511627776)
    (hq : LP w base vq qs) (hQ : PT qs lastq M) (hmq : mostq = M) (hM : M ≤ 16) (hl0q : 0 ≤ lastq) (hl1q : lastq ≤ 1000000) (hn0q : 0 ≤ nowq) (hn1q : nowq ≤ 1099511627776) (hb : base ≤ w.heap.size) (r1 : Ranged64 a.pid) (r2 : Ranged64 a.n) (hk0 : a.kind ≠ 0) (hk1 : a.kind ≠ 1) (hk2 : a.kind ≠ 2) (hk3 : a.kind ≠ 3) (hk4 : a.kind ≠ 4) :
    Calls Try.prog 53 #[.pointer (some ⟨gt, 0, none⟩), aggT vq mostq lastq nowq, .agg #[I a.kind, I a.pid, I a.n]] w fun e w' => DoRet w w' gt B v e (doM ps most last now a).1 most (doM qs mostq lastq nowq a).1 mostq (decide ((doM ps most last now a).2 = (doM qs mostq lastq nowq a).2)) base := by
  have k0 : (a.kind == 0) = false := by simpa using hk0
  have k1 : (a.kind == 1) = false := by simpa using hk1
  have k2 : (a.kind == 2) = false := by simpa using hk2
  have k3 : (a.kind == 3) = false := by simpa using hk3
  have k4 : (a.kind == 4) = false := by simpa using hk4
  have e : ∀ rs most last now, doM rs most last now a = ((wakeAll rs (whichP (due (tickN now a.n)) rs), last, tickN now a.n), whichP (due (tickN now a.n)) rs) := fun rs most last now => by unfold doM; rw [if_neg hk0, if_neg hk1, if_neg hk2, if_neg hk3, if_neg hk4]
  rw [e, e]
  obtain ⟨W, hW, hsW, b0, b1, b2⟩ := three_blocks w vq mostq lastq nowq a
  have hT := h.safe hsW
  have hpc := ptick_any gt B v ps most last now a.n W hT hP.pos hn0 (by unfold longest; omega) r2.2 r2.1
  have hrc := fun W' (hl : LP W' base vq qs) (hs : base ≤ W'.heap.size) => rtick_any base vq qs mostq lastq nowq a.n W' hl (by have := hQ.len; omega) hs hQ.asc hn0q hn1q r2
  rw [← wake_tk hQ.asc] at hrc
  have hol : (whichP (due (tickN now a.n)) ps).length ≤ 16 := by
    have := whichP_len (due (tickN now a.n)) ps ps.length
    rw [List.take_length] at this
    have := hP.len
    omega
  have holq : (whichP (due (tickN nowq a.n)) qs).length ≤ 16 := by
    have := whichP_len (due (tickN nowq a.n)) qs qs.length
    rw [List.take_length] at this
    have := hQ.len
    omega
  simp only
  generalize wakeAll ps (whichP (due (tickN now a.n)) ps) = ps2 at *
  generalize wakeAll qs (whichP (due (tickN nowq a.n)) qs) = qs2 at *
  generalize whichP (due (tickN now a.n)) ps = xs at *
  generalize whichP (due (tickN nowq a.n)) qs = ys at *
  generalize tickN now a.n = T at *
  generalize tickN nowq a.n = Tq at *
  have HT := Lib.hid hT
  have HPC := Lib.hid hpc
  have HRC := Lib.hid hrc
  have HSW := Lib.hid hsW
  have HB0 := Lib.hid b0
  have HB1 := Lib.hid b1
  have HB2 := Lib.hid b2
  have HQ := Lib.hid (hq.safe hsW)
  obtain ⟨q0, q1, q2⟩ := cells3 b1
  have HW := Lib.hid hW
  clear hm hmq hN hM e hk0 hk1 hk2 hk3 hk4 hT hpc hrc hsW b0 b1 b2 h hq hP hQ hW
  go_enter Try.func53, Try.ntmps53
  go_wp2_with fail
  rw [← HW.out]
  refine (HPC.out).mono ?_
  rintro e w3 ⟨u, rfl, ho3, hr3⟩
  obtain ⟨Au, cu, rfl, hcu⟩ := own_form ho3
  have x0 := hr3.blk HT.out HB0.out (by decide) (by decide)
  have x1 := hr3.blk HT.out HB1.out (by decide) (by decide)
  have x2 := hr3.blk HT.out HB2.out (by decide) (by decide)
  have hlq := hr3.lp HT.out HQ.out
  have hsz : W.heap.size ≤ w3.heap.size := by obtain ⟨_, _, hb3, _⟩ := hr3; exact hb3.size
  have hrc3 := HRC.out w3 hlq (Nat.le_trans hb (Nat.le_trans HSW.out.size hsz))
  have HRC3 := Lib.hid hrc3
  have HR3 := Lib.hid (hr3.pre HSW.out)
  have HX2 := Lib.hid x2
  have HO3 := Lib.hid ho3
  obtain ⟨d0, d1, d2, d3⟩ := cells4 x0
  obtain ⟨y0, y1, y2⟩ := cells3 x1
  clear x0 x1 x2 hlq hsz hrc3 hr3 q0 q1 q2 ho3
  go_wp2_with fail
  refine (HRC3.out).mono ?_
  rintro e w4 ⟨v7, u7, rfl, hlp, ho4, hs4⟩
  obtain ⟨Av, cv, rfl, hcv⟩ := own_form ho4
  obtain ⟨A7, c7, hv7, -⟩ := id hlp
  subst hv7
  have x2 := HX2.out.but hs4 id
  obtain ⟨W5, hW5⟩ : ∃ W5, W5 = w4.alloc (.cells #[.slice A7 qs2.length c7, I mostq, I lastq, I Tq] 91) := ⟨_, rfl⟩
  obtain ⟨g5, hg5⟩ : ∃ g5, g5 = w4.heap.size := ⟨_, rfl⟩
  have hs5 : Safe w4 W5 := by rw [hW5]; exact (But.refl _ _).alloc _
  have hb5 : Blk W5 g5 91 #[.slice A7 qs2.length c7, I mostq, I lastq, I Tq] := by rw [hW5, hg5]; exact Blk.new _ _ _
  have hk4 : K4 W5 g5 (.slice A7 qs2.length c7) mostq lastq Tq := cells4 hb5
  have hx5 := x2.but hs5 id
  have HR5 := Lib.hid ((HR3.out.post hs4).post hs5)
  have HLP5 := Lib.hid (hlp.safe hs5)
  have hxl : Rd I W5 Au xs := (Rd.of_own HO3.out).safe (hs4.trans hs5)
  have hyl : Rd I W5 Av ys := (Rd.of_own ho4).safe hs5
  have hints := fun W' (hs : Safe W5 W') => lints_any Au Av cu cv xs ys W' (hxl.safe hs) (hyl.safe hs) (by omega) (by omega)
  have HIN := Lib.hid hints
  have HK4 := Lib.hid hk4
  have HX5 := Lib.hid hx5
  have HW5 := Lib.hid hW5
  have HG5 := Lib.hid hg5
  have hg5w : w.heap.size + 2 < g5 := by rw [hg5]; exact x2.lt
  clear hW5 hg5 hb5 hs5 hlp ho4 hs4 hxl hyl hints hx5 x2 hk4 d0 d1 d2 d3 y0 y1 y2
  go_upto_region 24 with fail
  rw [← HW5.out, ← HG5.out]
  obtain ⟨m0, m1, m2, m3⟩ := HK4.out
  have HN5 : Hid (g5 ≠ w.heap.size + 1 + 1) := Lib.hid (by omega)
  obtain ⟨r0, r1', r2', r3'⟩ := cells4 HX5.out
  obtain ⟨f0, f1, f2, f3⟩ := frz4 HX5.out
  go_region_held3 (fun w' => w'.cell? ⟨g5, 0, none⟩ = some (.slice A7 qs2.length c7) ∧ w'.cell? ⟨g5, 1, none⟩ = some (I mostq) ∧ w'.cell? ⟨g5, 2, none⟩ = some (I lastq) ∧ w'.cell? ⟨g5, 3, none⟩ = some (I Tq))
    (first | (with_reducible exact HKC.out) | (with_reducible exact HKC.out.set4 HN5.out _ _ _ _) | (with_reducible exact HK4.out.safe (But.refl _ _).drew) | (with_reducible exact HK4.out.set4 HN5.out _ _ _ _) | (with_reducible exact (HK4.out.set4 HN5.out _ _ _ _).safe (But.refl _ _).drew) | go_keep)
    ((go_at_call 91; refine (HIN.out _ (But.refl _ _).drew).mono ?_; rintro _ w6 ⟨rfl, hs6⟩; have hx6 := HX5.out.drew.but hs6 id; obtain ⟨z0, z1, z2, z3⟩ := cells4 hx6; obtain ⟨g0, g1, g2, g3⟩ := frz4 hx6; have HKC := Lib.hid (HK4.out.safe (((But.refl (fun _ => False) W5).drew).trans hs6)); have HS6 := Lib.hid (((But.refl (fun _ => False) W5).drew).trans hs6)))
  have hx6 := HX5.out.but HS6.out id
  have hl6 := HLP5.out.safe HS6.out
  have HFIN : Hid (LP (w6.setCells (w.heap.size + 2) 0 [.slice A7 qs2.length c7, I mostq, I lastq, I Tq]) base (.slice A7 qs2.length c7) qs2 ∧ TRet w (w6.setCells (w.heap.size + 2) 0 [.slice A7 qs2.length c7, I mostq, I lastq, I Tq]) gt B v ps2 most last T) := Lib.hid ⟨hl6.but ((But.refl (· = w.heap.size + 2) _).setCells _ 0 (.inl rfl)) (fun k hk e => hl6.ne hk hx6 (by decide) e), (HR5.out.post HS6.out).put hx6 (by omega) _⟩
  obtain ⟨t0, t1, t2, t3⟩ := cells4 hx6
  clear hx6 hl6
  go_wp2
  exact bodyPost_ret (v := .tuple #[aggT (.slice A7 qs2.length c7) mostq lastq Tq, .bool (decide (xs = ys))]) (by simp [results, Try.results53, go_sem, t0, t1, t2, t3]) rfl ⟨_, rfl, HFIN.out⟩
/-- An act of both. -/
theorem do_any (gt B base N M : Nat) (v vq : Value) (ps qs : List PR) (most last now mostq lastq nowq : Int) (a : ActP) (w : World) (h : TW w gt B v ps most last now) (hP : PT ps last N) (hm : most = N) (hN : N ≤ 16) (hl0 : 0 ≤ last) (hl1 : last ≤ 1000000) (hn0 : 0 ≤ now) (hn1 : now ≤ 1099511627776)
    (hq : LP w base vq qs) (hQ : PT qs lastq M) (hmq : mostq = M) (hM : M ≤ 16) (hl0q : 0 ≤ lastq) (hl1q : lastq ≤ 1000000) (hn0q : 0 ≤ nowq) (hn1q : nowq ≤ 1099511627776) (hb : base ≤ w.heap.size) (r1 : Ranged64 a.pid) (r2 : Ranged64 a.n) :
    Calls Try.prog 53 #[.pointer (some ⟨gt, 0, none⟩), aggT vq mostq lastq nowq, .agg #[I a.kind, I a.pid, I a.n]] w fun e w' => DoRet w w' gt B v e (doM ps most last now a).1 most (doM qs mostq lastq nowq a).1 mostq (decide ((doM ps most last now a).2 = (doM qs mostq lastq nowq a).2)) base := by
  by_cases h0 : a.kind = 0
  · exact do0 gt B base N M v vq ps qs most last now mostq lastq nowq a w h hP hm hN hl0 hl1 hn0 hn1 hq hQ hmq hM hl0q hl1q hn0q hn1q hb r1 r2 h0
  by_cases h1 : a.kind = 1
  · exact do1 gt B base N M v vq ps qs most last now mostq lastq nowq a w h hP hm hN hl0 hl1 hn0 hn1 hq hQ hmq hM hl0q hl1q hn0q hn1q hb r1 r2 h0 h1
  by_cases h2 : a.kind = 2
  · exact do2 gt B base N M v vq ps qs most last now mostq lastq nowq a w h hP hm hN hl0 hl1 hn0 hn1 hq hQ hmq hM hl0q hl1q hn0q hn1q hb r1 r2 h0 h1 h2
  by_cases h3 : a.kind = 3
  · exact do3 gt B base N M v vq ps qs most last now mostq lastq nowq a w h hP hm hN hl0 hl1 hn0 hn1 hq hQ hmq hM hl0q hl1q hn0q hn1q hb r1 r2 h0 h1 h2 h3
  by_cases h4 : a.kind = 4
  · exact do4 gt B base N M v vq ps qs most last now mostq lastq nowq a w h hP hm hN hl0 hl1 hn0 hn1 hq hQ hmq hM hl0q hl1q hn0q hn1q hb r1 r2 h0 h1 h2 h3 h4
  · exact do5 gt B base N M v vq ps qs most last now mostq lastq nowq a w h hP hm hN hl0 hl1 hn0 hn1 hq hQ hmq hM hl0q hl1q hn0q hn1q hb r1 r2 h0 h1 h2 h3 h4
end Go.Proofs.Ytlojadpbdbhmiaa
