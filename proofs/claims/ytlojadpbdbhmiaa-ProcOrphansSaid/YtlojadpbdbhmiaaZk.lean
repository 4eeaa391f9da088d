/- Law 22: Do, an act of both. -/
import Derived.Test.YtlojadpbdbhmiaaZj
namespace Go.Proofs.Ytlojadpbdbhmiaa
open Go.RowKit
set_option linter.unusedSimpArgs false
set_option linter.unusedVariables false

section
variable {w W w' : World} {gt B : Nat} {v : Value} {ps ps' : List PR} {most last now most' last' now' : Int}
theorem TRet.pre (hs : Safe w W) (h : TRet W w' gt B v ps most last now) : TRet w w' gt B v ps most last now := by
  obtain ⟨v', h1, h2, h3⟩ := h
  refine ⟨v', h1, (Safe.but hs).trans h2, fun k hk => ?_⟩
  rcases h3 k hk with h | h
  · exact .inl h
  · exact .inr (Nat.le_trans hs.size h)
theorem TRet.post (h : TRet w W gt B v ps most last now) (hs : Safe W w') : TRet w w' gt B v ps most last now := by
  obtain ⟨v', h1, h2, h3⟩ := h
  exact ⟨v', h1.safe hs, h2.trans (Safe.but hs), h3⟩
theorem TRet.put (h : TRet w W gt B v ps most last now) {b : Nat} {cs : Array Value} (hB : Blk W b 91 cs) (hb : w.heap.size ≤ b) (l : List Value) : TRet w (W.setCells b 0 l) gt B v ps most last now := by
  obtain ⟨v', h1, h2, h3⟩ := h
  refine ⟨v', h1.but ((But.refl (· = b) W).setCells l 0 (.inl rfl)) (fun e => h1.hp.ne hB (by decide) e) (fun k hk e => ?_), h2.setCells l 0 (.inr hb), h3⟩
  obtain ⟨_, _, cs', hB'⟩ := own_blk6 h1.ho hk
  exact hB'.ne hB (by decide) e
theorem TRet.blk (h : TRet w w' gt B v ps most last now) (hT : TW w gt B v ps' most' last' now') {b : Nat} {t : TypeId} {cs : Array Value} (hB : Blk w b t cs) (h1 : t ≠ 104) (h2 : t ≠ 33) : Blk w' b t cs := by
  obtain ⟨v', _, hb, _⟩ := h
  refine hB.but hb ?_
  rintro (e | e)
  · exact hB.ne hT.hp h1 e
  · obtain ⟨_, _, cs', hB'⟩ := own_blk6 hT.ho e
    exact hB.ne hB' h2 rfl
theorem TRet.lp (h : TRet w w' gt B v ps most last now) (hT : TW w gt B v ps' most' last' now') {base : Nat} {vq : Value} {qs : List PR} (hl : LP w base vq qs) : LP w' base vq qs := by
  obtain ⟨v', _, hb, _⟩ := h
  refine hl.but hb (fun k hk => ?_)
  rintro (e | e)
  · exact hl.ne hk hT.hp (by decide) e
  · obtain ⟨_, _, cs', hB'⟩ := own_blk6 hT.ho e
    exact hl.ne hk hB' (by decide) rfl
end
/-- What Do answers. -/
def DoRet (w w' : World) (gt B : Nat) (v : Value) (e : Ending) (rt : List PR × Int × Int) (most : Int) (rq : List PR × Int × Int) (mostq : Int) (b : Bool) (baseq : Nat) : Prop :=
  ∃ vq, e = .returned (.tuple #[aggT vq mostq rq.2.1 rq.2.2, .bool b]) ∧ LP w' baseq vq rq.1 ∧ TRet w w' gt B v rt.1 most rt.2.1 rt.2.2
/-- Three blocks more. -/
theorem three_blocks (w : World) (v : Value) (most last now : Int) (a : ActP) : ∃ W, W = ((w.alloc (.cells #[v, I most, I last, I now] 91)).alloc (.cells #[I a.kind, I a.pid, I a.n] 94)).alloc (.cells #[.slice none 0 0, I 0, I 0, I 0] 91) ∧ Safe w W ∧ Blk W w.heap.size 91 #[v, I most, I last, I now] ∧ Blk W (w.heap.size + 1) 94 #[I a.kind, I a.pid, I a.n] ∧ Blk W (w.heap.size + 2) 91 #[.slice none 0 0, I 0, I 0, I 0] :=
  ⟨_, rfl, (((But.refl _ w).alloc _).alloc _).alloc _, ((Blk.new _ _ _).alloc _).alloc _, (Blk.new' _ _ (by simp)).alloc _, Blk.new' _ _ (by simp)⟩
theorem cells3 {W : World} {t : TypeId} {g : Nat} {a b c : Value} (h : Blk W g t #[a, b, c]) : W.cell? ⟨g, 0, none⟩ = some a ∧ W.cell? ⟨g, 1, none⟩ = some b ∧ W.cell? ⟨g, 2, none⟩ = some c :=
  ⟨h.cell' rfl, h.cell' rfl, h.cell' rfl⟩
/-- The end of it. -/
theorem do_fin {w w4 : World} {gt B base : Nat} {v vq : Value} {ps qs : List PR} {most last now : Int} {b : Nat} {cs : Array Value} (hr : TRet w w4 gt B v ps most last now) (hl : LP w4 base vq qs) (hB : Blk w4 b 91 cs) (hb : w.heap.size ≤ b) (l : List Value) (o : Obj) :
    LP ((w4.alloc o).setCells b 0 l) base vq qs ∧ TRet w ((w4.alloc o).setCells b 0 l) gt B v ps most last now :=
  ⟨(hl.safe ((But.refl _ w4).alloc o)).but ((But.refl (· = b) _).setCells l 0 (.inl rfl)) (fun k hk e => (hl.safe ((But.refl _ w4).alloc o)).ne hk (hB.alloc o) (by decide) e), (hr.post ((But.refl _ w4).alloc o)).put (hB.alloc o) hb l⟩
set_option maxRecDepth 100000 in
set_option maxHeartbeats 2000000 in
theorem do0 (gt B base N M : Nat) (v vq : Value) (ps qs : List PR) (most last now mostq lastq nowq : Int) (a : ActP) (w : World) (h : TW w gt B v ps most last now) (hP : PT ps last N) (hm : most = N) (hN : N ≤ 16) (hl0 : 0 ≤ last) (hl1 : last ≤ 1000000) (hn0 : 0 ≤ now) (hn1 : now ≤ 1099511627776)
    (hq : LP w base vq qs) (hQ : PT qs lastq M) (hmq : mostq = M) (hM : M ≤ 16) (hl0q : 0 ≤ lastq) (hl1q : lastq ≤ 1000000) (hn0q : 0 ≤ nowq) (hn1q : nowq ≤ 1099511627776) (hb : base ≤ w.heap.size) (r1 : Ranged64 a.pid) (r2 : Ranged64 a.n)  (hk : a.kind = 0) :
    Calls Try.prog 53 #[.pointer (some ⟨gt, 0, none⟩), aggT vq mostq lastq nowq, .agg #[I a.kind, I a.pid, I a.n]] w fun e w' => DoRet w w' gt B v e (doM ps most last now a).1 most (doM qs mostq lastq nowq a).1 mostq (decide ((doM ps most last now a).2 = (doM qs mostq lastq nowq a).2)) base := by
  have k0 : (a.kind == 0) = true := by simpa using hk
  have e : ∀ rs most last now, doM rs most last now a = (((forkM rs most last a.pid).1, (forkM rs most last a.pid).2.1, now), [(forkM rs most last a.pid).2.2.1, (forkM rs most last a.pid).2.2.2]) := fun rs most last now => by unfold doM;  rw [if_pos hk]
  rw [e, e]
  obtain ⟨W, hW, hsW, b0, b1, b2⟩ := three_blocks w vq mostq lastq nowq a
  have hT := h.safe hsW
  have hpc := pfork_any gt B v ps most last now a.pid W hT hP.pos (by rw [hm]; have := hP.len; omega) (by omega) hl0 hl1
  have hrc := fun W' (hl : LP W' base vq qs) (hs : base ≤ W'.heap.size) => rfork_any base vq qs mostq lastq nowq a.pid W' hl (by have := hQ.len; omega) hs hl0q hl1q
  generalize forkM ps most last a.pid = rp at *
  generalize forkM qs mostq lastq a.pid = rq at *
  obtain ⟨ps2, last2, n1, e1⟩ := rp
  obtain ⟨qs2, lastq2, n2, e2⟩ := rq
  simp only at hpc hrc ⊢
  have HT := Lib.hid hT
  have HPC := Lib.hid hpc
  have HRC := Lib.hid hrc
  have HSW := Lib.hid hsW
  have HB0 := Lib.hid b0
  have HB1 := Lib.hid b1
  have HB2 := Lib.hid b2
  have HQ := Lib.hid (hq.safe hsW)
  obtain ⟨q0, q1, q2⟩ := cells3 b1
  clear hm hmq hN hM e  hk hT hpc hrc hsW b0 b1 b2 h hq hP hQ
  have HW := Lib.hid hW
  clear hW
  rcases (show (n1 = n2 ∧ e1 = e2) ∨ (n1 ≠ n2) ∨ (n1 = n2 ∧ e1 ≠ e2) by omega) with ⟨z0, z1⟩ | z0 | ⟨z0, z1⟩
  · have s0 : (n1 == n2) = true := by simpa using z0
    have s1 : (e1 == e2) = true := by simpa using z1
    have HD : Hid (decide ([n1, e1] = [n2, e2]) = true) := Lib.hid (by simp [z0, z1])
    clear z0 z1
    go_enter Try.func53, Try.ntmps53
    go_wp2_with fail
    rw [← HW.out]
    refine (HPC.out).mono ?_
    rintro _ w3 ⟨rfl, hr3⟩
    have x0 := hr3.blk HT.out HB0.out (by decide) (by decide)
    have x1 := hr3.blk HT.out HB1.out (by decide) (by decide)
    have x2 := hr3.blk HT.out HB2.out (by decide) (by decide)
    have hlq := hr3.lp HT.out HQ.out
    have hsz : W.heap.size ≤ w3.heap.size := by obtain ⟨_, _, hb3, _⟩ := hr3; exact hb3.size
    have hrc3 := HRC.out w3 hlq (Nat.le_trans hb (Nat.le_trans HSW.out.size hsz))
    have HRC3 := Lib.hid hrc3
    have HR3 := Lib.hid (hr3.pre HSW.out)
    have HX2 := Lib.hid x2
    obtain ⟨d0, d1, d2, d3⟩ := cells4 x0
    obtain ⟨y0, y1, y2⟩ := cells3 x1
    clear x0 x1 x2 hlq hsz hrc3 hr3 q0 q1 q2
    go_wp2_with fail
    refine (HRC3.out).mono ?_
    rintro e w4 ⟨v7, rfl, hlp, hs4⟩
    have x2 := HX2.out.but hs4 id
    have hfin := fun l o => do_fin (HR3.out.post hs4) hlp x2 (show w.heap.size ≤ w.heap.size + 2 by omega) l o
    obtain ⟨A7, c7, hv7, -⟩ := hlp
    subst hv7
    have x3 := x2.alloc (.cells #[.slice A7 qs2.length c7, I mostq, I lastq2, I nowq] 91)
    obtain ⟨r0, r1, r2, r3⟩ := cells4 x3
    obtain ⟨f0, f1, f2, f3⟩ := frz4 x3
    have HFIN := Lib.hid (hfin [.slice A7 qs2.length c7, I mostq, I lastq2, I nowq] (.cells #[.slice A7 qs2.length c7, I mostq, I lastq2, I nowq] 91))
    clear hfin hs4 x2 x3 d0 d1 d2 d3 y0 y1 y2
    go_wp2
    exact bodyPost_ret (v := .tuple #[aggT (.slice A7 qs2.length c7) mostq lastq2 nowq, .bool true]) (by simp [results, Try.results53, go_sem, r0, r1, r2, r3]) rfl ⟨_, by rw [HD.out], HFIN.out⟩
  · have s0 : (n1 == n2) = false := by simpa using z0
    have HD : Hid (decide ([n1, e1] = [n2, e2]) = false) := Lib.hid (by simp [z0])
    clear z0
    go_enter Try.func53, Try.ntmps53
    go_wp2_with fail
    rw [← HW.out]
    refine (HPC.out).mono ?_
    rintro _ w3 ⟨rfl, hr3⟩
    have x0 := hr3.blk HT.out HB0.out (by decide) (by decide)
    have x1 := hr3.blk HT.out HB1.out (by decide) (by decide)
    have x2 := hr3.blk HT.out HB2.out (by decide) (by decide)
    have hlq := hr3.lp HT.out HQ.out
    have hsz : W.heap.size ≤ w3.heap.size := by obtain ⟨_, _, hb3, _⟩ := hr3; exact hb3.size
    have hrc3 := HRC.out w3 hlq (Nat.le_trans hb (Nat.le_trans HSW.out.size hsz))
    have HRC3 := Lib.hid hrc3
    have HR3 := Lib.hid (hr3.pre HSW.out)
    have HX2 := Lib.hid x2
    obtain ⟨d0, d1, d2, d3⟩ := cells4 x0
    obtain ⟨y0, y1, y2⟩ := cells3 x1
    clear x0 x1 x2 hlq hsz hrc3 hr3 q0 q1 q2
    go_wp2_with fail
    refine (HRC3.out).mono ?_
    rintro e w4 ⟨v7, rfl, hlp, hs4⟩
    have x2 := HX2.out.but hs4 id
    have hfin := fun l o => do_fin (HR3.out.post hs4) hlp x2 (show w.heap.size ≤ w.heap.size + 2 by omega) l o
    obtain ⟨A7, c7, hv7, -⟩ := hlp
    subst hv7
    have x3 := x2.alloc (.cells #[.slice A7 qs2.length c7, I mostq, I lastq2, I nowq] 91)
    obtain ⟨r0, r1, r2, r3⟩ := cells4 x3
    obtain ⟨f0, f1, f2, f3⟩ := frz4 x3
    have HFIN := Lib.hid (hfin [.slice A7 qs2.length c7, I mostq, I lastq2, I nowq] (.cells #[.slice A7 qs2.length c7, I mostq, I lastq2, I nowq] 91))
    clear hfin hs4 x2 x3 d0 d1 d2 d3 y0 y1 y2
    go_wp2
    exact bodyPost_ret (v := .tuple #[aggT (.slice A7 qs2.length c7) mostq lastq2 nowq, .bool false]) (by simp [results, Try.results53, go_sem, r0, r1, r2, r3]) rfl ⟨_, by rw [HD.out], HFIN.out⟩
  · have s0 : (n1 == n2) = true := by simpa using z0
    have s1 : (e1 == e2) = false := by simpa using z1
    have HD : Hid (decide ([n1, e1] = [n2, e2]) = false) := Lib.hid (by simp [z0, z1])
    clear z0 z1
    go_enter Try.func53, Try.ntmps53
    go_wp2_with fail
    rw [← HW.out]
    refine (HPC.out).mono ?_
    rintro _ w3 ⟨rfl, hr3⟩
    have x0 := hr3.blk HT.out HB0.out (by decide) (by decide)
    have x1 := hr3.blk HT.out HB1.out (by decide) (by decide)
    have x2 := hr3.blk HT.out HB2.out (by decide) (by decide)
    have hlq := hr3.lp HT.out HQ.out
    have hsz : W.heap.size ≤ w3.heap.size := by obtain ⟨_, _, hb3, _⟩ := hr3; exact hb3.size
    have hrc3 := HRC.out w3 hlq (Nat.le_trans hb (Nat.le_trans HSW.out.size hsz))
    have HRC3 := Lib.hid hrc3
    have HR3 := Lib.hid (hr3.pre HSW.out)
    have HX2 := Lib.hid x2
    obtain ⟨d0, d1, d2, d3⟩ := cells4 x0
    obtain ⟨y0, y1, y2⟩ := cells3 x1
    clear x0 x1 x2 hlq hsz hrc3 hr3 q0 q1 q2
    go_wp2_with fail
    refine (HRC3.out).mono ?_
    rintro e w4 ⟨v7, rfl, hlp, hs4⟩
    have x2 := HX2.out.but hs4 id
    have hfin := fun l o => do_fin (HR3.out.post hs4) hlp x2 (show w.heap.size ≤ w.heap.size + 2 by omega) l o
    obtain ⟨A7, c7, hv7, -⟩ := hlp
    subst hv7
    have x3 := x2.alloc (.cells #[.slice A7 qs2.length c7, I mostq, I lastq2, I nowq] 91)
    obtain ⟨r0, r1, r2, r3⟩ := cells4 x3
    obtain ⟨f0, f1, f2, f3⟩ := frz4 x3
    have HFIN := Lib.hid (hfin [.slice A7 qs2.length c7, I mostq, I lastq2, I nowq] (.cells #[.slice A7 qs2.length c7, I mostq, I lastq2, I nowq] 91))
    clear hfin hs4 x2 x3 d0 d1 d2 d3 y0 y1 y2
    go_wp2
    exact bodyPost_ret (v := .tuple #[aggT (.slice A7 qs2.length c7) mostq lastq2 nowq, .bool false]) (by simp [results, Try.results53, go_sem, r0, r1, r2, r3]) rfl ⟨_, by rw [HD.out], HFIN.out⟩
set_option maxRecDepth 100000 in
set_option maxHeartbeats 2000000 in
theorem do1 (gt B base N M : Nat) (v vq : Value) (ps qs : List PR) (most last now mostq lastq nowq : Int) (a : ActP) (w : World) (h : TW w gt B v ps most last now) (hP : PT ps last N) (hm : most = N) (hN : N ≤ 16) (hl0 : 0 ≤ last) (hl1 : last ≤ 1000000) (hn0 : 0 ≤ now) (hn1 : now ≤ 1099511627776)
    (hq : LP w base vq qs) (hQ : PT qs lastq M) (hmq : mostq = M) (hM : M ≤ 16) (hl0q : 0 ≤ lastq) (hl1q : lastq ≤ 1000000) (hn0q : 0 ≤ nowq) (hn1q : nowq ≤ 1099511627776) (hb : base ≤ w.heap.size) (r1 : Ranged64 a.pid) (r2 : Ranged64 a.n) (hk0 : a.kind ≠ 0) (hk : a.kind = 1) :
    Calls Try.prog 53 #[.pointer (some ⟨gt, 0, none⟩), aggT vq mostq lastq nowq, .agg #[I a.kind, I a.pid, I a.n]] w fun e w' => DoRet w w' gt B v e (doM ps most last now a).1 most (doM qs mostq lastq nowq a).1 mostq (decide ((doM ps most last now a).2 = (doM qs mostq lastq nowq a).2)) base := by
  have k0 : (a.kind == 0) = false := by simpa using hk0
  have k1 : (a.kind == 1) = true := by simpa using hk
  have e : ∀ rs most last now, doM rs most last now a = (((exitM rs a.pid a.n).1, last, now), [(exitM rs a.pid a.n).2]) := fun rs most last now => by unfold doM; rw [if_neg hk0]; rw [if_pos hk]
  rw [e, e]
  obtain ⟨W, hW, hsW, b0, b1, b2⟩ := three_blocks w vq mostq lastq nowq a
  have hT := h.safe hsW
  have hpc := pexit_any gt B v ps most last now a.pid a.n W hT hP.pos r2.2 r2.1
  have hrc := fun W' (hl : LP W' base vq qs) (hs : base ≤ W'.heap.size) => (exit_is hQ.asc a.pid a.n) ▸ rexit_any base vq qs mostq lastq nowq a.pid a.n W' hl (by have := hQ.len; omega) hs
  generalize exitM ps a.pid a.n = rp at *
  generalize exitM qs a.pid a.n = rq at *
  obtain ⟨ps2, e1⟩ := rp
  obtain ⟨qs2, e2⟩ := rq
  simp only at hpc hrc ⊢
  have HT := Lib.hid hT
  have HPC := Lib.hid hpc
  have HRC := Lib.hid hrc
  have HSW := Lib.hid hsW
  have HB0 := Lib.hid b0
  have HB1 := Lib.hid b1
  have HB2 := Lib.hid b2
  have HQ := Lib.hid (hq.safe hsW)
  obtain ⟨q0, q1, q2⟩ := cells3 b1
  clear hm hmq hN hM e hk0 hk hT hpc hrc hsW b0 b1 b2 h hq hP hQ
  have HW := Lib.hid hW
  clear hW
  rcases (show (e1 = e2) ∨ (e1 ≠ e2) by omega) with z0 | z0
  · have s0 : (e1 == e2) = true := by simpa using z0
    have HD : Hid (decide ([e1] = [e2]) = true) := Lib.hid (by simp [z0])
    clear z0
    go_enter Try.func53, Try.ntmps53
    go_wp2_with fail
    rw [← HW.out]
    refine (HPC.out).mono ?_
    rintro _ w3 ⟨rfl, hr3⟩
    have x0 := hr3.blk HT.out HB0.out (by decide) (by decide)
    have x1 := hr3.blk HT.out HB1.out (by decide) (by decide)
    have x2 := hr3.blk HT.out HB2.out (by decide) (by decide)
    have hlq := hr3.lp HT.out HQ.out
    have hsz : W.heap.size ≤ w3.heap.size := by obtain ⟨_, _, hb3, _⟩ := hr3; exact hb3.size
    have hrc3 := HRC.out w3 hlq (Nat.le_trans hb (Nat.le_trans HSW.out.size hsz))
    have HRC3 := Lib.hid hrc3
    have HR3 := Lib.hid (hr3.pre HSW.out)
    have HX2 := Lib.hid x2
    obtain ⟨d0, d1, d2, d3⟩ := cells4 x0
    obtain ⟨y0, y1, y2⟩ := cells3 x1
    clear x0 x1 x2 hlq hsz hrc3 hr3 q0 q1 q2
    go_wp2_with fail
    refine (HRC3.out).mono ?_
    rintro e w4 ⟨v7, rfl, hlp, hs4⟩
    have x2 := HX2.out.but hs4 id
    have hfin := fun l o => do_fin (HR3.out.post hs4) hlp x2 (show w.heap.size ≤ w.heap.size + 2 by omega) l o
    obtain ⟨A7, c7, hv7, -⟩ := hlp
    subst hv7
    have x3 := x2.alloc (.cells #[.slice A7 qs2.length c7, I mostq, I lastq, I nowq] 91)
    obtain ⟨r0, r1, r2, r3⟩ := cells4 x3
    obtain ⟨f0, f1, f2, f3⟩ := frz4 x3
    have HFIN := Lib.hid (hfin [.slice A7 qs2.length c7, I mostq, I lastq, I nowq] (.cells #[.slice A7 qs2.length c7, I mostq, I lastq, I nowq] 91))
    clear hfin hs4 x2 x3 d0 d1 d2 d3 y0 y1 y2
    go_wp2
    exact bodyPost_ret (v := .tuple #[aggT (.slice A7 qs2.length c7) mostq lastq nowq, .bool true]) (by simp [results, Try.results53, go_sem, r0, r1, r2, r3]) rfl ⟨_, by rw [HD.out], HFIN.out⟩
  · have s0 : (e1 == e2) = false := by simpa using z0
    have HD : Hid (decide ([e1] = [e2]) = false) := Lib.hid (by simp [z0])
    clear z0
    go_enter Try.func53, Try.ntmps53
    go_wp2_with fail
    rw [← HW.out]
    refine (HPC.out).mono ?_
    rintro _ w3 ⟨rfl, hr3⟩
    have x0 := hr3.blk HT.out HB0.out (by decide) (by decide)
    have x1 := hr3.blk HT.out HB1.out (by decide) (by decide)
    have x2 := hr3.blk HT.out HB2.out (by decide) (by decide)
    have hlq := hr3.lp HT.out HQ.out
    have hsz : W.heap.size ≤ w3.heap.size := by obtain ⟨_, _, hb3, _⟩ := hr3; exact hb3.size
    have hrc3 := HRC.out w3 hlq (Nat.le_trans hb (Nat.le_trans HSW.out.size hsz))
    have HRC3 := Lib.hid hrc3
    have HR3 := Lib.hid (hr3.pre HSW.out)
    have HX2 := Lib.hid x2
    obtain ⟨d0, d1, d2, d3⟩ := cells4 x0
    obtain ⟨y0, y1, y2⟩ := cells3 x1
    clear x0 x1 x2 hlq hsz hrc3 hr3 q0 q1 q2
    go_wp2_with fail
    refine (HRC3.out).mono ?_
    rintro e w4 ⟨v7, rfl, hlp, hs4⟩
    have x2 := HX2.out.but hs4 id
    have hfin := fun l o => do_fin (HR3.out.post hs4) hlp x2 (show w.heap.size ≤ w.heap.size + 2 by omega) l o
    obtain ⟨A7, c7, hv7, -⟩ := hlp
    subst hv7
    have x3 := x2.alloc (.cells #[.slice A7 qs2.length c7, I mostq, I lastq, I nowq] 91)
    obtain ⟨r0, r1, r2, r3⟩ := cells4 x3
    obtain ⟨f0, f1, f2, f3⟩ := frz4 x3
    have HFIN := Lib.hid (hfin [.slice A7 qs2.length c7, I mostq, I lastq, I nowq] (.cells #[.slice A7 qs2.length c7, I mostq, I lastq, I nowq] 91))
    clear hfin hs4 x2 x3 d0 d1 d2 d3 y0 y1 y2
    go_wp2
    exact bodyPost_ret (v := .tuple #[aggT (.slice A7 qs2.length c7) mostq lastq nowq, .bool false]) (by simp [results, Try.results53, go_sem, r0, r1, r2, r3]) rfl ⟨_, by rw [HD.out], HFIN.out⟩
set_option maxRecDepth 100000 in
set_option maxHeartbeats 2000000 in
theorem do2 (gt B base N M : Nat) (v vq : Value) (ps qs : List PR) (most last now mostq lastq nowq : Int) (a : ActP) (w : World) (h : TW w gt B v ps most last now) (hP : PT ps last N) (hm : most = N) (hN : N ≤ 16) (hl0 : 0 ≤ last) (hl1 : last ≤ 1000000) (hn0 : 0 ≤ now) (hn1 : now ≤ 1099511627776)
    (hq : LP w base vq qs) (hQ : PT qs lastq M) (hmq : mostq = M) (hM : M ≤ 16) (hl0q : 0 ≤ lastq) (hl1q : lastq ≤ 1000000) (hn0q : 0 ≤ nowq) (hn1q : nowq ≤ 1099511627776) (hb : base ≤ w.heap.size) (r1 : Ranged64 a.pid) (r2 : Ranged64 a.n) (hk0 : a.kind ≠ 0) (hk1 : a.kind ≠ 1) (hk : a.kind = 2) :
    Calls Try.prog 53 #[.pointer (some ⟨gt, 0, none⟩), aggT vq mostq lastq nowq, .agg #[I a.kind, I a.pid, I a.n]] w fun e w' => DoRet w w' gt B v e (doM ps most last now a).1 most (doM qs mostq lastq nowq a).1 mostq (decide ((doM ps most last now a).2 = (doM qs mostq lastq nowq a).2)) base := by
  have k0 : (a.kind == 0) = false := by simpa using hk0
  have k1 : (a.kind == 1) = false := by simpa using hk1
  have k2 : (a.kind == 2) = true := by simpa using hk
  have e : ∀ rs most last now, doM rs most last now a = (((waitM rs a.pid).1, last, now), [(waitM rs a.pid).2.1, (waitM rs a.pid).2.2.1, (waitM rs a.pid).2.2.2]) := fun rs most last now => by unfold doM; rw [if_neg hk0]; rw [if_neg hk1]; rw [if_pos hk]
  rw [e, e]
  obtain ⟨W, hW, hsW, b0, b1, b2⟩ := three_blocks w vq mostq lastq nowq a
  have hT := h.safe hsW
  have hpc := pwait_any gt B v ps most last now a.pid W hT hP.pos
  have hrc := fun W' (hl : LP W' base vq qs) (hs : base ≤ W'.heap.size) => rwait_any base vq qs mostq lastq nowq a.pid W' hl (by have := hQ.len; omega) hs
  generalize waitM ps a.pid = rp at *
  generalize waitM qs a.pid = rq at *
  obtain ⟨ps2, n1, c1, e1⟩ := rp
  obtain ⟨qs2, n2, c2, e2⟩ := rq
  simp only at hpc hrc ⊢
  have HT := Lib.hid hT
  have HPC := Lib.hid hpc
  have HRC := Lib.hid hrc
  have HSW := Lib.hid hsW
  have HB0 := Lib.hid b0
  have HB1 := Lib.hid b1
  have HB2 := Lib.hid b2
  have HQ := Lib.hid (hq.safe hsW)
  obtain ⟨q0, q1, q2⟩ := cells3 b1
  clear hm hmq hN hM e hk0 hk1 hk hT hpc hrc hsW b0 b1 b2 h hq hP hQ
  have HW := Lib.hid hW
  clear hW
  rcases (show (n1 = n2 ∧ c1 = c2 ∧ e1 = e2) ∨ (n1 ≠ n2) ∨ (n1 = n2 ∧ c1 ≠ c2) ∨ (n1 = n2 ∧ c1 = c2 ∧ e1 ≠ e2) by omega) with ⟨z0, z1, z2⟩ | z0 | ⟨z0, z1⟩ | ⟨z0, z1, z2⟩
  · have s0 : (n1 == n2) = true := by simpa using z0
    have s1 : (c1 == c2) = true := by simpa using z1
    have s2 : (e1 == e2) = true := by simpa using z2
    have HD : Hid (decide ([n1, c1, e1] = [n2, c2, e2]) = true) := Lib.hid (by simp [z0, z1, z2])
    clear z0 z1 z2
    go_enter Try.func53, Try.ntmps53
    go_wp2_with fail
    rw [← HW.out]
    refine (HPC.out).mono ?_
    rintro _ w3 ⟨rfl, hr3⟩
    have x0 := hr3.blk HT.out HB0.out (by decide) (by decide)
    have x1 := hr3.blk HT.out HB1.out (by decide) (by decide)
    have x2 := hr3.blk HT.out HB2.out (by decide) (by decide)
    have hlq := hr3.lp HT.out HQ.out
    have hsz : W.heap.size ≤ w3.heap.size := by obtain ⟨_, _, hb3, _⟩ := hr3; exact hb3.size
    have hrc3 := HRC.out w3 hlq (Nat.le_trans hb (Nat.le_trans HSW.out.size hsz))
    have HRC3 := Lib.hid hrc3
    have HR3 := Lib.hid (hr3.pre HSW.out)
    have HX2 := Lib.hid x2
    obtain ⟨d0, d1, d2, d3⟩ := cells4 x0
    obtain ⟨y0, y1, y2⟩ := cells3 x1
    clear x0 x1 x2 hlq hsz hrc3 hr3 q0 q1 q2
    go_wp2_with fail
    refine (HRC3.out).mono ?_
    rintro e w4 ⟨v7, rfl, hlp, hs4⟩
    have x2 := HX2.out.but hs4 id
    have hfin := fun l o => do_fin (HR3.out.post hs4) hlp x2 (show w.heap.size ≤ w.heap.size + 2 by omega) l o
    obtain ⟨A7, c7, hv7, -⟩ := hlp
    subst hv7
    have x3 := x2.alloc (.cells #[.slice A7 qs2.length c7, I mostq, I lastq, I nowq] 91)
    obtain ⟨r0, r1, r2, r3⟩ := cells4 x3
    obtain ⟨f0, f1, f2, f3⟩ := frz4 x3
    have HFIN := Lib.hid (hfin [.slice A7 qs2.length c7, I mostq, I lastq, I nowq] (.cells #[.slice A7 qs2.length c7, I mostq, I lastq, I nowq] 91))
    clear hfin hs4 x2 x3 d0 d1 d2 d3 y0 y1 y2
    go_wp2
    exact bodyPost_ret (v := .tuple #[aggT (.slice A7 qs2.length c7) mostq lastq nowq, .bool true]) (by simp [results, Try.results53, go_sem, r0, r1, r2, r3]) rfl ⟨_, by rw [HD.out], HFIN.out⟩
  · have s0 : (n1 == n2) = false := by simpa using z0
    have HD : Hid (decide ([n1, c1, e1] = [n2, c2, e2]) = false) := Lib.hid (by simp [z0])
    clear z0
    go_enter Try.func53, Try.ntmps53
    go_wp2_with fail
    rw [← HW.out]
    refine (HPC.out).mono ?_
    rintro _ w3 ⟨rfl, hr3⟩
    have x0 := hr3.blk HT.out HB0.out (by decide) (by decide)
    have x1 := hr3.blk HT.out HB1.out (by decide) (by decide)
    have x2 := hr3.blk HT.out HB2.out (by decide) (by decide)
    have hlq := hr3.lp HT.out HQ.out
    have hsz : W.heap.size ≤ w3.heap.size := by obtain ⟨_, _, hb3, _⟩ := hr3; exact hb3.size
    have hrc3 := HRC.out w3 hlq (Nat.le_trans hb (Nat.le_trans HSW.out.size hsz))
    have HRC3 := Lib.hid hrc3
    have HR3 := Lib.hid (hr3.pre HSW.out)
    have HX2 := Lib.hid x2
    obtain ⟨d0, d1, d2, d3⟩ := cells4 x0
    obtain ⟨y0, y1, y2⟩ := cells3 x1
    clear x0 x1 x2 hlq hsz hrc3 hr3 q0 q1 q2
    go_wp2_with fail
    refine (HRC3.out).mono ?_
    rintro e w4 ⟨v7, rfl, hlp, hs4⟩
    have x2 := HX2.out.but hs4 id
    have hfin := fun l o => do_fin (HR3.out.post hs4) hlp x2 (show w.heap.size ≤ w.heap.size + 2 by omega) l o
    obtain ⟨A7, c7, hv7, -⟩ := hlp
    subst hv7
    have x3 := x2.alloc (.cells #[.slice A7 qs2.length c7, I mostq, I lastq, I nowq] 91)
    obtain ⟨r0, r1, r2, r3⟩ := cells4 x3
    obtain ⟨f0, f1, f2, f3⟩ := frz4 x3
    have HFIN := Lib.hid (hfin [.slice A7 qs2.length c7, I mostq, I lastq, I nowq] (.cells #[.slice A7 qs2.length c7, I mostq, I lastq, I nowq] 91))
    clear hfin hs4 x2 x3 d0 d1 d2 d3 y0 y1 y2
    go_wp2
    exact bodyPost_ret (v := .tuple #[aggT (.slice A7 qs2.length c7) mostq lastq nowq, .bool false]) (by simp [results, Try.results53, go_sem, r0, r1, r2, r3]) rfl ⟨_, by rw [HD.out], HFIN.out⟩
  · have s0 : (n1 == n2) = true := by simpa using z0
    have s1 : (c1 == c2) = false := by simpa using z1
    have HD : Hid (decide ([n1, c1, e1] = [n2, c2, e2]) = false) := Lib.hid (by simp [z0, z1])
    clear z0 z1
    go_enter Try.func53, Try.ntmps53
    go_wp2_with fail
    rw [← HW.out]
    refine (HPC.out).mono ?_
    rintro _ w3 ⟨rfl, hr3⟩
    have x0 := hr3.blk HT.out HB0.out (by decide) (by decide)
    have x1 := hr3.blk HT.out HB1.out (by decide) (by decide)
    have x2 := hr3.blk HT.out HB2.out (by decide) (by decide)
    have hlq := hr3.lp HT.out HQ.out
    have hsz : W.heap.size ≤ w3.heap.size := by obtain ⟨_, _, hb3, _⟩ := hr3; exact hb3.size
    have hrc3 := HRC.out w3 hlq (Nat.le_trans hb (Nat.le_trans HSW.out.size hsz))
    have HRC3 := Lib.hid hrc3
    have HR3 := Lib.hid (hr3.pre HSW.out)
    have HX2 := Lib.hid x2
    obtain ⟨d0, d1, d2, d3⟩ := cells4 x0
    obtain ⟨y0, y1, y2⟩ := cells3 x1
    clear x0 x1 x2 hlq hsz hrc3 hr3 q0 q1 q2
    go_wp2_with fail
    refine (HRC3.out).mono ?_
    rintro e w4 ⟨v7, rfl, hlp, hs4⟩
    have x2 := HX2.out.but hs4 id
    have hfin := fun l o => do_fin (HR3.out.post hs4) hlp x2 (show w.heap.size ≤ w.heap.size + 2 by omega) l o
    obtain ⟨A7, c7, hv7, -⟩ := hlp
    subst hv7
    have x3 := x2.alloc (.cells #[.slice A7 qs2.length c7, I mostq, I lastq, I nowq] 91)
    obtain ⟨r0, r1, r2, r3⟩ := cells4 x3
    obtain ⟨f0, f1, f2, f3⟩ := frz4 x3
    have HFIN := Lib.hid (hfin [.slice A7 qs2.length c7, I mostq, I lastq, I nowq] (.cells #[.slice A7 qs2.length c7, I mostq, I lastq, I nowq] 91))
    clear hfin hs4 x2 x3 d0 d1 d2 d3 y0 y1 y2
    go_wp2
    exact bodyPost_ret (v := .tuple #[aggT (.slice A7 qs2.length c7) mostq lastq nowq, .bool false]) (by simp [results, Try.results53, go_sem, r0, r1, r2, r3]) rfl ⟨_, by rw [HD.out], HFIN.out⟩
  · have s0 : (n1 == n2) = true := by simpa using z0
    have s1 : (c1 == c2) = true := by simpa using z1
    have s2 : (e1 == e2) = false := by simpa using z2
    have HD : Hid (decide ([n1, c1, e1] = [n2, c2, e2]) = false) := Lib.hid (by simp [z0, z1, z2])
    clear z0 z1 z2
    go_enter Try.func53, Try.ntmps53
    go_wp2_with fail
    rw [← HW.out]
    refine (HPC.out).mono ?_
    rintro _ w3 ⟨rfl, hr3⟩
    have x0 := hr3.blk HT.out HB0.out (by decide) (by decide)
    have x1 := hr3.blk HT.out HB1.out (by decide) (by decide)
    have x2 := hr3.blk HT.out HB2.out (by decide) (by decide)
    have hlq := hr3.lp HT.out HQ.out
    have hsz : W.heap.size ≤ w3.heap.size := by obtain ⟨_, _, hb3, _⟩ := hr3; exact hb3.size
    have hrc3 := HRC.out w3 hlq (Nat.le_trans hb (Nat.le_trans HSW.out.size hsz))
    have HRC3 := Lib.hid hrc3
    have HR3 := Lib.hid (hr3.pre HSW.out)
    have HX2 := Lib.hid x2
    obtain ⟨d0, d1, d2, d3⟩ := cells4 x0
    obtain ⟨y0, y1, y2⟩ := cells3 x1
    clear x0 x1 x2 hlq hsz hrc3 hr3 q0 q1 q2
    go_wp2_with fail
    refine (HRC3.out).mono ?_
    rintro e w4 ⟨v7, rfl, hlp, hs4⟩
    have x2 := HX2.out.but hs4 id
    have hfin := fun l o => do_fin (HR3.out.post hs4) hlp x2 (show w.heap.size ≤ w.heap.size + 2 by omega) l o
    obtain ⟨A7, c7, hv7, -⟩ := hlp
    subst hv7
    have x3 := x2.alloc (.cells #[.slice A7 qs2.length c7, I mostq, I lastq, I nowq] 91)
    obtain ⟨r0, r1, r2, r3⟩ := cells4 x3
    obtain ⟨f0, f1, f2, f3⟩ := frz4 x3
    have HFIN := Lib.hid (hfin [.slice A7 qs2.length c7, I mostq, I lastq, I nowq] (.cells #[.slice A7 qs2.length c7, I mostq, I lastq, I nowq] 91))
    clear hfin hs4 x2 x3 d0 d1 d2 d3 y0 y1 y2
    go_wp2
    exact bodyPost_ret (v := .tuple #[aggT (.slice A7 qs2.length c7) mostq lastq nowq, .bool false]) (by simp [results, Try.results53, go_sem, r0, r1, r2, r3]) rfl ⟨_, by rw [HD.out], HFIN.out⟩
set_option maxRecDepth 100000 in
set_option maxHeartbeats 2000000 in
theorem do3 (gt B base N M : Nat) (v vq : Value) (ps qs : List PR) (most last now mostq lastq nowq : Int) (a : ActP) (w : World) (h : TW w gt B v ps most last now) (hP : PT ps last N) (hm : most = N) (hN : N ≤ 16) (hl0 : 0 ≤ last) (hl1 : last ≤ 1000000) (hn0 : 0 ≤ now) (hn1 : now ≤ 1099511627776)
    (hq : LP w base vq qs) (hQ : PT qs lastq M) (hmq : mostq = M) (hM : M ≤ 16) (hl0q : 0 ≤ lastq) (hl1q : lastq ≤ 1000000) (hn0q : 0 ≤ nowq) (hn1q : nowq ≤ 1099511627776) (hb : base ≤ w.heap.size) (r1 : Ranged64 a.pid) (r2 : Ranged64 a.n) (hk0 : a.kind ≠ 0) (hk1 : a.kind ≠ 1) (hk2 : a.kind ≠ 2) (hk : a.kind = 3) :
    Calls Try.prog 53 #[.pointer (some ⟨gt, 0, none⟩), aggT vq mostq lastq nowq, .agg #[I a.kind, I a.pid, I a.n]] w fun e w' => DoRet w w' gt B v e (doM ps most last now a).1 most (doM qs mostq lastq nowq a).1 mostq (decide ((doM ps most last now a).2 = (doM qs mostq lastq nowq a).2)) base := by
  have k0 : (a.kind == 0) = false := by simpa using hk0
  have k1 : (a.kind == 1) = false := by simpa using hk1
  have k2 : (a.kind == 2) = false := by simpa using hk2
  have k3 : (a.kind == 3) = true := by simpa using hk
  have e : ∀ rs most last now, doM rs most last now a = (((killM rs a.pid).1, last, now), [(killM rs a.pid).2]) := fun rs most last now => by unfold doM; rw [if_neg hk0]; rw [if_neg hk1]; rw [if_neg hk2]; rw [if_pos hk]
  rw [e, e]
  obtain ⟨W, hW, hsW, b0, b1, b2⟩ := three_blocks w vq mostq lastq nowq a
  have hT := h.safe hsW
  have hpc := pkill_any gt B v ps most last now a.pid W hT hP.pos
  have hrc := fun W' (hl : LP W' base vq qs) (hs : base ≤ W'.heap.size) => (kill_is hQ a.pid) ▸ rkill_any base vq qs mostq lastq nowq a.pid W' hl (by have := hQ.len; omega) hs
  generalize killM ps a.pid = rp at *
  generalize killM qs a.pid = rq at *
  obtain ⟨ps2, e1⟩ := rp
  obtain ⟨qs2, e2⟩ := rq
  simp only at hpc hrc ⊢
  have HT := Lib.hid hT
  have HPC := Lib.hid hpc
  have HRC := Lib.hid hrc
  have HSW := Lib.hid hsW
  have HB0 := Lib.hid b0
  have HB1 := Lib.hid b1
  have HB2 := Lib.hid b2
  have HQ := Lib.hid (hq.safe hsW)
  obtain ⟨q0, q1, q2⟩ := cells3 b1
  clear hm hmq hN hM e hk0 hk1 hk2 hk hT hpc hrc hsW b0 b1 b2 h hq hP hQ
  have HW := Lib.hid hW
  clear hW
  rcases (show (e1 = e2) ∨ (e1 ≠ e2) by omega) with z0 | z0
  · have s0 : (e1 == e2) = true := by simpa using z0
    have HD : Hid (decide ([e1] = [e2]) = true) := Lib.hid (by simp [z0])
    clear z0
    go_enter Try.func53, Try.ntmps53
    go_wp2_with fail
    rw [← HW.out]
    refine (HPC.out).mono ?_
    rintro _ w3 ⟨rfl, hr3⟩
    have x0 := hr3.blk HT.out HB0.out (by decide) (by decide)
    have x1 := hr3.blk HT.out HB1.out (by decide) (by decide)
    have x2 := hr3.blk HT.out HB2.out (by decide) (by decide)
    have hlq := hr3.lp HT.out HQ.out
    have hsz : W.heap.size ≤ w3.heap.size := by obtain ⟨_, _, hb3, _⟩ := hr3; exact hb3.size
    have hrc3 := HRC.out w3 hlq (Nat.le_trans hb (Nat.le_trans HSW.out.size hsz))
    have HRC3 := Lib.hid hrc3
    have HR3 := Lib.hid (hr3.pre HSW.out)
    have HX2 := Lib.hid x2
    obtain ⟨d0, d1, d2, d3⟩ := cells4 x0
    obtain ⟨y0, y1, y2⟩ := cells3 x1
    clear x0 x1 x2 hlq hsz hrc3 hr3 q0 q1 q2
    go_wp2_with fail
    refine (HRC3.out).mono ?_
    rintro e w4 ⟨v7, rfl, hlp, hs4⟩
    have x2 := HX2.out.but hs4 id
    have hfin := fun l o => do_fin (HR3.out.post hs4) hlp x2 (show w.heap.size ≤ w.heap.size + 2 by omega) l o
    obtain ⟨A7, c7, hv7, -⟩ := hlp
    subst hv7
    have x3 := x2.alloc (.cells #[.slice A7 qs2.length c7, I mostq, I lastq, I nowq] 91)
    obtain ⟨r0, r1, r2, r3⟩ := cells4 x3
    obtain ⟨f0, f1, f2, f3⟩ := frz4 x3
    have HFIN := Lib.hid (hfin [.slice A7 qs2.length c7, I mostq, I lastq, I nowq] (.cells #[.slice A7 qs2.length c7, I mostq, I lastq, I nowq] 91))
    clear hfin hs4 x2 x3 d0 d1 d2 d3 y0 y1 y2
    go_wp2
    exact bodyPost_ret (v := .tuple #[aggT (.slice A7 qs2.length c7) mostq lastq nowq, .bool true]) (by simp [results, Try.results53, go_sem, r0, r1, r2, r3]) rfl ⟨_, by rw [HD.out], HFIN.out⟩
  · have s0 : (e1 == e2) = false := by simpa using z0
    have HD : Hid (decide ([e1] = [e2]) = false) := Lib.hid (by simp [z0])
    clear z0
    go_enter Try.func53, Try.ntmps53
    go_wp2_with fail
    rw [← HW.out]
    refine (HPC.out).mono ?_
    rintro _ w3 ⟨rfl, hr3⟩
    have x0 := hr3.blk HT.out HB0.out (by decide) (by decide)
    have x1 := hr3.blk HT.out HB1.out (by decide) (by decide)
    have x2 := hr3.blk HT.out HB2.out (by decide) (by decide)
    have hlq := hr3.lp HT.out HQ.out
    have hsz : W.heap.size ≤ w3.heap.size := by obtain ⟨_, _, hb3, _⟩ := hr3; exact hb3.size
    have hrc3 := HRC.out w3 hlq (Nat.le_trans hb (Nat.le_trans HSW.out.size hsz))
    have HRC3 := Lib.hid hrc3
    have HR3 := Lib.hid (hr3.pre HSW.out)
    have HX2 := Lib.hid x2
    obtain ⟨d0, d1, d2, d3⟩ := cells4 x0
    obtain ⟨y0, y1, y2⟩ := cells3 x1
    clear x0 x1 x2 hlq hsz hrc3 hr3 q0 q1 q2
    go_wp2_with fail
    refine (HRC3.out).mono ?_
    rintro e w4 ⟨v7, rfl, hlp, hs4⟩
    have x2 := HX2.out.but hs4 id
    have hfin := fun l o => do_fin (HR3.out.post hs4) hlp x2 (show w.heap.size ≤ w.heap.size + 2 by omega) l o
    obtain ⟨A7, c7, hv7, -⟩ := hlp
    subst hv7
    have x3 := x2.alloc (.cells #[.slice A7 qs2.length c7, I mostq, I lastq, I nowq] 91)
    obtain ⟨r0, r1, r2, r3⟩ := cells4 x3
    obtain ⟨f0, f1, f2, f3⟩ := frz4 x3
    have HFIN := Lib.hid (hfin [.slice A7 qs2.length c7, I mostq, I lastq, I nowq] (.cells #[.slice A7 qs2.length c7, I mostq, I lastq, I nowq] 91))
    clear hfin hs4 x2 x3 d0 d1 d2 d3 y0 y1 y2
    go_wp2
    exact bodyPost_ret (v := .tuple #[aggT (.slice A7 qs2.length c7) mostq lastq nowq, .bool false]) (by simp [results, Try.results53, go_sem, r0, r1, r2, r3]) rfl ⟨_, by rw [HD.out], HFIN.out⟩
set_option maxRecDepth 100000 in
set_option maxHeartbeats 2000000 in
theorem do4 (gt B base N M : Nat) (v vq : Value) (ps qs : List PR) (most last now mostq lastq nowq : Int) (a : ActP) (w : World) (h : TW w gt B v ps most last now) (hP : PT ps last N) (hm : most = N) (hN : N ≤ 16) (hl0 : 0 ≤ last) (hl1 : last ≤ 1000000) (hn0 : 0 ≤ now) (hn1 : now ≤ 1099511627776)
    (hq : LP w base vq qs) (hQ : PT qs lastq M) (hmq : mostq = M) (hM : M ≤ 16) (hl0q : 0 ≤ lastq) (hl1q : lastq ≤ 1000000) (hn0q : 0 ≤ nowq) (hn1q : nowq ≤ 1099511627776) (hb : base ≤ w.heap.size) (r1 : Ranged64 a.pid) (r2 : Ranged64 a.n) (hk0 : a.kind ≠ 0) (hk1 : a.kind ≠ 1) (hk2 : a.kind ≠ 2) (hk3 : a.kind ≠ 3) (hk : a.kind = 4) :
    Calls Try.prog 53 #[.pointer (some ⟨gt, 0, none⟩), aggT vq mostq lastq nowq, .agg #[I a.kind, I a.pid, I a.n]] w fun e w' => DoRet w w' gt B v e (doM ps most last now a).1 most (doM qs mostq lastq nowq a).1 mostq (decide ((doM ps most last now a).2 = (doM qs mostq lastq nowq a).2)) base := by
  have k0 : (a.kind == 0) = false := by simpa using hk0
  have k1 : (a.kind == 1) = false := by simpa using hk1
  have k2 : (a.kind == 2) = false := by simpa using hk2
  have k3 : (a.kind == 3) = false := by simpa using hk3
  have k4 : (a.kind == 4) = true := by simpa using hk
  have e : ∀ rs most last now, doM rs most last now a = (((sleepM rs now a.pid a.n).1, last, now), [(sleepM rs now a.pid a.n).2]) := fun rs most last now => by unfold doM; rw [if_neg hk0]; rw [if_neg hk1]; rw [if_neg hk2]; rw [if_neg hk3]; rw [if_pos hk]
  rw [e, e]
  obtain ⟨W, hW, hsW, b0, b1, b2⟩ := three_blocks w vq mostq lastq nowq a
  have hT := h.safe hsW
  have hpc := psleep_any gt B v ps most last now a.pid a.n W hT hP.pos hn0 (by unfold longest; omega)
  have hrc := fun W' (hl : LP W' base vq qs) (hs : base ≤ W'.heap.size) => rsleep_any base vq qs mostq lastq nowq a.pid a.n W' hl (by have := hQ.len; omega) hs hn0q hn1q r2
  generalize sleepM ps now a.pid a.n = rp at *
  generalize sleepM qs nowq a.pid a.n = rq at *
  obtain ⟨ps2, e1⟩ := rp
  obtain ⟨qs2, e2⟩ := rq
  simp only at hpc hrc ⊢
  have HT := Lib.hid hT
  have HPC := Lib.hid hpc
  have HRC := Lib.hid hrc
  have HSW := Lib.hid hsW
  have HB0 := Lib.hid b0
  have HB1 := Lib.hid b1
  have HB2 := Lib.hid b2
  have HQ := Lib.hid (hq.safe hsW)
  obtain ⟨q0, q1, q2⟩ := cells3 b1
  clear hm hmq hN hM e hk0 hk1 hk2 hk3 hk hT hpc hrc hsW b0 b1 b2 h hq hP hQ
  have HW := Lib.hid hW
  clear hW
  rcases (show (e1 = e2) ∨ (e1 ≠ e2) by omega) with z0 | z0
  · have s0 : (e1 == e2) = true := by simpa using z0
    have HD : Hid (decide ([e1] = [e2]) = true) := Lib.hid (by simp [z0])
    clear z0
    go_enter Try.func53, Try.ntmps53
    go_wp2_with fail
    rw [← HW.out]
    refine (HPC.out).mono ?_
    rintro _ w3 ⟨rfl, hr3⟩
    have x0 := hr3.blk HT.out HB0.out (by decide) (by decide)
    have x1 := hr3.blk HT.out HB1.out (by decide) (by decide)
    have x2 := hr3.blk HT.out HB2.out (by decide) (by decide)
    have hlq := hr3.lp HT.out HQ.out
    have hsz : W.heap.size ≤ w3.heap.size := by obtain ⟨_, _, hb3, _⟩ := hr3; exact hb3.size
    have hrc3 := HRC.out w3 hlq (Nat.le_trans hb (Nat.le_trans HSW.out.size hsz))
    have HRC3 := Lib.hid hrc3
    have HR3 := Lib.hid (hr3.pre HSW.out)
    have HX2 := Lib.hid x2
    obtain ⟨d0, d1, d2, d3⟩ := cells4 x0
    obtain ⟨y0, y1, y2⟩ := cells3 x1
    clear x0 x1 x2 hlq hsz hrc3 hr3 q0 q1 q2
    go_wp2_with fail
    refine (HRC3.out).mono ?_
    rintro e w4 ⟨v7, rfl, hlp, hs4⟩
    have x2 := HX2.out.but hs4 id
    have hfin := fun l o => do_fin (HR3.out.post hs4) hlp x2 (show w.heap.size ≤ w.heap.size + 2 by omega) l o
    obtain ⟨A7, c7, hv7, -⟩ := hlp
    subst hv7
    have x3 := x2.alloc (.cells #[.slice A7 qs2.length c7, I mostq, I lastq, I nowq] 91)
    obtain ⟨r0, r1, r2, r3⟩ := cells4 x3
    obtain ⟨f0, f1, f2, f3⟩ := frz4 x3
    have HFIN := Lib.hid (hfin [.slice A7 qs2.length c7, I mostq, I lastq, I nowq] (.cells #[.slice A7 qs2.length c7, I mostq, I lastq, I nowq] 91))
    clear hfin hs4 x2 x3 d0 d1 d2 d3 y0 y1 y2
    go_wp2
    exact bodyPost_ret (v := .tuple #[aggT (.slice A7 qs2.length c7) mostq lastq nowq, .bool true]) (by simp [results, Try.results53, go_sem, r0, r1, r2, r3]) rfl ⟨_, by rw [HD.out], HFIN.out⟩
  · have s0 : (e1 == e2) = false := by simpa using z0
    have HD : Hid (decide ([e1] = [e2]) = false) := Lib.hid (by simp [z0])
    clear z0
    go_enter Try.func53, Try.ntmps53
    go_wp2_with fail
    rw [← HW.out]
    refine (HPC.out).mono ?_
    rintro _ w3 ⟨rfl, hr3⟩
    have x0 := hr3.blk HT.out HB0.out (by decide) (by decide)
    have x1 := hr3.blk HT.out HB1.out (by decide) (by decide)
    have x2 := hr3.blk HT.out HB2.out (by decide) (by decide)
    have hlq := hr3.lp HT.out HQ.out
    have hsz : W.heap.size ≤ w3.heap.size := by obtain ⟨_, _, hb3, _⟩ := hr3; exact hb3.size
    have hrc3 := HRC.out w3 hlq (Nat.le_trans hb (Nat.le_trans HSW.out.size hsz))
    have HRC3 := Lib.hid hrc3
    have HR3 := Lib.hid (hr3.pre HSW.out)
    have HX2 := Lib.hid x2
    obtain ⟨d0, d1, d2, d3⟩ := cells4 x0
    obtain ⟨y0, y1, y2⟩ := cells3 x1
    clear x0 x1 x2 hlq hsz hrc3 hr3 q0 q1 q2
    go_wp2_with fail
    refine (HRC3.out).mono ?_
    rintro e w4 ⟨v7, rfl, hlp, hs4⟩
    have x2 := HX2.out.but hs4 id
    have hfin := fun l o => do_fin (HR3.out.post hs4) hlp x2 (show w.heap.size ≤ w.heap.size + 2 by omega) l o
    obtain ⟨A7, c7, hv7, -⟩ := hlp
    subst hv7
    have x3 := x2.alloc (.cells #[.slice A7 qs2.length c7, I mostq, I lastq, I nowq] 91)
    obtain ⟨r0, r1, r2, r3⟩ := cells4 x3
    obtain ⟨f0, f1, f2, f3⟩ := frz4 x3
    have HFIN := Lib.hid (hfin [.slice A7 qs2.length c7, I mostq, I lastq, I nowq] (.cells #[.slice A7 qs2.length c7, I mostq, I lastq, I nowq] 91))
    clear hfin hs4 x2 x3 d0 d1 d2 d3 y0 y1 y2
    go_wp2
    exact bodyPost_ret (v := .tuple #[aggT (.slice A7 qs2.length c7) mostq lastq nowq, .bool false]) (by simp [results, Try.results53, go_sem, r0, r1, r2, r3]) rfl ⟨_, by rw [HD.out], HFIN.out⟩
end Go.Proofs.Ytlojadpbdbhmiaa
