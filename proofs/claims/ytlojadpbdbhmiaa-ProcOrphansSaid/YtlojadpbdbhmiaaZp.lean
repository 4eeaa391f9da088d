/- Law 22: the walk of ProcOrphans. -/
import Derived.Test.YtlojadpbdbhmiaaZo
namespace Go.Proofs.Ytlojadpbdbhmiaa
open Go.RowKit
set_option linter.unusedSimpArgs false
set_option linter.unusedVariables false

/-- The cells that the act's region reads. -/
abbrev K7 (w' : World) (b : Nat) (v : Value) (last now : Int) (ad : Addr) (a : ActP) : Prop :=
  w'.cell? ⟨b, 0, none⟩ = some v ∧ w'.cell? ⟨b, 1, none⟩ = some (I 16) ∧ w'.cell? ⟨b, 2, none⟩ = some (I last) ∧ w'.cell? ⟨b, 3, none⟩ = some (I now) ∧ w'.cell? ad = some (I a.kind) ∧ w'.cell? ⟨ad.block, ad.off + 1, none⟩ = some (I a.pid) ∧ w'.cell? ⟨ad.block, ad.off + 2, none⟩ = some (I a.n)
theorem K7.safe {w w' : World} {b : Nat} {v : Value} {last now : Int} {ad : Addr} {a : ActP} (h : K7 w b v last now ad a) (hs : Safe w w') : K7 w' b v last now ad a := by
  obtain ⟨m0, m1, m2, m3, n0, n1, n2⟩ := h
  exact ⟨hs.cell m0 id, hs.cell m1 id, hs.cell m2 id, hs.cell m3 id, hs.cell n0 id, hs.cell n1 id, hs.cell n2 id⟩
theorem K7.set4 {w : World} {b g : Nat} {v : Value} {last now : Int} {ad : Addr} {a : ActP} (h : K7 w b v last now ad a) (h1 : b ≠ g) (h2 : ad.block ≠ g) (x y z u : Value) :
    K7 ((((w.setCell ⟨g, 0, none⟩ x).setCell ⟨g, 1, none⟩ y).setCell ⟨g, 2, none⟩ z).setCell ⟨g, 3, none⟩ u) b v last now ad a := by
  obtain ⟨m0, m1, m2, m3, n0, n1, n2⟩ := h
  have hs := ((((But.refl (· = g) w).setCell (p := ⟨g, 0, none⟩) (.inl rfl) x).setCell (p := ⟨g, 1, none⟩) (.inl rfl) y).setCell (p := ⟨g, 2, none⟩) (.inl rfl) z).setCell (p := ⟨g, 3, none⟩) (.inl rfl) u
  exact ⟨hs.cell m0 h1, hs.cell m1 h1, hs.cell m2 h1, hs.cell m3 h1, hs.cell n0 h2, hs.cell n1 h2, hs.cell n2 h2⟩
set_option maxRecDepth 100000 in
set_option maxHeartbeats 4000000 in
theorem procOrphans_any (A : Option Addr) (n c : Nat) (D : Nat → ActP) (who : Int) (w : World) (hn : n ≤ c) (hc : c ≤ 9223372036854775807) (hD : ActsP w A n D) :
    Calls Try.prog 8 #[.slice A n c, .int .i64 who] w fun e w' => e = .returned (.bool true) ∧ Safe w w' := by
  have HD := Lib.hid hD
  clear hD
  go_enter Try.func8, Try.ntmps8
  go_wp2_with fail
  refine (awake22 _).mono ?_
  rintro _ w1 ⟨rfl, hs1⟩
  have HS1 := Lib.hid hs1
  clear hs1
  go_wp2_with fail
  refine (pnew_any 16 w1).mono ?_
  rintro _ w2 ⟨v2, rfl, hT2, hs2⟩
  rw [show mostP 16 = 16 from rfl] at hT2
  have HS2 := Lib.hid hs2
  have HT2 := Lib.hid hT2
  clear hs2 hT2
  go_wp2_with fail
  refine (rnew_any 16 w2).mono ?_
  rintro e w3 ⟨vq, rfl, hl3, hs3⟩
  rw [show mostP 16 = 16 from rfl]
  have hsz1 := HS1.out.size
  have hsz2 := HS2.out.size
  have hsz3 := hs3.size
  obtain ⟨gw, hgw⟩ : ∃ gw, gw = w3.heap.size := ⟨_, rfl⟩
  obtain ⟨gt, hgt⟩ : ∃ gt, gt = w1.heap.size + 1 := ⟨_, rfl⟩
  obtain ⟨W3, hW3⟩ : ∃ W3, W3 = w3.alloc (.cells #[vq, I 16, I 1, I 0] 91) := ⟨_, rfl⟩
  have h0 : TO w W3 gt gw v2 vq [initR] 1 0 := by
    have hsa : Safe w3 W3 := by rw [hW3]; exact (But.refl _ _).alloc _
    have ht := (HT2.out.safe hs3).safe hsa
    rw [← hgt] at ht
    exact ⟨⟨ht.hp, own_low ht.ho hsz1, ht.len⟩, PT.start 16 (by omega), by omega, by omega, by rw [hW3, hgw]; exact Blk.new _ _ _, (hl3.lower (by omega)).safe hsa, ((HS1.out.trans HS2.out).trans hs3).trans hsa, by omega⟩
  obtain ⟨Aq, cq, hvq, -⟩ := hl3
  have hvq : vq = .slice Aq 1 cq := hvq
  subst hvq
  have H0 := Lib.hid h0
  have HGW := Lib.hid hgw
  have HGT := Lib.hid hgt
  have HW3 := Lib.hid hW3
  clear h0 hgw hgt hW3 hs3
  rw [← HGT.out]
  go_wp2_with fail
  rw [← HW3.out, ← HGW.out]
  go_loopw [7] (fun x wr => ∃ (i : Nat) (last now : Int) (v vq : Value) (ps : List PR), i ≤ n ∧ i ≤ 60 ∧ x = .int .i64 i ∧ 1 ≤ last ∧ last ≤ (i : Int) + 1 ∧ TO w wr gt gw v vq ps last now) (fun x _ => 60 - (intOf x).toNat)
  case atStart => exact ⟨0, 1, 0, _, _, _, by omega, by omega, rfl, by omega, by omega, H0.out⟩
  case round =>
    obtain ⟨i, last, now, v, vq, ps, hin, hi60, rfl, hl1, hl2, hI⟩ := hrel
    obtain ⟨wo, rfl⟩ : ∃ wo : World, wo = wr := ⟨_, rfl⟩
    by_cases hlt : i < n ∧ i < 60
    · obtain ⟨hlt, h60⟩ := hlt
      have hii : (i : Int) < n := by omega
      have hi60i : (i : Int) < 60 := by omega
      obtain ⟨Av, cv, hvv, -⟩ := id hI.lp
      subst hvv
      have HI := Lib.hid hI
      clear hI
      obtain ⟨ad, hA, c0, c1, c2, rk, rp, rn⟩ := HD.out i hlt
      subst hA
      rw [add_split3] at c1 c2
      rw [Nat.add_zero] at c0
      generalize D i = a at *
      have hdo := fun W' (hs : Safe wo W') => do_any gt w.heap.size w.heap.size 16 16 v (.slice Av ps.length cv) ps ps 16 last now 16 last now a W' (HI.out.tw.safe hs) HI.out.pt rfl (by omega) (by omega) (by omega) HI.out.nw.1 HI.out.nw.2 (HI.out.lp.safe hs) HI.out.pt rfl (by omega) (by omega) (by omega) HI.out.nw.1 HI.out.nw.2 (Nat.le_trans HI.out.sf.size hs.size) rp rn
      rw [show (decide ((doM ps 16 last now a).2 = (doM ps 16 last now a).2)) = true from decide_eq_true rfl] at hdo
      have hact := HI.out.pt.act (most := 16) rfl a (now := now)
      have hlb := doM_last (ps := ps) (most := 16) (last := last) (now := now) (a := a)
      have hnb := doM_now (ps := ps) (most := 16) (last := last) (a := a) HI.out.nw.1 (by unfold longest; exact HI.out.nw.2)
      generalize doM ps 16 last now a = dm at *
      obtain ⟨⟨ps2, last2, now2⟩, res2⟩ := dm
      simp only at hdo hact hlb hnb
      have HDO := Lib.hid hdo
      have HAC := Lib.hid hact
      have HNB := Lib.hid hnb
      obtain ⟨t0, t1, t2, t3⟩ := cells4 HI.out.tb
      have hK : K7 wo gw (.slice Av ps.length cv) last now (ad.add (i * 3)) a := ⟨t0, t1, t2, t3, HI.out.sf.cell c0 id, HI.out.sf.cell c1 id, HI.out.sf.cell c2 id⟩
      have HK := Lib.hid hK
      have HC0 := Lib.hid c0
      have HC1 := Lib.hid c1
      have HC2 := Lib.hid c2
      clear hdo hact hnb t0 t1 t2 t3 c0 c1 c2
      obtain ⟨m0, m1, m2, m3, n0, n1, n2⟩ := hK
      have HG0 : Hid (gw ≠ wo.heap.size) := Lib.hid (by have := HI.out.tb.lt; omega)
      have HG1 : Hid ((ad.add (i * 3)).block ≠ wo.heap.size) := Lib.hid (by have := cell_lt HK.out.2.2.2.2.1; omega)
      go_wp2_with fail
      go_region_held3 (fun w' => w'.cell? ⟨gw, 0, none⟩ = some (.slice Av ps.length cv) ∧ w'.cell? ⟨gw, 1, none⟩ = some (I 16) ∧ w'.cell? ⟨gw, 2, none⟩ = some (I last) ∧ w'.cell? ⟨gw, 3, none⟩ = some (I now) ∧ w'.cell? (ad.add (i * 3)) = some (I a.kind) ∧ w'.cell? ⟨(ad.add (i * 3)).block, (ad.add (i * 3)).off + 1, none⟩ = some (I a.pid) ∧ w'.cell? ⟨(ad.add (i * 3)).block, (ad.add (i * 3)).off + 2, none⟩ = some (I a.n))
        (first | (with_reducible exact HKC.out) | (with_reducible exact HKC.out.set4 HG0.out HG1.out _ _ _ _) | (with_reducible exact HKC.out.safe ((But.refl _ _).alloc _)) | (with_reducible exact HK.out.safe (But.refl _ _).drew) | (with_reducible exact HK.out.safe ((But.refl _ _).alloc _).drew) | go_keep)
        ((go_at_call 53; (first
          | (refine (HDO.out _ (But.refl _ _).drew).mono ?_; rintro e w7 ⟨vq7, rfl, hlp7, hr7⟩; have hI8 := HI.out.did (But.refl _ wo).drew hr7 hlp7 HAC.out HNB.out)
          | (refine (HDO.out _ ((But.refl _ _).alloc _).drew).mono ?_; rintro e w7 ⟨vq7, rfl, hlp7, hr7⟩; have hI8 := HI.out.did (((But.refl (fun _ => False) wo).alloc _).drew) hr7 hlp7 HAC.out HNB.out; have hbz := hr7.blk (HI.out.tw.safe (((But.refl (fun _ => False) wo).alloc (.cells #[.slice none 0 0, I 0, I 0, I 0] 91)).drew)) (Blk.new wo 91 #[.slice none 0 0, I 0, I 0, I 0]).drew (by decide) (by decide); have HBZ := Lib.hid hbz; obtain ⟨x0, x1, x2, x3⟩ := cells4 hbz; obtain ⟨f0, f1, f2, f3⟩ := frz4 hbz)); obtain ⟨v8, hM8⟩ := hI8; obtain ⟨Av7, cv7, hv7, -⟩ := id hlp7; subst hv7; (have hkc : K7 w7 gw (.slice Av ps.length cv) last now (ad.add (i * 3)) a := ⟨(cells4 hM8.tb).1, (cells4 hM8.tb).2.1, (cells4 hM8.tb).2.2.1, (cells4 hM8.tb).2.2.2, hM8.sf.cell HC0.out id, hM8.sf.cell HC1.out id, hM8.sf.cell HC2.out id⟩); (have HKC := Lib.hid hkc); (have HM8 := Lib.hid hM8); clear hM8 hkc))
      · obtain ⟨W5, hW5⟩ : ∃ W5, W5 = w7.alloc (.cells #[.slice Av7 ps2.length cv7, I 16, I last2, I now2] 91) := ⟨_, rfl⟩
        obtain ⟨g5, hg5⟩ : ∃ g5, g5 = w7.heap.size := ⟨_, rfl⟩
        rw [← hW5, ← hg5]
        have hd5 := HM8.out.box
        rw [← hW5, ← hg5] at hd5
        have HD5 := Lib.hid hd5
        clear hd5 hW5 hg5
        obtain ⟨y0, y1, y2, y3⟩ := cells4 HD5.out.b5
        obtain ⟨w0, w1', w2', w3'⟩ := cells4 HD5.out.tb
        obtain ⟨z0, z1, z2, z3⟩ := frz4 HD5.out.tb
        have HF := Lib.hid HD5.out.fin
        go_wp2_with fail
        go_roundw
        case rel => exact ⟨i + 1, _, _, _, _, _, by omega, by omega, by go_num, by omega, by omega, HF.out⟩
        case measure => simp [intOf]; omega
      · obtain ⟨W5, hW5⟩ : ∃ W5, W5 = w7.setCells wo.heap.size 0 [.slice Av7 ps2.length cv7, I 16, I last2, I now2] := ⟨_, rfl⟩
        obtain ⟨g5, hg5⟩ : ∃ g5, g5 = wo.heap.size := ⟨_, rfl⟩
        rw [show ((((w7.setCell ⟨wo.heap.size, 0, none⟩ (.slice Av7 ps2.length cv7)).setCell ⟨wo.heap.size, 1, none⟩ (.int .i64 16)).setCell ⟨wo.heap.size, 2, none⟩ (.int .i64 last2)).setCell ⟨wo.heap.size, 3, none⟩ (.int .i64 now2)) = W5 from hW5.symm, ← hg5]
        have hd5 := HM8.out.fill HBZ.out HG0.out (HI.out.sf.size)
        rw [← hW5, ← hg5] at hd5
        have HD5 := Lib.hid hd5
        clear hd5 hW5 hg5
        obtain ⟨y0, y1, y2, y3⟩ := cells4 HD5.out.b5
        obtain ⟨w0, w1', w2', w3'⟩ := cells4 HD5.out.tb
        obtain ⟨z0, z1, z2, z3⟩ := frz4 HD5.out.tb
        have HF := Lib.hid HD5.out.fin
        go_wp2_with fail
        go_roundw
        case rel => exact ⟨i + 1, _, _, _, _, _, by omega, by omega, by go_num, by omega, by omega, HF.out⟩
        case measure => simp [intOf]; omega
    · have hne2 : (¬ i < n) ∨ (i < n ∧ ¬ ((i : Int) < 60)) := by
        by_cases h1 : i < n
        · exact .inr ⟨h1, fun h2 => hlt ⟨h1, by omega⟩⟩
        · exact .inl h1
      clear hlt
      obtain ⟨g, cg, rfl, _, _⟩ := hI.tw.form hI.pt.pos
      rcases hne2 with k1 | ⟨k1, k2⟩
      all_goals
        have HI := Lib.hid hI
        clear hI
        have hpi := ppids_any gt w.heap.size g cg ps 16 last now wo HI.out.tw
        obtain ⟨L, hL⟩ : ∃ L, L = ps.map (·.pid) := ⟨_, rfl⟩
        rw [← hL] at hpi
        have hLl : L.length = ps.length := by rw [hL, List.length_map]
        have hlp2 := HI.out.pt.len
        have hpos2 := HI.out.pt.pos
        have hL1 : 0 < L.length := by omega
        obtain ⟨m, hm, hmm⟩ := mod_atP who (show 1 ≤ L.length by omega) (by omega)
        obtain ⟨p, hp⟩ : ∃ p, ps[m]? = some p := ⟨_, List.getElem?_eq_getElem (by omega)⟩
        have hLm : L[m]? = some p.pid := by rw [hL, List.getElem?_map, hp]; rfl
        have hmi : (m : Int) < L.length := by omega
        have hlo := HI.out.pt.lo p (List.mem_of_getElem? hp)
        have hex := exit_code HI.out.pt hp rfl
        have hgp := get_at HI.out.pt.asc hp
        have HPI := Lib.hid hpi
        have HP := Lib.hid hp
        have HLM := Lib.hid hLm
        have HEX := Lib.hid hex
        have HGP := Lib.hid hgp
        have hL16 : L.length ≤ 16 := by omega
        clear hpi hL hLl hlp2 hpos2 hp hLm hex hgp
        go_wp2_with fail
        refine (HPI.out).mono ?_
        rintro e w5 ⟨u5, rfl, ho5, hs5⟩
        obtain ⟨A5, c5, rfl, -⟩ := own_form ho5
        obtain ⟨g5, rfl⟩ := own_hd ho5 hL1
        have hc5 : w5.cell? ⟨g5, m, none⟩ = some (I p.pid) := by
          obtain ⟨ad', e, hcc⟩ := (Rd.of_own ho5) (by omega)
          injection e with e
          have := hcc m p.pid HLM.out
          rwa [← e, add_plain, Nat.zero_add] at this
        have hI5 := HI.out.move hs5
        have hch := pchildren_any gt w.heap.size g cg ps 16 last now p.pid w5 hI5.tw
        have hlC : (whichP (fun q => q.parent == p.pid) ps).length ≤ 16 := by
          have := whichP_len (fun q => q.parent == p.pid) ps ps.length
          rw [List.take_length] at this
          have := HI.out.pt.len
          omega
        obtain ⟨C, hC⟩ : ∃ C, C = whichP (fun q => q.parent == p.pid) ps := ⟨_, rfl⟩
        rw [← hC] at hch hlC
        have HCH := Lib.hid hch
        have HCC := Lib.hid hC
        have HI5 := Lib.hid hI5
        clear hch hC hI5 ho5 hs5
        go_wp2_with fail
        refine (HCH.out).mono ?_
        rintro e w6 ⟨u6, rfl, ho6, hs6⟩
        obtain ⟨A6, c6, rfl, -⟩ := own_form ho6
        have hI6 := HI5.out.move hs6
        have hG := pget_any gt w.heap.size g cg ps 16 last now p.pid w6 hI6.tw
        rw [HGP.out] at hG
        have HG := Lib.hid hG
        have HO6 := Lib.hid ho6
        have HI6 := Lib.hid hI6
        have HS6 := Lib.hid hs6
        clear hG ho6 hs6 hI6 hc5
        go_wp2_with fail
        refine (HG.out).mono ?_
        rintro _ w7 ⟨rfl, hs7⟩
        obtain ⟨W8, hW8⟩ : ∃ W8, W8 = w7.alloc (.cells #[I p.pid, I p.parent, I p.state, I p.code, I p.until_, .bool p.killed] 33) := ⟨_, rfl⟩
        obtain ⟨g8, hg8⟩ : ∃ g8, g8 = w7.heap.size := ⟨_, rfl⟩
        have hs8 : Safe w6 W8 := by rw [hW8]; exact hs7.alloc _
        have hI8 := HI6.out.move hs8
        have hB8 : Blk W8 g8 33 (encR p).toArray := by rw [hW8, hg8]; exact Blk.new _ _ _
        have hO8 := own_safe HO6.out hs8
        have hX := pexit_any gt w.heap.size _ ps 16 last now p.pid 3 W8 hI8.tw HI.out.pt.pos (by omega) (by omega)
        have hg8n : gt < g8 ∧ g < g8 := by
          have h1 := HI6.out.tw.hp.lt
          have h2 := (own_blk6 HI6.out.tw.ho (k := g) rfl).2.1
          have h3 := hs7.size
          rw [hg8]
          omega
        have HX := Lib.hid hX
        have HW8 := Lib.hid hW8
        have HG8 := Lib.hid hg8
        have HI8 := Lib.hid hI8
        have HB8 := Lib.hid hB8
        have HO8 := Lib.hid hO8
        clear hW8 hg8 hs7 hs8 hI8 hB8 hO8 hX
        go_wp2_with fail
        rw [← HW8.out, ← HG8.out]
        refine (HX.out).mono ?_
        rintro _ w9 ⟨rfl, hr9⟩
        have hb9 : Blk w9 g8 33 (encR p).toArray := by
          obtain ⟨_, _, hb, _⟩ := hr9
          refine HB8.out.but hb ?_
          rintro (e | e)
          · omega
          · have e : g = g8 := by injection e
            omega
        obtain ⟨b0, b1, b2, b3, b4, b5⟩ := cells6 hb9
        rcases HEX.out with ⟨hx0, hx1⟩ | ⟨hx0, hx1, hx2⟩
        · have hs9 := TRet.kept HI8.out.sf HI8.out.tw (Nat.le_refl _) HI8.out.gt0 hr9
          have HS9 := Lib.hid hs9
          have hxb : ((exitM ps p.pid 3).2 == 0) = false := by simpa using hx0
          have hxn : ((exitM ps p.pid 3).2 != 0) = true := by simpa using hx0
          have hxc : ((p.pid == 1) = true) ∨ ((p.pid == 1) = false ∧ (p.state == 3) = true) := by
            by_cases h1 : p.pid = 1
            · left; simpa using h1
            · right
              rcases hx1 with h | h
              · exact absurd h h1
              · exact ⟨by simpa using h1, by simpa using h⟩
          generalize (exitM ps p.pid 3).2 = X at *
          clear hx0 hx1 hr9 hs9 hb9
          rcases hxc with h1 | ⟨h1, h2⟩
          all_goals
            go_wp2
            go_ret
            exact ⟨rfl, HS9.out⟩
        · rw [hx0] at hr9
          rw [hx0]
          have hl0 : liveP ps p.pid = 0 := by rw [live_mk HI.out.pt.asc HP.out, if_neg hx2]
          have hpt9 := HI.out.pt.exL (code := 3) hx1 hl0
          have hs9 := TRet.kept HI8.out.sf HI8.out.tw (Nat.le_refl _) HI8.out.gt0 hr9
          have hO9 := own_but_kept HO8.out hr9.choose_spec.2.1 (fun k hk e => by
            obtain ⟨_, _, cs', hB'⟩ := own_blk6 HO8.out hk
            rcases e with e | e
            · exact hB'.ne HI8.out.tw.hp (by decide) e
            · obtain ⟨_, _, cs2, hB2⟩ := own_blk6 HI8.out.tw.ho e
              exact hB'.ne hB2 (by decide) rfl)
          have hchild := fun c (hc : c ∈ C) => orphan_child HI.out.pt (c := c) (pid := p.pid) (by rw [← HCC.out]; exact hc)
          have hnone := orphan_none (ps := ps) (pid := p.pid) hx1
          have hgone := fun h => orphan_gone HI.out.pt HP.out rfl hx1 h
          have hleft := fun h => orphan_left HI.out.pt HP.out rfl hx1 h
          obtain ⟨v9, hT9, _, _⟩ := hr9
          obtain ⟨g9, c9, hv9, _, _⟩ := hT9.form hpt9.pos
          subst hv9
          generalize exL p.pid 3 ps = ps9 at *
          have HS9 := Lib.hid hs9
          have HT9 := Lib.hid hT9
          have HO9 := Lib.hid hO9
          have HB9 := Lib.hid hb9
          have HCHI := Lib.hid hchild
          have HNO := Lib.hid hnone
          have HGO := Lib.hid hgone
          have HLE := Lib.hid hleft
          clear hx0 hx2 hl0 hs9 hT9 hO9 hb9 hchild hnone hgone hleft hpt9
          go_wp2_with fail
          go_loopw [92] (fun x wr => ∃ q : Nat, q ≤ C.length ∧ x = .int .i64 q ∧ Safe w9 wr) (fun x _ => C.length - (intOf x).toNat)
          case atStart => exact ⟨0, by omega, rfl, But.refl _ _⟩
          case round =>
            obtain ⟨q, hq, rfl, hSq⟩ := hrel
            obtain ⟨wq, rfl⟩ : ∃ wq : World, wq = wr := ⟨_, rfl⟩
            have HSQ := Lib.hid hSq
            clear hSq
            by_cases hqlt : q < C.length
            · have hqi : (q : Int) < C.length := by omega
              obtain ⟨x, hx⟩ : ∃ x, C[q]? = some x := ⟨_, List.getElem?_eq_getElem hqlt⟩
              obtain ⟨ad5, rfl, hcell⟩ := (Rd.of_own (enc := I) (own_safe HO9.out HSQ.out)).at hqlt
              have ex : C[q] = x := by rw [List.getElem?_eq_getElem hqlt] at hx; injection hx
              rw [ex] at hcell
              have hcx := HCHI.out x (List.mem_of_getElem? hx)
              have hG2 := pget_any gt w.heap.size g9 c9 ps9 16 last now x wq (HT9.out.safe HSQ.out)
              generalize getP ps9 x = rr at *
              obtain ⟨qq, ee⟩ := rr
              simp only at hcx hG2
              have HG2 := Lib.hid hG2
              clear hG2 hx ex
              rcases hcx with rfl | ⟨rfl, hpar⟩
              · go_wp2_with fail
                refine (HG2.out).mono ?_
                rintro _ wz ⟨rfl, hsz⟩
                have HSZ := Lib.hid hsz
                clear hsz
                go_wp2_with fail
                go_roundw
                case rel => exact ⟨q + 1, by omega, by go_num, (HSQ.out.trans HSZ.out).alloc _⟩
                case measure => simp [intOf]; omega
              · have hpb : (qq.parent != 1) = false := by simpa using hpar
                clear hpar
                go_wp2_with fail
                refine (HG2.out).mono ?_
                rintro _ wz ⟨rfl, hsz⟩
                have HSZ := Lib.hid hsz
                clear hsz
                go_wp2_with fail
                go_roundw
                case rel => exact ⟨q + 1, by omega, by go_num, (HSQ.out.trans HSZ.out).alloc _⟩
                case measure => simp [intOf]; omega
            · obtain rfl : q = C.length := by omega
              have hG3 := pget_any gt w.heap.size g9 c9 ps9 16 last now p.pid wq (HT9.out.safe HSQ.out)
              have hCh := fun W (hs : Safe wq W) => pchildren_any gt w.heap.size g9 c9 ps9 16 last now p.pid W ((HT9.out.safe HSQ.out).safe hs)
              rw [HNO.out] at hCh
              have HCh := Lib.hid hCh
              have HBQ := Lib.hid (HB9.out.but HSQ.out id)
              by_cases h1 : p.parent = 1
              · rw [HGO.out h1] at hG3
                have HG3 := Lib.hid hG3
                have hpb : (p.parent == 1) = true := by simpa using h1
                clear hG3 hCh h1
                go_wp2_with fail
                refine (HG3.out).mono ?_
                rintro _ wz ⟨rfl, hsz⟩
                obtain ⟨z0, z1, z2, z3, z4, z5⟩ := cells6 (HBQ.out.but hsz id)
                have y0 : (wz.alloc (.cells #[I zeroR.pid, I zeroR.parent, I zeroR.state, I zeroR.code, I zeroR.until_, .bool zeroR.killed] 33)).cell? ⟨g8, 0, none⟩ = some (I p.pid) := cell_alloc z0 _
                have y1 : (wz.alloc (.cells #[I zeroR.pid, I zeroR.parent, I zeroR.state, I zeroR.code, I zeroR.until_, .bool zeroR.killed] 33)).cell? ⟨g8, 1, none⟩ = some (I p.parent) := cell_alloc z1 _
                have y2 : (wz.alloc (.cells #[I zeroR.pid, I zeroR.parent, I zeroR.state, I zeroR.code, I zeroR.until_, .bool zeroR.killed] 33)).cell? ⟨g8, 2, none⟩ = some (I p.state) := cell_alloc z2 _
                have y3 : (wz.alloc (.cells #[I zeroR.pid, I zeroR.parent, I zeroR.state, I zeroR.code, I zeroR.until_, .bool zeroR.killed] 33)).cell? ⟨g8, 3, none⟩ = some (I p.code) := cell_alloc z3 _
                have y4 : (wz.alloc (.cells #[I zeroR.pid, I zeroR.parent, I zeroR.state, I zeroR.code, I zeroR.until_, .bool zeroR.killed] 33)).cell? ⟨g8, 4, none⟩ = some (I p.until_) := cell_alloc z4 _
                have y5 : (wz.alloc (.cells #[I zeroR.pid, I zeroR.parent, I zeroR.state, I zeroR.code, I zeroR.until_, .bool zeroR.killed] 33)).cell? ⟨g8, 5, none⟩ = some (.bool p.killed) := cell_alloc z5 _
                have HSZ := Lib.hid hsz
                clear hsz
                go_wp2_with fail
                refine (HCh.out _ (HSZ.out.alloc _)).mono ?_
                rintro e wy ⟨uy, rfl, hoy, hsy⟩
                obtain ⟨Ay, cy, rfl, -⟩ := own_form hoy
                have HSY := Lib.hid (((HS9.out.trans HSQ.out).trans (HSZ.out.alloc _)).trans hsy)
                clear hoy hsy
                go_wp2
                go_ret
                exact ⟨rfl, HSY.out⟩
              · rw [HLE.out h1] at hG3
                have HG3 := Lib.hid hG3
                have hpb : (p.parent == 1) = false := by simpa using h1
                clear hG3 hCh h1
                go_wp2_with fail
                refine (HG3.out).mono ?_
                rintro _ wz ⟨rfl, hsz⟩
                obtain ⟨z0, z1, z2, z3, z4, z5⟩ := cells6 (HBQ.out.but hsz id)
                have y0 : (wz.alloc (.cells #[I p.pid, I p.parent, I 3, I 3, I 0, .bool false] 33)).cell? ⟨g8, 0, none⟩ = some (I p.pid) := cell_alloc z0 _
                have y1 : (wz.alloc (.cells #[I p.pid, I p.parent, I 3, I 3, I 0, .bool false] 33)).cell? ⟨g8, 1, none⟩ = some (I p.parent) := cell_alloc z1 _
                have y2 : (wz.alloc (.cells #[I p.pid, I p.parent, I 3, I 3, I 0, .bool false] 33)).cell? ⟨g8, 2, none⟩ = some (I p.state) := cell_alloc z2 _
                have y3 : (wz.alloc (.cells #[I p.pid, I p.parent, I 3, I 3, I 0, .bool false] 33)).cell? ⟨g8, 3, none⟩ = some (I p.code) := cell_alloc z3 _
                have y4 : (wz.alloc (.cells #[I p.pid, I p.parent, I 3, I 3, I 0, .bool false] 33)).cell? ⟨g8, 4, none⟩ = some (I p.until_) := cell_alloc z4 _
                have y5 : (wz.alloc (.cells #[I p.pid, I p.parent, I 3, I 3, I 0, .bool false] 33)).cell? ⟨g8, 5, none⟩ = some (.bool p.killed) := cell_alloc z5 _
                have HSZ := Lib.hid hsz
                clear hsz
                go_wp2_with fail
                refine (HCh.out _ (HSZ.out.alloc _)).mono ?_
                rintro e wy ⟨uy, rfl, hoy, hsy⟩
                obtain ⟨Ay, cy, rfl, -⟩ := own_form hoy
                have HSY := Lib.hid (((HS9.out.trans HSQ.out).trans (HSZ.out.alloc _)).trans hsy)
                clear hoy hsy
                go_wp2
                go_ret
                exact ⟨rfl, HSY.out⟩
end Go.Proofs.Ytlojadpbdbhmiaa
