/- Law 22: the walk of ProcTree. -/
import Derived.Test.YtlojadpbdbhmiaaZm
namespace Go.Proofs.Ytlojadpbdbhmiaa
open Go.RowKit
set_option linter.unusedSimpArgs false
set_option linter.unusedVariables false

theorem get_at {ps : List PR} (ha : Asc ps) {k : Nat} {p : PR} (hk : ps[k]? = some p) : getP ps p.pid = (p, 0) := by
  unfold getP
  rw [oneP_at ha hk]
  simp only
  rw [List.getD_eq_getElem?_getD, hk]
  rfl
theorem doM_keep {ps : List PR} {most last now : Int} {a : ActP} (h : a.kind ≠ 0) : (doM ps most last now a).1.2.1 = last := by
  unfold doM
  rw [if_neg h]
  (repeat' split) <;> rfl
/-- What is in memory: both tables. -/
structure TI (w wr : World) (gt gw : Nat) (v vq : Value) (ps : List PR) (M last now : Int) (N : Nat) : Prop where
  tw : TW wr gt w.heap.size v ps M last now
  pt : PT ps last N
  hM : M = N
  hN : N ≤ 16
  gt0 : w.heap.size ≤ gt
  tb : Blk wr gw 91 #[vq, I M, I 1, I 0]
  lp : LP wr w.heap.size vq [initR]
  sf : Safe w wr
  nw : 0 ≤ now ∧ now ≤ 1099511627776
section
variable {w wr w' : World} {gt gw : Nat} {v vq : Value} {ps : List PR} {M last now : Int} {N : Nat}
theorem TI.move (h : TI w wr gt gw v vq ps M last now N) (hs : Safe wr w') : TI w w' gt gw v vq ps M last now N :=
  ⟨h.tw.safe hs, h.pt, h.hM, h.hN, h.gt0, h.tb.but hs id, h.lp.safe hs, h.sf.trans hs, h.nw⟩
theorem TI.turn (h : TI w wr gt gw v vq ps M last now N) {ps' : List PR} {last' now' : Int} (hr : TRet wr w' gt w.heap.size v ps' M last' now') (hp : PT ps' last' N) (hn : 0 ≤ now' ∧ now' ≤ 1099511627776) : ∃ v', TI w w' gt gw v' vq ps' M last' now' N := by
  have hs := TRet.kept h.sf h.tw (Nat.le_refl _) h.gt0 hr
  have hb := hr.blk h.tw h.tb (by decide) (by decide)
  have hl := hr.lp h.tw h.lp
  obtain ⟨v', h1, _⟩ := hr
  exact ⟨v', h1, hp, h.hM, h.hN, h.gt0, hb, hl, hs, hn⟩
end
set_option maxRecDepth 100000 in
set_option maxHeartbeats 4000000 in
theorem procTree_any (m : Int) (A : Option Addr) (n c : Nat) (D : Nat → ActP) (w : World) (hn : n ≤ c) (hc : c ≤ 9223372036854775807) (hD : ActsP w A n D) :
    Calls Try.prog 7 #[.int .i64 m, .slice A n c] w fun e w' => e = .returned (.bool true) ∧ Safe w w' := by
  have HD := Lib.hid hD
  clear hD
  go_enter Try.func7, Try.ntmps7
  go_wp2_with fail
  refine (awake22 _).mono ?_
  rintro _ w1 ⟨rfl, hs1⟩
  have HS1 := Lib.hid hs1
  clear hs1
  go_wp2_with fail
  refine (pnew_any m w1).mono ?_
  rintro _ w2 ⟨v2, rfl, hT2, hs2⟩
  have HS2 := Lib.hid hs2
  have HT2 := Lib.hid hT2
  clear hs2 hT2
  go_wp2_with fail
  refine (rnew_any m w2).mono ?_
  rintro e w3 ⟨vq, rfl, hl3, hs3⟩
  have hM1 : 1 ≤ mostP m ∧ mostP m ≤ 16 := by unfold mostP; omega
  obtain ⟨N, hN⟩ : ∃ N : Nat, mostP m = N := ⟨(mostP m).toNat, by omega⟩
  have hsz1 := HS1.out.size
  have hsz2 := HS2.out.size
  have hmc : (¬ m ≤ 16 ∧ mostP m = 16) ∨ (m ≤ 16 ∧ ¬ 1 < m ∧ m ≤ 1 ∧ mostP m = 1) ∨ (m ≤ 16 ∧ ¬ m ≤ 1 ∧ 1 < m ∧ m = mostP m) := by unfold mostP; omega
  have HMC := Lib.hid hmc
  obtain ⟨gw, hgw⟩ : ∃ gw, gw = w3.heap.size := ⟨_, rfl⟩
  obtain ⟨gt, hgt⟩ : ∃ gt, gt = w1.heap.size + 1 := ⟨_, rfl⟩
  obtain ⟨W3, hW3⟩ : ∃ W3, W3 = w3.alloc (.cells #[vq, I (mostP m), I 1, I 0] 91) := ⟨_, rfl⟩
  have h0 : TI w W3 gt gw v2 vq [initR] (mostP m) 1 0 N := by
    have hsa : Safe w3 W3 := by rw [hW3]; exact (But.refl _ _).alloc _
    have ht := (HT2.out.safe hs3).safe hsa
    rw [← hgt] at ht
    refine ⟨⟨ht.hp, own_low ht.ho hsz1, ht.len⟩, PT.start N (by omega), hN, by omega, by omega, by rw [hW3, hgw]; exact Blk.new _ _ _, (hl3.lower (by omega)).safe hsa, ((HS1.out.trans HS2.out).trans hs3).trans hsa, by omega⟩
  obtain ⟨Aq, cq, hvq, -⟩ := hl3
  have hvq : vq = .slice Aq 1 cq := hvq
  subst hvq
  have H0 := Lib.hid h0
  have HNN := Lib.hid hN
  clear hN
  have HGW := Lib.hid hgw
  have HGT := Lib.hid hgt
  have HW3 := Lib.hid hW3
  clear h0 hgw hgt hW3 hs3 hmc
  rw [← HGT.out]
  generalize mostP m = M at *
  go_wp2_with fail
  rw [← HW3.out, ← HGW.out]
  go_loopw [7, 8] (fun u x wr => ∃ (i : Nat) (last now : Int) (v : Value) (ps : List PR), i ≤ n ∧ i ≤ 80 ∧ x = .int .i64 i ∧ u = .int .i64 last ∧ 1 ≤ last ∧ last ≤ (i : Int) + 1 ∧ TI w wr gt gw v (.slice Aq 1 cq) ps M last now N) (fun _ x _ => 80 - (intOf x).toNat)
  case atStart => exact ⟨0, 1, 0, _, _, by omega, by omega, rfl, rfl, by omega, by omega, H0.out⟩
  case round =>
    obtain ⟨i, last, now, v, ps, hin, hi80, rfl, rfl, hl1, hl2, hI⟩ := hrel
    obtain ⟨wo, rfl⟩ : ∃ wo : World, wo = wr := ⟨_, rfl⟩
    have HI := Lib.hid hI
    clear hI
    by_cases hlt : i < n ∧ i < 80
    · obtain ⟨hlt, h80⟩ := hlt
      have hii : (i : Int) < n := by omega
      have hi80i : (i : Int) < 80 := by omega
      obtain ⟨ad, hA, c0, c1, c2, rk, rp, rn⟩ := HD.out i hlt
      subst hA
      rw [add_split3] at c1 c2
      rw [Nat.add_zero] at c0
      have c0' := c0
      have c1' := c1
      have c2' := c2
      have c0 := HI.out.sf.cell c0 id
      have c1 := HI.out.sf.cell c1 id
      have c2 := HI.out.sf.cell c2 id
      generalize D i = a at *
      go_upto_if 38 with fail
      go_cut [7, 9, 10] from 23 to 142 (fun u _ _ wx => ∃ (last' now' : Int) (v' : Value) (ps' : List PR), u = .int .i64 last' ∧ 1 ≤ last' ∧ last' ≤ last + 1 ∧ TI w wx gt gw v' (.slice Aq 1 cq) ps' M last' now' N)
      case first =>
        cases hk0 : (a.kind == 0)
        · have hK : Hid (a.kind ≠ 0) := Lib.hid (by simpa using hk0)
          have hdo := fun W' (hs : Safe wo W') => do_any gt w.heap.size w.heap.size N N v (.slice Aq 1 cq) ps [initR] M last now M 1 0 a W' (HI.out.tw.safe hs) HI.out.pt HI.out.hM HI.out.hN (by omega) (by omega) HI.out.nw.1 HI.out.nw.2 (HI.out.lp.safe hs) (PT.start N (by have := HI.out.hM; omega)) HI.out.hM HI.out.hN (by omega) (by omega) (by omega) (by omega) (Nat.le_trans HI.out.sf.size hs.size) rp rn
          have HDO := Lib.hid hdo
          obtain ⟨d0, d1, d2, d3⟩ := cells4 HI.out.tb
          have hact := HI.out.pt.act HI.out.hM a (most := M) (now := now)
          have hlb := doM_last (ps := ps) (most := M) (last := last) (now := now) (a := a)
          have hnb := doM_now (ps := ps) (most := M) (last := last) (a := a) HI.out.nw.1 (by unfold longest; exact HI.out.nw.2)
          have hkp := doM_keep (ps := ps) (most := M) (last := last) (now := now) hK.out
          generalize hdm : doM ps M last now a = dm at *
          obtain ⟨⟨ps2, last2, now2⟩, res2⟩ := dm
          have HAC := Lib.hid hact
          have HNB := Lib.hid hnb
          generalize hdq : doM [initR] M 1 0 a = dq at *
          obtain ⟨⟨qs2, lastq2, nowq2⟩, resq2⟩ := dq
          simp only at hlb hkp
          subst hkp
          clear hdo hact hnb hdm hdq
          have HC0 := Lib.hid c0'
          have HC1 := Lib.hid c1'
          have HC2 := Lib.hid c2'
          clear c0' c1' c2'
          go_wp2_with fail
          go_region_held3 (fun w' => w'.cell? ⟨gw, 0, none⟩ = some (.slice Aq 1 cq) ∧ w'.cell? ⟨gw, 1, none⟩ = some (I M) ∧ w'.cell? ⟨gw, 2, none⟩ = some (I 1) ∧ w'.cell? ⟨gw, 3, none⟩ = some (I 0) ∧ w'.cell? (ad.add (i * 3)) = some (I a.kind) ∧ w'.cell? ⟨(ad.add (i * 3)).block, (ad.add (i * 3)).off + 1, none⟩ = some (I a.pid) ∧ w'.cell? ⟨(ad.add (i * 3)).block, (ad.add (i * 3)).off + 2, none⟩ = some (I a.n))
            (first | (with_reducible exact HKP.out) | go_keep)
            ((go_at_call 53; refine (HDO.out _ (But.refl _ _).drew).mono ?_; rintro e w7 ⟨vq7, rfl, hlp7, hr7⟩; obtain ⟨v8, hI8⟩ := (HI.out.move (But.refl _ _).drew).turn hr7 HAC.out HNB.out; have HKP : Hid (_ ∧ _ ∧ _ ∧ _ ∧ _ ∧ _ ∧ _) := Lib.hid ⟨(cells4 hI8.tb).1, (cells4 hI8.tb).2.1, (cells4 hI8.tb).2.2.1, (cells4 hI8.tb).2.2.2, hI8.sf.cell HC0.out id, hI8.sf.cell HC1.out id, hI8.sf.cell HC2.out id⟩; have HI8 := Lib.hid hI8))
          go_wp2_with fail
          go_meet
          exact ⟨_, now2, v8, ps2, rfl, by omega, by omega, HI8.out⟩
        · have hlen := HI.out.pt.len
          have hF := pfork_any gt w.heap.size v ps M last now a.pid wo HI.out.tw HI.out.pt.pos (by have := HI.out.hM; omega) (by omega) (by omega) (by omega)
          have hPF := HI.out.pt.fork (pid := a.pid) HI.out.hM
          by_cases hl : liveP ps a.pid ≠ 0
          · have e : forkM ps M last a.pid = (ps, last, 0, liveP ps a.pid) := by unfold forkM; rw [if_pos hl]
            rw [e] at hF hPF
            have hb : (liveP ps a.pid == 0) = false := by simpa using hl
            generalize liveP ps a.pid = L at *
            have HF := Lib.hid hF
            clear hF e hl hPF
            go_wp2_with fail
            refine (HF.out).mono ?_
            rintro _ w7 ⟨rfl, hr7⟩
            obtain ⟨v8, hI8⟩ := HI.out.turn hr7 HI.out.pt HI.out.nw
            have HI8 := Lib.hid hI8
            clear hr7 hI8
            go_wp2_with fail
            go_meet
            exact ⟨last, now, v8, ps, rfl, by omega, by omega, HI8.out⟩
          · by_cases hf : (ps.length : Int) = M
            · have e : forkM ps M last a.pid = (ps, last, 0, 15) := by unfold forkM; rw [if_neg hl, if_pos hf]
              rw [e] at hF hPF
              have HF := Lib.hid hF
              clear hF e hl hf hPF
              go_wp2_with fail
              refine (HF.out).mono ?_
              rintro _ w7 ⟨rfl, hr7⟩
              obtain ⟨v8, hI8⟩ := HI.out.turn hr7 HI.out.pt HI.out.nw
              have HI8 := Lib.hid hI8
              clear hr7 hI8
              go_wp2_with fail
              go_meet
              exact ⟨last, now, v8, ps, rfl, by omega, by omega, HI8.out⟩
            · have e : forkM ps M last a.pid = (ps ++ [⟨last + 1, a.pid, 1, 0, 0, false⟩], last + 1, last + 1, 0) := by unfold forkM; rw [if_neg hl, if_neg hf]
              rw [e] at hF hPF
              have HF := Lib.hid hF
              have HPF := Lib.hid hPF
              clear hF e hl hf hPF
              go_wp2_with fail
              refine (HF.out).mono ?_
              rintro _ w7 ⟨rfl, hr7⟩
              obtain ⟨v8, hI8⟩ := HI.out.turn hr7 HPF.out HI.out.nw
              have HI8 := Lib.hid hI8
              clear hr7 hI8
              go_wp2_with fail
              go_meet
              exact ⟨last + 1, now, v8, _, rfl, by omega, by omega, HI8.out⟩
      case rest =>
        obtain ⟨last2, now2, v2', ps2, rfl, hl3, hl4, hI2⟩ := hcut
        obtain ⟨g, cg, rfl, _, _⟩ := hI2.tw.form hI2.pt.pos
        have hpi := ppids_any gt w.heap.size g cg ps2 M last2 now2 wc hI2.tw
        obtain ⟨L, hL⟩ : ∃ L, L = ps2.map (·.pid) := ⟨_, rfl⟩
        rw [← hL] at hpi
        have hLl : L.length = ps2.length := by rw [hL, List.length_map]
        have hlp2 := hI2.pt.len
        have hpos2 := hI2.pt.pos
        have hL0 : L[0]? = some 1 := by
          obtain ⟨p, h0, h1⟩ := hI2.pt.first
          rw [hL, List.getElem?_map, h0, ← h1]; rfl
        have hLN : (L.length : Int) ≤ M := by have := hI2.hM; omega
        have hL1 : 0 < L.length := by omega
        have hLb : ((L.length : Int) == 0) = false := beq_eq_false_iff_ne.2 (by omega)
        have hL17 : L.length ≤ 16 := by have := hI2.hN; omega
        have HPI := Lib.hid hpi
        have HI2 := Lib.hid hI2
        have HLL := Lib.hid hL
        have HL0 := Lib.hid hL0
        clear hpi hI2 hL hL0 hLl hlp2 hpos2
        go_wp2_with fail
        refine (HPI.out).mono ?_
        rintro e w5 ⟨u5, rfl, ho5, hs5⟩
        obtain ⟨A5, c5, rfl, -⟩ := own_form ho5
        obtain ⟨g5, rfl⟩ := own_hd ho5 hL1
        have hcl : ∀ (i : Nat) (z : Int), L[i]? = some z → w5.cell? ⟨g5, i, none⟩ = some (I z) := fun i z hz => by
          obtain ⟨ad', e, hcc⟩ := (Rd.of_own ho5) (by omega)
          injection e with e
          have := hcc i z hz
          rwa [← e, add_plain, Nat.zero_add] at this
        have hc5 := hcl 0 1 HL0.out
        have HCL := Lib.hid hcl
        have HI5 := Lib.hid (HI2.out.move hs5)
        clear ho5 hs5 hcl
        rcases HMC.out with ⟨n1, n2⟩ | ⟨n1, n2, n3, n4⟩ | ⟨n1, n2, n3, n4⟩
        · have hLM : (L.length : Int) ≤ 16 := by omega
          have HN2 := Lib.hid n2
          clear n2
          go_wp2_with fail
          go_loopw [84] (fun x wr => ∃ q : Nat, q ≤ L.length ∧ x = .int .i64 q ∧ Safe w5 wr) (fun x _ => L.length - (intOf x).toNat)
          case atStart => exact ⟨0, by omega, rfl, But.refl _ _⟩
          case round =>
            obtain ⟨q, hq, rfl, hSq⟩ := hrel
            obtain ⟨wq, rfl⟩ : ∃ wq : World, wq = wr := ⟨_, rfl⟩
            have HSQ := Lib.hid hSq
            clear hSq
            by_cases hqlt : q < L.length
            · have hqi : (q : Int) < L.length := by omega
              obtain ⟨p, hp⟩ : ∃ p, ps2[q]? = some p := ⟨_, List.getElem?_eq_getElem (by have := HLL.out; rw [this, List.length_map] at hqlt; exact hqlt)⟩
              have hLq : L[q]? = some p.pid := by rw [HLL.out, List.getElem?_map, hp]; rfl
              have hIq := HI5.out.move HSQ.out
              have hG := pget_any gt w.heap.size g cg ps2 M last2 now2 p.pid wq hIq.tw
              rw [get_at hIq.pt.asc hp] at hG
              have hpm := List.mem_of_getElem? hp
              have hlo := hIq.pt.lo p hpm
              have hup := hIq.pt.up p hpm
              have hcq := HSQ.out.cell (HCL.out q p.pid hLq) id
              have HG := Lib.hid hG
              have HIQ := Lib.hid hIq
              have HUP := Lib.hid hup
              have HLQ := Lib.hid hLq
              clear hG hIq hp hpm hup hLq
              have hend : ∀ (cond : Prop), cond → cond := fun _ h => h
              by_cases hq0 : q = 0
              · subst hq0
                go_wp2_with fail
                refine (HG.out).mono ?_
                rintro _ w6 ⟨rfl, hs6⟩
                have HS6 := Lib.hid hs6
                clear hs6
                by_cases hp1 : p.pid = 1
                · have hpb : (p.pid == 1) = true := by simpa using hp1
                  clear hp1
                  go_wp2_with fail
                  go_roundw
                  case rel => exact ⟨0 + 1, by omega, by go_num, (HSQ.out.trans HS6.out).alloc _⟩
                  case measure => simp [intOf]; omega
                · have hpb : (p.pid == 1) = false := by simpa using hp1
                  obtain ⟨⟨uu, hu, hu1, hu2⟩, hlt2, hnz⟩ := HUP.out hp1
                  obtain ⟨ju, hju⟩ := List.getElem?_of_mem hu
                  have hw6 : Safe w6 (w6.alloc (.cells #[I p.pid, I p.parent, I p.state, I p.code, I p.until_, .bool p.killed] 33)) := (But.refl _ w6).alloc _
                  have hI6 := (HIQ.out.move HS6.out).move hw6
                  have hG2 := pget_any gt w.heap.size g cg ps2 M last2 now2 p.parent _ hI6.tw
                  rw [← hu1, get_at hI6.pt.asc hju, hu1] at hG2
                  have hub : (uu.state == 3) = false := by simpa using hu2
                  have hle : ¬ p.pid ≤ p.parent := by omega
                  have hsc : ((p.state == 3) = false) ∨ ((p.state == 3) = true ∧ (p.parent == 1) = false) := by
                    by_cases h3 : p.state = 3
                    · right; exact ⟨by simpa using h3, by simpa using fun e => hnz ⟨h3, e⟩⟩
                    · left; simpa using h3
                  have hbp : Blk (w6.alloc (.cells #[I p.pid, I p.parent, I p.state, I p.code, I p.until_, .bool p.killed] 33)) w6.heap.size 33 (encR p).toArray := Blk.new _ _ _
                  have HBP := Lib.hid hbp
                  have HG2 := Lib.hid hG2
                  have HW6 := Lib.hid hw6
                  clear hp1 hu hu1 hu2 hju hnz hG2 hI6 hbp hw6
                  go_wp2_with fail
                  refine (HG2.out).mono ?_
                  rintro _ w7 ⟨rfl, hs7⟩
                  obtain ⟨y0, y1, y2, y3, y4, y5⟩ := cells6 (p := p) (HBP.out.but hs7 id)
                  have y1' : (w7.alloc (.cells #[I uu.pid, I uu.parent, I uu.state, I uu.code, I uu.until_, .bool uu.killed] 33)).cell? ⟨w6.heap.size, 1, none⟩ = some (I p.parent) := cell_alloc y1 _
                  have y2' : (w7.alloc (.cells #[I uu.pid, I uu.parent, I uu.state, I uu.code, I uu.until_, .bool uu.killed] 33)).cell? ⟨w6.heap.size, 2, none⟩ = some (I p.state) := cell_alloc y2 _
                  have HS7 := Lib.hid hs7
                  clear hs7
                  rcases hsc with s1 | ⟨s1, s2⟩
                  all_goals
                    go_wp2_with fail
                    go_roundw
                    case rel => exact ⟨0 + 1, by omega, by go_num, (((HSQ.out.trans HS6.out).trans HW6.out).trans HS7.out).alloc _⟩
                    case measure => simp [intOf]; omega
              · obtain ⟨q', rfl⟩ : ∃ q', q = q' + 1 := ⟨q - 1, by omega⟩
                obtain ⟨z, hz⟩ : ∃ z, L[q']? = some z := ⟨_, List.getElem?_eq_getElem (by omega)⟩
                have hzy : z < p.pid := by
                  have ha := HI5.out.pt.asc
                  unfold Asc at ha
                  rw [← HLL.out] at ha
                  obtain ⟨a1, b1⟩ := List.getElem?_eq_some_iff.1 hz
                  obtain ⟨a2, b2⟩ := List.getElem?_eq_some_iff.1 HLQ.out
                  have := List.pairwise_iff_getElem.1 ha q' (q' + 1) a1 a2 (by omega)
                  rw [b1, b2] at this
                  exact this
                have hcz := HSQ.out.cell (HCL.out q' z hz) id
                have hq1 : (0 : Int) < (q' : Int) + 1 := by omega
                have hq2 : (q' : Int) < L.length := by omega
                have hzb : ¬ p.pid ≤ z := by omega
                have HCZ := Lib.hid hcz
                clear hz hq0
                go_wp2_with fail
                refine (HG.out).mono ?_
                rintro _ w6 ⟨rfl, hs6⟩
                have HS6 := Lib.hid hs6
                have hcz6 := hs6.cell HCZ.out id
                have hcz7 : (w6.alloc (.cells #[I p.pid, I p.parent, I p.state, I p.code, I p.until_, .bool p.killed] 33)).cell? ⟨g5, q', none⟩ = some (I z) := cell_alloc hcz6 _
                clear hs6
                by_cases hp1 : p.pid = 1
                · have hpb : (p.pid == 1) = true := by simpa using hp1
                  clear hp1
                  go_wp2_with fail
                  go_roundw
                  case rel => exact ⟨q' + 1 + 1, by omega, by go_num, (HSQ.out.trans HS6.out).alloc _⟩
                  case measure => simp [intOf]; omega
                · have hpb : (p.pid == 1) = false := by simpa using hp1
                  obtain ⟨⟨uu, hu, hu1, hu2⟩, hlt2, hnz⟩ := HUP.out hp1
                  obtain ⟨ju, hju⟩ := List.getElem?_of_mem hu
                  have hw6 : Safe w6 (w6.alloc (.cells #[I p.pid, I p.parent, I p.state, I p.code, I p.until_, .bool p.killed] 33)) := (But.refl _ w6).alloc _
                  have hI6 := (HIQ.out.move HS6.out).move hw6
                  have hG2 := pget_any gt w.heap.size g cg ps2 M last2 now2 p.parent _ hI6.tw
                  rw [← hu1, get_at hI6.pt.asc hju, hu1] at hG2
                  have hub : (uu.state == 3) = false := by simpa using hu2
                  have hle : ¬ p.pid ≤ p.parent := by omega
                  have hsc : ((p.state == 3) = false) ∨ ((p.state == 3) = true ∧ (p.parent == 1) = false) := by
                    by_cases h3 : p.state = 3
                    · right; exact ⟨by simpa using h3, by simpa using fun e => hnz ⟨h3, e⟩⟩
                    · left; simpa using h3
                  have hbp : Blk (w6.alloc (.cells #[I p.pid, I p.parent, I p.state, I p.code, I p.until_, .bool p.killed] 33)) w6.heap.size 33 (encR p).toArray := Blk.new _ _ _
                  have HBP := Lib.hid hbp
                  have HG2 := Lib.hid hG2
                  have HW6 := Lib.hid hw6
                  clear hp1 hu hu1 hu2 hju hnz hG2 hI6 hbp hw6
                  go_wp2_with fail
                  refine (HG2.out).mono ?_
                  rintro _ w7 ⟨rfl, hs7⟩
                  obtain ⟨y0, y1, y2, y3, y4, y5⟩ := cells6 (p := p) (HBP.out.but hs7 id)
                  have y1' : (w7.alloc (.cells #[I uu.pid, I uu.parent, I uu.state, I uu.code, I uu.until_, .bool uu.killed] 33)).cell? ⟨w6.heap.size, 1, none⟩ = some (I p.parent) := cell_alloc y1 _
                  have y2' : (w7.alloc (.cells #[I uu.pid, I uu.parent, I uu.state, I uu.code, I uu.until_, .bool uu.killed] 33)).cell? ⟨w6.heap.size, 2, none⟩ = some (I p.state) := cell_alloc y2 _
                  have HS7 := Lib.hid hs7
                  clear hs7
                  rcases hsc with s1 | ⟨s1, s2⟩
                  all_goals
                    go_wp2_with fail
                    go_roundw
                    case rel => exact ⟨q' + 1 + 1, by omega, by go_num, (((HSQ.out.trans HS6.out).trans HW6.out).trans HS7.out).alloc _⟩
                    case measure => simp [intOf]; omega
            · obtain rfl : q = L.length := by omega
              go_wp2_with fail
              go_roundw
              case rel => exact ⟨i + 1, _, _, _, _, by omega, by omega, by go_num, rfl, by omega, by omega, HI5.out.move HSQ.out⟩
              case measure => simp [intOf]; omega
        · have hLM : (L.length : Int) ≤ 1 := by omega
          have HN4 := Lib.hid n4
          clear n4
          go_wp2_with fail
          go_loopw [84] (fun x wr => ∃ q : Nat, q ≤ L.length ∧ x = .int .i64 q ∧ Safe w5 wr) (fun x _ => L.length - (intOf x).toNat)
          case atStart => exact ⟨0, by omega, rfl, But.refl _ _⟩
          case round =>
            obtain ⟨q, hq, rfl, hSq⟩ := hrel
            obtain ⟨wq, rfl⟩ : ∃ wq : World, wq = wr := ⟨_, rfl⟩
            have HSQ := Lib.hid hSq
            clear hSq
            by_cases hqlt : q < L.length
            · have hqi : (q : Int) < L.length := by omega
              obtain ⟨p, hp⟩ : ∃ p, ps2[q]? = some p := ⟨_, List.getElem?_eq_getElem (by have := HLL.out; rw [this, List.length_map] at hqlt; exact hqlt)⟩
              have hLq : L[q]? = some p.pid := by rw [HLL.out, List.getElem?_map, hp]; rfl
              have hIq := HI5.out.move HSQ.out
              have hG := pget_any gt w.heap.size g cg ps2 M last2 now2 p.pid wq hIq.tw
              rw [get_at hIq.pt.asc hp] at hG
              have hpm := List.mem_of_getElem? hp
              have hlo := hIq.pt.lo p hpm
              have hup := hIq.pt.up p hpm
              have hcq := HSQ.out.cell (HCL.out q p.pid hLq) id
              have HG := Lib.hid hG
              have HIQ := Lib.hid hIq
              have HUP := Lib.hid hup
              have HLQ := Lib.hid hLq
              clear hG hIq hp hpm hup hLq
              have hend : ∀ (cond : Prop), cond → cond := fun _ h => h
              by_cases hq0 : q = 0
              · subst hq0
                go_wp2_with fail
                refine (HG.out).mono ?_
                rintro _ w6 ⟨rfl, hs6⟩
                have HS6 := Lib.hid hs6
                clear hs6
                by_cases hp1 : p.pid = 1
                · have hpb : (p.pid == 1) = true := by simpa using hp1
                  clear hp1
                  go_wp2_with fail
                  go_roundw
                  case rel => exact ⟨0 + 1, by omega, by go_num, (HSQ.out.trans HS6.out).alloc _⟩
                  case measure => simp [intOf]; omega
                · have hpb : (p.pid == 1) = false := by simpa using hp1
                  obtain ⟨⟨uu, hu, hu1, hu2⟩, hlt2, hnz⟩ := HUP.out hp1
                  obtain ⟨ju, hju⟩ := List.getElem?_of_mem hu
                  have hw6 : Safe w6 (w6.alloc (.cells #[I p.pid, I p.parent, I p.state, I p.code, I p.until_, .bool p.killed] 33)) := (But.refl _ w6).alloc _
                  have hI6 := (HIQ.out.move HS6.out).move hw6
                  have hG2 := pget_any gt w.heap.size g cg ps2 M last2 now2 p.parent _ hI6.tw
                  rw [← hu1, get_at hI6.pt.asc hju, hu1] at hG2
                  have hub : (uu.state == 3) = false := by simpa using hu2
                  have hle : ¬ p.pid ≤ p.parent := by omega
                  have hsc : ((p.state == 3) = false) ∨ ((p.state == 3) = true ∧ (p.parent == 1) = false) := by
                    by_cases h3 : p.state = 3
                    · right; exact ⟨by simpa using h3, by simpa using fun e => hnz ⟨h3, e⟩⟩
                    · left; simpa using h3
                  have hbp : Blk (w6.alloc (.cells #[I p.pid, I p.parent, I p.state, I p.code, I p.until_, .bool p.killed] 33)) w6.heap.size 33 (encR p).toArray := Blk.new _ _ _
                  have HBP := Lib.hid hbp
                  have HG2 := Lib.hid hG2
                  have HW6 := Lib.hid hw6
                  clear hp1 hu hu1 hu2 hju hnz hG2 hI6 hbp hw6
                  go_wp2_with fail
                  refine (HG2.out).mono ?_
                  rintro _ w7 ⟨rfl, hs7⟩
                  obtain ⟨y0, y1, y2, y3, y4, y5⟩ := cells6 (p := p) (HBP.out.but hs7 id)
                  have y1' : (w7.alloc (.cells #[I uu.pid, I uu.parent, I uu.state, I uu.code, I uu.until_, .bool uu.killed] 33)).cell? ⟨w6.heap.size, 1, none⟩ = some (I p.parent) := cell_alloc y1 _
                  have y2' : (w7.alloc (.cells #[I uu.pid, I uu.parent, I uu.state, I uu.code, I uu.until_, .bool uu.killed] 33)).cell? ⟨w6.heap.size, 2, none⟩ = some (I p.state) := cell_alloc y2 _
                  have HS7 := Lib.hid hs7
                  clear hs7
                  rcases hsc with s1 | ⟨s1, s2⟩
                  all_goals
                    go_wp2_with fail
                    go_roundw
                    case rel => exact ⟨0 + 1, by omega, by go_num, (((HSQ.out.trans HS6.out).trans HW6.out).trans HS7.out).alloc _⟩
                    case measure => simp [intOf]; omega
              · obtain ⟨q', rfl⟩ : ∃ q', q = q' + 1 := ⟨q - 1, by omega⟩
                exact absurd hqlt (by omega)
            · obtain rfl : q = L.length := by omega
              go_wp2_with fail
              go_roundw
              case rel => exact ⟨i + 1, _, _, _, _, by omega, by omega, by go_num, rfl, by omega, by omega, HI5.out.move HSQ.out⟩
              case measure => simp [intOf]; omega
        · have hLM : (L.length : Int) ≤ m := by omega
          have HN4 := Lib.hid n4
          clear n4
          go_wp2_with fail
          go_loopw [84] (fun x wr => ∃ q : Nat, q ≤ L.length ∧ x = .int .i64 q ∧ Safe w5 wr) (fun x _ => L.length - (intOf x).toNat)
          case atStart => exact ⟨0, by omega, rfl, But.refl _ _⟩
          case round =>
            obtain ⟨q, hq, rfl, hSq⟩ := hrel
            obtain ⟨wq, rfl⟩ : ∃ wq : World, wq = wr := ⟨_, rfl⟩
            have HSQ := Lib.hid hSq
            clear hSq
            by_cases hqlt : q < L.length
            · have hqi : (q : Int) < L.length := by omega
              obtain ⟨p, hp⟩ : ∃ p, ps2[q]? = some p := ⟨_, List.getElem?_eq_getElem (by have := HLL.out; rw [this, List.length_map] at hqlt; exact hqlt)⟩
              have hLq : L[q]? = some p.pid := by rw [HLL.out, List.getElem?_map, hp]; rfl
              have hIq := HI5.out.move HSQ.out
              have hG := pget_any gt w.heap.size g cg ps2 M last2 now2 p.pid wq hIq.tw
              rw [get_at hIq.pt.asc hp] at hG
              have hpm := List.mem_of_getElem? hp
              have hlo := hIq.pt.lo p hpm
              have hup := hIq.pt.up p hpm
              have hcq := HSQ.out.cell (HCL.out q p.pid hLq) id
              have HG := Lib.hid hG
              have HIQ := Lib.hid hIq
              have HUP := Lib.hid hup
              have HLQ := Lib.hid hLq
              clear hG hIq hp hpm hup hLq
              have hend : ∀ (cond : Prop), cond → cond := fun _ h => h
              by_cases hq0 : q = 0
              · subst hq0
                go_wp2_with fail
                refine (HG.out).mono ?_
                rintro _ w6 ⟨rfl, hs6⟩
                have HS6 := Lib.hid hs6
                clear hs6
                by_cases hp1 : p.pid = 1
                · have hpb : (p.pid == 1) = true := by simpa using hp1
                  clear hp1
                  go_wp2_with fail
                  go_roundw
                  case rel => exact ⟨0 + 1, by omega, by go_num, (HSQ.out.trans HS6.out).alloc _⟩
                  case measure => simp [intOf]; omega
                · have hpb : (p.pid == 1) = false := by simpa using hp1
                  obtain ⟨⟨uu, hu, hu1, hu2⟩, hlt2, hnz⟩ := HUP.out hp1
                  obtain ⟨ju, hju⟩ := List.getElem?_of_mem hu
                  have hw6 : Safe w6 (w6.alloc (.cells #[I p.pid, I p.parent, I p.state, I p.code, I p.until_, .bool p.killed] 33)) := (But.refl _ w6).alloc _
                  have hI6 := (HIQ.out.move HS6.out).move hw6
                  have hG2 := pget_any gt w.heap.size g cg ps2 M last2 now2 p.parent _ hI6.tw
                  rw [← hu1, get_at hI6.pt.asc hju, hu1] at hG2
                  have hub : (uu.state == 3) = false := by simpa using hu2
                  have hle : ¬ p.pid ≤ p.parent := by omega
                  have hsc : ((p.state == 3) = false) ∨ ((p.state == 3) = true ∧ (p.parent == 1) = false) := by
                    by_cases h3 : p.state = 3
                    · right; exact ⟨by simpa using h3, by simpa using fun e => hnz ⟨h3, e⟩⟩
                    · left; simpa using h3
                  have hbp : Blk (w6.alloc (.cells #[I p.pid, I p.parent, I p.state, I p.code, I p.until_, .bool p.killed] 33)) w6.heap.size 33 (encR p).toArray := Blk.new _ _ _
                  have HBP := Lib.hid hbp
                  have HG2 := Lib.hid hG2
                  have HW6 := Lib.hid hw6
                  clear hp1 hu hu1 hu2 hju hnz hG2 hI6 hbp hw6
                  go_wp2_with fail
                  refine (HG2.out).mono ?_
                  rintro _ w7 ⟨rfl, hs7⟩
                  obtain ⟨y0, y1, y2, y3, y4, y5⟩ := cells6 (p := p) (HBP.out.but hs7 id)
                  have y1' : (w7.alloc (.cells #[I uu.pid, I uu.parent, I uu.state, I uu.code, I uu.until_, .bool uu.killed] 33)).cell? ⟨w6.heap.size, 1, none⟩ = some (I p.parent) := cell_alloc y1 _
                  have y2' : (w7.alloc (.cells #[I uu.pid, I uu.parent, I uu.state, I uu.code, I uu.until_, .bool uu.killed] 33)).cell? ⟨w6.heap.size, 2, none⟩ = some (I p.state) := cell_alloc y2 _
                  have HS7 := Lib.hid hs7
                  clear hs7
                  rcases hsc with s1 | ⟨s1, s2⟩
                  all_goals
                    go_wp2_with fail
                    go_roundw
                    case rel => exact ⟨0 + 1, by omega, by go_num, (((HSQ.out.trans HS6.out).trans HW6.out).trans HS7.out).alloc _⟩
                    case measure => simp [intOf]; omega
              · obtain ⟨q', rfl⟩ : ∃ q', q = q' + 1 := ⟨q - 1, by omega⟩
                obtain ⟨z, hz⟩ : ∃ z, L[q']? = some z := ⟨_, List.getElem?_eq_getElem (by omega)⟩
                have hzy : z < p.pid := by
                  have ha := HI5.out.pt.asc
                  unfold Asc at ha
                  rw [← HLL.out] at ha
                  obtain ⟨a1, b1⟩ := List.getElem?_eq_some_iff.1 hz
                  obtain ⟨a2, b2⟩ := List.getElem?_eq_some_iff.1 HLQ.out
                  have := List.pairwise_iff_getElem.1 ha q' (q' + 1) a1 a2 (by omega)
                  rw [b1, b2] at this
                  exact this
                have hcz := HSQ.out.cell (HCL.out q' z hz) id
                have hq1 : (0 : Int) < (q' : Int) + 1 := by omega
                have hq2 : (q' : Int) < L.length := by omega
                have hzb : ¬ p.pid ≤ z := by omega
                have HCZ := Lib.hid hcz
                clear hz hq0
                go_wp2_with fail
                refine (HG.out).mono ?_
                rintro _ w6 ⟨rfl, hs6⟩
                have HS6 := Lib.hid hs6
                have hcz6 := hs6.cell HCZ.out id
                have hcz7 : (w6.alloc (.cells #[I p.pid, I p.parent, I p.state, I p.code, I p.until_, .bool p.killed] 33)).cell? ⟨g5, q', none⟩ = some (I z) := cell_alloc hcz6 _
                clear hs6
                by_cases hp1 : p.pid = 1
                · have hpb : (p.pid == 1) = true := by simpa using hp1
                  clear hp1
                  go_wp2_with fail
                  go_roundw
                  case rel => exact ⟨q' + 1 + 1, by omega, by go_num, (HSQ.out.trans HS6.out).alloc _⟩
                  case measure => simp [intOf]; omega
                · have hpb : (p.pid == 1) = false := by simpa using hp1
                  obtain ⟨⟨uu, hu, hu1, hu2⟩, hlt2, hnz⟩ := HUP.out hp1
                  obtain ⟨ju, hju⟩ := List.getElem?_of_mem hu
                  have hw6 : Safe w6 (w6.alloc (.cells #[I p.pid, I p.parent, I p.state, I p.code, I p.until_, .bool p.killed] 33)) := (But.refl _ w6).alloc _
                  have hI6 := (HIQ.out.move HS6.out).move hw6
                  have hG2 := pget_any gt w.heap.size g cg ps2 M last2 now2 p.parent _ hI6.tw
                  rw [← hu1, get_at hI6.pt.asc hju, hu1] at hG2
                  have hub : (uu.state == 3) = false := by simpa using hu2
                  have hle : ¬ p.pid ≤ p.parent := by omega
                  have hsc : ((p.state == 3) = false) ∨ ((p.state == 3) = true ∧ (p.parent == 1) = false) := by
                    by_cases h3 : p.state = 3
                    · right; exact ⟨by simpa using h3, by simpa using fun e => hnz ⟨h3, e⟩⟩
                    · left; simpa using h3
                  have hbp : Blk (w6.alloc (.cells #[I p.pid, I p.parent, I p.state, I p.code, I p.until_, .bool p.killed] 33)) w6.heap.size 33 (encR p).toArray := Blk.new _ _ _
                  have HBP := Lib.hid hbp
                  have HG2 := Lib.hid hG2
                  have HW6 := Lib.hid hw6
                  clear hp1 hu hu1 hu2 hju hnz hG2 hI6 hbp hw6
                  go_wp2_with fail
                  refine (HG2.out).mono ?_
                  rintro _ w7 ⟨rfl, hs7⟩
                  obtain ⟨y0, y1, y2, y3, y4, y5⟩ := cells6 (p := p) (HBP.out.but hs7 id)
                  have y1' : (w7.alloc (.cells #[I uu.pid, I uu.parent, I uu.state, I uu.code, I uu.until_, .bool uu.killed] 33)).cell? ⟨w6.heap.size, 1, none⟩ = some (I p.parent) := cell_alloc y1 _
                  have y2' : (w7.alloc (.cells #[I uu.pid, I uu.parent, I uu.state, I uu.code, I uu.until_, .bool uu.killed] 33)).cell? ⟨w6.heap.size, 2, none⟩ = some (I p.state) := cell_alloc y2 _
                  have HS7 := Lib.hid hs7
                  clear hs7
                  rcases hsc with s1 | ⟨s1, s2⟩
                  all_goals
                    go_wp2_with fail
                    go_roundw
                    case rel => exact ⟨q' + 1 + 1, by omega, by go_num, (((HSQ.out.trans HS6.out).trans HW6.out).trans HS7.out).alloc _⟩
                    case measure => simp [intOf]; omega
            · obtain rfl : q = L.length := by omega
              go_wp2_with fail
              go_roundw
              case rel => exact ⟨i + 1, _, _, _, _, by omega, by omega, by go_num, rfl, by omega, by omega, HI5.out.move HSQ.out⟩
              case measure => simp [intOf]; omega
    · have hne2 : (¬ i < n) ∨ (i < n ∧ ¬ ((i : Int) < 80)) := by
        by_cases h1 : i < n
        · exact .inr ⟨h1, fun h2 => hlt ⟨h1, by omega⟩⟩
        · exact .inl h1
      clear hlt
      rcases hne2 with h1 | ⟨h1, h2⟩
      all_goals
        go_wp2
        go_ret
        exact ⟨rfl, HI.out.sf⟩
end Go.Proofs.Ytlojadpbdbhmiaa
