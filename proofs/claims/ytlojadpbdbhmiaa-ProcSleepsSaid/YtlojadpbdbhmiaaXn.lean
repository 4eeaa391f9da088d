/- Law 22: the walk of ProcSleeps. -/
import Derived.Test.YtlojadpbdbhmiaaXm
namespace Go.Proofs.Ytlojadpbdbhmiaa
open Go.RowKit
open Go.Maps (Keyed)
set_option linter.unusedSimpArgs false
set_option linter.unusedVariables false

theorem lawInt : Keyed Try.prog 3 := Maps.int_keyed Try.underlying3
theorem zeroInt (w : World) : (zeroValue 3).run Try.prog w = .ok (.int .i64 0) w := by kernel_rfl
theorem wf64 {x : Int} (h1 : -9223372036854775808 ≤ x) (h2 : x ≤ 9223372036854775807) : (Lit.int .i64 x).wf = true := by
  simp [Lit.wf, IntKind.min, IntKind.max, IntKind.signed, IntKind.bits]; omega
/-- A look-up of a whole number, guarded or not. -/
theorem wpList_look_int {H : Type} {P : Program} (w : World) {ops : Array Oper} {rest : List Oper} {o : Oper} {a : Act} {Q : Exit → Act → World → Prop}
    (hw : Region.wanted o (yielded ops a.tmps) = true) (m x : Operand) (t : TypeId) (hop : o.op = Op.lookup t m x false)
    (k e : TypeId) (q : IntKind) (K : Keyed P k) (ht : P.underlying t = some (.map k e)) (he : P.underlying e = some (.int q)) (hz : (zeroValue e).run P w = .ok (.int q 0) w) (b n : Nat) (D : DataW H)
    (hm : a.eval m = .map (some b)) (hown : w.ownsMap P k (plainElem P e) b n D) (key : Value) (kl : Lit) (hx : a.eval x = key) (hkey : keyOf P k key = some kl)
    (hK : ∀ c : Int, D.atKey kl (.lit (.int q 0)) = .lit (.int q c) → (Lit.int q c).wf = true → wpList P ops Q rest (a.put o.dst (.int q c)) w) :
    wpList P ops Q (o :: rest) a w := by
  obtain ⟨c, hrun, hat, hwc⟩ := hown.lookup_int K ht he hz hkey
  refine wpList_value hw (v := .int q c) (w' := w) ?_ (hK c hat hwc)
  unfold execOp
  simp [hop, hm, hx, hrun, Result.andThen]
set_option maxRecDepth 100000 in
set_option maxHeartbeats 4000000 in
theorem procSleeps_any (As : Option Addr) (cs : Nat) (xs : List Int) (At : Option Addr) (ct : Nat) (ys : List Int) (w : World) (hx : Rd I w As xs) (hxc : xs.length ≤ cs) (hxm : cs ≤ 9223372036854775807) (hy : Rd I w At ys) (hyc : ys.length ≤ ct) (hym : ct ≤ 9223372036854775807) :
    Calls Try.prog 3 #[.slice As xs.length cs, .slice At ys.length ct] w fun e w' => e = .returned (.bool true) ∧ Safe w w' := by
  have hmm := @run_makeMap Try.prog
  have HX := Lib.hid hx
  have HY := Lib.hid hy
  clear hx hy
  go_enter Try.func3, Try.ntmps3
  go_wp2_with fail
  refine (awake22 _).mono ?_
  rintro _ w1 ⟨rfl, hs1⟩
  have HS1 := Lib.hid hs1
  clear hs1
  go_wp2_with fail
  refine (pnew_any 16 w1).mono ?_
  rintro _ w2 ⟨v2, rfl, hT2, hs2⟩
  rw [show mostP 16 = 16 from rfl] at hT2
  have hgt1 := HS1.out.size
  have hsi : SI w (w2.alloc (.map #[] 0)) (w1.heap.size + 1) w2.heap.size 0 (.map []) v2 [initR] 1 0 := by
    have h0 := (But.refl (fun _ => False) w2).alloc (.map #[] 0)
    have ht : TW w2 (w1.heap.size + 1) w.heap.size v2 [initR] 16 1 0 := ⟨hT2.hp, own_low hT2.ho hgt1, hT2.len⟩
    exact ⟨ht.safe h0, World.ownsMap_made _ _ _ _, by omega, Nat.le_trans hgt1 hs2.size, (HS1.out.trans hs2).trans h0⟩
  generalize hgt : w1.heap.size + 1 = gt at *
  obtain ⟨bm, hbm⟩ : ∃ bm, bm = w2.heap.size := ⟨_, rfl⟩
  obtain ⟨W2, hW2⟩ : ∃ W2, W2 = w2.alloc (.map #[] 0) := ⟨_, rfl⟩
  rw [← hW2, ← hbm] at hsi
  have HSI := Lib.hid hsi
  have HBM := Lib.hid hbm
  have HW2 := Lib.hid hW2
  clear hsi hT2 hs2 hgt hbm hW2 hgt1
  go_wp2_with fail
  rw [← HW2.out, ← HBM.out]
  go_loopw [7] (fun i wr => ∃ (k : Nat) (v : Value) (ps : List PR) (D : DataW Unit), k ≤ xs.length ∧ k ≤ 15 ∧ i = .int .i64 k ∧ Sl1 ps k ∧ MapIs D (sl ps) ∧ SI w wr gt bm k D v ps ((k + 1 : Nat) : Int) 0) (fun i _ => xs.length - (intOf i).toNat)
  case atStart => exact ⟨0, v2, [initR], .map [], by omega, by omega, rfl, Sl1.start, MapIs.empty.congr (fun x => by simp [sl, initR]), HSI.out⟩
  case round =>
    obtain ⟨k, v, ps, D, hk, hk15, rfl, hP, hM, hI⟩ := hrel
    obtain ⟨wo, rfl⟩ : ∃ wo : World, wo = wr := ⟨_, rfl⟩
    have HP := Lib.hid hP
    have HM := Lib.hid hM
    have HI := Lib.hid hI
    clear hP hM hI
    by_cases hlt : k < xs.length ∧ k < 15
    · obtain ⟨hlt, hlt15⟩ := hlt
      have hki : (k : Int) < xs.length := by omega
      have hk15i : (k : Int) < 15 := by omega
      obtain ⟨ad, rfl, hcell⟩ := (HX.out.safe HI.out.safe).at hlt
      have hF := pfork_any gt w.heap.size v ps 16 ((k + 1 : Nat) : Int) 0 1 wo HI.out.tw (by rw [HP.out.len]; omega) (by rw [HP.out.len]; omega) (by omega) (by omega) (by omega)
      rw [HP.out.fork hlt15] at hF
      have hcel : ∀ W, Safe w W → W.cell? (ad.add k) = some (I xs[k]) := fun W hW => by
        obtain ⟨ad', e, h⟩ := (HX.out.safe hW).at hlt
        injection e with e
        subst e
        exact h
      have hpd : ((k + 1 : Nat) : Int) + 1 = ((k + 1 + 1 : Nat) : Int) := by omega
      obtain ⟨pid, hpid⟩ : ∃ pid, pid = ((k + 1 : Nat) : Int) + 1 := ⟨_, rfl⟩
      have hpr : 0 ≤ pid ∧ pid ≤ 1000 := by omega
      rw [← hpid] at hF
      have HC := Lib.hid hcel
      have HF := Lib.hid hF
      have HPD := Lib.hid hpid
      have HPN := Lib.hid hpd
      generalize xs[k] = x at *
      clear hF hcel hcell hpid hpd
      go_wp2_with fail
      refine (HF.out).mono ?_
      rintro _ w3 ⟨rfl, hr3⟩
      obtain ⟨v3, hI3⟩ := HI.out.turn hr3
      have hc3 := HC.out _ hI3.safe
      obtain ⟨n, hn⟩ : ∃ n, n = max 0 (min x 1048576) := ⟨_, rfl⟩
      have hcs : (x ≤ 1048576 ∧ x ≤ 0 ∧ n = 0) ∨ (x ≤ 1048576 ∧ ¬ x ≤ 0 ∧ 0 < x ∧ n = x) ∨ (¬ x ≤ 1048576 ∧ n = 1048576) := by omega
      have hS := psleep_any gt w.heap.size v3 _ 16 pid 0 pid n w3 hI3.tw (by simp) (by omega) (by unfold longest; omega)
      rw [show sleepM (ps ++ [kid k]) 0 pid n = (slept ps k n, 0) from by rw [HPD.out]; exact HP.out.sleep n (by omega)] at hS
      have hn0 : 0 ≤ n ∧ n ≤ 1048576 := by omega
      have hM' : MapIs (if 0 < n then D.put (.int .i64 pid) (.lit (.int .i64 n)) else D) (sl (slept ps k n)) := by
        split
        · refine (HM.out.put pid n).congr (fun y => ?_)
          rw [HP.out.sl_slept, if_pos (show 1 ≤ n by omega), ← HPD.out]
        · refine HM.out.congr (fun y => ?_)
          rw [HP.out.sl_slept, if_neg (show ¬ 1 ≤ n by omega)]
      have hP' := HP.out.step n
      have HP' := Lib.hid hP'
      have HS := Lib.hid hS
      have HI3 := Lib.hid hI3
      clear hP' hS hI3 hr3 hn
      rcases hcs with ⟨h1, h2, rfl⟩ | ⟨h1, h2, h3, rfl⟩ | ⟨h1, rfl⟩
      · rw [if_neg (by omega)] at hM'
        have HM' := Lib.hid hM'
        clear hM'
        go_wp2_with fail
        refine (HS.out).mono ?_
        rintro _ w4 ⟨rfl, hr4⟩
        obtain ⟨v4, hI4⟩ := HI3.out.turn hr4
        have HI4 := Lib.hid hI4
        clear hr4 hI4 hc3
        go_wp2_with fail
        go_roundw
        case rel => exact ⟨k + 1, v4, _, D, by omega, by omega, by go_num, HP'.out, HM'.out, by rw [← HPN.out, ← HPD.out]; exact HI4.out.mono (by omega)⟩
        case measure => simp [intOf]; omega
      · have hkey : keyOf Try.prog 3 (.int .i64 pid) = some (.int .i64 pid) := Maps.keyOf_int_mk Try.underlying3 (wf64 (by omega) (by omega))
        have hwn : (Lit.int .i64 n).wf = true := wf64 (by omega) (by omega)
        rw [if_pos h3] at hM'
        have HM' := Lib.hid hM'
        clear hM'
        go_wp2_with fail
        refine (HS.out).mono ?_
        rintro _ w4 ⟨rfl, hr4⟩
        obtain ⟨v4, hI4⟩ := HI3.out.turn hr4
        have hmp := hI4.mp
        have HI4 := Lib.hid hI4
        clear hr4 hI4 hc3
        go_wp2_with (at_mapUpdate; refine wpList_mapUpdate_own _ rfl _ _ _ 26 rfl 3 3 lawInt Try.underlying26 _ bm k _ rfl hmp (by unfold maxLen; omega) _ _ _ rfl rfl hkey _ [] (plainElem_int Try.underlying3 hwn) ?_; intro w5 hown5 hg5)
        have hI5 := HI4.out.map hown5 hg5
        go_roundw
        case rel => exact ⟨k + 1, v4, _, _, by omega, by omega, by go_num, HP'.out, HM'.out, by rw [← HPN.out, ← HPD.out]; exact hI5⟩
        case measure => simp [intOf]; omega
      · have hkey : keyOf Try.prog 3 (.int .i64 pid) = some (.int .i64 pid) := Maps.keyOf_int_mk Try.underlying3 (wf64 (by omega) (by omega))
        have hwn : (Lit.int .i64 1048576).wf = true := wf64 (by omega) (by omega)
        rw [if_pos (by omega)] at hM'
        have HM' := Lib.hid hM'
        clear hM'
        go_wp2_with fail
        refine (HS.out).mono ?_
        rintro _ w4 ⟨rfl, hr4⟩
        obtain ⟨v4, hI4⟩ := HI3.out.turn hr4
        have hmp := hI4.mp
        have HI4 := Lib.hid hI4
        clear hr4 hI4 hc3
        go_wp2_with (at_mapUpdate; refine wpList_mapUpdate_own _ rfl _ _ _ 26 rfl 3 3 lawInt Try.underlying26 _ bm k _ rfl hmp (by unfold maxLen; omega) _ _ _ rfl rfl hkey _ [] (plainElem_int Try.underlying3 hwn) ?_; intro w5 hown5 hg5)
        have hI5 := HI4.out.map hown5 hg5
        go_roundw
        case rel => exact ⟨k + 1, v4, _, _, by omega, by omega, by go_num, HP'.out, HM'.out, by rw [← HPN.out, ← HPD.out]; exact hI5⟩
        case measure => simp [intOf]; omega
    · have hne2 : (¬ k < xs.length) ∨ (k < xs.length ∧ ¬ ((k : Int) < 15)) := by
        by_cases h1 : k < xs.length
        · exact .inr ⟨h1, fun h2 => hlt ⟨h1, by omega⟩⟩
        · exact .inl h1
      clear hlt
      have hlast : 0 ≤ ((k + 1 : Nat) : Int) ∧ ((k + 1 : Nat) : Int) ≤ 100 := by omega
      generalize ((k + 1 : Nat) : Int) = last at *
      rcases hne2 with h1 | ⟨h1, h2⟩
      all_goals
        go_wp2_with fail
        go_loopw [11, 12] (fun u i wr => ∃ (j : Nat) (now : Int) (v : Value) (ps : List PR) (D : DataW Unit), j ≤ ys.length ∧ j ≤ 30 ∧ i = .int .i64 j ∧ u = .int .i64 now ∧ 0 ≤ now ∧ now ≤ (j : Int) * 1048576 ∧ Sl2 ps now ∧ MapIs D (sl ps) ∧ SI w wr gt bm 15 D v ps last now) (fun _ i _ => ys.length - (intOf i).toNat)
        case atStart => exact ⟨0, 0, v, ps, D, by omega, by omega, rfl, rfl, by omega, by omega, HP.out.done hk15, HM.out, HI.out.mono hk15⟩
        case round =>
          obtain ⟨j, now, v2, ps2, D2, hj, hj30, rfl, rfl, hnow0, hnow1, hP2, hM2, hI2⟩ := hrel
          obtain ⟨wp, rfl⟩ : ∃ wp : World, wp = wr := ⟨_, rfl⟩
          have HP2 := Lib.hid hP2
          have HM2 := Lib.hid hM2
          have HI2 := Lib.hid hI2
          clear hP2 hM2 hI2
          by_cases hltj : j < ys.length ∧ j < 30
          · obtain ⟨hltj, hltj30⟩ := hltj
            have hji : (j : Int) < ys.length := by omega
            have hj30i : (j : Int) < 30 := by omega
            obtain ⟨ad, rfl, hcell⟩ := (HY.out.safe HI2.out.safe).at hltj
            generalize ys[j] = x at *
            obtain ⟨n, hn⟩ : ∃ n, n = max 0 (min x 1048576) := ⟨_, rfl⟩
            obtain ⟨T, hT⟩ : ∃ T, T = now + n := ⟨_, rfl⟩
            have hcs : (x ≤ 1048576 ∧ x ≤ 0 ∧ n = 0 ∧ now = T) ∨ (x ≤ 1048576 ∧ ¬ x ≤ 0 ∧ 0 < x ∧ n = x ∧ now + x = T) ∨ (¬ x ≤ 1048576 ∧ n = 1048576 ∧ now + 1048576 = T) := by omega
            have hT0 : 0 ≤ T ∧ T ≤ ((j + 1 : Nat) : Int) * 1048576 := by omega
            have hK := ptick_any gt w.heap.size v2 ps2 16 last now n wp HI2.out.tw HP2.out.pos hnow0 (by unfold longest; omega) (by omega) (by omega)
            rw [tickN_in (by omega) (by omega) (by omega), ← hT] at hK
            have hOF := HP2.out.out T
            have hlw : (whichP (due T) ps2).length ≤ 16 := by
              have := whichP_len (due T) ps2 ps2.length
              rw [List.take_length] at this
              have := HI2.out.tw.len
              omega
            have hP3 := HP2.out.tick T
            have hsw : ∀ y, sl (wakeAll ps2 (whichP (due T) ps2)) y = if y ∈ whichP (due T) ps2 then none else sl ps2 y := sl_wakeAll _ HP2.out.asc
            generalize whichP (due T) ps2 = out at *
            generalize hps3 : wakeAll ps2 out = ps3 at *
            have HK := Lib.hid hK
            have HOF := Lib.hid hOF
            have HP3 := Lib.hid hP3
            have HSW := Lib.hid hsw
            clear hK hOF hP3 hsw hps3 hn hT
            rcases hcs with ⟨h1, h2, rfl, h3⟩ | ⟨h1, h2, h2', rfl, h3⟩ | ⟨h1, rfl, h3⟩
            all_goals
              have HT := Lib.hid h3
              clear h3
              go_wp2_with fail
              refine (HK.out).mono ?_
              rintro e w3 ⟨u, rfl, ho3, hr3⟩
              rw [HT.out]
              obtain ⟨Au, cu, rfl, hcu⟩ := own_form ho3
              obtain ⟨v3, hI3⟩ := HI2.out.turn hr3
              have HO3 := Lib.hid ho3
              have HI3 := Lib.hid hI3
              clear ho3 hr3 hI3 hcell
              go_wp2_with fail
              go_loopw [84] (fun i wr => ∃ (q : Nat) (D3 : DataW Unit), q ≤ out.length ∧ i = .int .i64 q ∧ MapIs D3 (fun y => if y ∈ out.take q then none else sl ps2 y) ∧ SI w wr gt bm 15 D3 v3 ps3 last T ∧ But (· = bm) w3 wr) (fun i _ => out.length - (intOf i).toNat)
              case atStart => exact ⟨0, D2, by omega, rfl, HM2.out.congr (fun y => by simp), HI3.out, But.refl _ _⟩
              case round =>
                obtain ⟨q, D3, hq, rfl, hM3, hIq, hbq⟩ := hrel
                obtain ⟨wq, rfl⟩ : ∃ wq : World, wq = wr := ⟨_, rfl⟩
                have hoq := own_but_kept HO3.out hbq (fun k hk e => by
                  obtain ⟨_, _, cs3, hB3⟩ := own_blk6 HO3.out hk
                  exact map_ne HI3.out.mp hB3 e.symm)
                have hrd : Rd I wq Au out := Rd.of_own hoq
                have HM3 := Lib.hid hM3
                have HIQ := Lib.hid hIq
                have HBQ := Lib.hid hbq
                have HRD := Lib.hid hrd
                have HOQ := Lib.hid hoq
                clear hM3 hIq hbq hoq hrd
                by_cases hltq : q < out.length
                · have hqi : (q : Int) < out.length := by omega
                  obtain ⟨y, hy⟩ : ∃ y, out[q]? = some y := ⟨_, List.getElem?_eq_getElem hltq⟩
                  obtain ⟨gq, rfl⟩ := own_hd HOQ.out (show 0 < out.length by omega)
                  have hcl : ∀ (i : Nat) (z : Int), out[i]? = some z → wq.cell? ⟨gq, i, none⟩ = some (I z) := fun i z hz => by
                    obtain ⟨ad, e, h⟩ := HRD.out (by omega)
                    injection e with e
                    rw [← e] at h
                    have := h i z hz
                    rwa [add_plain, Nat.zero_add] at this
                  have HCL := Lib.hid hcl
                  have hcell := hcl q y hy
                  obtain ⟨t, ht, ht1, ht2⟩ := HOF.out.next hy
                  have HAT := Lib.hid (HM3.out.some ht (.lit (.int .i64 0)))
                  have hmp := HIQ.out.mp
                  have hnext : MapIs (D3.del (.int .i64 y)) (fun z => if z ∈ out.take (q + 1) then none else sl ps2 z) := (HM3.out.del y).congr (fun z => take_strike hy _ z)
                  have HN := Lib.hid hnext
                  have HY2 := Lib.hid hy
                  have hwy : -9223372036854775808 ≤ y ∧ y ≤ 9223372036854775807 := by have := HOF.out.rng y (List.mem_of_getElem? hy); omega
                  have hkey : keyOf Try.prog 3 (.int .i64 y) = some (.int .i64 y) := Maps.keyOf_int_mk Try.underlying3 (wf64 (by omega) (by omega))
                  clear hnext hy ht hcl
                  by_cases hq0 : q = 0
                  · subst hq0
                    go_wp2_with (first
                      | (at_lookup; refine wpList_look_int _ rfl _ _ 26 rfl 3 3 .i64 lawInt Try.underlying26 Try.underlying3 (zeroInt _) bm 15 D3 rfl hmp _ _ rfl hkey ?_; intro c hat hwc; have hc0 : (c == 0) = false := (by rw [HAT.out] at hat; injection hat with hat; injection hat with _ hat; simp; omega); have hc1 : c ≤ T := (by rw [HAT.out] at hat; injection hat with hat; injection hat with _ hat; omega); clear hat hwc)
                      | (at_delete; refine wpList_delete_own _ rfl _ _ 26 3 rfl 3 lawInt Try.underlying26 _ bm 15 D3 rfl hmp _ _ rfl hkey ?_; intro w6 hown6 hturn6))
                    have hI6 := HIQ.out.map hown6 hturn6.grown
                    have hb6 := HBQ.out.trans ((But.of_grown hturn6.grown).mono (fun k _ e => by injection e))
                    go_roundw
                    case rel => exact ⟨0 + 1, _, by omega, by go_num, HN.out, hI6, hb6⟩
                    case measure => simp [intOf]; omega
                  · obtain ⟨q', rfl⟩ : ∃ q', q = q' + 1 := ⟨q - 1, by omega⟩
                    obtain ⟨z, hz⟩ : ∃ z, out[q']? = some z := ⟨_, List.getElem?_eq_getElem (by omega)⟩
                    have hzy := HOF.out.lt hz HY2.out
                    have hcz := HCL.out q' z hz
                    have hq1 : (0 : Int) < (q' : Int) + 1 := by omega
                    have hq2 : (q' : Int) < out.length := by omega
                    have hzb : ¬ y ≤ z := by omega
                    clear hz hq0
                    go_wp2_with (first
                      | (at_lookup; refine wpList_look_int _ rfl _ _ 26 rfl 3 3 .i64 lawInt Try.underlying26 Try.underlying3 (zeroInt _) bm 15 D3 rfl hmp _ _ rfl hkey ?_; intro c hat hwc; have hc0 : (c == 0) = false := (by rw [HAT.out] at hat; injection hat with hat; injection hat with _ hat; simp; omega); have hc1 : c ≤ T := (by rw [HAT.out] at hat; injection hat with hat; injection hat with _ hat; omega); clear hat hwc)
                      | (at_delete; refine wpList_delete_own _ rfl _ _ 26 3 rfl 3 lawInt Try.underlying26 _ bm 15 D3 rfl hmp _ _ rfl hkey ?_; intro w6 hown6 hturn6))
                    have hI6 := HIQ.out.map hown6 hturn6.grown
                    have hb6 := HBQ.out.trans ((But.of_grown hturn6.grown).mono (fun k _ e => by injection e))
                    go_roundw
                    case rel => exact ⟨q' + 1 + 1, _, by omega, by go_num, HN.out, hI6, hb6⟩
                    case measure => simp [intOf]; omega
                · obtain rfl : q = out.length := by omega
                  have hM4 : MapIs D3 (sl ps3) := HM3.out.congr (fun y => by rw [HSW.out y, List.take_length])
                  have hmp := HIQ.out.mp
                  obtain ⟨r, hr⟩ : ∃ r, r = wq.heap.size := ⟨_, rfl⟩
                  have hr0 : w.heap.size ≤ r := by rw [hr]; exact HIQ.out.safe.size
                  have HM4 := Lib.hid hM4
                  have HR := Lib.hid hr
                  clear hM4 hr
                  go_wp2_with (at_range; refine wpList_range_own _ rfl _ 26 rfl 3 3 lawInt Try.underlying26 _ bm 15 D3 rfl hmp ?_; intro w4 hrg4 hg4 hs4; have hI4 := HIQ.out.move (But.of_grown hg4 |>.mono (fun k _ e => by cases e)); have HRG4 := Lib.hid hrg4; have HI4 := Lib.hid hI4; clear hrg4 hg4 hs4 hI4)
                  go_frame
                  rw [← HR.out] at *
                  go_loopw [17] (fun _ wr => ∃ (left : Lit → Bool) (cnt : Nat), wr.ranges Try.prog 3 (plainElem Try.prog 3) bm r 15 D3 left cnt ∧ SI w wr gt bm 15 D3 v3 ps3 last T) (fun _ wr => wr.rangeLeft bm r)
                  case atStart => exact ⟨_, _, HRG4.out, HI4.out⟩
                  case round =>
                    obtain ⟨left, cnt, hrg, hIr⟩ := hrel
                    obtain ⟨wz, rfl⟩ : ∃ wz : World, wz = wr := ⟨_, rfl⟩
                    have HIR := Lib.hid hIr
                    have HRG := Lib.hid hrg
                    clear hIr
                    go_wp2_with (at_next; refine wpList_next_ranges_ii _ rfl _ rfl 3 3 .i64 .i64 lawInt Try.underlying3 Try.underlying3 bm r 15 _ _ _ rfl hrg ?_ ?_)
                    · intro _ _
                      clear hrg
                      go_wp2_with fail
                      go_roundw
                      case rel => exact ⟨j + 1, T, v3, ps3, D3, by omega, by omega, by go_num, rfl, by omega, by omega, HP3.out, HM4.out, HIR.out⟩
                      case measure => simp [intOf]; omega
                    · intro x c w5 cnt5 hwx hwc hlx hat hrg5 hlt hg5 hs5 hen
                      have hsl : sl ps3 x = some c := HM4.out.of_all hat
                      have hlate := HP3.out.late x c hsl
                      obtain ⟨p, hgp, hp2, hpu⟩ := get_of_sl HP3.out.asc hsl
                      have hI5 := HIR.out.iter HRG.out hg5 hrg5 hr0
                      obtain ⟨gv, cv, rfl, _, _⟩ := hI5.tw.form HP3.out.pos
                      have hG := pget_any gt w.heap.size gv cv ps3 16 last T x w5 hI5.tw
                      rw [hgp] at hG
                      obtain ⟨p1, p3, p2, p4, p5, p6⟩ := p
                      simp only at hp2 hpu
                      subst hp2 hpu
                      have hI5s := hI5
                      have HI5 := Lib.hid hI5
                      have HRG5 := Lib.hid hrg5
                      have HLT := Lib.hid hlt
                      have HG := Lib.hid hG
                      have hTc : ¬ p5 ≤ T := by omega
                      clear hsl hI5 hrg5 hlt hat hG hwx hwc hlx hgp hrg hI5s hg5 hs5
                      go_wp2_with fail
                      refine (HG.out).mono ?_
                      rintro _ w6 ⟨rfl, hs6⟩
                      have HS6 := Lib.hid hs6
                      clear hs6
                      go_wp2_with fail
                      go_roundw
                      case rel =>
                        have hfin : ∀ W, Safe w5 W → (∃ (left : Lit → Bool) (cnt : Nat), W.ranges Try.prog 3 (plainElem Try.prog 3) bm r 15 D3 left cnt ∧ SI w W gt bm 15 D3 (.slice (some ⟨gv, 0, none⟩) ps3.length cv) ps3 last T) := fun W hW => ⟨_, cnt5, ranges_but HRG5.out hW id id, HI5.out.move hW⟩
                        first
                          | exact hfin _ (HS6.out.alloc _)
                          | exact hfin _ ((HS6.out.alloc _).setCells _ _ (.inr HS6.out.size))
                      case measure =>
                        have hml : ∀ W, Safe w5 W → W.rangeLeft bm r < wz.rangeLeft bm r := fun W hW => by
                          rw [(ranges_but HRG5.out hW id id).left_eq, HRG.out.left_eq]; exact HLT.out
                        first
                          | exact hml _ (HS6.out.alloc _)
                          | exact hml _ ((HS6.out.alloc _).setCells _ _ (.inr HS6.out.size))
          · have hnj : (¬ j < ys.length) ∨ (j < ys.length ∧ ¬ ((j : Int) < 30)) := by
              by_cases h1 : j < ys.length
              · exact .inr ⟨h1, fun h2 => hltj ⟨h1, by omega⟩⟩
              · exact .inl h1
            have HNW := Lib.hid (pnow_any gt w.heap.size v2 ps2 16 last now wp HI2.out.tw)
            clear hltj
            rcases hnj with h3 | ⟨h3, h4⟩
            all_goals
              go_wp2_with fail
              refine (HNW.out).mono ?_
              rintro _ _ ⟨rfl, rfl⟩
              go_wp2
              go_ret
              exact ⟨rfl, HI2.out.safe⟩
end Go.Proofs.Ytlojadpbdbhmiaa
