/- DrumlinSectors: the walk. -/
import Derived.Test.YtgbdnghbamaecaaNk
import Derived.Deep.Cut
import Derived.Deep.CutRange
import Derived.Deep.CutBlock
namespace Go.Proofs.Ytgbdnghbamaecaa
open Go.RowKit
set_option linter.unusedSimpArgs false
set_option linter.unusedVariables false

set_option maxRecDepth 100000 in
set_option maxHeartbeats 40000000 in
theorem sectors_walk (A : Option Addr) (n c kind : Nat) (D : Nat → PartR) (w : World) (hn : n ≤ c) (hc : c ≤ 9223372036854775807) (hk : kind < 256) (hD : PartsAt w A n D) :
    Calls Try.prog 3 #[.slice A n c, .int .u8 kind] w fun e w' => e = .returned (.bool true) ∧ Safe w w' := by
  have hzs := fun W => zero_sect W
  have hzw := fun W => zero_writer W
  have hY : ∀ (W : World), WS (W.alloc (.cells (encS (padL []) [I 0, I 0]) 27)) W.heap.size [] := fun W => ⟨Blk.new W _ _, by simp⟩
  generalize hYe : encS (padL []) [I 0, I 0] = Y at *
  generalize hZe : sectA (padL []) = Z at *
  have hw1 := hY w
  have hs1 : Safe w (w.alloc (.cells Y 27)) := (But.refl _ w).alloc _
  have hz1 : (w.alloc (.cells Y 27)).heap.size = w.heap.size + 1 := by simp
  have H0 : LI w (w.alloc (.cells Y 27)) w.heap.size (w.heap.size + 1) (.slice none 0 0) 0 [] [] :=
    ⟨hw1, World.ownsRow_nil _ _ _ _, rfl, (fun p hp => by cases hp), by simp, by simp, hs1, by omega, by omega, by omega⟩
  have HH0 := Lib.hid H0
  have HD := Lib.hid hD
  have HY := Lib.hid hYe
  have HZ := Lib.hid hZe
  clear hY hw1 hs1 hz1 H0 hD hYe hZe
  go_enter Try.func3, Try.ntmps3
  go_upto_block 0 with fail
  go_cut [6, 7, 8, 9] from 20 to 88 (fun vp sz _ _ wx => ∃ (i : Nat) (P : List PartR) (B : List Int), sz = .int .i64 B.length ∧ i ≤ 30 ∧ LI w wx w.heap.size (w.heap.size + 1) vp i P B)
  case first =>
    go_wp2_with fail
    go_loopw [6, 7, 8] (fun vp sz x wr => ∃ (i : Nat) (P : List PartR) (B : List Int), i ≤ n ∧ i ≤ 30 ∧ x = .int .i64 i ∧ sz = .int .i64 B.length ∧ LI w wr w.heap.size (w.heap.size + 1) vp i P B) (fun _ _ x _ => 30 - (intOf x).toNat)
    case atStart => exact ⟨0, [], [], by omega, by omega, rfl, rfl, HH0.out⟩
    case round =>
      clear HH0
      obtain ⟨i, P, B, hin, hi30, rfl, rfl, hL⟩ := hrel
      obtain ⟨wo, rfl⟩ : ∃ wo : World, wo = wr := ⟨_, rfl⟩
      have HL := Lib.hid hL
      clear hL
      have hlen := HL.out.len
      have hpl := HL.out.pl
      have hlenI : (B.length : Int) ≤ 120 := by omega
      by_cases hlt : i < n ∧ i < 30
      · as_aux_lemma =>
        obtain ⟨hlt, h30⟩ := hlt
        have h30i : (i : Int) < 30 := by omega
        have hlni : (i : Int) < n := by omega
        obtain ⟨ad, hA, hIn, c0, c1, c2, c3⟩ := HD.out i hlt
        subst hA
        rw [add_split4] at c1 c2 c3
        rw [Nat.add_zero] at c0
        have c0 := HL.out.safe.cell c0 id
        have c1 := HL.out.safe.cell c1 id
        have c2 := HL.out.safe.cell c2 id
        have c3 := HL.out.safe.cell c3 id
        generalize D i = p at *
        have hwd := hIn.wd
        have hbc := hIn.bc
        have hbl := hIn.bl
        have HIN := Lib.hid hIn
        have hHas := fun W => has_any p.wd p.num W hIn.num
        have HHas := Lib.hid hHas
        obtain ⟨wa, hwa⟩ : ∃ wa, wa = wo.alloc (.cells #[I p.wd, .int .u64 p.num, .bool p.raw, .slice p.B p.bs.length p.bc] 31) := ⟨_, rfl⟩
        have hsa : Safe wo wa := by rw [hwa]; exact (But.refl _ wo).alloc _
        have HSA := Lib.hid hsa
        have HWA := Lib.hid hwa
        have d0 : wa.cell? ⟨wo.heap.size, 0, none⟩ = some (I p.wd) := by rw [hwa]; exact (Blk.new _ _ _).cell' rfl
        have d1 : wa.cell? ⟨wo.heap.size, 1, none⟩ = some (.int .u64 p.num) := by rw [hwa]; exact (Blk.new _ _ _).cell' rfl
        have d2 : wa.cell? ⟨wo.heap.size, 2, none⟩ = some (.bool p.raw) := by rw [hwa]; exact (Blk.new _ _ _).cell' rfl
        have d3 : wa.cell? ⟨wo.heap.size, 3, none⟩ = some (.slice p.B p.bs.length p.bc) := by rw [hwa]; exact (Blk.new _ _ _).cell' rfl
        have hza : wo.heap.size + 1 = wa.heap.size := by rw [hwa]; simp
        have HZA := Lib.hid hza
        clear hza
        have hoa := own_safe HL.out.own hsa
        have hsk := HL.out.skip hsa
        have HSK := Lib.hid hsk
        have h63 : P.length + 1 ≤ maxLen := by simp [maxLen]; omega
        have hby : (P.length + 1) * 48 ≤ 140737488355328 := by omega
        have hba : w.heap.size + 1 ≤ wa.heap.size := Nat.le_trans HL.out.bw hsa.size
        have hone : ∀ u ∈ (#[I p.wd, .int .u64 p.num, .bool p.raw, .slice p.B p.bs.length p.bc] : Array Value).toList, u.oneCell' = true := encV_one p
        have HONE := Lib.hid hone
        have HOA := Lib.hid hoa
        clear hIn hHas hsa hwa hoa hsk hone
        have hfit : 120 - (B.length : Int) < p.wd ∨ (p.wd ≤ 120 - (B.length : Int)) := by omega
        cases hraw : p.raw
        · rw [hraw] at c2 HWA d2 HONE
          cases hhas : hasB p.wd p.num
          · rw [hhas] at HHas
            clear hfit
            go_wp2_with fail
            rw [← HWA.out]
            refine (HHas.out _).mono ?_
            rintro _ _ ⟨rfl, rfl⟩
            go_wp2_with fail
            go_roundw
            case rel => exact ⟨i + 1, P, B, by omega, by omega, by go_num, rfl, HSK.out⟩
            case measure => simp [intOf]; omega
          · rw [hhas] at HHas
            have hh := of_decide_eq_true hhas
            rcases hfit with hfit | hfit
            · clear hh
              go_wp2_with fail
              rw [← HWA.out]
              refine (HHas.out _).mono ?_
              rintro _ _ ⟨rfl, rfl⟩
              go_wp2_with fail
              go_roundw
              case rel => exact ⟨i + 1, P, B, by omega, by omega, by go_num, rfl, HSK.out⟩
              case measure => simp [intOf]; omega
            · have hgood : GoodP p := ⟨by omega, by omega, fun _ => hh, fun h => by rw [hraw] at h; cases h⟩
              have hpw : 1 ≤ p.wd := hh.1
              have HG := Lib.hid hgood
              clear hh hgood
              go_wp2_with fail
              rw [← HWA.out]
              refine (HHas.out _).mono ?_
              rintro _ _ ⟨rfl, rfl⟩
              have hub := fun k hk => HL.out.own.lt k hk
              have hn2 : ¬ (fun k => some k = u6.ownBlock) wo.heap.size := fun e => Nat.lt_irrefl _ (hub _ e.symm).2
              have HN2 := Lib.hid hn2
              clear hub hn2
              go_wp2_with (at_builtin; go_loud (refine wpList_push slParts rfl (.tmp 69) (.tmp 71) rfl (w.heap.size + 1) u6 P.length (P.flatMap encV) rfl (own_safe HOA.out ((But.refl _ wa).alloc _)) wa.heap.size 31 _ rfl (Blk.new _ _ _) rfl HONE.out h63 hby (Nat.le_trans hba ((But.refl (fun _ => False) wa).alloc _).size) ?_; intro v2 w2 ho2 hg2 hd2; have hb2 := (But.refl (fun k => some k = u6.ownBlock) wa).alloc (.cells #[I p.wd, .int .u64 p.num, .bool false, .slice p.B p.bs.length p.bc] 31) |>.trans (But.of_grown hg2); have e0 := hb2.cell d0 HN2.out; have e1 := hb2.cell d1 HN2.out; have e2 := hb2.cell d2 HN2.out; have e3 := hb2.cell d3 HN2.out; have HB2 := Lib.hid hb2; have HO2 := Lib.hid ho2; clear hb2 ho2 hg2 hd2 d0 d1 d2 d3))
              have hw2 := HL.out.ws2 HSA.out HB2.out
              have hN := wnum_part w.heap.size B p w2 hw2 HG.out hraw (by omega)
              have HN := Lib.hid hN
              clear hw2 hN
              refine (HN.out).mono ?_
              rintro _ w3 ⟨rfl, hw3, hb3⟩
              have hL3 := HL.out.done HSA.out HB2.out (by have := HO2.out; unfold encV; rw [hraw]; exact this) HG.out HIN.out (by omega) hw3 hb3
              have hsz := acc_len (B := B) HG.out
              have HL3 := Lib.hid hL3
              have HSZ := Lib.hid hsz
              clear hw3 hb3 hL3 hsz e0 e1 e2 e3
              go_wp2_with fail
              go_roundw
              case rel => exact ⟨i + 1, P ++ [p], B ++ encB p, by omega, by omega, by go_num, by rw [HSZ.out], HL3.out⟩
              case measure => simp [intOf]; omega
        · rw [hraw] at c2 HWA d2 HONE
          have hcs : p.wd < (p.bs.length : Int) ∨ ((p.bs.length : Int) ≤ p.wd ∧ 100 < p.wd) ∨ ((p.bs.length : Int) ≤ p.wd ∧ p.wd ≤ 100 ∧ 120 - (B.length : Int) < p.wd) ∨ ((p.bs.length : Int) ≤ p.wd ∧ p.wd ≤ 100 ∧ p.wd ≤ 120 - (B.length : Int)) := by omega
          clear hfit
          rcases hcs with h1 | ⟨h1, h2⟩ | ⟨h1, h2, h3⟩ | ⟨h1, h2, hfit⟩
          iterate 3
            · go_wp2_with fail
              rw [← HWA.out]
              go_wp2_with fail
              go_roundw
              case rel => exact ⟨i + 1, P, B, by omega, by omega, by go_num, rfl, HSK.out⟩
              case measure => simp [intOf]; omega
          · have hgood : GoodP p := ⟨by omega, by omega, (fun h => by rw [hraw] at h; cases h), fun _ => by omega⟩
            have hpw : 0 ≤ p.wd := by omega
            have HG := Lib.hid hgood
            clear hgood
            have hub := fun k hk => HL.out.own.lt k hk
            have hn2 : ¬ (fun k => some k = u6.ownBlock) wo.heap.size := fun e => Nat.lt_irrefl _ (hub _ e.symm).2
            have HN2 := Lib.hid hn2
            clear hub hn2
            go_wp2_with (at_builtin; go_loud (rw [← HWA.out]; refine wpList_push slParts rfl (.tmp 69) (.tmp 71) rfl (w.heap.size + 1) u6 P.length (P.flatMap encV) rfl (own_safe HOA.out ((But.refl _ wa).alloc _)) (wo.heap.size + 1) 31 _ rfl (Blk.new' _ _ HZA.out) rfl HONE.out h63 hby (Nat.le_trans hba ((But.refl (fun _ => False) wa).alloc _).size) ?_; intro v2 w2 ho2 hg2 hd2; have hb2 := (But.refl (fun k => some k = u6.ownBlock) wa).alloc (.cells #[I p.wd, .int .u64 p.num, .bool true, .slice p.B p.bs.length p.bc] 31) |>.trans (But.of_grown hg2); have e0 := hb2.cell d0 HN2.out; have e1 := hb2.cell d1 HN2.out; have e2 := hb2.cell d2 HN2.out; have e3 := hb2.cell d3 HN2.out; have HB2 := Lib.hid hb2; have HO2 := Lib.hid ho2; clear hb2 ho2 hg2 hd2 d0 d1 d2 d3))
            have hw2 := HL.out.ws2 HSA.out HB2.out
            have hN := wbytes_part w.heap.size B p w w2 hw2 HG.out HIN.out (HL.out.safe2 HSA.out HB2.out) hraw (by omega)
            have HN := Lib.hid hN
            clear hw2 hN
            refine (HN.out).mono ?_
            rintro _ w3 ⟨rfl, hw3, hb3⟩
            have hL3 := HL.out.done HSA.out HB2.out (by have := HO2.out; unfold encV; rw [hraw]; exact this) HG.out HIN.out (by omega) hw3 hb3
            have hsz := acc_len (B := B) HG.out
            have HL3 := Lib.hid hL3
            have HSZ := Lib.hid hsz
            clear hw3 hb3 hL3 hsz e0 e1 e2 e3
            go_wp2_with fail
            go_roundw
            case rel => exact ⟨i + 1, P ++ [p], B ++ encB p, by omega, by omega, by go_num, by rw [HSZ.out], HL3.out⟩
            case measure => simp [intOf]; omega
      · have hne2 : (¬ i < n) ∨ (i < n ∧ ¬ ((i : Int) < 30)) := by
          by_cases h1 : i < n
          · exact .inr ⟨h1, fun h2 => hlt ⟨h1, by omega⟩⟩
          · exact .inl h1
        clear hlt
        rcases hne2 with h1 | ⟨h1, h2⟩
        all_goals
          go_wp2_with fail
          go_meet
          exact ⟨i, P, B, rfl, hi30, HL.out⟩
  case rest =>
    clear HH0
    as_aux_lemma =>
      obtain ⟨i, P, B, rfl, hi30, hL⟩ := hcut
      obtain ⟨wo, rfl⟩ : ∃ wo : World, wo = wc := ⟨_, rfl⟩
      have HL := Lib.hid hL
      clear hL
      have hlen := HL.out.len
      have hpl := HL.out.pl
      have hlenI : (B.length : Int) ≤ 120 := by omega
      obtain ⟨kd, hkd, hk1, hk2⟩ := or_one kind hk
      have hSl := sealL_len (kd := kd) (ys := B) hlen
      have hpl : (padL B).length = 128 := padL_len (by omega)
      have hSe := wsector_yes w.heap.size B wo HL.out.ws
      have hu := HL.out.u8
      have HU := Lib.hid hu
      have HSE := Lib.hid hSe
      have HSL := Lib.hid hSl
      have HPL := Lib.hid hpl
      have hMk := fun A c W hr => make_any kd hk1 hk2 A B c W hr hu hlen
      have hIs := fun W => is_any kd hk1 hk2 B W hu hlen
      have hOp := fun W => open_any kd hk1 hk2 B W hu hlen
      have hSu := sealL_u8 (kd := kd) hu
      rw [show sectA (sealL kd B) = ((sealL kd B).map U).toArray from rfl] at hIs hOp
      have HSU := Lib.hid hSu
      have HMK := Lib.hid hMk
      have HIS := Lib.hid hIs
      have HOP := Lib.hid hOp
      clear hSe hSl hpl hu hMk hIs hOp hSu
      generalize sealL kd B = S at *
      go_wp2_with fail
      refine (HSE.out).mono ?_
      rintro _ w2 ⟨rfl, hs2⟩
      obtain ⟨t3, b3, s3⟩ := new_sect w2 Z HZ.out (padL B) HPL.out
      obtain ⟨-, i3, o3⟩ := sect_info HPL.out
      have hsl := sl_to w2.heap.size B.length (by omega)
      have T3 := Lib.hid t3
      have I3 := Lib.hid i3
      have O3 := Lib.hid o3
      have hrd3 := rd_sect b3
      have hmk := HMK.out (some ⟨w2.heap.size, 0, none⟩) 128 _ hrd3
      have HS3 := Lib.hid (hs2.trans s3)
      have HMk := Lib.hid hmk
      clear t3 b3 s3 i3 o3 hrd3 hmk hs2
      go_wp2_with (refine wpList_store_mid rfl 24 (.tmp 10) (.tmp 91) rfl w2.heap.size 0 (sectA (padL B)) rfl rfl T3.out I3.out O3.out ?_)
      refine (HMk.out).mono ?_
      rintro _ w4 ⟨rfl, hs4⟩
      obtain ⟨t5, b5, s5⟩ := new_sect w4 Z HZ.out S HSL.out
      obtain ⟨i5, j5, o5⟩ := sect_info HSL.out
      have T5 := Lib.hid t5
      have B5 := Lib.hid b5
      have I5 := Lib.hid i5
      have J5 := Lib.hid j5
      have O5 := Lib.hid o5
      have HS5 := Lib.hid ((HS3.out.trans hs4).trans s5)
      clear t5 b5 s5 i5 j5 o5 hs4 HSE T3 I3 O3 HMk HS3 hsl
      have R5 := Lib.hid (encS_range B5.out)
      go_wp2_with (first
        | refine wpList_store_mid rfl 24 (.tmp 12) (.tmp 100) rfl w4.heap.size 0 (sectA S) rfl rfl T5.out J5.out O5.out ?_
        | refine wpList_load_want rfl 24 (.tmp 12) rfl w4.heap.size 0 rfl _ _ R5.out Try.underlying24 rfl I5.out ?_)
      have hb5 := B5.out
      have hs5 := HS5.out
      generalize (w4.alloc (.cells Z 24)).setCells w4.heap.size 0 (sectA S).toList = w5 at *
      generalize w4.heap.size = g5 at *
      have HB5 := Lib.hid hb5
      have HS5 := Lib.hid hs5
      have HI5 := Lib.hid (HIS.out w5)
      clear hb5 hs5 B5 T5
      refine (HI5.out).mono ?_
      rintro _ w6 ⟨rfl, hs6⟩
      have hb6 := HB5.out.but hs6 id
      have R6 := Lib.hid (encS_range hb6)
      have HO6 := Lib.hid (HOP.out w6)
      have HB6 := Lib.hid hb6
      have HS6 := Lib.hid (HS5.out.trans hs6)
      clear hb6 hs6 HI5 HB5 R5 HS5
      go_wp2_with (refine wpList_load_mid rfl 24 (.tmp 12) rfl g5 0 rfl _ _ R6.out Try.underlying24 rfl I5.out ?_)
      refine (HO6.out).mono ?_
      rintro _ w7 ⟨Ab, cb, rfl, hcb, ho7, hs7⟩
      have hb7 := HB6.out.but hs7 id
      have hrd7 : Rd U w7 Ab B := Rd.of_own ho7
      have HB7 := Lib.hid hb7
      have HS7 := Lib.hid (HS6.out.trans hs7)
      obtain ⟨w8, hcp, hb8, hs8⟩ := run_copy_any (w7.alloc (.cells Z 24)) w7.heap.size 24 (padL []) [] (by rw [← sectA_enc, HZ.out]; exact Blk.new _ _ _) 0 128 128 Ab B cb (hrd7.alloc _) (by omega) (by rw [padL_len (by simp)]; omega)
      rw [show wrL (padL []) 0 B = padL B from padL_wr (B := []) (by simp; omega)] at hb8
      have R8 := Lib.hid (encS_range hb8)
      have J8 := Lib.hid (sect_info HPL.out).1
      have HB8 := Lib.hid hb8
      have HS8 := Lib.hid hs8
      clear hb7 hrd7 ho7 hs7 R6 HO6 HB6 HS6 hb8 hs8
      go_wp2_with (refine wpList_load_mid rfl 24 (.tmp 16) rfl w7.heap.size 0 rfl _ _ R8.out Try.underlying24 rfl J8.out ?_)
      have hRd := read_any (padL B) HPL.out (padL_u8 HU.out) w8
      have HRd := Lib.hid hRd
      clear hRd
      refine (HRd.out).mono ?_
      rintro _ w9 ⟨rfl, hr9, hs9⟩
      have hS79 : Safe wo (w7.alloc (.cells Z 24)) := (HS7.out).alloc _
      have hS8 : Safe wo w8 := hS79.step HS8.out (fun k hk => .inr (by have : k = w7.heap.size := hk; have := HS7.out.size; omega))
      have hS9 : Safe wo w9 := hS8.trans hs9
      have hb9 : Blk w9 g5 24 (encS S []) := ((HB7.out.alloc (.cells Z 24)).but HS8.out (fun e => by have : g5 = w7.heap.size := e; have := HB7.out.lt; omega)).but hs9 id
      have hg9 : wo.heap.size < w8.heap.size + 1 := Nat.lt_succ_of_le hS8.size
      have hg5 : g5 < w8.heap.size + 1 := by
        have h1 := HB7.out.lt
        have h2 := HS8.out.size
        have h3 : (w7.alloc (.cells Z 24)).heap.size = w7.heap.size + 1 := by simp
        omega
      generalize w8.heap.size + 1 = gr at *
      obtain ⟨Ap, cp, hv6, hcp6⟩ := own_form HL.out.own
      subst hv6
      have ho9 := own_safe HL.out.own hS9
      have hpI : (P.length : Int) ≤ 30 := by omega
      have HR9 := Lib.hid hr9
      have HS9 := Lib.hid hS9
      have HB9 := Lib.hid hb9
      have HO9 := Lib.hid ho9
      clear hr9 hs9 hS79 hS8 hS9 hb9 ho9 HRd HB7 HB8 HS7 HS8 R8 J8 hcp HMK HIS HOP
      go_wp2_with fail
      go_loopw [140] (fun x wr => ∃ j : Nat, j ≤ P.length ∧ x = .int .i64 j ∧ RS wr gr (padL B) ((P.take j).flatMap encB).length ∧ But (· = gr) w9 wr) (fun x _ => P.length - (intOf x).toNat)
      case atStart => exact ⟨0, by omega, rfl, HR9.out, But.refl _ _⟩
      case round =>
        obtain ⟨j, hj, rfl, hr, hb⟩ := hrel
        obtain ⟨wz, rfl⟩ : ∃ wz : World, wz = wr := ⟨_, rfl⟩
        have HR := Lib.hid hr
        have HB := Lib.hid hb
        clear hr hb
        by_cases hlt : j < P.length
        · obtain ⟨p, hp⟩ : ∃ p, P[j]? = some p := ⟨_, List.getElem?_eq_getElem hlt⟩
          obtain ⟨hgood, hin⟩ := HL.out.good p (List.mem_of_getElem? hp)
          obtain ⟨hsg, hso, hsl⟩ := HL.out.seg hp
          obtain ⟨gq, hAq⟩ := own_hd HL.out.own (show 0 < P.length by omega)
          have hog := HL.out.own.lt gq (by rw [hAq]; rfl)
          subst hAq
          have hoz := own_but_kept HO9.out HB.out (fun k hk e => by
            have h1 : k = gr := e
            have h2 : some gq = some k := hk
            injection h2 with h2
            omega)
          have c0 := hoz.cells rfl (j * 4 + 0) _ ((fm_get encV_len P j 0 p hp (by omega)).trans rfl)
          have c1 := hoz.cells rfl (j * 4 + 1) _ ((fm_get encV_len P j 1 p hp (by omega)).trans rfl)
          have c2 := hoz.cells rfl (j * 4 + 2) _ ((fm_get encV_len P j 2 p hp (by omega)).trans rfl)
          have c3 := hoz.cells rfl (j * 4 + 3) _ ((fm_get encV_len P j 3 p hp (by omega)).trans rfl)
          rw [add_plain, Nat.zero_add] at c0 c1 c2 c3
          rw [Nat.add_zero] at c0
          replace c0 : wz.cell? ⟨gq, j * 4, none⟩ = some (I p.wd) := c0
          replace c1 : wz.cell? ⟨gq, j * 4 + 1, none⟩ = some (.int .u64 p.num) := c1
          replace c2 : wz.cell? ⟨gq, j * 4 + 2, none⟩ = some (.bool p.raw) := c2
          replace c3 : wz.cell? ⟨gq, j * 4 + 3, none⟩ = some (.slice p.B p.bs.length p.bc) := c3
          have hlt2 : (j : Int) < P.length := by omega
          obtain ⟨wa, hwa⟩ : ∃ wa, wa = wz.alloc (.cells #[I p.wd, .int .u64 p.num, .bool p.raw, .slice p.B p.bs.length p.bc] 31) := ⟨_, rfl⟩
          have hba : Blk wa wz.heap.size 31 #[I p.wd, .int .u64 p.num, .bool p.raw, .slice p.B p.bs.length p.bc] := by rw [hwa]; exact Blk.new _ _ _
          have hsa : Safe wz wa := by rw [hwa]; exact (But.refl _ wz).alloc _
          have hra := HR.out.safe hsa
          have hgz : gr < wz.heap.size := HR.out.hb.lt
          have hne : ¬ (· = gr) wz.heap.size := fun e => by have : wz.heap.size = gr := e; omega
          have hu64 := hin.num
          have hbl := hin.bl
          have hbc := hin.bc
          have HIN := Lib.hid hin
          have HG := Lib.hid hgood
          have HSG := Lib.hid hsg
          have HSO := Lib.hid hso
          have HSL2 := Lib.hid hsl
          have HWA := Lib.hid hwa
          have HBA := Lib.hid hba
          have HSA := Lib.hid hsa
          have HNE := Lib.hid hne
          have hseg3 : ((P.take j).flatMap encB).length + (encB p).length ≤ 120 := by omega
          cases hraw : p.raw
          · rw [hraw] at c2 HWA HBA
            have hN := rnum_part gr (padL B) _ p wa.drew (hra.safe (But.refl _ wa).drew) hgood hraw hseg3 hsg
            have d0 := (Blk.drew HBA.out).cell' (i := 0) rfl
            have d1 := (Blk.drew HBA.out).cell' (i := 1) rfl
            have HN := Lib.hid hN
            clear hN hra hgood hsg hso hsl hwa hba hsa hin hp hne hraw hoz hog
            go_wp2_with fail
            rw [← HWA.out]
            go_region_with ((go_at_call 14; (with_reducible refine (HN.out).mono ?_); rintro _ w2 ⟨rfl, hr2, hb2⟩; have e0 := (HBA.out.drew.but hb2 HNE.out).cell' (i := 0) rfl; have e1 := (HBA.out.drew.but hb2 HNE.out).cell' (i := 1) rfl; have HR2 := Lib.hid hr2; have HB2 := Lib.hid hb2; clear hr2 hb2))
            all_goals
              have hb3 : But (· = gr) w9 w2 := (HB.out.trans ((Safe.but HSA.out).trans ((But.refl _ wa).drew.trans HB2.out)))
              have HB3 := Lib.hid hb3
              have hr3 := HR2.out
              rw [HSO.out] at hr3
              have HR3 := Lib.hid hr3
              clear hb3 hr3
              go_wp2_with fail
              go_roundw
              case rel => exact ⟨j + 1, by omega, by go_num, HR3.out, HB3.out⟩
              case measure => simp [intOf]; omega
          · rw [hraw] at c2 HWA HBA
            have hN := rbytes_part gr (padL B) _ p wa.drew (hra.safe (But.refl _ wa).drew) hgood hraw hseg3 hsg
            have d0 := (Blk.drew HBA.out).cell' (i := 0) rfl
            have d3 := (Blk.drew HBA.out).cell' (i := 3) rfl
            have HN := Lib.hid hN
            have hbl3 : p.bs.length ≤ 9223372036854775807 := by omega
            have hsw : Safe w wa.drew := (((HL.out.safe.trans HS9.out).step HB.out (fun k hk => .inr (by have : k = gr := hk; have := HL.out.safe.size; omega))).trans HSA.out).drew
            have hrp : Rd U wa.drew p.B p.bs := hin.rd.safe hsw
            have hnp : 0 < p.bs.length → ∀ ad, p.B = some ad → ¬ (· = gr) ad.block := fun h0 ad hA e => by
              have h1 := hin.rd.lt h0 ad hA
              have h2 : ad.block = gr := e
              have := HL.out.safe.size
              omega
            have HRP := Lib.hid hrp
            have HNP := Lib.hid hnp
            clear hN hra hgood hsg hso hsl hwa hba hsa hin hp hne hraw hoz hog hsw hrp hnp
            go_wp2_with fail
            rw [← HWA.out]
            go_region_held3 (fun w' => w'.cell? ⟨wz.heap.size, 0, none⟩ = some (I p.wd) ∧ w'.cell? ⟨wz.heap.size, 3, none⟩ = some (.slice p.B p.bs.length p.bc))
              (first | (with_reducible exact ⟨f0, f3⟩) | (with_reducible exact ⟨e0, e3⟩) | go_keep)
              ((first
              | (go_at_call 13; (with_reducible refine (HN.out).mono ?_); rintro _ w2 ⟨Ag, ng, cg, rfl, hg1, hg2, _, hrd2, hr2, hb2⟩; have hg3 : (p.bs.length : Int) ≤ cg := Int.ofNat_le.2 (Nat.le_trans hg1 hg2); have e0 := (HBA.out.drew.but hb2 HNE.out).cell' (i := 0) rfl; have e3 := (HBA.out.drew.but hb2 HNE.out).cell' (i := 3) rfl; have hrp2 : Rd U w2 p.B p.bs := (fun h0 => (HRP.out.but hb2 (HNP.out h0)) h0); have HEQ := Lib.hid (equal_same Ag p.B cg p.bc p.bs w2 hrd2 hrp2 hbl3); have HR2 := Lib.hid hr2; have HB2 := Lib.hid hb2; clear hr2 hb2 hrd2 hrp2)
              | (go_at_call 12; (with_reducible refine (HEQ.out).mono ?_); rintro _ w3 ⟨rfl, hs3⟩; have f0 := hs3.cell e0 id; have f3 := hs3.cell e3 id; have HS3 := Lib.hid hs3; clear hs3)))
            all_goals
              have hb3 : But (· = gr) w9 w3 := (HB.out.trans ((Safe.but HSA.out).trans ((But.refl _ wa).drew.trans (HB2.out.trans (Safe.but HS3.out)))))
              have HB3 := Lib.hid hb3
              have hr3 := HR2.out.safe HS3.out
              rw [HSO.out] at hr3
              have HR3 := Lib.hid hr3
              clear hb3 hr3
              go_wp2_with fail
              go_roundw
              case rel => exact ⟨j + 1, by omega, by go_num, HR3.out, HB3.out⟩
              case measure => simp [intOf]; omega
        · obtain rfl : j = P.length := by omega
          have hL := HL.out
          have e0 : (P.take P.length).flatMap encB = B := by rw [List.take_length]; exact hL.eB.symm
          have hr := HR.out
          rw [e0] at hr
          have hz : ∀ j, B.length ≤ j → j < 128 → (padL B)[j]? = some 0 := fun j h1 h2 => by
            unfold padL
            rw [List.getElem?_append_right h1, List.getElem?_replicate, if_pos (by omega)]
          have hCl := rclose_yes gr (padL B) B.length wz.drew (hr.safe (But.refl _ wz).drew) (by omega) hz
          have hgz : gr < wz.heap.size := hr.hb.lt
          have hbz : Blk wz g5 24 (encS S []) := HB9.out.but HB.out (fun e => by have : g5 = gr := e; omega)
          have hsz : Safe w wz := (hL.safe.trans HS9.out).step HB.out (fun k hk => .inr (by have : k = gr := hk; have := hL.safe.size; omega))
          have hl1 := sl_to g5 124 (by omega)
          have hl2 := sl_to g5 4 (by omega)
          have hl3 := sl_mid g5 4 124 (by omega) (by omega) (by omega)
          rw [show ((124 : Nat) : Int) = 124 from rfl] at hl1 hl3
          rw [show ((4 : Nat) : Int) = 4 from rfl] at hl2 hl3
          have hl3 : ∀ W, (Instr.sliceAt 24 (.pointer (some ⟨g5, 0, none⟩)) (some (I 4)) (some (I 124)) none).run Try.prog W = .ok (.slice (some ⟨g5, 4, none⟩) 120 124) W := hl3
          have hT1 : ((S.drop 0).take 4 ++ (S.drop 4).take 120) = S.take 124 := by
            rw [List.drop_zero]
            conv => rhs; rw [show 124 = 4 + 120 from rfl, List.take_add]
          have hSl := HSL.out
          have hlA : (((S.drop 0).take 4).map U).length = 4 * 1 := by simp; omega
          have hlB : (((S.drop 4).take 120).map U).length = 120 * 1 := by simp; omega
          have hlC : (S.take 124).length = 124 := by simp; omega
          have hu124 : ∀ x ∈ S.take 124, 0 ≤ x ∧ x < 256 := fun x hx => HSU.out x (List.mem_of_mem_take hx)
          have hcr : ∀ (A : Option Addr) (c : Nat) (W : World), Rd U W A (S.take 124) → Calls Try.prog 16 #[.slice A 124 c] W fun e w' => e = .returned (.int .u32 (crcM (S.take 124))) ∧ W = w' := fun A c W h => by
            have := crc_any A (S.take 124) c W h hu124 (by omega)
            rwa [hlC] at this
          have hrdS : ∀ W, Blk W g5 24 (encS S []) → Rd U W (some ⟨g5, 0, none⟩) (S.take 124) := fun W h => by
            have h0 : Rd U W (some ⟨g5, 0, none⟩) S := fun _ => ⟨_, rfl, fun k x hk => by
              rw [add_plain, Nat.zero_add]
              exact h.cell' (encS_byte hk)⟩
            exact h0.take 124
          have hoA : ∀ u ∈ ((S.drop 0).take 4).map U, u.oneCell' = true := by intro u hu; rw [List.mem_map] at hu; obtain ⟨x, _, rfl⟩ := hu; rfl
          have hoB : ∀ u ∈ ((S.drop 4).take 120).map U, u.oneCell' = true := by intro u hu; rw [List.mem_map] at hu; obtain ⟨x, _, rfl⟩ := hu; rfl
          have h63a : 0 + 4 ≤ maxLen := by simp [maxLen]
          have h63b : 4 + 120 ≤ maxLen := by simp [maxLen]
          have hbya : (0 + 4) * 1 ≤ 140737488355328 := by omega
          have hbyb : (4 + 120) * 1 ≤ 140737488355328 := by omega
          have HCL := Lib.hid hCl
          have HBZ := Lib.hid hbz
          have HSZ := Lib.hid hsz
          have HLA := Lib.hid hlA
          have HLB := Lib.hid hlB
          have HCR := Lib.hid hcr
          have HRD := Lib.hid hrdS
          have HOA := Lib.hid hoA
          have HOB := Lib.hid hoB
          have HT1 := Lib.hid hT1
          have HLC := Lib.hid hlC
          have HG5 : Hid (g5 < wz.heap.size) := by show g5 < wz.heap.size; omega
          generalize crcM (S.take 124) = cr at *
          clear hCl hbz hsz hlA hlB hcr hrdS hoA hoB hT1 hSl hlC hu124 hr hz hL e0
          go_wp2_with fail
          go_region_law (first
            | (refine step_pushAllW slBytes (by rfl) (.tmp 172) (.tmp 173) (by rfl) wz.heap.size (.slice (some ⟨wc.heap.size, 0, none⟩) 0 0) 0 [] (by rfl) (own_none (Blk.new wc 5 #[]) HSC.out.size) (some ⟨g5, 0, none⟩) 4 128 (((S.drop 0).take 4).map U) (by rfl) HLA.out (cells_sect (HBC.out.alloc _) 0 4) HOA.out h63a hbya (Nat.le_trans HSC.out.size ((But.refl (fun _ => False) wc).alloc _).size) ?_; intro v1 wd ho hg hd; rw [List.nil_append, show 0 + 4 = 4 from rfl] at ho; have hbd := (HBC.out.alloc (.cells #[] 5)).but (own_but (own_none (Blk.new wc 5 #[]) HSC.out.size) hg) (Nat.not_le.2 HG5.out); have HBD := Lib.hid hbd; have HOD := Lib.hid ho; have HSD := Lib.hid ((HSZ.out.trans ((But.refl _ wz).drew.trans (HSC.out.alloc _))).step (own_but (own_none (Blk.new wc 5 #[]) HSC.out.size) hg) (fun k hk => Or.inr (Nat.le_trans HSZ.out.size hk))); have HZD := Lib.hid (Nat.le_trans (Nat.le_trans HSC.out.size ((But.refl (fun _ => False) wc).alloc (.cells #[] 5)).size) (But.of_grown hg).size); clear ho hg hd hbd)
            | (refine step_pushAllW slBytes (by rfl) (.tmp 174) (.tmp 175) (by rfl) wz.heap.size v1 4 _ (by rfl) HOD.out (some ⟨g5, 4, none⟩) 120 124 (((S.drop 4).take 120).map U) (by rfl) HLB.out (cells_sect HBD.out 4 120) HOB.out h63b hbyb HZD.out ?_; intro v2 we ho hg hd; rw [show 4 + 120 = 124 from rfl] at ho; obtain ⟨A2, c2, rfl, -⟩ := own_form ho; have hbe := HBD.out.but (own_but HOD.out hg) (Nat.not_le.2 HG5.out); have HBE := Lib.hid hbe; have HCR2 := Lib.hid (HCR.out _ c2 _ (rd_two ho HT1.out HLC.out)); have HSE := Lib.hid (HSD.out.step (own_but HOD.out hg) (fun k hk => Or.inr (Nat.le_trans HSZ.out.size hk))); clear ho hg hd hbe)
            | (rw [if_pos (by rfl)]; go_simp; first | (go_at_call 15; (with_reducible refine (HCL.out).mono ?_); rintro _ wc ⟨rfl, hsc⟩; have hbc := (HBZ.out.drew.but hsc id); have HBC := Lib.hid hbc; have HSC := Lib.hid hsc; clear hbc hsc) | (go_at_call 16; (first | (with_reducible refine (HCR2.out).mono ?_) | (with_reducible refine (HCR.out _ _ _ (HRD.out _ HBC.out)).mono ?_) | (with_reducible refine (HCR.out _ _ _ (HRD.out _ (HBC.out.alloc _))).mono ?_) | (with_reducible refine (HCR.out _ _ _ (HRD.out _ HBD.out)).mono ?_) | (with_reducible refine (HCR.out _ _ _ (HRD.out _ HBE.out)).mono ?_)); rintro _ _ ⟨rfl, rfl⟩)))
          all_goals
            go_wp2_with fail
            go_ret
            exact ⟨rfl, HSE.out⟩
end Go.Proofs.Ytgbdnghbamaecaa
