/- NameLasts, walked. -/
import Derived.Test.YtodlapkmcnmmhaaDoorMq
import Derived.Deep.RegionHeld3
namespace Go.Proofs.YtodlapkmcnmmhaaDoor
open Go.RowKit
set_option linter.unusedSimpArgs false
set_option linter.unusedVariables false

set_option maxRecDepth 100000 in
set_option maxHeartbeats 8000000 in
theorem nameLasts_any (l : Bs) (w : World) (hm : ∃ m, w.cell? ⟨0, 0, none⟩ = some (.int .i64 m)) : Calls Tryd.prog 5 #[Sv l] w fun e w' => e = .returned (.bool true) ∧ Safe w w' := by
  have HM := Lib.hid (fun (w' : World) (hs : Safe w w') => (show ∃ m, w'.cell? ⟨0, 0, none⟩ = some (.int .i64 m) from hm.elim fun m h => ⟨m, hs.cell h id⟩))
  have HAW := Lib.hid (awake_any w hm)
  have HSH := Lib.hid (short_any l)
  clear hm
  obtain ⟨s, hs⟩ : ∃ s, s = l.take 300 := ⟨_, rfl⟩
  rw [← hs] at HSH
  have hsl : s.length ≤ 300 := by rw [hs]; simp; omega
  clear hs
  rcases parse_kinds s with ⟨n, hn, hp⟩ | ⟨a, d, P, o, hp, hP⟩ | ⟨a, d, X, y, o, hp, hy⟩
  · have HP := Lib.hid (fun W (hs : Safe w W) => parse_ok hp W (by omega) (HM.out W hs))
    have hnb : (n == 0) = false := by simpa using hn
    clear hp hn
    go_enter Tryd.func5, Tryd.ntmps5
    go_wp2_with fail
    refine (HAW.out).mono ?_
    rintro _ w1 ⟨rfl, hs1⟩
    have S1 := Lib.hid hs1
    clear hs1
    go_wp2_with fail
    refine (HSH.out _).mono ?_
    rintro _ w2 ⟨rfl, rfl⟩
    go_wp2_with fail
    refine (HP.out _ S1.out).mono ?_
    rintro _ w3 ⟨A3, c3, rfl, hP3, hs3⟩
    have S3 : Hid (Safe w (w3.alloc (.cells #[.bool false, .bool false, .slice A3 ([] : List Bs).length c3] 25))) := Lib.hid ((S1.out.trans hs3).alloc _)
    clear hs3 hP3
    go_wp2_with fail
    go_ret
    exact ⟨rfl, S3.out⟩
  · have HP := Lib.hid (fun W (hs : Safe w W) => parse_ok hp W (by omega) (HM.out W hs))
    have hN := o.len
    simp only at hN
    have HL := Lib.hid (fun A c b W (h : Pr W b A P c) => last_no a d A P c W h.rd h.ad (by omega) hP)
    have hcs : (P.length = 0) ∨ ((0 : Int) < P.length ∧ ∀ A c b W, Pr W b A P c → ∃ g, A = some ⟨g, 0, none⟩ ∧ W.cell? ⟨g, P.length - 1, none⟩ = some (Sv [46, 46])) := by
      by_cases h0 : P = []
      · exact .inl (by rw [h0]; rfl)
      · have hl := List.length_pos_iff.2 h0
        refine .inr ⟨by omega, fun A c b W hPr => ?_⟩
        obtain ⟨g, rfl⟩ := hPr.ad hl
        refine ⟨g, rfl, ?_⟩
        have hy := hP.resolve_left h0
        rw [List.getLast?_eq_getElem?] at hy
        obtain ⟨ad, ea, hcl⟩ := hPr.rd hl
        injection ea with ea
        subst ea
        have := hcl _ _ hy
        rwa [add_plain, Nat.zero_add] at this
    have HCS := Lib.hid hcs
    clear hp o hP hcs
    go_enter Tryd.func5, Tryd.ntmps5
    go_wp2_with fail
    refine (HAW.out).mono ?_
    rintro _ w1 ⟨rfl, hs1⟩
    have S1 := Lib.hid hs1
    clear hs1
    go_wp2_with fail
    refine (HSH.out _).mono ?_
    rintro _ w2 ⟨rfl, rfl⟩
    go_wp2_with fail
    refine (HP.out _ S1.out).mono ?_
    rintro _ w3 ⟨A3, c3, rfl, hP3, hs3⟩
    obtain ⟨w5, hw5⟩ : ∃ w5, w5 = w3.alloc (.cells #[.bool a, .bool d, .slice A3 P.length c3] 25) := ⟨_, rfl⟩
    have S5 : Hid (Safe w w5) := Lib.hid (by rw [hw5]; exact (S1.out.trans hs3).alloc _)
    have B5 : Hid (Blk w5 w3.heap.size 25 #[.bool a, .bool d, .slice A3 P.length c3]) := Lib.hid (by rw [hw5]; exact Blk.new _ _ _)
    have P5 : Hid (Pr w5 w1.heap.size A3 P c3) := Lib.hid (by rw [hw5]; exact hP3.safe ((But.refl _ _).alloc _))
    have HW5 := Lib.hid hw5
    clear hs3 hP3 hw5
    go_wp2_with fail
    rw [← HW5.out]
    refine (HL.out A3 c3 _ _ P5.out).mono ?_
    rintro _ w6 ⟨rfl, hs6⟩
    obtain ⟨w7, hw7⟩ : ∃ w7, w7 = w6.alloc (.cells #[.bool false, .bool false, .slice none 0 0] 25) := ⟨_, rfl⟩
    have hs7 : Safe w5 w7 := by rw [hw7]; exact hs6.alloc _
    have S7 : Hid (Safe w w7) := Lib.hid (S5.out.trans hs7)
    have B7 := Lib.hid (B5.out.but hs7 id)
    have U7 : Hid (Blk w7 w6.heap.size 25 #[.bool false, .bool false, .slice none 0 0]) := Lib.hid (by rw [hw7]; exact Blk.new _ _ _)
    have P7 := Lib.hid (P5.out.safe hs7)
    have HW7 := Lib.hid hw7
    have hcs := HCS.out
    clear hs6 hs7
    have b2 : w7.cell? ⟨w3.heap.size, 2, none⟩ = some (.slice A3 P.length c3) := B7.out.cell' (i := 2) rfl
    obtain ⟨u0, u1, u2⟩ := cells3 U7.out
    rcases hcs with hn | ⟨hn, hf⟩
    · have hnb : ((P.length : Int) == 0) = true := by simp [hn]
      have hni : (P.length : Int) = 0 := by omega
      rw [hw7] at b2 u0 u1 u2
      clear hw7 hn
      go_wp2_with fail
      rw [← HW7.out]
      go_ret
      exact ⟨rfl, S7.out⟩
    · have hnb : ((P.length : Int) == 0) = false := beq_eq_false_iff_ne.2 (by omega)
      obtain ⟨g, rfl, cg⟩ := hf _ _ _ _ P7.out
      rw [hw7] at b2 u0 u1 u2 cg
      clear hw7 hf
      go_wp2_with fail
      rw [← HW7.out]
      go_ret
      exact ⟨rfl, S7.out⟩
  · have hN := o.len
    have hgy : GoodPart y := o.good y (by simp)
    have HP := Lib.hid (fun W (hs : Safe w W) => parse_ok hp W (by omega) (HM.out W hs))
    have HO := Lib.hid (fun W (hs : Safe w W) => parse_ok (parse_one hgy hy) W (by have := hgy.len; omega) (HM.out W hs))
    simp only [List.length_append, List.length_singleton] at hN HP
    have HL := Lib.hid (fun g c W (h : Rd Sv W (some ⟨g, 0, none⟩) (X ++ [y])) (hc : X.length + 1 ≤ c) => last_yes a d g c X y W h hc (by omega) hy)
    have HX := Lib.hid (show ∀ A c b W, Pr W b A (X ++ [y]) c → ∃ g, A = some ⟨g, 0, none⟩ ∧ X.length + 1 ≤ c from fun A c b W h => by
      obtain ⟨g, hg⟩ := h.ad (by simp)
      exact ⟨g, hg, by have := h.cap; simpa using this⟩)
    have HG := Lib.hid (show ∀ g W, Rd Sv W (some ⟨g, 0, none⟩) (X ++ [y]) → W.cell? ⟨g, X.length, none⟩ = some (Sv y) from fun g W hr => by
      obtain ⟨ad, ea, hcl⟩ := hr (by simp)
      injection ea with ea
      subst ea
      have := hcl X.length y (by simp)
      rwa [add_plain, Nat.zero_add] at this)
    have HTK := Lib.hid (show ∀ g W, Rd Sv W (some ⟨g, 0, none⟩) (X ++ [y]) → Rd Sv W (some ⟨g, 0, none⟩) X from fun g W hr => by have := hr.take X.length; rwa [List.take_left] at this)
    obtain ⟨m, hm⟩ : ∃ m, m = X.length := ⟨_, rfl⟩
    rw [← hm] at hN HP HL HX HG
    have HMX := Lib.hid hm
    have hyb : (y == [46, 46]) = false := by simpa using hy
    have hmb : ((m : Int) + 1 == 0) = false := beq_eq_false_iff_ne.2 (by omega)
    clear hp o hgy hm hy
    go_enter Tryd.func5, Tryd.ntmps5
    go_wp2_with fail
    refine (HAW.out).mono ?_
    rintro _ w1 ⟨rfl, hs1⟩
    have S1 := Lib.hid hs1
    clear hs1
    go_wp2_with fail
    refine (HSH.out _).mono ?_
    rintro _ w2 ⟨rfl, rfl⟩
    go_wp2_with fail
    refine (HP.out _ S1.out).mono ?_
    rintro _ w3 ⟨A3, c3, rfl, hP3, hs3⟩
    obtain ⟨g, rfl, hc3⟩ := HX.out _ _ _ _ hP3
    obtain ⟨w5, hw5⟩ : ∃ w5, w5 = w3.alloc (.cells #[.bool a, .bool d, .slice (some ⟨g, 0, none⟩) (m + 1) c3] 25) := ⟨_, rfl⟩
    have S5 : Hid (Safe w w5) := Lib.hid (by rw [hw5]; exact (S1.out.trans hs3).alloc _)
    have B5 : Hid (Blk w5 w3.heap.size 25 #[.bool a, .bool d, .slice (some ⟨g, 0, none⟩) (m + 1) c3]) := Lib.hid (by rw [hw5]; exact Blk.new _ _ _)
    have R5 : Hid (Rd Sv w5 (some ⟨g, 0, none⟩) (X ++ [y])) := Lib.hid (by rw [hw5]; exact hP3.rd.safe ((But.refl _ _).alloc _))
    have HW5 := Lib.hid hw5
    clear hs3 hP3 hw5
    go_wp2_with fail
    rw [← HW5.out]
    refine (HL.out g c3 _ R5.out hc3).mono ?_
    rintro _ w6 ⟨v6, rfl, ho6, hs6⟩
    obtain ⟨A6, c6, rfl, hP6⟩ := (show ∃ A c, v6 = .slice A m c ∧ Pr w6 w5.heap.size A X c from by
      rw [HMX.out]
      rw [HMX.out] at ho6
      exact Pr.of ho6)
    obtain ⟨w7, hw7⟩ : ∃ w7, w7 = w6.alloc (.cells #[.bool a, .bool true, .slice A6 m c6] 25) := ⟨_, rfl⟩
    have hs7 : Safe w5 w7 := by rw [hw7]; exact hs6.alloc _
    have S7 : Hid (Safe w w7) := Lib.hid (S5.out.trans hs7)
    have B7 := Lib.hid (B5.out.but hs7 id)
    have U7 : Hid (Blk w7 w6.heap.size 25 #[.bool a, .bool true, .slice A6 m c6]) := Lib.hid (by rw [hw7]; exact Blk.new _ _ _)
    have R7 := Lib.hid (R5.out.safe hs7)
    have U6 := Lib.hid (show Pr w7 w5.heap.size A6 X c6 by rw [hw7]; exact hP6.safe ((But.refl _ _).alloc _))
    have HW7 := Lib.hid hw7
    clear hs6 hs7 ho6 hP6
    obtain ⟨b0, b1, b2⟩ := cells3 B7.out
    have cg := HG.out g _ R7.out
    rw [hw7] at b0 b1 b2 cg
    clear hw7
    have i0 : (0 : Int) ≤ (m : Int) := by omega
    have i1 : (m : Int) ≤ (c3 : Int) := by omega
    have i2 : (m : Int) < (m : Int) + 1 := by omega
    have i3 : IntKind.i64.wrap (m : Int) = (m : Int) := IntWalk.i64_in _ (by omega)
    have i4 : IntKind.i64.wrap ((m : Int) + 1 - 1) = (m : Int) := by rw [Int.add_sub_cancel]; exact i3
    have i5 : IntKind.i64.wrap ((m : Int) + 1) = (m : Int) + 1 := IntWalk.i64_in _ (by omega)
    go_wp2_with fail
    clear b0 b1 b2 cg
    rw [← HW7.out]
    obtain ⟨b0, b1, b2⟩ := cells3 B7.out
    have cg := HG.out g _ R7.out
    have b0a : (w7.alloc (.cells #[.bool false, .bool false, .slice none 0 0] 49)).cell? ⟨w3.heap.size, 0, none⟩ = some (.bool a) := cell_alloc b0 _
    have b2a : (w7.alloc (.cells #[.bool false, .bool false, .slice none 0 0] 49)).cell? ⟨w3.heap.size, 2, none⟩ = some (.slice (some ⟨g, 0, none⟩) (m + 1) c3) := cell_alloc b2 _
    go_region
    obtain ⟨w8, hw8⟩ : ∃ w8, w8 = (w7.alloc (.cells #[.bool a, .bool true, .slice (some ⟨g, 0, none⟩) m c3] 49)).drew := ⟨_, rfl⟩
    have hs8 : Safe w7 w8 := by rw [hw8]; exact ((But.refl _ _).alloc _).drew
    have S8 : Hid (Safe w w8) := Lib.hid (S7.out.trans hs8)
    have B8 := Lib.hid (B7.out.but hs8 id)
    have U8 := Lib.hid (U7.out.but hs8 id)
    have V8 : Hid (Blk w8 w7.heap.size 49 #[.bool a, .bool true, .slice (some ⟨g, 0, none⟩) m c3]) := Lib.hid (by rw [hw8]; exact (Blk.new _ _ _).drew)
    have R8 := Lib.hid (R7.out.safe hs8)
    have Q8 := Lib.hid (U6.out.safe hs8)
    rw [← hw8]
    clear hw8 hs8 b0 b1 b2 cg b0a b2a
    obtain ⟨b0, b1, b2⟩ := cells3 B8.out
    obtain ⟨u0, u1, u2⟩ := cells3 U8.out
    obtain ⟨x0, x1, x2⟩ := cells3 V8.out
    have cg := HG.out g _ R8.out
    have HT := Lib.hid (fun W => told_any a true A6 m c6 W)
    have HSM : Hid (∀ W, Safe w8 W → Calls Tryd.prog 19 #[Pv a true A6 m c6, Pv a true (some ⟨g, 0, none⟩) m c3] W fun e w' => e = .returned (.bool true) ∧ Safe W w') := Lib.hid (fun W hs => by
      have := same_any a true a true A6 (some ⟨g, 0, none⟩) X X c6 c3 W (Q8.out.rd.safe hs) ((HTK.out g _ R8.out).safe hs) (by rw [← HMX.out]; omega) (by rw [← HMX.out]; omega)
      rw [← HMX.out] at this
      simpa using this)
    have hkeep : ∀ W, Safe w8 W → (W.cell? ⟨w3.heap.size, 2, none⟩ = some (.slice (some ⟨g, 0, none⟩) (m + 1) c3) ∧ W.cell? ⟨g, m, none⟩ = some (Sv y) ∧ W.cell? ⟨w6.heap.size, 0, none⟩ = some (.bool a) ∧ W.cell? ⟨w6.heap.size, 1, none⟩ = some (.bool true) ∧ W.cell? ⟨w6.heap.size, 2, none⟩ = some (.slice A6 m c6) ∧
        W.cell? ⟨w7.heap.size, 0, none⟩ = some (.bool a) ∧ W.cell? ⟨w7.heap.size, 1, none⟩ = some (.bool true) ∧ W.cell? ⟨w7.heap.size, 2, none⟩ = some (.slice (some ⟨g, 0, none⟩) m c3)) :=
      fun W S => ⟨S.cell b2 id, S.cell cg id, S.cell u0 id, S.cell u1 id, S.cell u2 id, S.cell x0 id, S.cell x1 id, S.cell x2 id⟩
    have HKEEP := Lib.hid hkeep
    clear hkeep
    go_wp2_with fail
    go_region_held3 (fun w' => w'.cell? ⟨w3.heap.size, 2, none⟩ = some (.slice (some ⟨g, 0, none⟩) (m + 1) c3) ∧ w'.cell? ⟨g, m, none⟩ = some (Sv y) ∧ w'.cell? ⟨w6.heap.size, 0, none⟩ = some (.bool a) ∧ w'.cell? ⟨w6.heap.size, 1, none⟩ = some (.bool true) ∧ w'.cell? ⟨w6.heap.size, 2, none⟩ = some (.slice A6 m c6) ∧
        w'.cell? ⟨w7.heap.size, 0, none⟩ = some (.bool a) ∧ w'.cell? ⟨w7.heap.size, 1, none⟩ = some (.bool true) ∧ w'.cell? ⟨w7.heap.size, 2, none⟩ = some (.slice (some ⟨g, 0, none⟩) m c3))
      (first | (with_reducible exact HK2.out) | (with_reducible exact HK1.out) | go_keep)
      ((first
        | (go_at_call 20; refine (HT.out _).mono ?_; rintro _ w9 ⟨rfl, hs9⟩; have HS9 := Lib.hid ((But.refl (fun _ => False) w8).drew.trans hs9); have HK1 := Lib.hid (HKEEP.out _ HS9.out); clear hs9)
        | (go_at_call 19; refine (HSM.out _ HS9.out).mono ?_; rintro _ w10 ⟨rfl, hs10⟩; have HS10 := Lib.hid (HS9.out.trans hs10); have HK2 := Lib.hid (HKEEP.out _ HS10.out); clear hs10)))
    have S10 := Lib.hid (S8.out.trans HS10.out)
    have B10 := Lib.hid (B8.out.but HS10.out id)
    have U10 := Lib.hid (U8.out.but HS10.out id)
    have R10 := Lib.hid (R8.out.safe HS10.out)
    have Q10 := Lib.hid (Q8.out.safe HS10.out)
    clear HS9 HS10 HK1 HK2 HKEEP b0 b1 b2 u0 u1 u2 x0 x1 x2 cg
    go_wp2_with fail
    refine (HO.out _ S10.out).mono ?_
    rintro _ w11 ⟨A11, c11, rfl, hP11, hs11⟩
    obtain ⟨w12, hw12⟩ : ∃ w12, w12 = w11.alloc (.cells #[.bool false, .bool false, .slice A11 1 c11] 25) := ⟨_, rfl⟩
    have hs12 : Safe w10 w12 := by rw [hw12]; exact hs11.alloc _
    have S12 := Lib.hid (S10.out.trans hs12)
    have B12 := Lib.hid (B10.out.but hs12 id)
    have U12 := Lib.hid (U10.out.but hs12 id)
    have O12 : Hid (Blk w12 w11.heap.size 25 #[.bool false, .bool false, .slice A11 1 c11]) := Lib.hid (by rw [hw12]; exact Blk.new _ _ _)
    have P12 := Lib.hid (show Pr w12 w10.heap.size A11 [y] c11 by rw [hw12]; exact hP11.safe ((But.refl _ _).alloc _))
    have R12 := Lib.hid (R10.out.safe hs12)
    have Q12 := Lib.hid (Q10.out.safe hs12)
    have HW12 := Lib.hid hw12
    obtain ⟨u0, u1, u2⟩ := cells3 U12.out
    rw [hw12] at u0 u1 u2
    clear hs11 hs12 hP11 hw12 S10 B10 U10 R10 Q10
    have HJ : Hid (∀ W, Safe w12 W → Calls Tryd.prog 24 #[Pv a true A6 m c6, Pv false false A11 1 c11] W fun e w' => ∃ v, e = .returned (.agg #[.bool a, .bool false, v]) ∧ w'.ownsRow W.heap.size 9 1 v (m + 1) ((X ++ [y]).map Sv) ∧ Safe W w') := Lib.hid (fun W hs => by
      have := joinP_any a true false false A6 A11 X [y] c6 c11 W (Q12.out.rd.safe hs) (P12.out.rd.safe hs) (P12.out.ad) (by rw [← HMX.out]; omega) (by simp)
      unfold JRet at this
      simp only [joinPM, Bool.false_eq_true, if_false, List.length_append, List.length_singleton] at this
      rw [← HMX.out] at this
      simpa using this)
    go_wp2_with fail
    rw [← HW12.out]
    refine (HJ.out _ (But.refl _ _)).mono ?_
    rintro _ w13 ⟨v13, rfl, ho13, hs13⟩
    obtain ⟨g4, c13, rfl, hP13⟩ := (show ∃ g4 c, v13 = .slice (some ⟨g4, 0, none⟩) (m + 1) c ∧ Rd Sv w13 (some ⟨g4, 0, none⟩) (X ++ [y]) from by
      have ho : w13.ownsRow w12.heap.size 9 1 v13 (X ++ [y]).length ((X ++ [y]).map Sv) := by rw [List.length_append, List.length_singleton, ← HMX.out]; exact ho13
      obtain ⟨A, c, rfl, hPr⟩ := Pr.of ho
      obtain ⟨g4, rfl⟩ := hPr.ad (by simp)
      exact ⟨g4, c, by rw [List.length_append, List.length_singleton, ← HMX.out], hPr.rd⟩)
    obtain ⟨w14, hw14⟩ : ∃ w14, w14 = w13.alloc (.cells #[.bool a, .bool false, .slice (some ⟨g4, 0, none⟩) (m + 1) c13] 25) := ⟨_, rfl⟩
    have hs14 : Safe w12 w14 := by rw [hw14]; exact hs13.alloc _
    have S14 := Lib.hid (S12.out.trans hs14)
    have B14 := Lib.hid (B12.out.but hs14 id)
    have J14 : Hid (Blk w14 w13.heap.size 25 #[.bool a, .bool false, .slice (some ⟨g4, 0, none⟩) (m + 1) c13]) := Lib.hid (by rw [hw14]; exact Blk.new _ _ _)
    have cj := HG.out g4 w14 (by rw [hw14]; exact hP13.safe ((But.refl _ _).alloc _))
    obtain ⟨b0, b1, b2⟩ := cells3 B14.out
    obtain ⟨j0, j1, j2⟩ := cells3 J14.out
    have HW14 := Lib.hid hw14
    rw [hw14] at b0 j0 j2 cj
    clear hs13 hs14 ho13 hP13 hw14 u0 u1 u2 b1 b2 j1
    go_wp2_with fail
    rw [← HW14.out]
    go_ret
    exact ⟨rfl, S14.out⟩
end Go.Proofs.YtodlapkmcnmmhaaDoor
