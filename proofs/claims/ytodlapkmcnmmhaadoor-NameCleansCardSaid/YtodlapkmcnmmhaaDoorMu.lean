/- NameCleans, walked. -/
import Derived.Test.YtodlapkmcnmmhaaDoorMt
namespace Go.Proofs.YtodlapkmcnmmhaaDoor
open Go.RowKit
set_option linter.unusedSimpArgs false
set_option linter.unusedVariables false

set_option maxRecDepth 100000 in
set_option maxHeartbeats 8000000 in
theorem nameCleans_any (l : Bs) (w : World) (hm : ∃ m, w.cell? ⟨0, 0, none⟩ = some (.int .i64 m)) : Calls Tryd.prog 7 #[Sv l] w fun e w' => e = .returned (.bool true) ∧ Safe w w' := by
  have HM := Lib.hid (fun (w' : World) (hs : Safe w w') => (show ∃ m, w'.cell? ⟨0, 0, none⟩ = some (.int .i64 m) from hm.elim fun m h => ⟨m, hs.cell h id⟩))
  have HAW := Lib.hid (awake_any w hm)
  have HSH := Lib.hid (short_any l)
  clear hm
  obtain ⟨s, hs⟩ : ∃ s, s = l.take 300 := ⟨_, rfl⟩
  rw [← hs] at HSH
  have hsl : s.length ≤ 300 := by rw [hs]; simp; omega
  have hsz : (⟨s.toArray⟩ : ByteArray).size = s.length := rfl
  have h47 : (⟨#[47]⟩ : ByteArray).size = 1 := rfl
  clear hs
  rcases parse_two (47 :: s) with ⟨n, hn, hp⟩ | ⟨a, d, P, o, hp⟩
  · have HP := Lib.hid (fun W (hs : Safe w W) => parse_ok hp W (by simp; omega) (HM.out W hs))
    have hnb : (n == 0) = false := by simpa using hn
    clear hp hn
    go_enter Tryd.func7, Tryd.ntmps7
    go_wp2_with fail
    refine (HAW.out).mono ?_
    rintro _ w1 ⟨rfl, hs1⟩
    have S1 := Lib.hid hs1
    clear hs1
    go_wp2_with fail
    refine (HSH.out _).mono ?_
    rintro _ w2 ⟨rfl, rfl⟩
    go_wp2_with fail
    rw [sv_pre]
    refine (HP.out _ S1.out).mono ?_
    rintro _ w3 ⟨A3, c3, rfl, hP3, hs3⟩
    have S3 : Hid (Safe w (w3.alloc (.cells #[.bool false, .bool false, .slice A3 ([] : List Bs).length c3] 25))) := Lib.hid ((S1.out.trans hs3).alloc _)
    clear hs3 hP3
    go_wp2_with fail
    go_ret
    exact ⟨rfl, S3.out⟩
  · have ha := parse_abs hp
    subst ha
    have HP := Lib.hid (fun W (hs : Safe w W) => parse_ok hp W (by simp; omega) (HM.out W hs))
    have hN := o.len
    have hct := clean_text o rfl
    simp only at hN
    have hcl := clean_len P
    obtain ⟨C, hC⟩ : ∃ C, C = cleanM P := ⟨_, rfl⟩
    have hCn : ∀ x ∈ C, x ≠ [46, 46] ∧ GoodPart x := fun x hx => by rw [hC] at hx; exact ⟨(clean_mem hx).1, o.good x (clean_mem hx).2⟩
    have htl : (textM ⟨true, false, C⟩).length < 100000 := by
      rw [← hC] at hct
      exact Nat.lt_of_le_of_lt (parse_inv hct).2.2.1 (by omega)
    have HCL := Lib.hid (fun A c W (h : Rd Sv W A P) => clean_any true d A P c W h (by omega))
    rw [← hC] at hct hcl
    have HCL := Lib.hid (show ∀ A c W, Rd Sv W A P → Calls Tryd.prog 25 #[Pv true d A P.length c] W fun e w' => ∃ A2 c2, e = .returned (.slice A2 C.length c2) ∧ Pr w' W.heap.size A2 C c2 ∧ Safe W w' from fun A c W h => (HCL.out A c W h).mono fun e w' ⟨v, he, ho, hs⟩ => by
      rw [← hC] at ho
      obtain ⟨A2, c2, rfl, hPr⟩ := Pr.of ho
      exact ⟨A2, c2, he, hPr, hs⟩)
    have HTX := Lib.hid (fun A c b W (h : Pr W b A C c) => text_any true false A C c W h.rd h.ad h.cap (by omega) (by
      have := htl
      unfold textM at this
      split at this
      · rename_i e; have e : C = [] := e.1; rw [e]; simp [joinM]
      · simp only [List.length_append] at this; omega))
    have HPT := Lib.hid (fun W (hs : Safe w W) => parse_ok hct W htl (HM.out W hs))
    have HC := Lib.hid hC
    have HCN := Lib.hid hCn
    clear hp o hC hCn hct htl
    generalize textM ⟨true, false, C⟩ = t at *
    generalize decide (C = []) = d2 at *
    go_enter Tryd.func7, Tryd.ntmps7
    go_wp2_with fail
    refine (HAW.out).mono ?_
    rintro _ w1 ⟨rfl, hs1⟩
    have S1 := Lib.hid hs1
    clear hs1
    go_wp2_with fail
    refine (HSH.out _).mono ?_
    rintro _ w2 ⟨rfl, rfl⟩
    go_wp2_with fail
    rw [sv_pre]
    refine (HP.out _ S1.out).mono ?_
    rintro _ w3 ⟨A3, c3, rfl, hP3, hs3⟩
    obtain ⟨w5, hw5⟩ : ∃ w5, w5 = w3.alloc (.cells #[.bool true, .bool d, .slice A3 P.length c3] 25) := ⟨_, rfl⟩
    have S5 : Hid (Safe w w5) := Lib.hid (by rw [hw5]; exact (S1.out.trans hs3).alloc _)
    have B5 : Hid (Blk w5 w3.heap.size 25 #[.bool true, .bool d, .slice A3 P.length c3]) := Lib.hid (by rw [hw5]; exact Blk.new _ _ _)
    have R5 : Hid (Rd Sv w5 A3 P) := Lib.hid (by rw [hw5]; exact hP3.rd.safe ((But.refl _ _).alloc _))
    have HW5 := Lib.hid hw5
    clear hs3 hP3 hw5
    go_wp2_with fail
    rw [← HW5.out]
    refine (HCL.out A3 c3 _ R5.out).mono ?_
    rintro _ w6 ⟨A6, c6, rfl, hP6, hs6⟩
    obtain ⟨w7, hw7⟩ : ∃ w7, w7 = w6.alloc (.cells #[.bool true, .bool false, .slice A6 C.length c6] 25) := ⟨_, rfl⟩
    have hs7 : Safe w5 w7 := by rw [hw7]; exact hs6.alloc _
    have S7 : Hid (Safe w w7) := Lib.hid (S5.out.trans hs7)
    have B7 := Lib.hid (B5.out.but hs7 id)
    have P7 := Lib.hid (show Pr w7 w5.heap.size A6 C c6 by rw [hw7]; exact hP6.safe ((But.refl _ _).alloc _))
    have HW7 := Lib.hid hw7
    clear hs6 hs7 hP6 hw7
    go_wp2_with fail
    rw [← HW7.out]
    refine (HTX.out A6 c6 _ _ P7.out).mono ?_
    rintro _ w8 ⟨rfl, hs8⟩
    have S8 := Lib.hid (S7.out.trans hs8)
    have B8 := Lib.hid (B7.out.but hs8 id)
    have P8 := Lib.hid (P7.out.safe hs8)
    clear hs8
    go_wp2_with fail
    refine (HPT.out _ S8.out).mono ?_
    rintro _ w9 ⟨A9, c9, rfl, hP9, hs9⟩
    obtain ⟨w10, hw10⟩ : ∃ w10, w10 = w9.alloc (.cells #[.bool true, .bool d2, .slice A9 C.length c9] 25) := ⟨_, rfl⟩
    have hs10 : Safe w8 w10 := by rw [hw10]; exact hs9.alloc _
    have S10 : Hid (Safe w w10) := Lib.hid (S8.out.trans hs10)
    have B10 := Lib.hid (B8.out.but hs10 id)
    have P10 := Lib.hid (P8.out.safe hs10)
    have Q10 := Lib.hid (show Pr w10 w8.heap.size A9 C c9 by rw [hw10]; exact hP9.safe ((But.refl _ _).alloc _))
    have D10 : Hid (Blk w10 w9.heap.size 25 #[.bool true, .bool d2, .slice A9 C.length c9]) := Lib.hid (by rw [hw10]; exact Blk.new _ _ _)
    have HW10 := Lib.hid hw10
    have b2 : w10.cell? ⟨w3.heap.size, 2, none⟩ = some (.slice A3 P.length c3) := B10.out.cell' (i := 2) rfl
    rw [hw10] at b2
    clear hs9 hs10 hP9 hw10
    have hcl2 : (C.length : Int) ≤ P.length := by omega
    have HC2 := Lib.hid (show ∀ W, Safe w10 W → Calls Tryd.prog 25 #[Pv true d2 A9 C.length c9] W fun e w' => ∃ A2 c2, e = .returned (.slice A2 C.length c2) ∧ Pr w' W.heap.size A2 C c2 ∧ Safe W w' from fun W hs => (clean_any true d2 A9 C c9 W (Q10.out.rd.safe hs) (by omega)).mono fun e w' ⟨v, he, ho, hs⟩ => by
      rw [clean_id (fun x hx => (HCN.out x hx).1)] at ho
      obtain ⟨A2, c2, rfl, hPr⟩ := Pr.of ho
      exact ⟨A2, c2, he, hPr, hs⟩)
    go_wp2_with fail
    rw [← HW10.out]
    refine (HC2.out _ (But.refl _ _)).mono ?_
    rintro _ w11 ⟨A11, c11, rfl, hP11, hs11⟩
    have S11 := Lib.hid (S10.out.trans hs11)
    have B11 := Lib.hid (B10.out.but hs11 id)
    have D11 := Lib.hid (D10.out.but hs11 id)
    have P11 := Lib.hid (P10.out.safe hs11)
    have Q11 := Lib.hid (Q10.out.safe hs11)
    have N11 := Lib.hid hP11
    clear hs11 hP11 b2
    go_wp2_with fail
    go_loopw [54] (fun x wr => ∃ k : Nat, k ≤ C.length ∧ x = .int .i64 k ∧ wr = w11) (fun x _ => C.length - (intOf x).toNat)
    case atStart => exact ⟨0, by omega, rfl, rfl⟩
    case round =>
      obtain ⟨k, hk, rfl, rfl⟩ := hrel
      obtain ⟨wo, rfl⟩ : ∃ wo : World, wo = wr := ⟨_, rfl⟩
      by_cases hlt : k < C.length
      · have hi1 : (k : Int) < C.length := by omega
        have hi0 : (0 : Int) ≤ (k : Int) := by omega
        obtain ⟨x, hx⟩ : ∃ x, C[k]? = some x := ⟨_, List.getElem?_eq_getElem hlt⟩
        obtain ⟨ad, rfl, ck⟩ := rd_get N11.out.rd hx
        obtain ⟨bd, rfl, ck2⟩ := rd_get P11.out.rd hx
        have hg := HCN.out x (List.mem_of_getElem? hx)
        have e1 : (x == [46, 46]) = false := by simpa using hg.1
        have e2 : (x == [46]) = false := by simpa using hg.2.dot
        have e3 : x.isEmpty = false := by simpa using hg.2.ne
        clear hx hg
        go_wp2_with fail
        refine ⟨⟨k + 1, by omega, by go_num, trivial⟩, by simp [intOf]; omega⟩
      · obtain rfl : k = C.length := by omega
        have hYB : Blk (wo.alloc (.cells #[Sv [46, 46], Sv [122, 122]] 9)) wo.heap.size 9 #[Sv [46, 46], Sv [122, 122]] := Blk.new _ _ _
        have hYR : Rd Sv (wo.alloc (.cells #[Sv [46, 46], Sv [122, 122]] 9)) (some ⟨wo.heap.size, 0, none⟩) [[46, 46], [122, 122]] := Rd.of_blk hYB (by simp)
        have hsA : Safe wo (wo.alloc (.cells #[Sv [46, 46], Sv [122, 122]] 9)) := (But.refl _ wo).alloc _
        have hJ : Calls Tryd.prog 24 #[Pv true d2 A9 C.length c9, Pv false false (some ⟨wo.heap.size, 0, none⟩) 2 2] (wo.alloc (.cells #[Sv [46, 46], Sv [122, 122]] 9)) fun e w' => ∃ A c, e = .returned (Pv true false A (C.length + 2) c) ∧ Pr w' (wo.alloc (.cells #[Sv [46, 46], Sv [122, 122]] 9)).heap.size A (C ++ [[46, 46], [122, 122]]) c ∧ Safe wo w' := by
          have := joinP_any true d2 false false A9 (some ⟨wo.heap.size, 0, none⟩) C [[46, 46], [122, 122]] c9 2 _ (Q11.out.rd.safe hsA) hYR (fun _ => ⟨_, rfl⟩) (by omega) (by simp)
          unfold JRet at this
          simp only [joinPM, Bool.false_eq_true, if_false, Bool.false_or, reduceCtorEq, decide_false] at this
          refine this.mono fun e w' ⟨v, he, ho, hs⟩ => ?_
          obtain ⟨A, c, rfl, hPr⟩ := Pr.of ho
          exact ⟨A, c, by rw [he, List.length_append]; rfl, hPr, hsA.trans hs⟩
        have HU := Lib.hid (clean_up (fun x hx => (HCN.out x hx).1))
        have HCX := Lib.hid (show ∀ A c W b, Pr W b A (C ++ [[46, 46], [122, 122]]) c → Calls Tryd.prog 25 #[Pv true false A (C.length + 2) c] W fun e w' => ∃ g c2, e = .returned (.slice (some ⟨g, 0, none⟩) (C.length - 1 + 1) c2) ∧ w'.cell? ⟨g, C.length - 1, none⟩ = some (Sv [122, 122]) ∧ Safe W w' from fun A c W b h => by
          have := clean_any true false A _ c W h.rd (by rw [List.length_append]; simp; omega)
          rw [List.length_append, HU.out] at this
          refine this.mono fun e w' ⟨v, he, ho, hs⟩ => ?_
          obtain ⟨A2, c2, rfl, hPr⟩ := Pr.of ho
          obtain ⟨g, rfl⟩ := hPr.ad (by simp)
          refine ⟨g, c2, by rw [he, List.length_append, List.length_dropLast]; rfl, ?_, hs⟩
          obtain ⟨ad, ea, hc⟩ := rd_get hPr.rd (k := C.length - 1) (x := [122, 122]) (by rw [List.getElem?_append_right (by simp)]; simp)
          injection ea with ea
          subst ea
          rwa [add_plain, Nat.zero_add] at hc)
        have HJ := Lib.hid hJ
        clear hJ hYB hYR hsA
        obtain ⟨d0, d1, d2'⟩ := cells3 D11.out
        go_wp2_with fail
        refine (HJ.out).mono ?_
        rintro _ w12 ⟨A12, c12, rfl, hP12, hs12⟩
        have S12 := Lib.hid (S11.out.trans hs12)
        have P12 := Lib.hid hP12
        clear hs12 hP12 d0 d1 d2'
        go_wp2_with fail
        refine (HCX.out _ _ _ _ P12.out).mono ?_
        rintro _ w13 ⟨g, c13, rfl, c1, hs13⟩
        have S13 := Lib.hid (S12.out.trans hs13)
        clear hs13
        have hcs : C.length = 0 ∨ ∃ m, C.length = m + 1 := by
          cases hc : C.length with
          | zero => exact .inl rfl
          | succ m => exact .inr ⟨m, rfl⟩
        have hcl3 : C.length ≤ 32 := by omega
        clear HCX HJ HU HC2 HPT HTX HCL P12
        generalize C.length = z at *
        rcases hcs with rfl | ⟨m, rfl⟩
        · rw [show (0 - 1 + 1 : Nat) = 1 from rfl]
          rw [show (0 - 1 : Nat) = 0 from rfl] at c1
          go_upto_region 18 with fail
          have hmx : ∀ w, (Builtin.max_ #[3, 3] 3 #[.int .i64 0, .int .i64 1]).run Tryd.prog w = .ok (.int .i64 1) w := fun w => by rw [run_max_int2]; rfl
          go_wp2_with fail
          go_ret
          exact ⟨rfl, S13.out⟩
        · rw [Nat.add_sub_cancel] at c1 ⊢
          go_upto_region 18 with fail
          have hmx : ∀ w, (Builtin.max_ #[3, 3] 3 #[.int .i64 ((m : Int) + 1), .int .i64 1]).run Tryd.prog w = .ok (.int .i64 ((m : Int) + 1)) w := fun w => by rw [run_max_int2, if_neg (by omega)]
          have i1 : (m : Int) < (m : Int) + 1 := by omega
          have i0 : (0 : Int) ≤ (m : Int) := by omega
          go_wp2_with fail
          go_ret
          exact ⟨rfl, S13.out⟩
end Go.Proofs.YtodlapkmcnmmhaaDoor
