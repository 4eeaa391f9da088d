/- NameKeeps, walked. -/
import Derived.Test.YtodlapkmcnmmhaaDoorMt
namespace Go.Proofs.YtodlapkmcnmmhaaDoor
open Go.RowKit
set_option linter.unusedSimpArgs false
set_option linter.unusedVariables false

theorem last_both (a d : Bool) (A : Option Addr) (P : List Bs) (c b : Nat) (w : World) (h : Pr w b A P c) (hN : P.length ≤ 32) :
    Calls Tryd.prog 23 #[Pv a d A P.length c] w fun e w' => ∃ x y ok A2 c2 L X, e = .returned (.tuple #[Pv x y A2 X.length c2, Sv L, .bool ok]) ∧ Pr w' w.heap.size A2 X c2 ∧ X.length ≤ 32 ∧ Safe w w' := by
  by_cases hP : P = [] ∨ P.getLast? = some [46, 46]
  · refine (last_no a d A P c w h.rd h.ad (by omega) hP).mono fun e w' ⟨he, hs⟩ => ?_
    obtain ⟨A2, c2, e2, hPr⟩ := Pr.of (P := []) (v := .slice none 0 0) (w := w') (base := w.heap.size) (World.ownsRow_nil _ _ _ _)
    injection e2 with e3 e4 e5
    exact ⟨false, false, false, none, 0, [], [], he, by rw [e3, e5]; exact hPr, by simp, hs⟩
  · have h1 : P ≠ [] := fun e => hP (.inl e)
    obtain ⟨X, y, rfl⟩ := snoc_of h1
    obtain ⟨g, rfl⟩ := h.ad (by simp)
    rw [List.length_append, List.length_singleton] at hN ⊢
    have hc := h.cap
    rw [List.length_append, List.length_singleton] at hc
    refine (last_yes a d g c X y w h.rd hc (by omega) (fun e => hP (.inr (by simp [e])))).mono fun e w' ⟨v, he, ho, hs⟩ => ?_
    obtain ⟨A2, c2, rfl, hPr⟩ := Pr.of ho
    exact ⟨a, true, true, A2, c2, y, X, he, hPr, by omega, hs⟩
theorem own_none1 {w : World} {q base : Nat} (hB : Blk w q 9 #[]) (hb : base ≤ q) : w.ownsRow base 9 1 (.slice (some ⟨q, 0, none⟩) 0 0) 0 [] :=
  ⟨rfl, .inr ⟨q, 0, #[], rfl, hb, hB, Nat.le_refl _, by simp [maxLen], rfl, rfl⟩⟩
theorem Pr.but {S : Nat → Prop} {w w' : World} {b : Nat} {A : Option Addr} {P : List Bs} {c : Nat} (h : Pr w b A P c) (hb : But S w w') (hn : ∀ k, (Value.slice A P.length c).ownBlock = some k → ¬ S k) : Pr w' b A P c :=
  ⟨own_but_kept h.own hb hn, Rd.of_own (own_but_kept h.own hb hn), h.ad, h.cap⟩
/-- A row of one's own as a block. -/
theorem Pr.blk {w : World} {base : Nat} {A : Option Addr} {P : List Bs} {c : Nat} (h : Pr w base A P c) (hn : 0 < P.length) : ∃ g cur, A = some ⟨g, 0, none⟩ ∧ base ≤ g ∧ Blk w g 9 cur ∧ P.length ≤ cur.size := by
  rcases h.own.2 with ⟨_, h2⟩ | ⟨g, cap, cur, hv, hb, hg, hl, _, hz, _⟩
  · omega
  · injection hv with e1 e2 e3
    exact ⟨g, cur, e1, hb, hg, by rw [hz]; omega⟩
set_option maxRecDepth 100000 in
set_option maxHeartbeats 8000000 in
theorem nameKeeps_any (l l2 : Bs) (w : World) (hm : ∃ m, w.cell? ⟨0, 0, none⟩ = some (.int .i64 m)) : Calls Tryd.prog 8 #[Sv l, Sv l2] w fun e w' => e = .returned (.bool true) ∧ Safe w w' := by
  have HM := Lib.hid (fun (w' : World) (hs : Safe w w') => (show ∃ m, w'.cell? ⟨0, 0, none⟩ = some (.int .i64 m) from hm.elim fun m h => ⟨m, hs.cell h id⟩))
  have HAW := Lib.hid (awake_any w hm)
  have HSH := Lib.hid (short_any l)
  clear hm
  obtain ⟨s, hs⟩ : ∃ s, s = l.take 300 := ⟨_, rfl⟩
  rw [← hs] at HSH
  have hsl : s.length ≤ 300 := by rw [hs]; simp; omega
  clear hs
  rcases parse_two s with ⟨n, hn, hp⟩ | ⟨a, d, P, o, hp⟩
  · have HP := Lib.hid (fun W (hs : Safe w W) => parse_ok hp W (by omega) (HM.out W hs))
    have hnb : (n == 0) = false := by simpa using hn
    clear hp hn
    go_enter Tryd.func8, Tryd.ntmps8
    go_wp2_with fail
    refine (HAW.out).mono ?_
    rintro _ w1 ⟨rfl, hs1⟩
    have S1 := Lib.hid hs1
    clear hs1
    go_wp2_with fail
    refine (HSH.out _).mono ?_
    rintro _ w2 ⟨rfl, rfl⟩
    go_wp2_with fail
    refine (HP.out _ S1.out).mono ?_
    rintro _ w3 ⟨A3, c3, rfl, hP3, hs3⟩
    have S3 : Hid (Safe w (w3.alloc (.cells #[.bool false, .bool false, .slice A3 ([] : List Bs).length c3] 25))) := Lib.hid ((S1.out.trans hs3).alloc _)
    clear hs3 hP3
    go_wp2_with fail
    go_ret
    exact ⟨rfl, S3.out⟩
  · have HP := Lib.hid (fun W (hs : Safe w W) => parse_ok hp W (by omega) (HM.out W hs))
    have hN := o.len
    simp only at hN
    clear hp o
    go_enter Tryd.func8, Tryd.ntmps8
    go_wp2_with fail
    refine (HAW.out).mono ?_
    rintro _ w1 ⟨rfl, hs1⟩
    have S1 := Lib.hid hs1
    clear hs1
    go_wp2_with fail
    refine (HSH.out _).mono ?_
    rintro _ w2 ⟨rfl, rfl⟩
    go_wp2_with fail
    refine (HP.out _ S1.out).mono ?_
    rintro _ w3 ⟨A3, c3, rfl, hP3, hs3⟩
    obtain ⟨w5, hw5⟩ : ∃ w5, w5 = w3.alloc (.cells #[.bool a, .bool d, .slice A3 P.length c3] 25) := ⟨_, rfl⟩
    have S5 : Hid (Safe w w5) := Lib.hid (by rw [hw5]; exact (S1.out.trans hs3).alloc _)
    have B5 : Hid (Blk w5 w3.heap.size 25 #[.bool a, .bool d, .slice A3 P.length c3]) := Lib.hid (by rw [hw5]; exact Blk.new _ _ _)
    have P5 : Hid (Pr w5 w1.heap.size A3 P c3) := Lib.hid (by rw [hw5]; exact hP3.safe ((But.refl _ _).alloc _))
    have HW5 := Lib.hid hw5
    obtain ⟨w6, hw6⟩ : ∃ w6, w6 = w5.alloc (.cells #[] 9) := ⟨_, rfl⟩
    have hs6 : Safe w5 w6 := by rw [hw6]; exact (But.refl _ w5).alloc _
    have B6 := Lib.hid (B5.out.but hs6 id)
    have P6 := Lib.hid (P5.out.safe hs6)
    have S6 := Lib.hid (S5.out.trans hs6)
    have E6 : Hid (Blk w6 (w3.heap.size + 1) 9 #[]) := Lib.hid (by rw [hw6]; exact Blk.new' _ _ (by rw [hw5]; simp))
    have hb5 : Hid (w5.heap.size ≤ w3.heap.size + 1) := Lib.hid (by rw [hw5]; simp)
    have HW6 := Lib.hid hw6
    have b2 : w6.cell? ⟨w3.heap.size, 2, none⟩ = some (.slice A3 P.length c3) := B6.out.cell' (i := 2) rfl
    have hone : ∀ u ∈ P.map Sv, u.oneCell' = true := by
      intro u hu
      obtain ⟨x, -, rfl⟩ := List.mem_map.1 hu
      rfl
    have HONE := Lib.hid hone
    have HML : Hid ((P.map Sv).length = P.length * 1) := Lib.hid (by rw [List.length_map, Nat.mul_one])
    have HCL := Lib.hid (P6.out.rd.cells)
    have h63 : 0 + P.length ≤ maxLen := by simp [maxLen]; omega
    have hby : (0 + P.length) * 16 ≤ 140737488355328 := by omega
    have hba : Hid (w5.heap.size ≤ w6.heap.size) := Lib.hid hs6.size
    rw [hw6, hw5] at b2
    have NB : Hid (¬ (fun k => some k = (Value.slice (some ⟨w3.heap.size + 1, 0, none⟩) 0 0).ownBlock) w3.heap.size) := Lib.hid (fun e => by have h : w3.heap.size = w3.heap.size + 1 := Option.some.inj e; omega)
    have NP : Hid (∀ k, (Value.slice A3 P.length c3).ownBlock = some k → ¬ (fun k => some k = (Value.slice (some ⟨w3.heap.size + 1, 0, none⟩) 0 0).ownBlock) k) := Lib.hid (fun k hk e => by
      have h1 := (hP3.own.lt k hk).2
      have h2 : k = w3.heap.size + 1 := Option.some.inj e
      omega)
    clear hs3 hP3 hw5 hs6 hw6 hone
    go_wp2_with (at_builtin; rw [← HW5.out, ← HW6.out]; go_loud (refine wpList_pushAll slStrs rfl (.tmp 25) (.tmp 27) rfl w5.heap.size (.slice (some ⟨w3.heap.size + 1, 0, none⟩) 0 0) 0 [] rfl (own_none1 E6.out hb5.out) A3 P.length c3 (P.map Sv) rfl HML.out HCL.out HONE.out h63 hby hba.out ?_; intro v7 w7 ho7 hg7 hd7; rw [Nat.zero_add, List.nil_append] at ho7; obtain ⟨A7, c7, rfl, hP7⟩ := Pr.of ho7; (have hb7 := But.of_grown hg7); (have S7 := Lib.hid (safe_own S6.out (own_none1 E6.out hb5.out) hg7 S5.out.size)); (have B7 := Lib.hid (B6.out.but hb7 NB.out)); (have P7 := Lib.hid (P6.out.but hb7 NP.out)); (have Q7 := Lib.hid hP7); obtain ⟨b0, b1, b2'⟩ := cells3 B7.out; clear ho7 hg7 hd7 hP7 hb7))
    refine (last_both a d A3 P c3 _ _ P7.out hN).mono ?_
    rintro _ w8 ⟨x, y, ok, A8, c8, L, X, rfl, hP8, hX, hs8⟩
    obtain ⟨w9, hw9⟩ : ∃ w9, w9 = w8.alloc (.cells #[.bool x, .bool y, .slice A8 X.length c8] 25) := ⟨_, rfl⟩
    obtain ⟨w10, hw10⟩ : ∃ w10, w10 = w9.alloc (.cells #[Sv l2] 9) := ⟨_, rfl⟩
    have hs10 : Safe w7 w10 := by rw [hw10, hw9]; exact (hs8.alloc _).alloc _
    have hz8 : w7.heap.size ≤ w8.heap.size := hs8.size
    have Z8 := Lib.hid hz8
    have T10 := Lib.hid hs10
    have U10 : Hid (Blk w10 w8.heap.size 25 #[.bool x, .bool y, .slice A8 X.length c8]) := Lib.hid (by rw [hw10, hw9]; exact (Blk.new _ _ _).alloc _)
    have P10 : Hid (Pr w10 w7.heap.size A8 X c8) := Lib.hid (by rw [hw10, hw9]; exact hP8.safe (((But.refl _ _).alloc _).alloc _))
    have E10 : Hid (Blk w10 (w8.heap.size + 1) 9 #[Sv l2]) := Lib.hid (by rw [hw10]; exact Blk.new' _ _ (by rw [hw9]; simp))
    have NB8 : Hid (¬ (fun k => some k = (Value.slice A8 X.length c8).ownBlock) w8.heap.size) := Lib.hid (fun e => by have := (hP8.own.lt _ e.symm).2; omega)
    have hone1 : ∀ u ∈ (#[Sv l2] : Array Value).toList, u.oneCell' = true := by simp [Value.oneCell']
    have HONE1 := Lib.hid hone1
    have h63b : X.length + 1 ≤ maxLen := by simp [maxLen]; omega
    have hbyb : (X.length + 1) * 16 ≤ 140737488355328 := by omega
    have e2 : w9.cell? ⟨w8.heap.size, 2, none⟩ = some (.slice A8 X.length c8) := by rw [hw9]; exact (Blk.new w8 25 #[.bool x, .bool y, .slice A8 X.length c8]).cell' (i := 2) rfl
    have HW9 := Lib.hid hw9
    have HW10 := Lib.hid hw10
    have hlt8 := U10.out.lt
    have k82 := U10.out.frozen 2
    have c82 : w10.cell? ⟨w8.heap.size, 2, none⟩ = some (.slice A8 X.length c8) := U10.out.cell' (i := 2) rfl
    have C82 := Lib.hid c82
    have K82 := Lib.hid k82
    rw [hw9] at e2
    clear hw9 hw10 hs10 hs8 hP8 hone1 c82 k82 b2 b0 b1 b2'
    go_wp2_with (at_builtin; rw [← HW9.out, ← HW10.out]; go_loud (refine wpList_push slStrs rfl (.tmp 36) (.tmp 38) rfl w7.heap.size (.slice A8 X.length c8) X.length (X.map Sv) rfl P10.out.own (w8.heap.size + 1) 9 #[Sv l2] rfl E10.out rfl HONE1.out h63b hbyb T10.out.size ?_; intro v2 w2 ho2 hg2 hd2; (obtain ⟨A2, c2, rfl, -⟩ := own_form ho2); (have hb2 := But.of_grown hg2); (have e4 : w2.cell? ⟨w8.heap.size, 2, none⟩ = some (.slice A8 X.length c8) := hb2.cell C82.out NB8.out); (have f4 := (hb2.frozen (a := ⟨w8.heap.size, 2, none⟩) hlt8 NB8.out).trans K82.out); (have T11 := Lib.hid ((safe_own T10.out P10.out.own hg2 (Nat.le_refl _)).setCell (p := ⟨w8.heap.size, 2, none⟩) (.inr hz8) (.slice A2 (X.length + 1) c2))); obtain ⟨b0, b1, b2⟩ := cells3 (B7.out.but T11.out id); clear ho2 hg2 hd2 hb2))
    obtain ⟨w11, hw11⟩ : ∃ w11, w11 = w2.setCell ⟨w8.heap.size, 2, none⟩ (.slice A2 (X.length + 1) c2) := ⟨_, rfl⟩
    have hz2 : w2.heap.size = w11.heap.size := by rw [hw11]; simp [World.setCell]
    rw [← hw11] at T11 ⊢
    rw [hz2]
    clear hw11 b0 b1 b2 e4 f4 hlt8 hz2
    have hYB : Blk (w11.alloc (.cells #[Sv l2] 9)) w11.heap.size 9 #[Sv l2] := Blk.new _ _ _
    have hYR : Rd Sv (w11.alloc (.cells #[Sv l2] 9)) (some ⟨w11.heap.size, 0, none⟩) [l2] := Rd.of_blk hYB (by simp)
    have hsA : Safe w11 (w11.alloc (.cells #[Sv l2] 9)) := (But.refl _ w11).alloc _
    have hJ : Calls Tryd.prog 24 #[Pv a d A3 P.length c3, Pv false false (some ⟨w11.heap.size, 0, none⟩) 1 1] (w11.alloc (.cells #[Sv l2] 9)) fun e w' => ∃ A c, e = .returned (Pv a false A (P.length + 1) c) ∧ Pr w' (w11.alloc (.cells #[Sv l2] 9)).heap.size A (P ++ [l2]) c ∧ Safe w11 w' := by
      have := joinP_any a d false false A3 (some ⟨w11.heap.size, 0, none⟩) P [l2] c3 1 _ (P7.out.rd.safe (T11.out.trans hsA)) hYR (fun _ => ⟨_, rfl⟩) (by omega) (by simp)
      unfold JRet at this
      simp only [joinPM, Bool.false_eq_true, if_false, Bool.false_or, reduceCtorEq, decide_false] at this
      refine this.mono fun e w' ⟨v, he, ho, hs⟩ => ?_
      obtain ⟨A, c, rfl, hPr⟩ := Pr.of ho
      exact ⟨A, c, by rw [he, List.length_append]; rfl, hPr, hsA.trans hs⟩
    refine hJ.mono ?_
    clear hJ hYB hYR hsA
    rintro _ w12 ⟨A12, c12, rfl, hP12, hs12⟩
    obtain ⟨gj, cur, rfl, hgj, hBj, hcj⟩ := hP12.blk (by simp)
    obtain ⟨w13, hw13⟩ : ∃ w13, w13 = w12.alloc (.cells #[.bool a, .bool false, .slice (some ⟨gj, 0, none⟩) (P.length + 1) c12] 25) := ⟨_, rfl⟩
    have hs13 : Safe w11 w13 := by rw [hw13]; exact hs12.alloc _
    have T13 := Lib.hid (T11.out.trans hs13)
    have J13 : Hid (Blk w13 w12.heap.size 25 #[.bool a, .bool false, .slice (some ⟨gj, 0, none⟩) (P.length + 1) c12]) := Lib.hid (by rw [hw13]; exact Blk.new _ _ _)
    have K13 : Hid (Blk w13 gj 9 cur) := Lib.hid (by rw [hw13]; exact hBj.alloc _)
    have hgz : Hid (w7.heap.size ≤ gj) := Lib.hid (by have h1 := T11.out.size; have h2 : w11.heap.size ≤ (w11.alloc (.cells #[Sv l2] 9)).heap.size := ((But.refl (fun _ => False) w11).alloc _).size; omega)
    have hcz : P.length + 1 ≤ cur.size := by simpa using hcj
    have HCZ := Lib.hid hcz
    have HW13 := Lib.hid hw13
    have hne : Hid (w12.heap.size ≠ gj) := Lib.hid (J13.out.ne K13.out (by decide))
    have j2 : w13.cell? ⟨w12.heap.size, 2, none⟩ = some (.slice (some ⟨gj, 0, none⟩) (P.length + 1) c12) := J13.out.cell' (i := 2) rfl
    rw [hw13] at j2
    clear hs12 hs13 hP12 hgj hBj hcj hw13 hcz
    go_wp2_with fail
    rw [← HW13.out]
    clear j2
    go_loopw [49] (fun x wr => ∃ (k : Nat) (cu : Array Value), k ≤ P.length + 1 ∧ x = .int .i64 k ∧ Safe w7 wr ∧ Blk wr w12.heap.size 25 #[.bool a, .bool false, .slice (some ⟨gj, 0, none⟩) (P.length + 1) c12] ∧ Blk wr gj 9 cu ∧ P.length + 1 ≤ cu.size) (fun x _ => P.length + 1 - (intOf x).toNat)
    case atStart => exact ⟨0, cur, by omega, rfl, T13.out, J13.out, K13.out, HCZ.out⟩
    case round =>
      obtain ⟨k, cu, hk, rfl, hT, hJ, hK, hC⟩ := hrel
      obtain ⟨wo, rfl⟩ : ∃ wo : World, wo = wr := ⟨_, rfl⟩
      by_cases hlt : k < P.length + 1
      · have j2 : wo.cell? ⟨w12.heap.size, 2, none⟩ = some (.slice (some ⟨gj, 0, none⟩) (P.length + 1) c12) := hJ.cell' (i := 2) rfl
        have ck : wo.cell? ⟨gj, k, none⟩ = some (cu[k]'(by omega)) := hK.cell' (Array.getElem?_eq_getElem (by omega))
        have fk := hK.frozen k
        have hi1 : (k : Int) < (P.length : Int) + 1 := by omega
        have hi0 : (0 : Int) ≤ (k : Int) := by omega
        have hN1 : Hid (∃ cu2, Safe w7 (wo.setCell ⟨gj, k, none⟩ (.string ⟨#[63]⟩)) ∧ Blk (wo.setCell ⟨gj, k, none⟩ (.string ⟨#[63]⟩)) w12.heap.size 25 #[.bool a, .bool false, .slice (some ⟨gj, 0, none⟩) (P.length + 1) c12] ∧ Blk (wo.setCell ⟨gj, k, none⟩ (.string ⟨#[63]⟩)) gj 9 cu2 ∧ P.length + 1 ≤ cu2.size) :=
          Lib.hid ⟨_, hT.setCell (p := ⟨gj, k, none⟩) (.inr hgz.out) _, hJ.far (p := ⟨gj, k, none⟩) hne.out _, hK.set k _, by rw [Array.size_setIfInBounds]; exact hC⟩
        generalize cu[k]'(by omega) = ov at ck
        clear hT hJ hK hC
        go_wp2_with fail
        go_roundw
        case rel => obtain ⟨cu2, h1, h2, h3, h4⟩ := hN1.out; exact ⟨k + 1, cu2, by omega, by go_num, h1, h2, h3, h4⟩
        case measure => simp [intOf]; omega
      · obtain rfl : k = P.length + 1 := by omega
        have T14 := Lib.hid hT
        have hn1 : ¬ ((P.length : Int) + 1 < (P.length : Int) + 1) := by omega
        clear hT hJ hK hC hlt hk
        obtain ⟨b0, b1, b2⟩ := cells3 (B7.out.but T14.out id)
        have HCN := Lib.hid (clean_any a d A3 P c3 wo (P7.out.rd.safe T14.out) (by omega))
        have hcl := clean_len P
        generalize cleanM P = C at *
        go_wp2_with fail
        refine (HCN.out).mono ?_
        rintro _ w15 ⟨v15, rfl, ho15, hs15⟩
        obtain ⟨A15, c15, rfl, hP15⟩ := Pr.of ho15
        have T15 := Lib.hid (T14.out.trans hs15)
        have HB15 := Lib.hid (show 0 < C.length → ∃ g cur, A15 = some ⟨g, 0, none⟩ ∧ w7.heap.size ≤ g ∧ Blk w15 g 9 cur ∧ C.length ≤ cur.size from fun h => by
          obtain ⟨g, cu, e1, e2, e3, e4⟩ := hP15.blk h
          exact ⟨g, cu, e1, by have := T14.out.size; omega, e3, e4⟩)
        clear ho15 hs15 hP15 b0 b1 b2
        go_wp2_with fail
        go_loopw [61] (fun x wr => ∃ k : Nat, k ≤ C.length ∧ x = .int .i64 k ∧ Safe w7 wr ∧ (0 < C.length → ∃ g cur, A15 = some ⟨g, 0, none⟩ ∧ w7.heap.size ≤ g ∧ Blk wr g 9 cur ∧ C.length ≤ cur.size)) (fun x _ => C.length - (intOf x).toNat)
        case atStart => exact ⟨0, by omega, rfl, T15.out, HB15.out⟩
        case round =>
          obtain ⟨k, hk, rfl, hT, hB⟩ := hrel
          obtain ⟨wx, rfl⟩ : ∃ wx : World, wx = wr := ⟨_, rfl⟩
          by_cases hlt : k < C.length
          · obtain ⟨g, cu, rfl, hg, hK, hC⟩ := hB (by omega)
            have ck : wx.cell? ⟨g, k, none⟩ = some (cu[k]'(by omega)) := hK.cell' (Array.getElem?_eq_getElem (by omega))
            have fk := hK.frozen k
            have hi1 : (k : Int) < (C.length : Int) := by omega
            have hi0 : (0 : Int) ≤ (k : Int) := by omega
            have hN1 : Hid (Safe w7 (wx.setCell ⟨g, k, none⟩ (.string ⟨#[33]⟩)) ∧ (0 < C.length → ∃ g2 cur, (some ⟨g, 0, none⟩ : Option Addr) = some ⟨g2, 0, none⟩ ∧ w7.heap.size ≤ g2 ∧ Blk (wx.setCell ⟨g, k, none⟩ (.string ⟨#[33]⟩)) g2 9 cur ∧ C.length ≤ cur.size)) :=
              Lib.hid ⟨hT.setCell (p := ⟨g, k, none⟩) (.inr hg) _, fun _ => ⟨g, _, rfl, hg, hK.set k _, by rw [Array.size_setIfInBounds]; exact hC⟩⟩
            generalize cu[k]'(by omega) = ov at ck
            clear hT hB hK hC
            go_wp2_with fail
            go_roundw
            case rel => exact ⟨k + 1, by omega, by go_num, hN1.out.1, hN1.out.2⟩
            case measure => simp [intOf]; omega
          · obtain rfl : k = C.length := by omega
            have T16 := Lib.hid hT
            have b2 := (B7.out.but hT id).cell' (i := 2) rfl
            have HSM := Lib.hid (show Calls Tryd.prog 19 #[Pv false false A7 P.length c7, Pv false false A3 P.length c3] wx fun e w' => e = .returned (.bool true) ∧ Safe wx w' from by
              have := same_any false false false false A7 A3 P P c7 c3 wx (Q7.out.rd.safe hT) (P7.out.rd.safe hT) (by omega) (by omega)
              simpa using this)
            clear hT hB hlt
            go_wp2_with fail
            refine (HSM.out).mono ?_
            rintro _ w17 ⟨rfl, hs17⟩
            have S17 : Hid (Safe w w17) := Lib.hid (S7.out.trans (T16.out.trans hs17))
            clear hs17
            go_wp2_with fail
            go_ret
            exact ⟨rfl, S17.out⟩
end Go.Proofs.YtodlapkmcnmmhaaDoor
