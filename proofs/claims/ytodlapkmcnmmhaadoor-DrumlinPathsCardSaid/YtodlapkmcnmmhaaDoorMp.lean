/- name: Join. -/
import Derived.Test.YtodlapkmcnmmhaaDoorMo
namespace Go.Proofs.YtodlapkmcnmmhaaDoor
open Go.RowKit
set_option linter.unusedSimpArgs false
set_option linter.unusedVariables false

def JRet (a d : Bool) (P : List Bs) (w : World) (e : Ending) (w' : World) : Prop := ∃ v, e = .returned (.agg #[.bool a, .bool d, v]) ∧ w'.ownsRow w.heap.size 9 1 v P.length (P.map Sv) ∧ Safe w w'
set_option maxRecDepth 100000 in
set_option maxHeartbeats 8000000 in
theorem joinP_any (a d a2 d2 : Bool) (A B : Option Addr) (X Y : List Bs) (c c2 : Nat) (w : World) (hx : Rd Sv w A X) (hy : Rd Sv w B Y) (hB : 0 < Y.length → ∃ g, B = some ⟨g, 0, none⟩) (hN : X.length ≤ 1000) (hM : Y.length ≤ 1000) :
    Calls Tryd.prog 24 #[Pv a d A X.length c, Pv a2 d2 B Y.length c2] w (JRet (joinPM ⟨a, d, X⟩ ⟨a2, d2, Y⟩).abs (joinPM ⟨a, d, X⟩ ⟨a2, d2, Y⟩).dir (joinPM ⟨a, d, X⟩ ⟨a2, d2, Y⟩).parts w) := by
  obtain ⟨w1, hw1⟩ : ∃ w1, w1 = ((w.alloc (.cells #[.bool a, .bool d, .slice A X.length c] 25)).alloc (.cells #[.bool a2, .bool d2, .slice B Y.length c2] 25)).alloc (.cells #[.bool false, .bool false, .slice none 0 0] 25) := ⟨_, rfl⟩
  have hs : Safe w w1 := by rw [hw1]; exact (((But.refl _ w).alloc _).alloc _).alloc _
  have B0 := Lib.hid (show Blk w1 w.heap.size 25 #[.bool a, .bool d, .slice A X.length c] by rw [hw1]; exact ((Blk.new _ _ _).alloc _).alloc _)
  have B1 := Lib.hid (show Blk w1 (w.heap.size + 1) 25 #[.bool a2, .bool d2, .slice B Y.length c2] by rw [hw1]; exact (Blk.new' _ _ (by simp)).alloc _)
  have B2 := Lib.hid (show Blk w1 (w.heap.size + 2) 25 #[.bool false, .bool false, .slice none 0 0] by rw [hw1]; exact Blk.new' _ _ (by simp))
  have hsz : w1.heap.size = w.heap.size + 3 := by rw [hw1]; simp
  have HC := Lib.hid (fun W (hw : Safe w1 W) => clone_any B Y c2 W (hy.safe (hs.trans hw)) hB hM)
  have HCC := Lib.hid (fun W b (hw : Safe w1 W) (hb : Blk W b 23 #[.slice A X.length c, .slice B Y.length c2]) => concat_any b A B X Y c c2 W hb (hx.safe (hs.trans hw)) (hy.safe (hs.trans hw)) hN hM)
  have hfin : ∀ (w2 : World) (x y : Bool) (v : Value) (Z : List Bs), Safe w1 w2 → w2.ownsRow (w.heap.size + 3) 9 1 v Z.length (Z.map Sv) →
      JRet x y Z w (.returned (.agg #[.bool x, .bool y, v])) (((w2.setCell ⟨w.heap.size + 2, 0, none⟩ (.bool x)).setCell ⟨w.heap.size + 2, 1, none⟩ (.bool y)).setCell ⟨w.heap.size + 2, 2, none⟩ v) := fun w2 x y v Z h1 h2 => by
    have hkb := (((But.refl (· = w.heap.size + 2) w2).setCell (p := ⟨w.heap.size + 2, 0, none⟩) (.inl rfl) (.bool x)).setCell (p := ⟨w.heap.size + 2, 1, none⟩) (.inl rfl) (.bool y)).setCell (p := ⟨w.heap.size + 2, 2, none⟩) (.inl rfl) v
    refine ⟨v, rfl, own_base (own_but_kept h2 hkb (fun k hk e => ?_)) (by omega), (hs.trans h1).step hkb (fun j hj => .inr (by have : j = w.heap.size + 2 := hj; omega))⟩
    have := (h2.lt k hk).1
    have : k = w.heap.size + 2 := e
    omega
  have HF := Lib.hid hfin
  have hJ : ∃ x y Z, joinPM ⟨a, d, X⟩ ⟨a2, d2, Y⟩ = ⟨x, y, Z⟩ := ⟨_, _, _, rfl⟩
  obtain ⟨x, y, Z, hJ⟩ := hJ
  rw [hJ]
  have HJ := Lib.hid hJ
  clear hJ hfin
  have HYN : Hid (Y.length = 0 ↔ Y = []) := Lib.hid List.length_eq_zero_iff
  rw [List.length_append] at HCC
  generalize hn : X.length = n at *
  generalize hm : Y.length = m at *
  obtain ⟨b0, b1, b2⟩ := cells3 B0.out
  obtain ⟨e0, e1, e2⟩ := cells3 B1.out
  obtain ⟨r0, r1, r2⟩ := cells3 B2.out
  have HW := Lib.hid hw1
  have HSZ := Lib.hid hsz
  have HG0 : Hid (w.heap.size ≠ w.heap.size + 2) := Lib.hid (by omega)
  have HG1 : Hid (w.heap.size + 1 ≠ w.heap.size + 2) := Lib.hid (by omega)
  have HMM := Lib.hid hm
  have HNN := Lib.hid hn
  clear hn hm hw1 hx hy hB hsz hs
  cases a2
  · have hJ := HJ.out
    simp only [joinPM, Bool.false_eq_true, if_false] at hJ
    injection hJ with j1 j2 j3
    subst j1 j2 j3
    cases d2
    · by_cases hY : Y = []
      · have hm0 : m = 0 := HYN.out.2 hY
        have hmb : ((m : Int) == 0) = true := by simp [hm0]
        have hdec : (false || decide (Y = [])) = true := by simp [hY]
        rw [hdec] at *
        clear hdec hY hm0
        have SB : Hid (Safe w1 ((w1.alloc (.cells #[.slice A n c, .slice B m c2] 23)).drew)) := Lib.hid ((But.refl _ w1).alloc _).drew
        have HBS : Hid (w.heap.size + 3 ≤ ((w1.alloc (.cells #[.slice A n c, .slice B m c2] 23)).drew).heap.size) := Lib.hid (Nat.le_trans (Nat.le_of_eq HSZ.out.symm) SB.out.size)
        go_enter Tryd.func24, Tryd.ntmps24
        go_wp2_with fail
        rw [← HW.out]
        go_region_held3 (fun w' => w'.cell? ⟨w.heap.size, 0, none⟩ = some (.bool a) ∧ w'.cell? ⟨w.heap.size, 2, none⟩ = some (.slice A n c) ∧ w'.cell? ⟨w.heap.size + 1, 1, none⟩ = some (.bool false) ∧ w'.cell? ⟨w.heap.size + 1, 2, none⟩ = some (.slice B m c2))
          (first | (with_reducible exact HKP.out) | (with_reducible exact HKQ.out) | go_keep)
          ((go_at_call 42; refine (HCC.out _ _ ((But.refl _ w1).alloc _).drew (Blk.new _ _ _).drew).mono ?_; rintro _ w2 ⟨v2, rfl, ho2, hs2⟩; (have hs2 := SB.out.trans hs2); (obtain ⟨A2, c2', rfl, hc2⟩ := own_form ho2); (have qb0 := hs2.cell b0 id); (have qb2 := hs2.cell b2 id); (have qe1 := hs2.cell e1 id); (have qe2 := hs2.cell e2 id); (have HKP : Hid (_ ∧ _ ∧ _ ∧ _) := Lib.hid ⟨qb0, qb2, qe1, qe2⟩);
            (have hkb := (((But.refl (· = w.heap.size + 2) w2).setCell (p := ⟨w.heap.size + 2, 0, none⟩) (.inl rfl) (.bool a)).setCell (p := ⟨w.heap.size + 2, 1, none⟩) (.inl rfl) (.bool true)).setCell (p := ⟨w.heap.size + 2, 2, none⟩) (.inl rfl) (.slice A2 (n + m) c2'));
            (have HKQ : Hid (_ ∧ _ ∧ _ ∧ _) := Lib.hid ⟨hkb.cell qb0 HG0.out, hkb.cell qb2 HG0.out, hkb.cell qe1 HG1.out, hkb.cell qe2 HG1.out⟩); (obtain ⟨t0, t1, t2⟩ := cells3 (B2.out.but hs2 id)); (have f0 := (B2.out.but hs2 id).frozen 0); (have f1 := (B2.out.but hs2 id).frozen 1); (have f2 := (B2.out.but hs2 id).frozen 2); (have HO2 := Lib.hid ho2); (have HS2 := Lib.hid hs2); clear ho2 hs2 hkb qb0 qb2 qe1 qe2))
        have HFIN := Lib.hid (HF.out w2 a true _ (X ++ Y) HS2.out (own_base (by simpa [HNN.out, HMM.out] using HO2.out) (HBS.out)))
        go_wp2
        exact bodyPost_ret (v := .agg #[.bool a, .bool true, .slice A2 (n + m) c2']) (by simp [results, Tryd.results24, go_sem, t0, t1, t2, f0, f1, f2]) rfl HFIN.out
      · have hm0 : ¬ m = 0 := fun e => hY (HYN.out.1 e)
        have hmb : ((m : Int) == 0) = false := by simp; exact hm0
        have hdec : (false || decide (Y = [])) = false := by simp [hY]
        rw [hdec] at *
        clear hdec hY hm0
        have SB : Hid (Safe w1 ((w1.alloc (.cells #[.slice A n c, .slice B m c2] 23)).drew)) := Lib.hid ((But.refl _ w1).alloc _).drew
        have HBS : Hid (w.heap.size + 3 ≤ ((w1.alloc (.cells #[.slice A n c, .slice B m c2] 23)).drew).heap.size) := Lib.hid (Nat.le_trans (Nat.le_of_eq HSZ.out.symm) SB.out.size)
        go_enter Tryd.func24, Tryd.ntmps24
        go_wp2_with fail
        rw [← HW.out]
        go_region_held3 (fun w' => w'.cell? ⟨w.heap.size, 0, none⟩ = some (.bool a) ∧ w'.cell? ⟨w.heap.size, 2, none⟩ = some (.slice A n c) ∧ w'.cell? ⟨w.heap.size + 1, 1, none⟩ = some (.bool false) ∧ w'.cell? ⟨w.heap.size + 1, 2, none⟩ = some (.slice B m c2))
          (first | (with_reducible exact HKP.out) | (with_reducible exact HKQ.out) | go_keep)
          ((go_at_call 42; refine (HCC.out _ _ ((But.refl _ w1).alloc _).drew (Blk.new _ _ _).drew).mono ?_; rintro _ w2 ⟨v2, rfl, ho2, hs2⟩; (have hs2 := SB.out.trans hs2); (obtain ⟨A2, c2', rfl, hc2⟩ := own_form ho2); (have qb0 := hs2.cell b0 id); (have qb2 := hs2.cell b2 id); (have qe1 := hs2.cell e1 id); (have qe2 := hs2.cell e2 id); (have HKP : Hid (_ ∧ _ ∧ _ ∧ _) := Lib.hid ⟨qb0, qb2, qe1, qe2⟩);
            (have hkb := (((But.refl (· = w.heap.size + 2) w2).setCell (p := ⟨w.heap.size + 2, 0, none⟩) (.inl rfl) (.bool a)).setCell (p := ⟨w.heap.size + 2, 1, none⟩) (.inl rfl) (.bool false)).setCell (p := ⟨w.heap.size + 2, 2, none⟩) (.inl rfl) (.slice A2 (n + m) c2'));
            (have HKQ : Hid (_ ∧ _ ∧ _ ∧ _) := Lib.hid ⟨hkb.cell qb0 HG0.out, hkb.cell qb2 HG0.out, hkb.cell qe1 HG1.out, hkb.cell qe2 HG1.out⟩); (obtain ⟨t0, t1, t2⟩ := cells3 (B2.out.but hs2 id)); (have f0 := (B2.out.but hs2 id).frozen 0); (have f1 := (B2.out.but hs2 id).frozen 1); (have f2 := (B2.out.but hs2 id).frozen 2); (have HO2 := Lib.hid ho2); (have HS2 := Lib.hid hs2); clear ho2 hs2 hkb qb0 qb2 qe1 qe2))
        have HFIN := Lib.hid (HF.out w2 a false _ (X ++ Y) HS2.out (own_base (by simpa [HNN.out, HMM.out] using HO2.out) (HBS.out)))
        go_wp2
        exact bodyPost_ret (v := .agg #[.bool a, .bool false, .slice A2 (n + m) c2']) (by simp [results, Tryd.results24, go_sem, t0, t1, t2, f0, f1, f2]) rfl HFIN.out
    · rw [Bool.true_or] at *
      have SB : Hid (Safe w1 ((w1.alloc (.cells #[.slice A n c, .slice B m c2] 23)).drew)) := Lib.hid ((But.refl _ w1).alloc _).drew
      have HBS : Hid (w.heap.size + 3 ≤ ((w1.alloc (.cells #[.slice A n c, .slice B m c2] 23)).drew).heap.size) := Lib.hid (Nat.le_trans (Nat.le_of_eq HSZ.out.symm) SB.out.size)
      go_enter Tryd.func24, Tryd.ntmps24
      go_wp2_with fail
      rw [← HW.out]
      refine wp_region_held_drew (S := fun w' => w'.cell? ⟨w.heap.size, 0, none⟩ = some (.bool a) ∧ w'.cell? ⟨w.heap.size, 2, none⟩ = some (.slice A n c) ∧ w'.cell? ⟨w.heap.size + 1, 1, none⟩ = some (.bool true) ∧ w'.cell? ⟨w.heap.size + 1, 2, none⟩ = some (.slice B m c2)) (by kernel_rfl) ⟨b0, b2, e1, e2⟩ (fun hHeld => ?_)
      refine wpAnyH_take (i := 0) (v := (.pointer (some ⟨w.heap.size, 0, none⟩))) rfl (by kernel_rfl) (by kernel_rfl) (by kernel_rfl) (fun _ _ _ h => h) (Or.inl ⟨by rfl, ?_⟩) hHeld ?_
      · intro w7 hSw
        obtain ⟨k0, k1, k2, k3⟩ := hSw
        go_simp
      simp only [Act.put, List.setIfInBounds_toArray, List.set_cons_zero, List.set_cons_succ]
      refine wpAnyH_take (i := 1) (v := (.bool a)) rfl (by kernel_rfl) (by kernel_rfl) (by kernel_rfl) (fun _ _ _ h => h) (Or.inl ⟨by rfl, ?_⟩) hHeld ?_
      · intro w7 hSw
        obtain ⟨k0, k1, k2, k3⟩ := hSw
        go_simp
      simp only [Act.put, List.setIfInBounds_toArray, List.set_cons_zero, List.set_cons_succ]
      refine wpAnyH_take (i := 2) (v := (.pointer (some ⟨w.heap.size + 1, 1, none⟩))) rfl (by kernel_rfl) (by kernel_rfl) (by kernel_rfl) (fun _ _ _ h => h) (Or.inl ⟨by rfl, ?_⟩) hHeld ?_
      · intro w7 hSw
        obtain ⟨k0, k1, k2, k3⟩ := hSw
        go_simp
      simp only [Act.put, List.setIfInBounds_toArray, List.set_cons_zero, List.set_cons_succ]
      refine wpAnyH_take (i := 3) (v := (.bool true)) rfl (by kernel_rfl) (by kernel_rfl) (by kernel_rfl) (fun _ _ _ h => h) (Or.inl ⟨by rfl, ?_⟩) hHeld ?_
      · intro w7 hSw
        obtain ⟨k0, k1, k2, k3⟩ := hSw
        go_simp
      simp only [Act.put, List.setIfInBounds_toArray, List.set_cons_zero, List.set_cons_succ]
      refine wpAnyH_take (i := 4) (v := (.bool true)) rfl (by kernel_rfl) (by kernel_rfl) (by kernel_rfl) (fun _ _ _ h => h) (Or.inl ⟨by rfl, ?_⟩) hHeld ?_
      · intro w7 hSw
        obtain ⟨k0, k1, k2, k3⟩ := hSw
        go_simp
      simp only [Act.put, List.setIfInBounds_toArray, List.set_cons_zero, List.set_cons_succ]
      refine wpAnyH_take (i := 5) (v := undef) rfl (by kernel_rfl) (by kernel_rfl) (by kernel_rfl) (fun _ _ _ h => h) (Or.inr ⟨by rfl, rfl⟩) hHeld ?_
      simp only [Act.put, List.setIfInBounds_toArray, List.set_cons_zero, List.set_cons_succ]
      refine wpAnyH_take (i := 6) (v := undef) rfl (by kernel_rfl) (by kernel_rfl) (by kernel_rfl) (fun _ _ _ h => h) (Or.inr ⟨by rfl, rfl⟩) hHeld ?_
      simp only [Act.put, List.setIfInBounds_toArray, List.set_cons_zero, List.set_cons_succ]
      refine wpAnyH_take (i := 7) (v := undef) rfl (by kernel_rfl) (by kernel_rfl) (by kernel_rfl) (fun _ _ _ h => h) (Or.inr ⟨by rfl, rfl⟩) hHeld ?_
      simp only [Act.put, List.setIfInBounds_toArray, List.set_cons_zero, List.set_cons_succ]
      refine wpAnyH_take (i := 8) (v := undef) rfl (by kernel_rfl) (by kernel_rfl) (by kernel_rfl) (fun _ _ _ h => h) (Or.inr ⟨by rfl, rfl⟩) hHeld ?_
      simp only [Act.put, List.setIfInBounds_toArray, List.set_cons_zero, List.set_cons_succ]
      refine wpAnyH_take (i := 9) (v := (.bool true)) rfl (by kernel_rfl) (by kernel_rfl) (by kernel_rfl) (fun _ _ _ h => h) (Or.inl ⟨by rfl, ?_⟩) hHeld ?_
      · intro w7 hSw
        obtain ⟨k0, k1, k2, k3⟩ := hSw
        go_simp
      simp only [Act.put, List.setIfInBounds_toArray, List.set_cons_zero, List.set_cons_succ]
      refine wpAnyH_take (i := 10) (v := (.pointer (some ⟨w.heap.size, 2, none⟩))) rfl (by kernel_rfl) (by kernel_rfl) (by kernel_rfl) (fun _ _ _ h => h) (Or.inl ⟨by rfl, ?_⟩) hHeld ?_
      · intro w7 hSw
        obtain ⟨k0, k1, k2, k3⟩ := hSw
        go_simp
      simp only [Act.put, List.setIfInBounds_toArray, List.set_cons_zero, List.set_cons_succ]
      refine wpAnyH_take (i := 11) (v := (.slice A n c)) rfl (by kernel_rfl) (by kernel_rfl) (by kernel_rfl) (fun _ _ _ h => h) (Or.inl ⟨by rfl, ?_⟩) hHeld ?_
      · intro w7 hSw
        obtain ⟨k0, k1, k2, k3⟩ := hSw
        go_simp
      simp only [Act.put, List.setIfInBounds_toArray, List.set_cons_zero, List.set_cons_succ]
      refine wpAnyH_take (i := 12) (v := (.pointer (some ⟨w.heap.size + 1, 2, none⟩))) rfl (by kernel_rfl) (by kernel_rfl) (by kernel_rfl) (fun _ _ _ h => h) (Or.inl ⟨by rfl, ?_⟩) hHeld ?_
      · intro w7 hSw
        obtain ⟨k0, k1, k2, k3⟩ := hSw
        go_simp
      simp only [Act.put, List.setIfInBounds_toArray, List.set_cons_zero, List.set_cons_succ]
      refine wpAnyH_take (i := 13) (v := (.slice B m c2)) rfl (by kernel_rfl) (by kernel_rfl) (by kernel_rfl) (fun _ _ _ h => h) (Or.inl ⟨by rfl, ?_⟩) hHeld ?_
      · intro w7 hSw
        obtain ⟨k0, k1, k2, k3⟩ := hSw
        go_simp
      simp only [Act.put, List.setIfInBounds_toArray, List.set_cons_zero, List.set_cons_succ]
      refine wpAnyH_ready (rs := [14]) (by kernel_rfl) (by simp) ?_
      refine AllReadyH.cons rfl (fun K hK => ?_) AllReadyH.nil
      go_simp
      refine hK.out _ _ ⟨cell_alloc b0 _, cell_alloc b2 _, cell_alloc e1 _, cell_alloc e2 _⟩ (fun hHeld2 => ?_)
      clear hK K
      try simp only [Act.put, List.setIfInBounds_toArray, List.set_cons_zero, List.set_cons_succ]
      refine wpAnyH_ready (rs := [15]) (by kernel_rfl) (by simp) ?_
      refine AllReadyH.cons rfl (fun K hK => ?_) AllReadyH.nil
      go_simp
      go_at_call 42
      refine (HCC.out _ _ ((But.refl _ w1).alloc _).drew (Blk.new _ _ _).drew).mono ?_
      rintro _ w2 ⟨v2, rfl, ho2, hs2⟩
      have hs2 := SB.out.trans hs2
      obtain ⟨A2, c2', rfl, hc2⟩ := own_form ho2
      have qb0 := hs2.cell b0 id
      have qb2 := hs2.cell b2 id
      have qe1 := hs2.cell e1 id
      have qe2 := hs2.cell e2 id
      have hkb := (((But.refl (· = w.heap.size + 2) w2).setCell (p := ⟨w.heap.size + 2, 0, none⟩) (.inl rfl) (.bool a)).setCell (p := ⟨w.heap.size + 2, 1, none⟩) (.inl rfl) (.bool true)).setCell (p := ⟨w.heap.size + 2, 2, none⟩) (.inl rfl) (.slice A2 (n + m) c2')
      obtain ⟨t0, t1, t2⟩ := cells3 (B2.out.but hs2 id)
      have f0 := (B2.out.but hs2 id).frozen 0
      have f1 := (B2.out.but hs2 id).frozen 1
      have f2 := (B2.out.but hs2 id).frozen 2
      have HO2 := Lib.hid ho2
      have HS2 := Lib.hid hs2
      refine hK.out _ _ ⟨qb0, qb2, qe1, qe2⟩ (fun hHeld3 => ?_)
      clear hK K
      try simp only [Act.put, List.setIfInBounds_toArray, List.set_cons_zero, List.set_cons_succ]
      refine wpAnyH_ready (rs := [16]) (by kernel_rfl) (by simp) ?_
      refine AllReadyH.cons rfl (fun K hK => ?_) AllReadyH.nil
      go_simp
      refine hK.out _ _ ⟨qb0, qb2, qe1, qe2⟩ (fun hHeld4 => ?_)
      clear hK K
      try simp only [Act.put, List.setIfInBounds_toArray, List.set_cons_zero, List.set_cons_succ]
      refine wpAnyH_ready (rs := [17]) (by kernel_rfl) (by simp) ?_
      refine AllReadyH.cons rfl (fun K hK => ?_) AllReadyH.nil
      go_simp
      refine hK.out _ _ ⟨hkb.cell qb0 HG0.out, hkb.cell qb2 HG0.out, hkb.cell qe1 HG1.out, hkb.cell qe2 HG1.out⟩ (fun hHeld5 => ?_)
      clear hK K hHeld hHeld2 hHeld3 hHeld4 hHeld5 hkb ho2 hs2 qb0 qb2 qe1 qe2
      refine wpAnyH_done (by kernel_rfl) ?_ _
      have HFIN := Lib.hid (HF.out w2 a true _ (X ++ Y) HS2.out (own_base (by simpa [HNN.out, HMM.out] using HO2.out) (HBS.out)))
      go_wp2
      exact bodyPost_ret (v := .agg #[.bool a, .bool true, .slice A2 (n + m) c2']) (by simp [results, Tryd.results24, go_sem, t0, t1, t2, f0, f1, f2]) rfl HFIN.out
  · have hJ := HJ.out
    simp only [joinPM, if_true] at hJ
    injection hJ with j1 j2 j3
    subst j1 j2 j3
    have SB : Hid (Safe w1 w1.drew) := Lib.hid (But.refl _ w1).drew
    have HBS : Hid (w.heap.size + 3 ≤ w1.drew.heap.size) := Lib.hid (Nat.le_of_eq HSZ.out.symm)
    go_enter Tryd.func24, Tryd.ntmps24
    go_wp2_with fail
    rw [← HW.out]
    go_region_held3 (fun w' => w'.cell? ⟨w.heap.size + 1, 1, none⟩ = some (.bool d2) ∧ w'.cell? ⟨w.heap.size + 1, 2, none⟩ = some (.slice B m c2))
      (first | (with_reducible exact HKP.out) | (with_reducible exact HKQ.out) | go_keep)
      ((go_at_call 41; refine (HC.out _ (But.refl _ w1).drew).mono ?_; rintro _ w2 ⟨v2, rfl, ho2, hs2⟩; (have hs2 := SB.out.trans hs2); (obtain ⟨A2, c2', rfl, hc2⟩ := own_form ho2); (have qe1 := hs2.cell e1 id); (have qe2 := hs2.cell e2 id); (have HKP : Hid (_ ∧ _) := Lib.hid ⟨qe1, qe2⟩);
        (have hkb := (((But.refl (· = w.heap.size + 2) w2).setCell (p := ⟨w.heap.size + 2, 0, none⟩) (.inl rfl) (.bool true)).setCell (p := ⟨w.heap.size + 2, 1, none⟩) (.inl rfl) (.bool d2)).setCell (p := ⟨w.heap.size + 2, 2, none⟩) (.inl rfl) (.slice A2 m c2'));
        (have HKQ : Hid (_ ∧ _) := Lib.hid ⟨hkb.cell qe1 HG1.out, hkb.cell qe2 HG1.out⟩); (obtain ⟨t0, t1, t2⟩ := cells3 (B2.out.but hs2 id)); (have f0 := (B2.out.but hs2 id).frozen 0); (have f1 := (B2.out.but hs2 id).frozen 1); (have f2 := (B2.out.but hs2 id).frozen 2); (have HO2 := Lib.hid ho2); (have HS2 := Lib.hid hs2); clear ho2 hs2 hkb qe1 qe2))
    have HFIN := Lib.hid (HF.out w2 true d2 _ Y HS2.out (own_base (by simpa [HNN.out, HMM.out] using HO2.out) (HBS.out)))
    go_wp2
    exact bodyPost_ret (v := .agg #[.bool true, .bool d2, .slice A2 m c2']) (by simp [results, Tryd.results24, go_sem, t0, t1, t2, f0, f1, f2]) rfl HFIN.out
end Go.Proofs.YtodlapkmcnmmhaaDoor
