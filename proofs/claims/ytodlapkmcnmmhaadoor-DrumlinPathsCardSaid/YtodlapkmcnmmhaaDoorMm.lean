/- NameParses, walked. -/
import Derived.Test.YtodlapkmcnmmhaaDoorMl
import Derived.Deep.RegionHeld3
namespace Go.Proofs.YtodlapkmcnmmhaaDoor
open Go.RowKit
set_option linter.unusedSimpArgs false
set_option linter.unusedVariables false

theorem parse_cases (l : Bs) : ((parseM l).2 = 0 ∧ OkP (parseM l).1) ∨ (¬ (parseM l).2 = 0 ∧ (parseM l).1 = noPath) := by
  rcases h : parseM l with ⟨p, n⟩
  by_cases hn : n = 0
  · subst hn; exact .inl ⟨rfl, ok_of_parse h⟩
  · refine .inr ⟨hn, ?_⟩
    unfold parseM at h
    split at h
    · injection h with h1 h2; exact h1.symm
    · split at h
      · injection h with h1 h2; exact h1.symm
      · split at h
        · injection h with h1 h2; exact h1.symm
        · split at h
          · injection h with h1 h2; exact h1.symm
          · injection h with h1 h2; exact absurd h2.symm hn
theorem OkP.join {p : PathM} (o : OkP p) : (joinM p.parts).length ≤ 255 := by
  have h := o.text
  unfold textM at h
  split at h
  · rename_i e; rw [e.1]; simp [joinM]
  · simp only [List.length_append] at h; omega
theorem cells3 {w : World} {g : Nat} {t : TypeId} {x y z : Value} (h : Blk w g t #[x, y, z]) : w.cell? ⟨g, 0, none⟩ = some x ∧ w.cell? ⟨g, 1, none⟩ = some y ∧ w.cell? ⟨g, 2, none⟩ = some z :=
  ⟨h.cell' (i := 0) rfl, h.cell' (i := 1) rfl, h.cell' (i := 2) rfl⟩
set_option maxRecDepth 100000 in
set_option maxHeartbeats 8000000 in
theorem nameParses_any (l : Bs) (w : World) (hm : ∃ m, w.cell? ⟨0, 0, none⟩ = some (.int .i64 m)) : Calls Tryd.prog 4 #[Sv l] w fun e w' => e = .returned (.bool true) ∧ Safe w w' := by
  have HM := Lib.hid (fun (w' : World) (hs : Safe w w') => (show ∃ m, w'.cell? ⟨0, 0, none⟩ = some (.int .i64 m) from hm.elim fun m h => ⟨m, hs.cell h id⟩))
  have HAW := Lib.hid (awake_any w hm)
  have HSH := Lib.hid (short_any l)
  clear hm
  obtain ⟨s, hs⟩ : ∃ s, s = l.take 300 := ⟨_, rfl⟩
  rw [← hs] at HSH
  have hsl : s.length ≤ 300 := by rw [hs]; simp; omega
  clear hs
  go_enter Tryd.func4, Tryd.ntmps4
  go_wp2_with fail
  refine (HAW.out).mono ?_
  rintro _ w1 ⟨rfl, hs1⟩
  have S1 := Lib.hid hs1
  clear hs1
  go_wp2_with fail
  refine (HSH.out _).mono ?_
  rintro _ w2 ⟨rfl, rfl⟩
  go_wp2_with fail
  refine (parse_any s _ (by omega) (HM.out _ S1.out)).mono ?_
  unfold PRet
  have hpc := parse_cases s
  have hpp := rparse_any s
  unfold PRet at hpp
  rcases hpq : parseM s with ⟨p, n⟩
  rw [hpq] at hpc
  simp only [hpq] at hpp ⊢
  have HPP := Lib.hid hpp
  have HPC := Lib.hid hpc
  clear hpc hpp hpq
  rintro _ w3 ⟨v3, rfl, ho3, hs3⟩
  obtain ⟨A3, c3, rfl, hP3⟩ := Pr.of ho3
  have hpl : p.parts.length ≤ 32 := by
    rcases HPC.out with ⟨_, o⟩ | ⟨_, o⟩
    · exact o.len
    · simp only at o; rw [o]; simp [noPath]
  have S3 := Lib.hid (S1.out.trans hs3)
  have P3 := Lib.hid hP3
  clear ho3 hs3 hP3
  go_wp2_with fail
  obtain ⟨w5, hw5⟩ : ∃ w5, w5 = w3.alloc (.cells #[.bool p.abs, .bool p.dir, .slice A3 p.parts.length c3] 25) := ⟨_, rfl⟩
  rw [← hw5]
  have S5 : Hid (Safe w w5) := Lib.hid (by rw [hw5]; exact S3.out.alloc _)
  have B3 : Hid (Blk w5 w3.heap.size 25 #[.bool p.abs, .bool p.dir, .slice A3 p.parts.length c3]) := Lib.hid (by rw [hw5]; exact Blk.new _ _ _)
  have P5 : Hid (Pr w5 w1.heap.size A3 p.parts c3) := Lib.hid (by rw [hw5]; exact P3.out.safe ((But.refl _ _).alloc _))
  clear hw5 S3 P3
  refine (HPP.out _ (by omega)).mono ?_
  rintro _ w6 ⟨v6, rfl, ho6, hs6⟩
  obtain ⟨A6, c6, rfl, hP6⟩ := Pr.of ho6
  have S6 := Lib.hid (S5.out.trans hs6)
  have P6 := Lib.hid (P5.out.safe hs6)
  have B6 := Lib.hid (B3.out.but hs6 id)
  have R6 := Lib.hid hP6
  clear ho6 hs6 hP6 S5 P5 B3
  go_wp2_with fail
  obtain ⟨w7, hw7⟩ : ∃ w7, w7 = w6.alloc (.cells #[.bool p.abs, .bool p.dir, .slice A6 p.parts.length c6] 49) := ⟨_, rfl⟩
  have S7 : Hid (Safe w w7) := Lib.hid (by rw [hw7]; exact S6.out.alloc _)
  have B7 : Hid (Blk w7 w3.heap.size 25 #[.bool p.abs, .bool p.dir, .slice A3 p.parts.length c3]) := Lib.hid (by rw [hw7]; exact B6.out.alloc _)
  have D7 : Hid (Blk w7 w6.heap.size 49 #[.bool p.abs, .bool p.dir, .slice A6 p.parts.length c6]) := Lib.hid (by rw [hw7]; exact Blk.new _ _ _)
  have P7 : Hid (Pr w7 w1.heap.size A3 p.parts c3) := Lib.hid (by rw [hw7]; exact P6.out.safe ((But.refl _ _).alloc _))
  have R7 := Lib.hid (show Pr w7 _ A6 p.parts c6 by rw [hw7]; exact R6.out.safe ((But.refl _ _).alloc _))
  rw [← hw7]
  clear hw7 S6 P6 B6 R6
  obtain ⟨b0, b1, b2⟩ := cells3 B7.out
  obtain ⟨r0, r1, r2⟩ := cells3 D7.out
  have HT := Lib.hid (fun W => told_any p.abs p.dir A3 p.parts.length c3 W)
  have HSM := Lib.hid (fun W (hs : Safe w7 W) => same_any p.abs p.dir p.abs p.dir A3 A6 p.parts p.parts c3 c6 W (P7.out.rd.safe hs) (R7.out.rd.safe hs) (by omega) (by omega))
  go_region_held3 (fun w' => w'.cell? ⟨w3.heap.size, 0, none⟩ = some (.bool p.abs) ∧ w'.cell? ⟨w3.heap.size, 1, none⟩ = some (.bool p.dir) ∧ w'.cell? ⟨w3.heap.size, 2, none⟩ = some (.slice A3 p.parts.length c3) ∧
      w'.cell? ⟨w6.heap.size, 0, none⟩ = some (.bool p.abs) ∧ w'.cell? ⟨w6.heap.size, 1, none⟩ = some (.bool p.dir) ∧ w'.cell? ⟨w6.heap.size, 2, none⟩ = some (.slice A6 p.parts.length c6))
    (first | (with_reducible exact HKQ.out) | (with_reducible exact HKP.out) | go_keep)
    ((first
      | (go_at_call 20; refine (HT.out _).mono ?_; rintro _ w8 ⟨rfl, hs8⟩; have S8 := (But.refl (fun _ => False) w7).drew.trans hs8; have HKP : Hid (_ ∧ _ ∧ _ ∧ _ ∧ _ ∧ _) := Lib.hid ⟨S8.cell b0 id, S8.cell b1 id, S8.cell b2 id, S8.cell r0 id, S8.cell r1 id, S8.cell r2 id⟩; have HS8 := Lib.hid S8; clear S8 hs8)
      | (go_at_call 19; refine (HSM.out _ HS8.out).mono ?_; rintro _ w9 ⟨rfl, hs9⟩; have S9 := HS8.out.trans hs9; have HKQ : Hid (_ ∧ _ ∧ _ ∧ _ ∧ _ ∧ _) := Lib.hid ⟨S9.cell b0 id, S9.cell b1 id, S9.cell b2 id, S9.cell r0 id, S9.cell r1 id, S9.cell r2 id⟩; have HS9 := Lib.hid S9; clear S9 hs9)))
  have S9 := Lib.hid (S7.out.trans HS9.out)
  have B9 := Lib.hid (B7.out.but HS9.out id)
  have D9 := Lib.hid (D7.out.but HS9.out id)
  have P9 := Lib.hid (P7.out.safe HS9.out)
  have R9 := Lib.hid (R7.out.safe HS9.out)
  clear HS9 S7 B7 D7 P7 R7 b0 b1 b2 r0 r1 r2 HKP HKQ HS8 HSM HT
  rcases HPC.out with ⟨hn, o⟩ | ⟨hn, -⟩
  rotate_left
  · have hnb : (n == 0) = false := by simpa using hn
    go_wp2_with fail
    go_ret
    exact ⟨rfl, S9.out⟩
  subst hn
  have o : OkP p := o
  have O := Lib.hid o
  have hjl := o.join
  have htl := o.text
  have htp := text_parse o
  obtain ⟨b0, b1, b2⟩ := cells3 B9.out
  have HTX := Lib.hid (fun W (hs : Safe w9 W) => text_any p.abs p.dir A3 p.parts c3 W (P9.out.rd.safe hs) P9.out.ad P9.out.cap (by omega) (by omega))
  clear o
  go_wp2_with fail
  refine (HTX.out _ (But.refl _ _)).mono ?_
  rintro _ w10 ⟨rfl, hs10⟩
  rw [show (⟨p.abs, p.dir, p.parts⟩ : PathM) = p from rfl]
  have S10 := Lib.hid (S9.out.trans hs10)
  have D10 := Lib.hid (D9.out.but hs10 id)
  have R10 := Lib.hid (R9.out.safe hs10)
  clear hs10 S9 D9 B9 b0 b1 b2 P9 R9 HTX
  obtain ⟨t, ht⟩ : ∃ t, t = textM p := ⟨_, rfl⟩
  have hpa := parse_any t w10 (by rw [ht]; omega) (HM.out _ S10.out)
  unfold PRet at hpa
  rw [ht, htp, ← ht] at hpa
  rw [← ht]
  have HPA := Lib.hid hpa
  have HT := Lib.hid ht
  clear hpa ht htp htl
  go_wp2_with fail
  refine (HPA.out).mono ?_
  rintro _ w11 ⟨v11, rfl, ho11, hs11⟩
  obtain ⟨A11, c11, rfl, hP11⟩ := Pr.of ho11
  have S11 := Lib.hid (S10.out.trans hs11)
  have D11 := Lib.hid (D10.out.but hs11 id)
  have R11 := Lib.hid (R10.out.safe hs11)
  have P11 := Lib.hid hP11
  clear hs11 S10 D10 R10 ho11 hP11 HPA
  go_wp2_with fail
  obtain ⟨w12, hw12⟩ : ∃ w12, w12 = w11.alloc (.cells #[.bool p.abs, .bool p.dir, .slice A11 p.parts.length c11] 25) := ⟨_, rfl⟩
  have S12 : Hid (Safe w w12) := Lib.hid (by rw [hw12]; exact S11.out.alloc _)
  have D12 : Hid (Blk w12 w6.heap.size 49 #[.bool p.abs, .bool p.dir, .slice A6 p.parts.length c6]) := Lib.hid (by rw [hw12]; exact D11.out.alloc _)
  have B12 : Hid (Blk w12 w11.heap.size 25 #[.bool p.abs, .bool p.dir, .slice A11 p.parts.length c11]) := Lib.hid (by rw [hw12]; exact Blk.new _ _ _)
  have R12 := Lib.hid (show Pr w12 _ A6 p.parts c6 by rw [hw12]; exact R11.out.safe ((But.refl _ _).alloc _))
  have P12 := Lib.hid (show Pr w12 _ A11 p.parts c11 by rw [hw12]; exact P11.out.safe ((But.refl _ _).alloc _))
  rw [← hw12]
  clear hw12 S11 D11 R11 P11
  obtain ⟨b0, b1, b2⟩ := cells3 B12.out
  obtain ⟨r0, r1, r2⟩ := cells3 D12.out
  have HTD := Lib.hid (fun W => told_any p.abs p.dir A11 p.parts.length c11 W)
  have HSM := Lib.hid (fun W (hs : Safe w12 W) => same_any p.abs p.dir p.abs p.dir A11 A6 p.parts p.parts c11 c6 W (P12.out.rd.safe hs) (R12.out.rd.safe hs) (by omega) (by omega))
  have hrt := fun W (hs : Safe w12 W) => rtext_any p.abs p.dir A6 p.parts c6 W (R12.out.rd.safe hs) R12.out.ad (by omega) (by omega) (fun x hx => (O.out.good x hx).ne)
  rw [show (⟨p.abs, p.dir, p.parts⟩ : PathM) = p from rfl, ← HT.out] at hrt
  have HRT := Lib.hid hrt
  have htx := fun W (hs : Safe w12 W) => text_any p.abs p.dir A11 p.parts c11 W (P12.out.rd.safe hs) P12.out.ad P12.out.cap (by omega) (by omega)
  rw [show (⟨p.abs, p.dir, p.parts⟩ : PathM) = p from rfl, ← HT.out] at htx
  have HTX := Lib.hid htx
  clear hrt htx
  have hkeep : ∀ W, Safe w12 W → (W.cell? ⟨w11.heap.size, 0, none⟩ = some (.bool p.abs) ∧ W.cell? ⟨w11.heap.size, 1, none⟩ = some (.bool p.dir) ∧ W.cell? ⟨w11.heap.size, 2, none⟩ = some (.slice A11 p.parts.length c11) ∧
      W.cell? ⟨w6.heap.size, 0, none⟩ = some (.bool p.abs) ∧ W.cell? ⟨w6.heap.size, 1, none⟩ = some (.bool p.dir) ∧ W.cell? ⟨w6.heap.size, 2, none⟩ = some (.slice A6 p.parts.length c6)) :=
    fun W S => ⟨S.cell b0 id, S.cell b1 id, S.cell b2 id, S.cell r0 id, S.cell r1 id, S.cell r2 id⟩
  have HKEEP := Lib.hid hkeep
  clear hkeep
  go_region_held3 (fun w' => w'.cell? ⟨w11.heap.size, 0, none⟩ = some (.bool p.abs) ∧ w'.cell? ⟨w11.heap.size, 1, none⟩ = some (.bool p.dir) ∧ w'.cell? ⟨w11.heap.size, 2, none⟩ = some (.slice A11 p.parts.length c11) ∧
      w'.cell? ⟨w6.heap.size, 0, none⟩ = some (.bool p.abs) ∧ w'.cell? ⟨w6.heap.size, 1, none⟩ = some (.bool p.dir) ∧ w'.cell? ⟨w6.heap.size, 2, none⟩ = some (.slice A6 p.parts.length c6))
    (first | (with_reducible exact HK4.out) | (with_reducible exact HK3.out) | (with_reducible exact HK2.out) | (with_reducible exact HK1.out) | go_keep)
    ((first
      | (go_at_call 22; refine (HRT.out _ (But.refl _ w12).drew).mono ?_; rintro _ w13 ⟨rfl, hs13⟩; have HS13 := Lib.hid ((But.refl (fun _ => False) w12).drew.trans hs13); have HK1 := Lib.hid (HKEEP.out _ HS13.out); clear hs13)
      | (go_at_call 20; refine (HTD.out _).mono ?_; rintro _ w14 ⟨rfl, hs14⟩; have HS14 := Lib.hid (HS13.out.trans hs14); have HK2 := Lib.hid (HKEEP.out _ HS14.out); clear hs14)
      | (go_at_call 19; refine (HSM.out _ HS14.out).mono ?_; rintro _ w15 ⟨rfl, hs15⟩; have HS15 := Lib.hid (HS14.out.trans hs15); have HK3 := Lib.hid (HKEEP.out _ HS15.out); clear hs15)
      | (go_at_call 21; refine (HTX.out _ HS15.out).mono ?_; rintro _ w16 ⟨rfl, hs16⟩; have HS16 := Lib.hid (HS15.out.trans hs16); have HK4 := Lib.hid (HKEEP.out _ HS16.out); clear hs16)))
  go_wp2_with fail
  go_ret
  exact ⟨rfl, S12.out.trans HS16.out⟩
end Go.Proofs.YtodlapkmcnmmhaaDoor
