/- FdFiles: the walk. -/
import Derived.Test.YtlojadpbdbhmiaaLg
import Derived.Test.YtlojadpbdbhmiaaFm
import Derived.Test.YtlojadpbdbhmiaaFw
import Derived.Test.YtlojadpbdbhmiaaFk
namespace Go.Proofs.Ytlojadpbdbhmiaa
open Go.RowKit
set_option linter.unusedSimpArgs false
set_option linter.unusedVariables false

/-- What holds from act to act: the program's side holds os', the reference's holds os. -/
structure FH (w wr : World) (gf gl : Nat) (v : Value) (os os' : List FO) (i : Nat) : Prop where
  fw : FW wr gf gl os'
  lo : LO wr w.heap.size v os
  safe : Safe w wr
  gfb : w.heap.size ≤ gf
  glb : w.heap.size ≤ gl
  pos : PosF os' i
abbrev FI (w wr : World) (gf gl : Nat) (v : Value) (os : List FO) (i : Nat) : Prop := FH w wr gf gl v os os i
section
variable {w wr : World} {gf gl : Nat} {v : Value} {os os' : List FO} {i : Nat}
theorem FH.move (h : FH w wr gf gl v os os' i) {w' : World} (hs : Safe wr w') : FH w w' gf gl v os os' i := ⟨h.fw.safe hs, h.lo.safe hs, h.safe.trans hs, h.gfb, h.glb, h.pos⟩
theorem FH.next (h : FH w wr gf gl v os os' i) : FH w wr gf gl v os os' (i + 1) := ⟨h.fw, h.lo, h.safe, h.gfb, h.glb, h.pos.mono (by omega)⟩
/-- The program's side has turned. -/
theorem FH.half (h : FI w wr gf gl v os i) {w' : World} (hb : But (· = gl) wr w') (hf : FW w' gf gl os') (hp : PosF os' (i + 1)) : FH w w' gf gl v os os' (i + 1) :=
  ⟨hf, h.lo.but hb (fun j hj e => h.lo.ne hj h.fw.hl (by decide) e), h.safe.step hb (fun j hj => .inr (by rw [show j = gl from hj]; exact h.glb)), h.gfb, h.glb, by simpa using hp⟩
/-- The reference's side, too. -/
theorem FH.whole (h : FH w wr gf gl v os os' i) {w' : World} {v' : Value} (hl : LO w' w.heap.size v' os') (hs : Safe wr w') : FI w w' gf gl v' os' i := ⟨h.fw.safe hs, hl, h.safe.trans hs, h.gfb, h.glb, h.pos⟩
end
set_option maxRecDepth 100000 in
set_option maxHeartbeats 4000000 in
theorem files_walk (m : Int) (A : Option Addr) (n c : Nat) (D : Nat → ActF) (w : World) (hn : n ≤ c) (hc : c ≤ 9223372036854775807) (hD : ActsAt w A n D) :
    Calls Try.prog 4 #[.int .i64 m, .slice A n c] w fun e w' => e = .returned (.bool true) ∧ Safe w w' := by
  have HD := Lib.hid hD
  clear hD
  go_enter Try.func4, Try.ntmps4
  go_wp2_with fail
  refine (awake20 _).mono ?_
  rintro _ w1 ⟨rfl, hs1⟩
  go_wp2_with fail
  refine (newf_any m _).mono ?_
  rintro _ w2 ⟨rfl, hf2, hs2⟩
  have hnf := rnewf_any m w2
  have HNF := Lib.hid hnf
  have HF2 := Lib.hid hf2
  have HS2 := Lib.hid (hs1.trans hs2)
  have hsz1 := hs1.size
  have hlp := hf2.hp.lt
  have hll := hf2.hl.lt
  clear hnf hf2 hs1 hs2
  go_wp2_with fail
  refine (HNF.out).mono ?_
  rintro e w3 ⟨v, rfl, hl3, hs3⟩
  have h0 : FI w w3 (w1.heap.size + 1) w1.heap.size v (List.replicate (mostF m) zeroF) 0 :=
    ⟨HF2.out.safe hs3, hl3.lower HS2.out.size, HS2.out.trans hs3, by omega, hsz1, PosF.zero _ (by omega)⟩
  generalize List.replicate (mostF m) zeroF = os0 at *
  have H0 := Lib.hid h0
  obtain ⟨A3, c3, hv3, -⟩ := h0.lo
  rw [hv3] at H0 ⊢
  clear h0 hl3 hs3 hv3
  generalize hgf : w1.heap.size + 1 = gf at *
  generalize w1.heap.size = gl at *
  go_wp2_with fail
  go_loopw [6, 7] (fun v x wr => ∃ (i : Nat) (os : List FO), i ≤ n ∧ i ≤ 100 ∧ x = .int .i64 i ∧ FI w wr gf gl v os i) (fun _ x _ => 100 - (intOf x).toNat)
  case atStart => exact ⟨0, _, by omega, by omega, rfl, H0.out⟩
  case round =>
    obtain ⟨i, os, hin, hi100, rfl, hI⟩ := hrel
    obtain ⟨wo, rfl⟩ : ∃ wo : World, wo = wr := ⟨_, rfl⟩
    obtain ⟨Av, cv, hv, -⟩ := hI.lo
    subst hv
    have HI := Lib.hid hI
    have h64 := hI.fw.len
    clear hI
    by_cases hlt : i < n ∧ i < 100
    · obtain ⟨hlt, h100⟩ := hlt
      obtain ⟨ad, hA, c0, c1, c2, c3, r0, r1, r2, r3⟩ := HD.out i hlt
      subst hA
      rw [add_split4] at c1 c2 c3
      rw [Nat.add_zero] at c0
      have c0 := HI.out.safe.cell c0 id
      have c1 := HI.out.safe.cell c1 id
      have c2 := HI.out.safe.cell c2 id
      have c3 := HI.out.safe.cell c3 id
      generalize D i = a at *
      have HR := Lib.hid (show Ranged a.kind ∧ Ranged a.a ∧ Ranged a.b ∧ Ranged a.c from ⟨r0, r1, r2, r3⟩)
      clear r0 r1 r2 r3
      obtain ⟨wa, hwa⟩ : ∃ wa, wa = wo.alloc (.cells #[I a.kind, I a.a, I a.b, I a.c] 44) := ⟨_, rfl⟩
      have hsa : Safe wo wa := by rw [hwa]; exact (But.refl _ wo).alloc _
      have hba : Blk wa wo.heap.size 44 #[I a.kind, I a.a, I a.b, I a.c] := by rw [hwa]; exact Blk.new _ _ _
      have hIa := FH.move HI.out hsa
      have hglt : ¬ wo.heap.size = gl := by have := HI.out.fw.hl.lt; omega
      have hszw : w.heap.size ≤ wa.heap.size := hIa.safe.size
      have hpos := HI.out.pos
      have hp1000 : PosF os 1000 := hpos.mono (by omega)
      have HWA := Lib.hid hwa
      have HIA := Lib.hid hIa
      have HBA := Lib.hid hba
      have HP := Lib.hid hpos
      have HP1 := Lib.hid hp1000
      have HNE := Lib.hid hglt
      clear hwa hsa hIa hba hpos hp1000 hglt
      have hkc : ((a.kind == 0) = true) ∨ ((a.kind == 0) = false ∧ (a.kind == 2) = true) ∨ ((a.kind == 0) = false ∧ (a.kind == 2) = false ∧ (a.kind == 3) = true) ∨ ((a.kind == 0) = false ∧ (a.kind == 2) = false ∧ (a.kind == 3) = false ∧ (a.kind == 4) = true) ∨ ((a.kind == 0) = false ∧ (a.kind == 2) = false ∧ (a.kind == 3) = false ∧ (a.kind == 4) = false) := by
        cases (a.kind == 0) <;> cases (a.kind == 2) <;> cases (a.kind == 3) <;> cases (a.kind == 4) <;> simp
      rcases hkc with e0 | ⟨e0, e1⟩ | ⟨e0, e1, e2⟩ | ⟨e0, e1, e2, e3⟩ | ⟨e0, e1, e2, e3⟩
      · have hf := fopenM gf gl os a.a a.b a.c wa HIA.out.fw
        have hr := fun W (hl : LO W w.heap.size (.slice Av os.length cv) os) (hb : w.heap.size ≤ W.heap.size) => ropenM w.heap.size _ os a.a a.b a.c W hl h64 hb
        have hp := opM_pos HP.out (by omega) a.a a.b a.c
        generalize opM os a.a a.b a.c = r at hf hr hp
        obtain ⟨os2, id2, e2⟩ := r
        simp only at hf hr hp
        have HF := Lib.hid hf
        have HRR := Lib.hid hr
        have HPP := Lib.hid hp
        clear hf hr hp
        go_wp2_with fail
        rw [← HWA.out]
        refine (HF.out).mono ?_
        rintro _ w4 ⟨rfl, hf4, hb4⟩
        have h4 := FH.half HIA.out hb4 hf4 HPP.out
        have hba4 := HBA.out.but hb4 HNE.out
        have d0 := hba4.cell' (i := 0) rfl
        have d1 := hba4.cell' (i := 1) rfl
        have d2 := hba4.cell' (i := 2) rfl
        have d3 := hba4.cell' (i := 3) rfl
        have hlt4 := hba4.lt
        have H4 := Lib.hid h4
        clear hf4 hb4 h4 hba4
        go_wp2_with fail
        refine (HRR.out _ H4.out.lo H4.out.safe.size).mono ?_
        rintro e w5 ⟨v5, rfl, hl5, hs5⟩
        have h5 := H4.out.whole hl5 hs5
        have hfa := fun W (hs : Safe w5 W) => files_any gf gl w.heap.size os2 v5 W (h5.fw.safe hs) (hl5.safe hs) (fun j o ho => (HPP.out j o ho).1)
        obtain ⟨A5, c5, rfl, -⟩ := hl5
        have H5 := Lib.hid h5
        have HFA := Lib.hid hfa
        clear h5 hfa hs5
        go_wp2_with fail
        refine (HFA.out _ (But.refl _ _)).mono ?_
        rintro _ w6 ⟨rfl, hs6⟩
        have H6 := Lib.hid (FH.move H5.out ((But.refl _ _).trans hs6))
        clear hs6
        go_wp2_with fail
        go_roundw
        case rel => exact ⟨i + 1, os2, by omega, by omega, by go_num, H6.out⟩
        case measure => simp [intOf]; omega
      · have hf := frefM gf gl os a.a wa HIA.out.fw HP1.out
        have hr := fun W (hl : LO W w.heap.size (.slice Av os.length cv) os) (hb : w.heap.size ≤ W.heap.size) => rrefM w.heap.size _ os a.a W hl h64 hb HP1.out
        have hp := rfM_pos HP.out (by omega) a.a
        generalize rfM os a.a = r at hf hr hp
        obtain ⟨os2, e2⟩ := r
        simp only at hf hr hp
        have HF := Lib.hid hf
        have HRR := Lib.hid hr
        have HPP := Lib.hid hp
        clear hf hr hp
        go_wp2_with fail
        rw [← HWA.out]
        refine (HF.out).mono ?_
        rintro _ w4 ⟨rfl, hf4, hb4⟩
        have h4 := FH.half HIA.out hb4 hf4 HPP.out
        have hba4 := HBA.out.but hb4 HNE.out
        have d0 := hba4.cell' (i := 0) rfl
        have d1 := hba4.cell' (i := 1) rfl
        have d2 := hba4.cell' (i := 2) rfl
        have d3 := hba4.cell' (i := 3) rfl
        have hlt4 := hba4.lt
        have H4 := Lib.hid h4
        clear hf4 hb4 h4 hba4
        go_wp2_with fail
        refine (HRR.out _ H4.out.lo H4.out.safe.size).mono ?_
        rintro e w5 ⟨v5, rfl, hl5, hs5⟩
        have h5 := H4.out.whole hl5 hs5
        have hfa := fun W (hs : Safe w5 W) => files_any gf gl w.heap.size os2 v5 W (h5.fw.safe hs) (hl5.safe hs) (fun j o ho => (HPP.out j o ho).1)
        obtain ⟨A5, c5, rfl, -⟩ := hl5
        have H5 := Lib.hid h5
        have HFA := Lib.hid hfa
        clear h5 hfa hs5
        go_wp2_with fail
        refine (HFA.out _ (But.refl _ _)).mono ?_
        rintro _ w6 ⟨rfl, hs6⟩
        have H6 := Lib.hid (FH.move H5.out ((But.refl _ _).trans hs6))
        clear hs6
        go_wp2_with fail
        go_roundw
        case rel => exact ⟨i + 1, os2, by omega, by omega, by go_num, H6.out⟩
        case measure => simp [intOf]; omega
      · have hf := fcloseM gf gl os a.a wa HIA.out.fw HP1.out
        have hr := fun W (hl : LO W w.heap.size (.slice Av os.length cv) os) (hb : w.heap.size ≤ W.heap.size) => rcloseM w.heap.size _ os a.a W hl h64 hb HP1.out
        have hp := clM_pos HP.out (by omega) a.a
        generalize clM os a.a = r at hf hr hp
        obtain ⟨os2, o2, l2, e2⟩ := r
        simp only at hf hr hp
        have HF := Lib.hid hf
        have HRR := Lib.hid hr
        have HPP := Lib.hid hp
        clear hf hr hp
        go_wp2_with fail
        rw [← HWA.out]
        refine (HF.out).mono ?_
        rintro _ w4 ⟨rfl, hf4, hb4⟩
        have h4 := FH.half HIA.out hb4 hf4 HPP.out
        have hba4 := HBA.out.but hb4 HNE.out
        have d0 := hba4.cell' (i := 0) rfl
        have d1 := hba4.cell' (i := 1) rfl
        have d2 := hba4.cell' (i := 2) rfl
        have d3 := hba4.cell' (i := 3) rfl
        have hlt4 := hba4.lt
        have H4 := Lib.hid h4
        clear hf4 hb4 h4 hba4
        go_wp2_with fail
        refine (HRR.out _ (H4.out.lo.safe ((But.refl _ _).alloc _)) (Nat.le_trans H4.out.safe.size (by show _ ≤ (w4.heap.push _).size; rw [Array.size_push]; omega))).mono ?_
        rintro e w5 ⟨v5, rfl, hl5, hs5⟩
        have h5 := (FH.move H4.out ((But.refl _ w4).alloc (.cells #[I o2.kind, I o2.num, I o2.pos, I o2.flags, I o2.refs] 52))).whole hl5 hs5
        obtain ⟨q0, q1, q2, q3, q4⟩ := cells5 (o := o2) ((Blk.new w4 52 (encF o2).toArray).but hs5 id)
        have hlt5 : w4.heap.size < w5.heap.size := cell_lt q0
        have hfa := fun W (hs : Safe w5 W) => files_any gf gl w.heap.size os2 v5 W (h5.fw.safe hs) (hl5.safe hs) (fun j o ho => (HPP.out j o ho).1)
        obtain ⟨A5, c5, rfl, -⟩ := hl5
        have H5 := Lib.hid h5
        have HFA := Lib.hid hfa
        clear h5 hfa hs5
        go_wp2_with fail
        refine (HFA.out _ ((But.refl _ _).alloc _)).mono ?_
        rintro _ w6 ⟨rfl, hs6⟩
        have H6 := Lib.hid (FH.move H5.out (((But.refl _ _).alloc _).trans hs6))
        clear hs6
        go_wp2_with fail
        go_roundw
        case rel => exact ⟨i + 1, os2, by omega, by omega, by go_num, H6.out⟩
        case measure => simp [intOf]; omega
      · have hf := fmoveM gf gl os a.a a.b wa HIA.out.fw
        have hr := fun W (hl : LO W w.heap.size (.slice Av os.length cv) os) (hb : w.heap.size ≤ W.heap.size) => rmoveM w.heap.size _ os a.a a.b W hl h64 hb HP1.out
        have hp := mvM_pos HP.out (by omega) a.a a.b
        generalize mvM os a.a a.b = r at hf hr hp
        obtain ⟨os2, e2⟩ := r
        simp only at hf hr hp
        have HF := Lib.hid hf
        have HRR := Lib.hid hr
        have HPP := Lib.hid hp
        clear hf hr hp
        go_wp2_with fail
        rw [← HWA.out]
        refine (HF.out).mono ?_
        rintro _ w4 ⟨rfl, hf4, hb4⟩
        have h4 := FH.half HIA.out hb4 hf4 HPP.out
        have hba4 := HBA.out.but hb4 HNE.out
        have d0 := hba4.cell' (i := 0) rfl
        have d1 := hba4.cell' (i := 1) rfl
        have d2 := hba4.cell' (i := 2) rfl
        have d3 := hba4.cell' (i := 3) rfl
        have hlt4 := hba4.lt
        have H4 := Lib.hid h4
        clear hf4 hb4 h4 hba4
        go_wp2_with fail
        refine (HRR.out _ H4.out.lo H4.out.safe.size).mono ?_
        rintro e w5 ⟨v5, rfl, hl5, hs5⟩
        have h5 := H4.out.whole hl5 hs5
        have hfa := fun W (hs : Safe w5 W) => files_any gf gl w.heap.size os2 v5 W (h5.fw.safe hs) (hl5.safe hs) (fun j o ho => (HPP.out j o ho).1)
        obtain ⟨A5, c5, rfl, -⟩ := hl5
        have H5 := Lib.hid h5
        have HFA := Lib.hid hfa
        clear h5 hfa hs5
        go_wp2_with fail
        refine (HFA.out _ (But.refl _ _)).mono ?_
        rintro _ w6 ⟨rfl, hs6⟩
        have H6 := Lib.hid (FH.move H5.out ((But.refl _ _).trans hs6))
        clear hs6
        go_wp2_with fail
        go_roundw
        case rel => exact ⟨i + 1, os2, by omega, by omega, by go_num, H6.out⟩
        case measure => simp [intOf]; omega
      · have hfa := fun W (hs : Safe wa W) => files_any gf gl w.heap.size os _ W (HIA.out.fw.safe hs) (HIA.out.lo.safe hs) (fun j o ho => (HP1.out j o ho).1)
        have HFA := Lib.hid hfa
        clear hfa
        go_wp2_with fail
        rw [← HWA.out]
        refine (HFA.out _ (But.refl _ _)).mono ?_
        rintro _ w6 ⟨rfl, hs6⟩
        have H6 := Lib.hid (FH.move HIA.out.next hs6)
        clear hs6
        go_wp2_with fail
        go_roundw
        case rel => exact ⟨i + 1, os, by omega, by omega, by go_num, H6.out⟩
        case measure => simp [intOf]; omega
    · have hne2 : (¬ i < n) ∨ (i < n ∧ ¬ ((i : Int) < 100)) := by
        by_cases h1 : i < n
        · exact .inr ⟨h1, fun h2 => hlt ⟨h1, by omega⟩⟩
        · exact .inl h1
      clear hlt
      rcases hne2 with h1 | ⟨h1, h2⟩
      all_goals
        go_wp2
        go_ret
        exact ⟨rfl, HI.out.safe⟩
end Go.Proofs.Ytlojadpbdbhmiaa
