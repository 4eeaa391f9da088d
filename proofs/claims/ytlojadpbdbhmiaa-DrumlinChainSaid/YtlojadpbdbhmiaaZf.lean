/- The reference's processes: Fork. -/
import Derived.Test.YtlojadpbdbhmiaaZc
import Derived.Test.YtlojadpbdbhmiaaSu
import Derived.Deep.Cut
import Derived.Deep.CutRange
import Derived.Deep.RegionLaw
namespace Go.Proofs.Ytlojadpbdbhmiaa
open Go.RowKit
set_option linter.unusedSimpArgs false
set_option linter.unusedVariables false

theorem own_none6 {w : World} {q base : Nat} (hB : Blk w q 145 #[]) (hb : base ≤ q) : w.ownsRow base 145 6 (.slice (some ⟨q, 0, none⟩) 0 0) 0 [] :=
  ⟨rfl, .inr ⟨q, 0, #[], rfl, hb, hB, Nat.le_refl _, by simp [maxLen], rfl, rfl⟩⟩
abbrev t2v (a b : Int) (most last now : Int) (v : Value) : Value := .tuple #[aggT v most last now, I a, I b]
/-- What region 7 leaves. -/
structure Fk7 (w wx : World) (b : Nat) (v : Value) (qs : List PR) (most last now : Int) : Prop where
  lp : LP wx w.heap.size v qs
  tb : Blk wx b 91 #[v, I most, I last, I now]
  rb : Blk wx (b + 1) 91 #[.slice none 0 0, I 0, I 0, I 0]
  sf : Safe w wx
/-- On the way: the first append has been carried out. -/
structure Ap1 (w wx : World) (b : Nat) (v : Value) (n : Nat) (xs : List Value) (v0 : Value) (most last now : Int) : Prop where
  ow : wx.ownsRow w.heap.size 145 6 v n xs
  tb : Blk wx b 91 #[v0, I most, I last, I now]
  rb : Blk wx (b + 1) 91 #[.slice none 0 0, I 0, I 0, I 0]
  sf : Safe w wx
theorem Ap1.move {w wx wy : World} {b : Nat} {v v0 : Value} {n : Nat} {xs : List Value} {most last now : Int} (h : Ap1 w wx b v n xs v0 most last now) (hs : Safe wx wy) : Ap1 w wy b v n xs v0 most last now :=
  ⟨own_safe h.ow hs, h.tb.but hs id, h.rb.but hs id, h.sf.trans hs⟩
theorem Ap1.grow {w wx wy : World} {b : Nat} {v v0 v' : Value} {n n' : Nat} {xs xs' : List Value} {most last now : Int} (h : Ap1 w wx b v n xs v0 most last now) (hg : wx.grownBy wy v.ownBlock) (ho : wy.ownsRow w.heap.size 145 6 v' n' xs') : Ap1 w wy b v' n' xs' v0 most last now := by
  have hb := But.of_grown hg
  have hn : ∀ g t cs, Blk wx g t cs → 145 ≠ t → ¬ (some g = v.ownBlock) := fun g t cs hB ht e => by
    obtain ⟨_, _, cs', hB'⟩ := own_blk6 h.ow e.symm
    exact hB'.ne hB ht rfl
  exact ⟨ho, h.tb.but hb (hn _ _ _ h.tb (by decide)), h.rb.but hb (hn _ _ _ h.rb (by decide)), h.sf.step hb (fun k hk => .inr (own_blk6 h.ow hk.symm).1)⟩
theorem Ap1.fin {w wx : World} {b n : Nat} {v v0 : Value} {xs : List Value} {qs : List PR} {most last now : Int} (h : Ap1 w wx b v n xs v0 most last now) (hn : n = qs.length) (hx : xs = qs.flatMap encR) (hb : w.heap.size ≤ b) : Fk7 w (wx.setCell ⟨b, 0, none⟩ v) b v qs most last now := by
  subst hn hx
  have hbt := (But.refl (· = b) wx).setCell (p := ⟨b, 0, none⟩) (.inl rfl) v
  have hl := LP.of_own h.ow
  exact ⟨hl.but hbt (fun k hk e => hl.ne hk h.tb (by decide) e), h.tb.set 0 v, h.rb.far (p := ⟨b, 0, none⟩) (show b + 1 ≠ b by omega) v, h.sf.setCell (p := ⟨b, 0, none⟩) (.inr hb) v⟩
set_option maxRecDepth 100000 in
set_option maxHeartbeats 4000000 in
theorem rfork_any (base : Nat) (v : Value) (ps : List PR) (most last now pid : Int) (w : World) (h : LP w base v ps) (h16 : ps.length ≤ 16) (hb : base ≤ w.heap.size) (hl0 : 0 ≤ last) (hl1 : last ≤ 1000000) :
    Calls Try.prog 84 #[aggT v most last now, .int .i64 pid] w fun e w' => PRet w w' base e (t2v (forkM ps most last pid).2.2.1 (forkM ps most last pid).2.2.2 most (forkM ps most last pid).2.1 now) (forkM ps most last pid).1 := by
  obtain ⟨W, hW, hsW, b0, b1, hsz⟩ := two_blocks w v most last now
  have hlive := rlive_any base v ps most last now pid W (h.safe hsW) h16
  have HLIVE := Lib.hid hlive
  have HW := Lib.hid hW
  have HSW := Lib.hid hsW
  have HB0 := Lib.hid b0
  have HB1 := Lib.hid b1
  have H := Lib.hid h
  obtain ⟨A, c, rfl, hc, hcm, hrd, hbd⟩ := h
  clear hW hsW b0 b1 hsz
  by_cases hl : liveP ps pid ≠ 0
  · have e : forkM ps most last pid = (ps, last, 0, liveP ps pid) := by unfold forkM; rw [if_pos hl]
    rw [e]
    have hbl : (liveP ps pid != 0) = true := by simpa using hl
    generalize liveP ps pid = L at *
    clear hrd hbd hl e hlive
    go_enter Try.func84, Try.ntmps84
    go_wp2_with fail
    rw [← HW.out]
    refine (HLIVE.out).mono ?_
    rintro _ w1 ⟨rfl, hs1⟩
    obtain ⟨d0, d1, d2, d3⟩ := cells4 (HB0.out.but hs1 id)
    obtain ⟨r0, r1, r2, r3⟩ := cells4 (HB1.out.but hs1 id)
    obtain ⟨f0, f1, f2, f3⟩ := frz4 (HB1.out.but hs1 id)
    have HF := Lib.hid (fin4 (HSW.out.trans hs1) (show w.heap.size ≤ w.heap.size + 1 by omega) (H.out.safe (HSW.out.trans hs1)) (HB1.out.but hs1 id) [.slice A ps.length c, I most, I last, I now])
    clear hs1
    go_wp2
    exact bodyPost_ret (v := t2v 0 L most last now (.slice A ps.length c)) (by simp [results, Try.results84, go_sem, r0, r1, r2, r3]) rfl ⟨_, rfl, HF.out⟩
  · have hl0' : liveP ps pid = 0 := by omega
    rw [hl0'] at hlive
    have HLIVE := Lib.hid hlive
    by_cases hf : (ps.length : Int) = most
    · have e : forkM ps most last pid = (ps, last, 0, 15) := by unfold forkM; rw [if_neg hl, if_pos hf]
      rw [e]
      have hbf : ((ps.length : Int) == most) = true := by simpa using hf
      clear hrd hbd hl e hlive hl0' hf
      go_enter Try.func84, Try.ntmps84
      go_wp2_with fail
      rw [← HW.out]
      refine (HLIVE.out).mono ?_
      rintro _ w1 ⟨rfl, hs1⟩
      obtain ⟨d0, d1, d2, d3⟩ := cells4 (HB0.out.but hs1 id)
      obtain ⟨r0, r1, r2, r3⟩ := cells4 (HB1.out.but hs1 id)
      obtain ⟨f0, f1, f2, f3⟩ := frz4 (HB1.out.but hs1 id)
      have HF := Lib.hid (fin4 (HSW.out.trans hs1) (show w.heap.size ≤ w.heap.size + 1 by omega) (H.out.safe (HSW.out.trans hs1)) (HB1.out.but hs1 id) [.slice A ps.length c, I most, I last, I now])
      clear hs1
      go_wp2
      exact bodyPost_ret (v := t2v 0 15 most last now (.slice A ps.length c)) (by simp [results, Try.results84, go_sem, r0, r1, r2, r3]) rfl ⟨_, rfl, HF.out⟩
    · obtain ⟨x, hx⟩ : ∃ x : PR, x = ⟨last + 1, pid, 1, 0, 0, false⟩ := ⟨_, rfl⟩
      have e : forkM ps most last pid = (ps ++ [x], last + 1, last + 1, 0) := by unfold forkM; rw [if_neg hl, if_neg hf, hx]
      rw [e]
      have hbf : ((ps.length : Int) == most) = false := by simpa using hf
      have HX := Lib.hid hx
      have HRD := Lib.hid hrd
      clear hrd hbd hl e hlive hl0' hf hx
      go_enter Try.func84, Try.ntmps84
      go_wp2_with fail
      rw [← HW.out]
      refine (HLIVE.out).mono ?_
      rintro _ w1 ⟨rfl, hs1⟩
      obtain ⟨d0, d1, d2, d3⟩ := cells4 (HB0.out.but hs1 id)
      have f2 := (HB0.out.but hs1 id).frozen 2
      have HS1 := Lib.hid hs1
      clear hs1
      go_upto_region 7 with fail
      obtain ⟨W2, hW2⟩ : ∃ W2, W2 = w1.setCell ⟨w.heap.size, 2, none⟩ (.int .i64 (last + 1)) := ⟨_, rfl⟩
      rw [← hW2]
      have hs2 : Safe w W2 := by rw [hW2]; exact (HSW.out.trans HS1.out).setCell (p := ⟨w.heap.size, 2, none⟩) (.inr (Nat.le_refl _)) _
      have ht2 : Blk W2 w.heap.size 91 #[.slice A ps.length c, I most, I (last + 1), I now] := by rw [hW2]; exact (HB0.out.but HS1.out id).set 2 _
      have hr2 : Blk W2 (w.heap.size + 1) 91 #[.slice none 0 0, I 0, I 0, I 0] := by rw [hW2]; exact (HB1.out.but HS1.out id).far (p := ⟨w.heap.size, 2, none⟩) (show w.heap.size + 1 ≠ w.heap.size by omega) _
      have hcells : ∀ W', Safe w W' → (0 < ps.length → ∃ ad, A = some ad ∧ ∀ j u, (ps.flatMap encR)[j]? = some u → W'.cell? (ad.add j) = some u) := fun W' hs hn => (HRD.out.but hs (fun _ _ => id)) (by rw [flatR_len]; omega)
      have HS2 := Lib.hid hs2
      have HT2 := Lib.hid ht2
      have HR2 := Lib.hid hr2
      have HC := Lib.hid hcells
      clear hW2 hs2 ht2 hr2 hcells d0 d1 d2 d3 f2
      go_cut [35] from 26 to 36 (fun _ wx => ∃ v', Fk7 w wx w.heap.size v' (ps ++ [x]) most (last + 1) now)
      case first =>
        have h63a : 0 + ps.length ≤ maxLen := by simp [maxLen]; omega
        have hby1 : (0 + ps.length) * 48 ≤ 140737488355328 := by omega
        have h63b : ps.length + 1 ≤ maxLen := by simp [maxLen]; omega
        have hby2 : (ps.length + 1) * 48 ≤ 140737488355328 := by omega
        have hw2 : w.heap.size ≤ W2.heap.size := HS2.out.size
        have HM : Hid ((ps.flatMap encR).length = ps.length * 6) := Lib.hid (flatR_len ps)
        have HN : Hid (∀ u ∈ ps.flatMap encR, u.oneCell' = true) := Lib.hid (flatR_one ps)
        have HN1 : Hid (∀ u ∈ (#[I (last + 1), I pid, I 1, I 0, I 0, .bool false] : Array Value).toList, u.oneCell' = true) := Lib.hid (encR_one ⟨last + 1, pid, 1, 0, 0, false⟩)
        have HA0 : Hid (∀ W', Safe W2 W' → ∀ q, Blk W' q 145 #[] → W2.heap.size ≤ q → Ap1 w W' w.heap.size (.slice (some ⟨q, 0, none⟩) 0 0) 0 [] (.slice A ps.length c) most (last + 1) now) := Lib.hid (fun W' hs q hB hq => ⟨own_none6 hB (by omega), HT2.out.but hs id, HR2.out.but hs id, HS2.out.trans hs⟩)
        obtain ⟨d0, d1, d2, d3⟩ := cells4 HT2.out
        have e00 : (W2.alloc (.cells #[] 145)).cell? ⟨w.heap.size, 0, none⟩ = some (.slice A ps.length c) := cell_alloc d0 _
        have e02 : (W2.alloc (.cells #[] 145)).cell? ⟨w.heap.size, 2, none⟩ = some (I (last + 1)) := cell_alloc d2 _
        have e10 : (W2.alloc (.cells #[I (last + 1), I pid, I 1, I 0, I 0, .bool false] 145)).cell? ⟨w.heap.size, 0, none⟩ = some (.slice A ps.length c) := cell_alloc d0 _
        have e12 : (W2.alloc (.cells #[I (last + 1), I pid, I 1, I 0, I 0, .bool false] 145)).cell? ⟨w.heap.size, 2, none⟩ = some (I (last + 1)) := cell_alloc d2 _
        have e20 : ((W2.alloc (.cells #[] 145)).alloc (.cells #[I (last + 1), I pid, I 1, I 0, I 0, .bool false] 145)).cell? ⟨w.heap.size, 0, none⟩ = some (.slice A ps.length c) := cell_alloc (cell_alloc d0 _) _
        have e22 : ((W2.alloc (.cells #[] 145)).alloc (.cells #[I (last + 1), I pid, I 1, I 0, I 0, .bool false] 145)).cell? ⟨w.heap.size, 2, none⟩ = some (I (last + 1)) := cell_alloc (cell_alloc d2 _) _
        have e30 : ((W2.alloc (.cells #[I (last + 1), I pid, I 1, I 0, I 0, .bool false] 145)).alloc (.cells #[] 145)).cell? ⟨w.heap.size, 0, none⟩ = some (.slice A ps.length c) := cell_alloc (cell_alloc d0 _) _
        have e32 : ((W2.alloc (.cells #[I (last + 1), I pid, I 1, I 0, I 0, .bool false] 145)).alloc (.cells #[] 145)).cell? ⟨w.heap.size, 2, none⟩ = some (I (last + 1)) := cell_alloc (cell_alloc d2 _) _
        go_region_law (first
          | (refine step_pushAll slRP (by rfl) (.tmp 26) (.tmp 28) (by rfl) w.heap.size (.slice (some ⟨W2.heap.size, 0, none⟩) 0 0) 0 [] (by rfl) (own_none6 ((Blk.new W2 145 #[]).drew) (by omega)) A ps.length c (ps.flatMap encR) (by rfl) HM.out (HC.out _ (HS2.out.trans (((But.refl (fun _ => False) W2).alloc (.cells #[] 145)).drew))) HN.out h63a hby1 (Nat.le_trans hw2 (((But.refl (fun _ => False) W2).alloc (.cells #[] 145)).drew).size) ?_; intro v1 w5 ho hg hd; rw [Nat.zero_add, List.nil_append] at ho; have hp1 := (HA0.out _ (((But.refl (fun _ => False) W2).alloc (.cells #[] 145)).drew) _ ((Blk.new W2 145 #[]).drew) (by omega)).grow hg ho; have g0 := hp1.tb.cell' (i := 0) rfl; have g2 := hp1.tb.cell' (i := 2) rfl; have k0 := hp1.tb.frozen 0; have HP1 := Lib.hid hp1; have g0' : (w5.alloc (.cells #[I (last + 1), I pid, I 1, I 0, I 0, .bool false] 145)).cell? ⟨w.heap.size, 0, none⟩ = some (.slice A ps.length c) := cell_alloc g0 _; have g2' : (w5.alloc (.cells #[I (last + 1), I pid, I 1, I 0, I 0, .bool false] 145)).cell? ⟨w.heap.size, 2, none⟩ = some (I (last + 1)) := cell_alloc g2 _; clear ho hg hd hp1)
          | (refine step_pushAll slRP (by rfl) (.tmp 26) (.tmp 28) (by rfl) w.heap.size (.slice (some ⟨W2.heap.size + 1, 0, none⟩) 0 0) 0 [] (by rfl) (own_none6 ((Blk.new' (w := W2.alloc (.cells #[I (last + 1), I pid, I 1, I 0, I 0, .bool false] 145)) (g := W2.heap.size + 1) 145 #[] (by simp)).drew) (by omega)) A ps.length c (ps.flatMap encR) (by rfl) HM.out (HC.out _ (HS2.out.trans ((((But.refl (fun _ => False) W2).alloc (.cells #[I (last + 1), I pid, I 1, I 0, I 0, .bool false] 145)).alloc (.cells #[] 145)).drew))) HN.out h63a hby1 (Nat.le_trans hw2 ((((But.refl (fun _ => False) W2).alloc (.cells #[I (last + 1), I pid, I 1, I 0, I 0, .bool false] 145)).alloc (.cells #[] 145)).drew).size) ?_; intro v1 w5 ho hg hd; rw [Nat.zero_add, List.nil_append] at ho; have hp1 := (HA0.out _ ((((But.refl (fun _ => False) W2).alloc (.cells #[I (last + 1), I pid, I 1, I 0, I 0, .bool false] 145)).alloc (.cells #[] 145)).drew) _ ((Blk.new' (w := W2.alloc (.cells #[I (last + 1), I pid, I 1, I 0, I 0, .bool false] 145)) (g := W2.heap.size + 1) 145 #[] (by simp)).drew) (by omega)).grow hg ho; have g0 := hp1.tb.cell' (i := 0) rfl; have g2 := hp1.tb.cell' (i := 2) rfl; have k0 := hp1.tb.frozen 0; have HP1 := Lib.hid hp1; have HNB := Lib.hid (((Blk.new W2 145 #[I (last + 1), I pid, I 1, I 0, I 0, .bool false]).alloc (.cells #[] 145)).drew.but (But.of_grown hg) (by simp [Value.ownBlock])); clear ho hg hd hp1)
          | (refine step_pushAll slRP (by rfl) (.tmp 26) (.tmp 28) (by rfl) w.heap.size (.slice (some ⟨W2.heap.size, 0, none⟩) 0 0) 0 [] (by rfl) (own_none6 (((Blk.new W2 145 #[]).alloc (.cells #[I (last + 1), I pid, I 1, I 0, I 0, .bool false] 145)).drew) (by omega)) A ps.length c (ps.flatMap encR) (by rfl) HM.out (HC.out _ (HS2.out.trans ((((But.refl (fun _ => False) W2).alloc (.cells #[] 145)).alloc (.cells #[I (last + 1), I pid, I 1, I 0, I 0, .bool false] 145)).drew))) HN.out h63a hby1 (Nat.le_trans hw2 ((((But.refl (fun _ => False) W2).alloc (.cells #[] 145)).alloc (.cells #[I (last + 1), I pid, I 1, I 0, I 0, .bool false] 145)).drew).size) ?_; intro v1 w5 ho hg hd; rw [Nat.zero_add, List.nil_append] at ho; have hp1 := (HA0.out _ ((((But.refl (fun _ => False) W2).alloc (.cells #[] 145)).alloc (.cells #[I (last + 1), I pid, I 1, I 0, I 0, .bool false] 145)).drew) _ (((Blk.new W2 145 #[]).alloc (.cells #[I (last + 1), I pid, I 1, I 0, I 0, .bool false] 145)).drew) (by omega)).grow hg ho; have g0 := hp1.tb.cell' (i := 0) rfl; have g2 := hp1.tb.cell' (i := 2) rfl; have k0 := hp1.tb.frozen 0; have HP1 := Lib.hid hp1; have HNC := Lib.hid ((Blk.new' (w := W2.alloc (.cells #[] 145)) (g := W2.heap.size + 1) 145 #[I (last + 1), I pid, I 1, I 0, I 0, .bool false] (by simp)).drew.but (But.of_grown hg) (by simp [Value.ownBlock])); clear ho hg hd hp1)
          | (refine step_push slRP (by rfl) (.tmp 29) (.tmp 34) (by rfl) w.heap.size v1 ps.length (ps.flatMap encR) (by rfl) (HP1.out.move ((But.refl _ w5).alloc (.cells #[I (last + 1), I pid, I 1, I 0, I 0, .bool false] 145))).ow (w5.heap.size) 145 #[I (last + 1), I pid, I 1, I 0, I 0, .bool false] (by rfl) (Blk.new w5 _ _) (by rfl) HN1.out h63b hby2 (HP1.out.move ((But.refl _ w5).alloc (.cells #[I (last + 1), I pid, I 1, I 0, I 0, .bool false] 145))).sf.size ?_; intro v2 w6 ho hg hd; obtain ⟨Z2, z2, rfl, -⟩ := own_form ho; have hp2 := (HP1.out.move ((But.refl _ w5).alloc (.cells #[I (last + 1), I pid, I 1, I 0, I 0, .bool false] 145))).grow hg ho; have j0 := hp2.tb.cell' (i := 0) rfl; have i0 := hp2.tb.frozen 0; have HP2 := Lib.hid hp2; clear ho hg hd hp2)
          | (refine step_push slRP (by rfl) (.tmp 29) (.tmp 34) (by rfl) w.heap.size v1 ps.length (ps.flatMap encR) (by rfl) HP1.out.ow (W2.heap.size) 145 #[I (last + 1), I pid, I 1, I 0, I 0, .bool false] (by rfl) HNB.out (by rfl) HN1.out h63b hby2 HP1.out.sf.size ?_; intro v2 w6 ho hg hd; obtain ⟨Z2, z2, rfl, -⟩ := own_form ho; have hp2 := HP1.out.grow hg ho; have j0 := hp2.tb.cell' (i := 0) rfl; have i0 := hp2.tb.frozen 0; have HP2 := Lib.hid hp2; clear ho hg hd hp2)
          | (refine step_push slRP (by rfl) (.tmp 29) (.tmp 34) (by rfl) w.heap.size v1 ps.length (ps.flatMap encR) (by rfl) HP1.out.ow (W2.heap.size + 1) 145 #[I (last + 1), I pid, I 1, I 0, I 0, .bool false] (by rfl) HNC.out (by rfl) HN1.out h63b hby2 HP1.out.sf.size ?_; intro v2 w6 ho hg hd; obtain ⟨Z2, z2, rfl, -⟩ := own_form ho; have hp2 := HP1.out.grow hg ho; have j0 := hp2.tb.cell' (i := 0) rfl; have i0 := hp2.tb.frozen 0; have HP2 := Lib.hid hp2; clear ho hg hd hp2))
        all_goals
          go_wp2_with fail
          go_meet
          exact ⟨_, HP2.out.fin (by simp) (by rw [HX.out]; simp [encR]) (Nat.le_refl _)⟩
      case rest =>
        obtain ⟨v', hF⟩ := hcut
        obtain ⟨d0, d1, d2, d3⟩ := cells4 hF.tb
        obtain ⟨r0, r1, r2, r3⟩ := cells4 hF.rb
        obtain ⟨f0, f1, f2, f3⟩ := frz4 hF.rb
        have hlp := hF.lp
        have hff := fun l => fin4 hF.sf (show w.heap.size ≤ w.heap.size + 1 by omega) (hF.lp.lower hb) hF.rb l
        obtain ⟨A7, c7, rfl, -⟩ := hlp
        have HFF := Lib.hid (hff [.slice A7 (ps ++ [x]).length c7, I most, I (last + 1), I now])
        rw [show (ps ++ [x]).length = ps.length + 1 by simp] at HFF
        have hgo := Lib.hid (show LP _ _ _ _ ∧ Safe _ _ from ⟨HFF.out.1.safe ((But.refl _ _).drew), HFF.out.2.drew⟩)
        clear hF hff
        go_wp2_with fail
        go_region
        all_goals
          go_wp2
          exact bodyPost_ret (v := t2v (last + 1) 0 most (last + 1) now (.slice A7 (ps.length + 1) c7)) (by simp [results, Try.results84, go_sem, r0, r1, r2, r3]) rfl ⟨_, rfl, hgo.out⟩
end Go.Proofs.Ytlojadpbdbhmiaa
