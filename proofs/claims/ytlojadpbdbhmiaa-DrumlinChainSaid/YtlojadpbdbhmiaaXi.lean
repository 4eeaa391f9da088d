/- Processes: Wait. -/
import Derived.Test.YtlojadpbdbhmiaaXh
namespace Go.Proofs.Ytlojadpbdbhmiaa
open Go.RowKit
set_option linter.unusedSimpArgs false
set_option linter.unusedVariables false

def waitM (ps : List PR) (pid : Int) : List PR × (Int × Int × Int) :=
  if liveP ps pid ≠ 0 then (ps, 0, 0, liveP ps pid) else
  if (whichP (fun p => p.parent == pid) ps).length = 0 then (ps, 0, 0, 17) else
  match ps.findIdx? (gone pid) with
  | some k => (ps.eraseIdx k, (ps.getD k zeroR).pid, (ps.getD k zeroR).code, 0)
  | none => (ps, 0, 0, 15)
set_option maxRecDepth 100000 in
set_option maxHeartbeats 1000000 in
theorem pwait_any (gt B : Nat) (v : Value) (ps : List PR) (most last now pid : Int) (w : World) (h : TW w gt B v ps most last now) (hn : 0 < ps.length) :
    Calls Try.prog 56 #[.pointer (some ⟨gt, 0, none⟩), .int .i64 pid] w fun e w' => e = .returned (.tuple #[I (waitM ps pid).2.1, I (waitM ps pid).2.2.1, I (waitM ps pid).2.2.2]) ∧ TRet w w' gt B v (waitM ps pid).1 most last now := by
  obtain ⟨g, c, rfl, hgl, hBg⟩ := h.form hn
  obtain ⟨W0, hW0⟩ : ∃ W0, W0 = w.alloc (.cells #[I pid] 3) := ⟨_, rfl⟩
  have hs0 : Safe w W0 := by rw [hW0]; exact (But.refl _ w).alloc _
  have hbx : Blk W0 w.heap.size 3 #[I pid] := by rw [hW0]; exact Blk.new _ _ _
  have h0 := h.safe hs0
  have b0 : W0.cell? ⟨w.heap.size, 0, none⟩ = some (I pid) := hbx.cell' (i := 0) rfl
  have hlive := plive_any gt B g c ps most last now pid W0 h0
  have HW0 := Lib.hid hW0
  have HS0 := Lib.hid hs0
  have HBX := Lib.hid hbx
  have H0 := Lib.hid h0
  have H := Lib.hid h
  clear hW0 hs0 hbx h0
  by_cases hl : liveP ps pid ≠ 0
  · have e : waitM ps pid = (ps, 0, 0, liveP ps pid) := by unfold waitM; rw [if_pos hl]
    rw [e]
    have hb : (liveP ps pid != 0) = true := by simpa using hl
    generalize liveP ps pid = L at *
    have HL := Lib.hid hlive
    clear e hl h hlive
    go_enter Try.func56, Try.ntmps56
    go_wp2_with fail
    rw [← HW0.out]
    go_wp2_with fail
    refine (HL.out).mono ?_
    rintro _ w1 ⟨rfl, hs1⟩
    go_wp2
    exact bodyPost_ret (v := .tuple #[I 0, I 0, I L]) (by simp [results, Try.results56, go_sem]) rfl ⟨rfl, TRet.same H.out (HS0.out.trans hs1)⟩
  · have hl0 : liveP ps pid = 0 := by omega
    rw [hl0] at hlive
    have HL := Lib.hid hlive
    have hch := fun W (hW : Safe W0 W) => pchildren_any gt B g c ps most last now pid W (H0.out.safe hW)
    have HCH := Lib.hid hch
    have hll : (whichP (fun p => p.parent == pid) ps).length ≤ 16 := by
      have := whichP_len (fun p => p.parent == pid) ps ps.length
      rw [List.take_length] at this
      have := H.out.len
      omega
    by_cases hz : (whichP (fun p => p.parent == pid) ps).length = 0
    · have e : waitM ps pid = (ps, 0, 0, 17) := by unfold waitM; rw [if_neg hl, if_pos hz]
      rw [e]
      clear e hl h hlive hch hl0 hll
      go_enter Try.func56, Try.ntmps56
      go_wp2_with fail
      rw [← HW0.out]
      go_wp2_with fail
      refine (HL.out).mono ?_
      rintro _ w1 ⟨rfl, hs1⟩
      have c1 : w1.cell? ⟨w.heap.size, 0, none⟩ = some (I pid) := (HBX.out.but hs1 id).cell' (i := 0) rfl
      have HS1 := Lib.hid hs1
      clear hs1
      go_wp2_with fail
      refine (HCH.out _ HS1.out).mono ?_
      rintro _ w2 ⟨u, rfl, ho2, hs2⟩
      rw [hz] at ho2
      obtain ⟨A, cu, rfl, _⟩ := own_form ho2
      have HS2 := Lib.hid (HS1.out.trans hs2)
      clear ho2 hs2
      go_wp2
      exact bodyPost_ret (v := .tuple #[I 0, I 0, I 17]) (by simp [results, Try.results56, go_sem]) rfl ⟨rfl, TRet.same H.out (HS0.out.trans HS2.out)⟩
    · have hix := fun W (hW : Safe W0 W) => pidx_any 94 (.pointer (some ⟨w.heap.size, 0, none⟩)) (gone pid) B g c ps W (H0.out.safe hW).ho H.out.len (fun args W => by go_simp) (fun p W' hW' => wait1_any w.heap.size pid p W' (HBX.out.but (hW.trans hW') id))
      cases hk : ps.findIdx? (gone pid) with
      | none =>
        rw [hk, show ixP none = -1 from rfl] at hix
        have HIX := Lib.hid hix
        have e : waitM ps pid = (ps, 0, 0, 15) := by unfold waitM; rw [if_neg hl, if_neg hz, hk]
        rw [e]
        generalize (whichP (fun p => p.parent == pid) ps) = ch at *
        have hzi : ((ch.length : Int) == 0) = false := by simpa using hz
        clear e hl h hlive hch hl0 hix hk
        go_enter Try.func56, Try.ntmps56
        go_wp2_with fail
        rw [← HW0.out]
        go_wp2_with fail
        refine (HL.out).mono ?_
        rintro _ w1 ⟨rfl, hs1⟩
        have c1 : w1.cell? ⟨w.heap.size, 0, none⟩ = some (I pid) := (HBX.out.but hs1 id).cell' (i := 0) rfl
        have HS1 := Lib.hid hs1
        clear hs1
        go_wp2_with fail
        refine (HCH.out _ HS1.out).mono ?_
        rintro _ w2 ⟨u, rfl, ho2, hs2⟩
        obtain ⟨A, cu, rfl, _⟩ := own_form ho2
        have HS2 := Lib.hid (HS1.out.trans hs2)
        have d0 : w2.cell? ⟨gt, 0, none⟩ = some (.slice (some ⟨g, 0, none⟩) ps.length c) := (H0.out.safe (HS1.out.trans hs2)).hp.cell' (i := 0) rfl
        clear ho2 hs2
        go_wp2_with fail
        refine (HIX.out _ HS2.out).mono ?_
        rintro _ w3 ⟨rfl, hs3⟩
        have HS3 := Lib.hid (HS2.out.trans hs3)
        clear hs3
        go_wp2
        exact bodyPost_ret (v := .tuple #[I 0, I 0, I 15]) (by simp [results, Try.results56, go_sem]) rfl ⟨rfl, TRet.same H.out (HS0.out.trans HS3.out)⟩
      | some k =>
        rw [hk, show ixP (some k) = (k : Int) from rfl] at hix
        obtain ⟨p, hp, hgp, hkl, _⟩ := findP_get hk
        have hgd : ps.getD k zeroR = p := by rw [List.getD_eq_getElem?_getD, hp]; rfl
        have HIX := Lib.hid hix
        have e : waitM ps pid = (ps.eraseIdx k, p.pid, p.code, 0) := by unfold waitM; rw [if_neg hl, if_neg hz, hk]; simp only [hgd]
        rw [e]
        obtain ⟨g', c', cur, hv, hbb, hBB, hnn, hmm, hss, htt⟩ := ownf_open encR_len H.out.ho hn
        injection hv with e1 e2 e3
        injection e1 with e1
        injection e1 with e1
        subst e1 e3
        have hdel := fun W (hW : Safe W0 W) => pdel_any B g c ps k W (H0.out.safe hW).ho hkl H.out.len hnn hmm
        have HDEL := Lib.hid hdel
        have hel : (ps.eraseIdx k).length = ps.length - 1 := List.length_eraseIdx_of_lt hkl
        have hgg := H.out.ne (k := g) rfl
        have HP := Lib.hid hp
        have HEL := Lib.hid hel
        have HLN := H.out.len
        generalize (whichP (fun p => p.parent == pid) ps) = ch at *
        have hzi : ((ch.length : Int) == 0) = false := by simpa using hz
        have hki : (k : Int) < ps.length := by omega
        clear e hl h hlive hch hl0 hix hk hdel hel hBB hss htt hp hgp hgd
        go_enter Try.func56, Try.ntmps56
        go_wp2_with fail
        rw [← HW0.out]
        go_wp2_with fail
        refine (HL.out).mono ?_
        rintro _ w1 ⟨rfl, hs1⟩
        have c1 : w1.cell? ⟨w.heap.size, 0, none⟩ = some (I pid) := (HBX.out.but hs1 id).cell' (i := 0) rfl
        have HS1 := Lib.hid hs1
        clear hs1
        go_wp2_with fail
        refine (HCH.out _ HS1.out).mono ?_
        rintro _ w2 ⟨u, rfl, ho2, hs2⟩
        obtain ⟨A, cu, rfl, _⟩ := own_form ho2
        have HS2 := Lib.hid (HS1.out.trans hs2)
        have d0 : w2.cell? ⟨gt, 0, none⟩ = some (.slice (some ⟨g, 0, none⟩) ps.length c) := (H0.out.safe (HS1.out.trans hs2)).hp.cell' (i := 0) rfl
        clear ho2 hs2
        go_wp2_with fail
        refine (HIX.out _ HS2.out).mono ?_
        rintro _ w3 ⟨rfl, hs3⟩
        have HS3 := Lib.hid (HS2.out.trans hs3)
        have h3 := H0.out.safe HS3.out
        have d3 : w3.cell? ⟨gt, 0, none⟩ = some (.slice (some ⟨g, 0, none⟩) ps.length c) := h3.hp.cell' (i := 0) rfl
        obtain ⟨x0, x1, x2, x3, x4, x5⟩ := h3.cells HP.out
        have hgt3 := h3.hp.lt
        have hg3 : g < w3.heap.size := (own_blk6 h3.ho rfl).2.1
        have hsA : Safe W0 (w3.alloc (.cells #[I p.pid, I p.parent, I p.state, I p.code, I p.until_, .bool p.killed] 33)) := HS3.out.alloc _
        have HSA := Lib.hid hsA
        clear hs3 h3 hsA
        go_wp2_with fail
        refine (HDEL.out _ HSA.out).mono ?_
        rintro _ w5 ⟨rfl, ho5, hs5⟩
        have hb5 := (Blk.new w3 33 (encR p).toArray).but hs5 (fun e => by have : w3.heap.size = g := e; omega)
        have y0 : w5.cell? ⟨w3.heap.size, 0, none⟩ = some (I p.pid) := hb5.cell' (i := 0) rfl
        have y3 : w5.cell? ⟨w3.heap.size, 3, none⟩ = some (I p.code) := hb5.cell' (i := 3) rfl
        have hp5 := (H0.out.safe HSA.out).hp.but hs5 (fun e => hgg (show gt = g from e).symm)
        have z0 : w5.frozen? ⟨gt, 0, none⟩ = false := hp5.frozen 0
        have z1 : w5.cell? ⟨gt, 0, none⟩ = some (.slice (some ⟨g, 0, none⟩) ps.length c) := hp5.cell' (i := 0) rfl
        have hn3 : w3.heap.size ≠ gt := by omega
        have HO5 := Lib.hid ho5
        have HP5 := Lib.hid hp5
        have HB5 := Lib.hid ((Safe.but (S := (· = g)) (HS0.out.trans HSA.out)).trans hs5)
        clear ho5 hp5 hs5 hb5
        go_wp2_with fail
        go_quiet (fail)
        go_wp2
        refine bodyPost_ret (v := .tuple #[I p.pid, I p.code, I 0]) (by simp [results, Try.results56, go_sem]) rfl ⟨rfl, .slice (some ⟨g, 0, none⟩) (ps.length - 1) c, ⟨?_, ?_, by rw [HEL.out]; omega⟩, ?_, fun k hk => .inl hk⟩
        · first | exact (HP5.out.set 0 _).drew | exact (HP5.out.set 0 _).drewN _ | exact HP5.out.set 0 _
        · rw [HEL.out]
          have hk5 : But (· = gt) w5 (w5.setCell ⟨gt, 0, none⟩ (.slice (some ⟨g, 0, none⟩) (ps.length - 1) c)) := (But.refl (· = gt) _).setCell (p := ⟨gt, 0, none⟩) (.inl rfl) _
          have hno : ∀ k, (Value.slice (some ⟨g, 0, none⟩) (ps.length - 1) c).ownBlock = some k → ¬ k = gt := fun k hk e => by
            have : g = k := by simpa [Value.ownBlock] using hk
            exact hgg (this.trans e)
          first | exact own_but_kept HO5.out hk5.drew hno | exact own_but_kept HO5.out (hk5.drewN _) hno | exact own_but_kept HO5.out hk5 hno
        · have hk6 := ((HB5.out.mono (fun k _ e => (Or.inr (by rw [show k = g from e]; rfl) : k = gt ∨ (Value.slice (some ⟨g, 0, none⟩) ps.length c).ownBlock = some k))).setCell (p := ⟨gt, 0, none⟩) (.inl (.inl rfl)) (.slice (some ⟨g, 0, none⟩) (ps.length - 1) c))
          first | exact hk6.drew | exact hk6.drewN _ | exact hk6
end Go.Proofs.Ytlojadpbdbhmiaa
