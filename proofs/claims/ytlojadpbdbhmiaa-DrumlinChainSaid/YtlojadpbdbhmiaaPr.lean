/- Pipes: Add. -/
import Derived.Test.YtlojadpbdbhmiaaPy
import Derived.Test.YtlojadpbdbhmiaaPv
namespace Go.Proofs.Ytlojadpbdbhmiaa.Pip
open Go.RowKit
set_option linter.unusedSimpArgs false
set_option linter.unusedVariables false

theorem PW.drewN {w : World} {gp gl : Nat} {ps : List Pp} (h : PW w gp gl ps) (n : Nat) : PW (w.drewN n) gp gl ps := ⟨h.hp.drewN n, h.hl.drewN n, h.ok, h.len⟩
theorem PW.put {w : World} {gp gl : Nat} {ps : List Pp} (h : PW w gp gl ps) {k : Nat} {p : Pp} (hk : k < ps.length) (hp : p.Ok) : w.there gl (k * 69) (encP p).toArray.size ∧ PW (w.setCells gl (k * 69) (encP p).toArray.toList) gp gl (ps.set k p) := by
  refine ⟨h.hl.there (by rw [encs_size, List.size_toArray, encP_len hp.rb]; omega), ⟨?_, ?_, fun q hq => ?_, by simpa using h.len⟩⟩
  · rw [List.length_set]; exact h.hp.farAll _ h.ne _
  · have := h.hl.setAll (encP p) (k * 69)
    rw [encs_put hp.rb hk] at this
    exact this
  · rcases List.mem_or_eq_of_mem_set hq with h2 | h2
    · exact h.ok q h2
    · rw [h2]; exact hp

def addOk (p : Pp) (a b : Int) : Bool := (decide (-p.r ≤ a) && decide (a ≤ 1000 - p.r)) && (decide (-p.w ≤ b) && decide (b ≤ 1000 - p.w))
def addP (p : Pp) (a b : Int) : Pp := if p.r + a + (p.w + b) = 0 then zeroP else { p with r := p.r + a, w := p.w + b }
theorem addP_ok {p : Pp} (h : p.Ok) {a b : Int} (ha : addOk p a b = true) : (addP p a b).Ok := by
  unfold addOk at ha
  simp only [Bool.and_eq_true, decide_eq_true_eq] at ha
  unfold addP
  split
  · exact zeroP_ok
  · exact ⟨h.rb, h.pat, h.pn, by show 0 ≤ p.r + a; omega, by show p.r + a ≤ 1000; omega, by show 0 ≤ p.w + b; omega, by show p.w + b ≤ 1000; omega⟩
set_option maxRecDepth 100000 in
set_option maxHeartbeats 2000000 in
theorem add_no (gp gl : Nat) (ps : List Pp) (k : Nat) (p : Pp) (w : World) (h : PW w gp gl ps) (hk : ps[k]? = some p) (ht : p.there = true) (a b : Int) (hok : addOk p a b = false) :
    Calls Try.prog 42 #[.pointer (some ⟨gp, 0, none⟩), .int .i64 ((k : Int) + 1), .int .i64 a, .int .i64 b] w fun e w' => e = .returned (I 1) ∧ w = w' := by
  obtain ⟨ho, _, _, _, c67, c68⟩ := h.c hk
  have hone := Lib.hid (one_yes gp gl ps k p w h hk ht)
  obtain ⟨_, _, _, r0, r1, w0, w1⟩ := ho
  have hm1 := may_any p.r a w (by omega) (by omega)
  have hm2 := may_any p.w b w (by omega) (by omega)
  unfold addOk at hok
  cases h1 : (decide (-p.r ≤ a) && decide (a ≤ 1000 - p.r))
  · rw [h1] at hm1
    have HM1 := Lib.hid hm1
    clear hm1 hm2 h1 hok
    go_enter Try.func42, Try.ntmps42
    go_wp2_with fail
    refine (hone.out).mono ?_
    rintro _ _ ⟨rfl, rfl⟩
    go_wp2_with fail
    refine (HM1.out).mono ?_
    rintro _ _ ⟨rfl, rfl⟩
    go_wp2
    go_ret
    exact ⟨rfl, rfl⟩
  · rw [h1, Bool.true_and] at hok
    rw [h1] at hm1
    rw [hok] at hm2
    have HM1 := Lib.hid hm1
    have HM2 := Lib.hid hm2
    clear hm1 hm2 h1 hok
    go_enter Try.func42, Try.ntmps42
    go_wp2_with fail
    refine (hone.out).mono ?_
    rintro _ _ ⟨rfl, rfl⟩
    go_wp2_with fail
    refine (HM1.out).mono ?_
    rintro _ _ ⟨rfl, rfl⟩
    go_wp2_with fail
    refine (HM2.out).mono ?_
    rintro _ _ ⟨rfl, rfl⟩
    go_wp2
    go_ret
    exact ⟨rfl, rfl⟩
set_option maxRecDepth 100000 in
set_option maxHeartbeats 2000000 in
theorem add_yes (gp gl : Nat) (ps : List Pp) (k : Nat) (p : Pp) (w : World) (h : PW w gp gl ps) (hk : ps[k]? = some p) (ht : p.there = true) (a b : Int) (hok : addOk p a b = true) :
    Calls Try.prog 42 #[.pointer (some ⟨gp, 0, none⟩), .int .i64 ((k : Int) + 1), .int .i64 a, .int .i64 b] w fun e w' => e = .returned (I 0) ∧ PW w' gp gl (ps.set k (addP p a b)) ∧ But (· = gl) w w' := by
  obtain ⟨ho, _, _, _, c67, c68⟩ := h.c hk
  have hone := Lib.hid (one_yes gp gl ps k p w h hk ht)
  have hfinok := addP_ok ho hok
  obtain ⟨hrb, hpat, hpn, r0, r1, w0, w1⟩ := ho
  have hm1 := may_any p.r a w (by omega) (by omega)
  have hm2 := may_any p.w b w (by omega) (by omega)
  have hlen := h.len
  have hkl := (List.getElem?_eq_some_iff.1 hk).1
  unfold addOk at hok
  rw [Bool.and_eq_true] at hok
  obtain ⟨hok1, hok2⟩ := hok
  rw [hok1] at hm1
  rw [hok2] at hm2
  simp only [Bool.and_eq_true, decide_eq_true_eq] at hok1 hok2
  have f67 := h.hl.frozen (k * 69 + 67)
  have f68 := h.hl.frozen (k * 69 + 68)
  have HM1 := Lib.hid hm1
  have HM2 := Lib.hid hm2
  have hP1 := h.set hk (p' := { p with r := p.r + a }) (v := I (p.r + a)) ⟨hrb, hpat, hpn, by show 0 ≤ p.r + a; omega, by show p.r + a ≤ 1000; omega, w0, w1⟩ (by omega) (encP_set_r hrb _)
  have hk1 : (ps.set k { p with r := p.r + a })[k]? = some { p with r := p.r + a } := by rw [List.getElem?_set_self hkl]
  have hP2 := hP1.set hk1 (p' := { p with r := p.r + a, w := p.w + b }) (v := I (p.w + b)) ⟨hrb, hpat, hpn, by show 0 ≤ p.r + a; omega, by show p.r + a ≤ 1000; omega, by show 0 ≤ p.w + b; omega, by show p.w + b ≤ 1000; omega⟩ (by omega) (encP_set_w (p := { p with r := p.r + a }) hrb _)
  rw [List.set_set] at hP2
  have hS2 : But (· = gl) w ((w.setCell ⟨gl, k * 69 + 67, none⟩ (I (p.r + a))).setCell ⟨gl, k * 69 + 68, none⟩ (I (p.w + b))) :=
    ((But.refl (· = gl) w).setCell (p := ⟨gl, k * 69 + 67, none⟩) (.inl rfl) _).setCell (p := ⟨gl, k * 69 + 68, none⟩) (.inl rfl) _
  have hk2 : (ps.set k { p with r := p.r + a, w := p.w + b })[k]? = some { p with r := p.r + a, w := p.w + b } := by rw [List.getElem?_set_self hkl]
  by_cases hz : p.r + a + (p.w + b) = 0
  · obtain ⟨Z, hZ⟩ : ∃ Z, Z = (encP zeroP).toArray := ⟨_, rfl⟩
    have hzero : ∀ w0 : World, (zeroValue 136).run Try.prog w0 = .ok (.agg Z) w0 := fun w0 => by rw [hZ]; exact zero_pipe w0
    have hzs : Z.size = 69 := by rw [hZ]; rfl
    have HSZ : Hid ((Try.prog.info? 136).map (·.size) = some Z.size) := Lib.hid (by rw [hzs, sizePipe])
    have HO : Hid (Z.all (·.oneCell') = true) := Lib.hid (by rw [hZ]; exact all_oneCell_toArray (pipe_one zeroP))
    have hpz : addP p a b = zeroP := by unfold addP; rw [if_pos hz]
    have hth := fun n => ((hP2.drewN n).put (k := k) (p := zeroP) (by simpa using hkl) zeroP_ok).1
    have hP3 := fun n => ((hP2.drewN n).put (k := k) (p := zeroP) (by simpa using hkl) zeroP_ok).2
    simp only [List.set_set, ← hpz] at hP3
    simp only [← hpz] at hth
    rw [← hpz] at hZ
    simp only [← hZ] at hth
    have HZL : Hid (Z.toList = encP (addP p a b)) := Lib.hid (by rw [hZ])
    have hS3 := fun n => (hS2.drewN n).setCells Z.toList (k * 69) (b := gl) (.inl rfl)
    have HT := Lib.hid hth
    have HP3 := Lib.hid hP3
    have HS3 := Lib.hid hS3
    clear hth hP3 hS3 hpz hP1 hP2 hS2 hk1 hk2 hfinok hm1 hm2 h hk hZ
    go_enter Try.func42, Try.ntmps42
    go_wp2_with fail
    refine (hone.out).mono ?_
    rintro _ _ ⟨rfl, rfl⟩
    go_wp2_with fail
    refine (HM1.out).mono ?_
    rintro _ _ ⟨rfl, rfl⟩
    go_wp2_with fail
    refine (HM2.out).mono ?_
    rintro _ _ ⟨rfl, rfl⟩
    go_wp2_with fail
    go_quiet (fail)
    go_wp2_with (refine wpList_store_mid rfl 136 (.tmp 66) (.tmp 65) rfl gl (k * 69) Z rfl rfl (HT.out _) HSZ.out HO.out ?_)
    go_ret
    exact ⟨rfl, by rw [HZL.out]; exact HP3.out _, HS3.out _⟩
  · have hfin : PW (((w.setCell ⟨gl, k * 69 + 67, none⟩ (I (p.r + a))).setCell ⟨gl, k * 69 + 68, none⟩ (I (p.w + b))))  gp gl (ps.set k (addP p a b)) := by
      have : addP p a b = { p with r := p.r + a, w := p.w + b } := by unfold addP; rw [if_neg hz]
      rw [this]
      exact hP2
    have hS3 : But (· = gl) w (((w.setCell ⟨gl, k * 69 + 67, none⟩ (I (p.r + a))).setCell ⟨gl, k * 69 + 68, none⟩ (I (p.w + b)))) := hS2
    have HP3 := Lib.hid hfin
    have HS3 := Lib.hid hS3
    clear hS3 hfin hP1 hP2 hS2 hk1 hk2 hfinok hm1 hm2 h hk
    go_enter Try.func42, Try.ntmps42
    go_wp2_with fail
    refine (hone.out).mono ?_
    rintro _ _ ⟨rfl, rfl⟩
    go_wp2_with fail
    refine (HM1.out).mono ?_
    rintro _ _ ⟨rfl, rfl⟩
    go_wp2_with fail
    refine (HM2.out).mono ?_
    rintro _ _ ⟨rfl, rfl⟩
    go_wp2_with fail
    go_quiet (fail)
    go_wp2
    go_ret
    exact ⟨rfl, HP3.out.drewN _, HS3.out.drewN _⟩
end Go.Proofs.Ytlojadpbdbhmiaa.Pip
