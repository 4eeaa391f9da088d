/- Processes: other, Kill. -/
import Derived.Test.YtlojadpbdbhmiaaXe
namespace Go.Proofs.Ytlojadpbdbhmiaa
open Go.RowKit
set_option linter.unusedSimpArgs false
set_option linter.unusedVariables false

def otherP (ps : List PR) (pid : Int) : Int := if liveP ps pid ≠ 0 then liveP ps pid else if pid = 1 then 1 else 0
theorem otherP_one {ps : List PR} {pid : Int} (h : otherP ps pid = 0) : ∃ k p, oneP ps pid = some k ∧ ps[k]? = some p ∧ p.pid = pid ∧ k < ps.length ∧ p.state ≠ 3 ∧ pid ≠ 1 ∧ ps.getD k zeroR = p := by
  unfold otherP at h
  have hl : liveP ps pid = 0 := by
    by_cases e : liveP ps pid ≠ 0
    · rw [if_pos e] at h; omega
    · omega
  rw [if_neg (by omega)] at h
  have h1 : pid ≠ 1 := by
    intro e
    rw [if_pos e] at h; omega
  cases hk : oneP ps pid with
  | none => unfold liveP at hl; rw [hk] at hl; simp at hl
  | some k =>
    obtain ⟨p, hp, hpid, hlt⟩ := oneP_get hk
    have hgd : ps.getD k zeroR = p := by rw [List.getD_eq_getElem?_getD, hp]; rfl
    refine ⟨k, p, rfl, hp, hpid, hlt, ?_, h1, hgd⟩
    intro e
    unfold liveP at hl
    rw [hk] at hl
    simp only [hgd] at hl
    rw [if_pos e] at hl; omega
set_option maxRecDepth 100000 in
set_option maxHeartbeats 1000000 in
theorem pother_any (gt B g c : Nat) (ps : List PR) (most last now pid : Int) (w : World) (h : TW w gt B (.slice (some ⟨g, 0, none⟩) ps.length c) ps most last now) :
    Calls Try.prog 79 #[.pointer (some ⟨gt, 0, none⟩), .int .i64 pid] w fun e w' => e = .returned (I (otherP ps pid)) ∧ Safe w w' := by
  have hlive := plive_any gt B g c ps most last now pid w h
  by_cases hl : liveP ps pid ≠ 0
  · have e : otherP ps pid = liveP ps pid := by unfold otherP; rw [if_pos hl]
    rw [e]
    have hb : (liveP ps pid != 0) = true := by simpa using hl
    generalize liveP ps pid = L at *
    have HL := Lib.hid hlive
    clear e hl h hlive
    go_enter Try.func79, Try.ntmps79
    go_wp2_with fail
    refine (HL.out).mono ?_
    rintro _ w1 ⟨rfl, hs1⟩
    go_wp2
    go_ret
    exact ⟨rfl, hs1⟩
  · have hl0 : liveP ps pid = 0 := by omega
    rw [hl0] at hlive
    have HL := Lib.hid hlive
    by_cases h1 : pid = 1
    · have e : otherP ps pid = 1 := by unfold otherP; rw [if_neg hl, if_pos h1]
      rw [e]
      have hb : (pid == 1) = true := by simpa using h1
      clear e hl h hlive hl0 h1
      go_enter Try.func79, Try.ntmps79
      go_wp2_with fail
      refine (HL.out).mono ?_
      rintro _ w1 ⟨rfl, hs1⟩
      go_wp2
      go_ret
      exact ⟨rfl, hs1⟩
    · have e : otherP ps pid = 0 := by unfold otherP; rw [if_neg hl, if_neg h1]
      rw [e]
      have hb : (pid == 1) = false := by simpa using h1
      clear e hl h hlive hl0 h1
      go_enter Try.func79, Try.ntmps79
      go_wp2_with fail
      refine (HL.out).mono ?_
      rintro _ w1 ⟨rfl, hs1⟩
      go_wp2
      go_ret
      exact ⟨rfl, hs1⟩
def killM (ps : List PR) (pid : Int) : List PR × Int :=
  if otherP ps pid ≠ 0 then (ps, otherP ps pid) else match oneP ps pid with
  | some k => (ps.set k (wakeR { ps.getD k zeroR with killed := true }), 0)
  | none => (ps, 18)
set_option maxRecDepth 100000 in
set_option maxHeartbeats 1000000 in
theorem pkill_any (gt B : Nat) (v : Value) (ps : List PR) (most last now pid : Int) (w : World) (h : TW w gt B v ps most last now) (hn : 0 < ps.length) :
    Calls Try.prog 87 #[.pointer (some ⟨gt, 0, none⟩), .int .i64 pid] w fun e w' => e = .returned (I (killM ps pid).2) ∧ TRet w w' gt B v (killM ps pid).1 most last now := by
  obtain ⟨g, c, rfl, hgl, hBg⟩ := h.form hn
  have hoth := pother_any gt B g c ps most last now pid w h
  by_cases hl : otherP ps pid ≠ 0
  · have e : killM ps pid = (ps, otherP ps pid) := by unfold killM; rw [if_pos hl]
    rw [e]
    have hb : (otherP ps pid != 0) = true := by simpa using hl
    have H := Lib.hid h
    generalize otherP ps pid = L at *
    have HL := Lib.hid hoth
    clear e hl h hoth
    go_enter Try.func87, Try.ntmps87
    go_wp2_with fail
    refine (HL.out).mono ?_
    rintro _ w1 ⟨rfl, hs1⟩
    go_wp2
    go_ret
    exact ⟨rfl, TRet.same H.out hs1⟩
  · have hl0 : otherP ps pid = 0 := by omega
    rw [hl0] at hoth
    obtain ⟨k, p, hk, hp, hpid, hlt, hst, h1, hgd⟩ := otherP_one hl0
    have e : killM ps pid = (ps.set k (wakeR { p with killed := true }), 0) := by unfold killM; rw [if_neg hl, hk]; simp only [hgd]
    rw [e]
    have hone := fun W (hW : Safe w W) => one_yes gt B g c ps most last now pid k W (h.safe hW) hk
    have hcs := fun W (hW : Safe w W) => (h.safe hW).cells hp
    have hfr := fun W (hW : Safe w W) => (h.safe hW).frz hp (k * 6 + 5)
    have hwk := fun W (hW : Safe w W) => pwake_any gt B g c _ most last now k { p with killed := true } _ ((h.safe hW).setc (p' := { p with killed := true }) (u := .bool true) hp (j := 5) (by omega) rfl) (List.getElem?_set_self hlt)
    simp only [List.set_set] at hwk
    have HL := Lib.hid hoth
    have HO := Lib.hid hone
    have HCS := Lib.hid hcs
    have HFR := Lib.hid hfr
    have HWK := Lib.hid hwk
    clear e hl h hoth hl0 hk hp hpid hgd hone hcs hfr hwk h1 hst
    go_enter Try.func87, Try.ntmps87
    go_wp2_with fail
    refine (HL.out).mono ?_
    rintro _ w1 ⟨rfl, hs1⟩
    go_wp2_with fail
    refine (HO.out _ hs1).mono ?_
    rintro _ w2 ⟨rfl, hs2⟩
    obtain ⟨d0, d1, d2, d3, d4, d5⟩ := HCS.out _ (hs1.trans hs2)
    have f5 := HFR.out _ (hs1.trans hs2)
    have HS := Lib.hid (hs1.trans hs2)
    clear hs1 hs2
    go_wp2_with fail
    refine (HWK.out _ HS.out).mono ?_
    rintro _ w3 ⟨rfl, hT, hs3⟩
    have hb3 := (Safe.but (S := (· = g)) HS.out).setCell (p := ⟨g, k * 6 + 5, none⟩) (.inl rfl) (.bool true)
    have HB := Lib.hid (hb3.trans hs3)
    have HT := Lib.hid hT
    clear hT hb3 hs3
    go_wp2
    go_ret
    exact ⟨rfl, TRet.mk (A := none) HT.out HB.out⟩
end Go.Proofs.Ytlojadpbdbhmiaa
