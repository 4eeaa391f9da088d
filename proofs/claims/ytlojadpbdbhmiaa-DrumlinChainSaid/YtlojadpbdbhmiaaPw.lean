/- Pipes: the small functions' walks. -/
import Derived.Test.YtlojadpbdbhmiaaPp
import Derived.Test.YtlojadpbdbhmiaaProg
import Derived.Deep.RegionHeld3
import Derived.Deep.QuietTactic
import Derived.BigQuiet
namespace Go.Proofs.Ytlojadpbdbhmiaa.Pip
open Go.RowKit
set_option linter.unusedSimpArgs false
set_option linter.unusedVariables false

/-- A *Pipes at block gp, its pipes at block gl. -/
structure PW (w : World) (gp gl : Nat) (ps : List Pp) : Prop where
  hp : Blk w gp 130 #[.slice (some ⟨gl, 0, none⟩) ps.length ps.length]
  hl : Blk w gl 136 (encs ps)
  ok : ∀ p ∈ ps, p.Ok
  len : ps.length ≤ 64
theorem PW.ne {w : World} {gp gl : Nat} {ps : List Pp} (h : PW w gp gl ps) : gp ≠ gl := h.hp.ne h.hl (by decide)
theorem PW.but {S : Nat → Prop} {w w' : World} {gp gl : Nat} {ps : List Pp} (h : PW w gp gl ps) (hb : But S w w') (h1 : ¬ S gp) (h2 : ¬ S gl) : PW w' gp gl ps :=
  ⟨h.hp.but hb h1, h.hl.but hb h2, h.ok, h.len⟩
theorem PW.safe {w w' : World} {gp gl : Nat} {ps : List Pp} (h : PW w gp gl ps) (hb : Safe w w') : PW w' gp gl ps := h.but hb id id
/-- Is pipe num there? Which one? -/
def hereAt (ps : List Pp) (num : Int) : Bool := decide (1 ≤ num) && decide (num ≤ ps.length) && (ps.getD (num - 1).toNat zeroP).there
theorem here_get {ps : List Pp} {num : Int} (h : hereAt ps num = true) : ∃ (k : Nat) (p : Pp), num = k + 1 ∧ k < ps.length ∧ ps[k]? = some p ∧ p.there = true := by
  unfold hereAt at h
  simp only [Bool.and_eq_true, decide_eq_true_eq] at h
  obtain ⟨⟨h1, h2⟩, h3⟩ := h
  have hk : (num - 1).toNat < ps.length := by omega
  refine ⟨(num - 1).toNat, ps[(num - 1).toNat], by omega, hk, List.getElem?_eq_getElem hk, ?_⟩
  rw [List.getD_eq_getElem?_getD, List.getElem?_eq_getElem hk] at h3
  exact h3
theorem here_mk {ps : List Pp} {k : Nat} {p : Pp} (hk : ps[k]? = some p) (ht : p.there = true) : hereAt ps ((k : Int) + 1) = true := by
  have hlt := (List.getElem?_eq_some_iff.1 hk).1
  unfold hereAt
  simp only [Bool.and_eq_true, decide_eq_true_eq]
  refine ⟨⟨by omega, by omega⟩, ?_⟩
  rw [show ((k : Int) + 1 - 1).toNat = k from by omega, List.getD_eq_getElem?_getD, hk]
  exact ht
theorem PW.c {w : World} {gp gl : Nat} {ps : List Pp} (h : PW w gp gl ps) {k : Nat} {p : Pp} (hk : ps[k]? = some p) : p.Ok ∧ w.cell? ⟨gl, k * 69 + 64, none⟩ = some (I p.pat) ∧ w.cell? ⟨gl, k * 69 + 65, none⟩ = some (I p.pn) ∧ w.cell? ⟨gl, k * 69 + 66, none⟩ = some (.bool p.there) ∧
    w.cell? ⟨gl, k * 69 + 67, none⟩ = some (I p.r) ∧ w.cell? ⟨gl, k * 69 + 68, none⟩ = some (I p.w) := by
  have ho := h.ok p (List.mem_of_getElem? hk)
  exact ⟨ho, h.hl.cell' (encs_get hk ho.rb (encP_pat ho.rb)), h.hl.cell' (encs_get hk ho.rb (encP_pn ho.rb)), h.hl.cell' (encs_get hk ho.rb (encP_there ho.rb)), h.hl.cell' (encs_get hk ho.rb (encP_r ho.rb)), h.hl.cell' (encs_get hk ho.rb (encP_w ho.rb))⟩

set_option maxRecDepth 100000 in
theorem one_yes (gp gl : Nat) (ps : List Pp) (k : Nat) (p : Pp) (w : World) (h : PW w gp gl ps) (hk : ps[k]? = some p) (ht : p.there = true) :
    Calls Try.prog 76 #[.pointer (some ⟨gp, 0, none⟩), .int .i64 ((k : Int) + 1)] w fun e w' => e = .returned (.tuple #[.pointer (some ⟨gl, k * 69, none⟩), I 0]) ∧ w = w' := by
  have hlt := (List.getElem?_eq_some_iff.1 hk).1
  have hlen := h.len
  obtain ⟨_, _, _, c66, _, _⟩ := h.c hk
  rw [ht] at c66
  have c0 := h.hp.cell' (i := 0) rfl
  go_enter Try.func76, Try.ntmps76
  go_wp2
  go_ret2
  exact ⟨rfl, rfl⟩
set_option maxRecDepth 100000 in
theorem one_no (gp gl : Nat) (ps : List Pp) (num : Int) (w : World) (h : PW w gp gl ps) (hh : hereAt ps num = false) :
    Calls Try.prog 76 #[.pointer (some ⟨gp, 0, none⟩), .int .i64 num] w fun e w' => e = .returned (.tuple #[.pointer none, I 2]) ∧ w = w' := by
  have hlen := h.len
  have c0 := h.hp.cell' (i := 0) rfl
  by_cases h1 : num < 1
  · go_enter Try.func76, Try.ntmps76
    go_wp2
    go_ret2
    exact ⟨rfl, rfl⟩
  by_cases h2 : (ps.length : Int) < num
  · go_enter Try.func76, Try.ntmps76
    go_wp2
    go_ret2
    exact ⟨rfl, rfl⟩
  · obtain ⟨k, rfl⟩ : ∃ k : Nat, num = (k : Int) + 1 := ⟨(num - 1).toNat, by omega⟩
    have hlt : k < ps.length := by omega
    obtain ⟨p, hk⟩ : ∃ p, ps[k]? = some p := ⟨_, List.getElem?_eq_getElem hlt⟩
    obtain ⟨_, _, _, c66, _, _⟩ := h.c hk
    have ht : p.there = false := by
      cases ht : p.there with
      | false => rfl
      | true => rw [here_mk hk ht] at hh; cases hh
    rw [ht] at c66
    clear hk
    go_enter Try.func76, Try.ntmps76
    go_wp2
    go_ret2
    exact ⟨rfl, rfl⟩
set_option maxRecDepth 100000 in
theorem may_any (a b : Int) (w : World) (ha : -100000 ≤ a) (ha' : a ≤ 100000) : Calls Try.prog 77 #[.int .i64 a, .int .i64 b] w fun e w' => e = .returned (.bool (decide (-a ≤ b) && decide (b ≤ 1000 - a))) ∧ w = w' := by
  by_cases h1 : -a ≤ b
  · by_cases h2 : b ≤ 1000 - a
    · rw [decide_eq_true h1, decide_eq_true h2]
      go_enter Try.func77, Try.ntmps77
      go_wp2
      go_ret
      exact ⟨rfl, rfl⟩
    · rw [decide_eq_true h1, decide_eq_false h2]
      go_enter Try.func77, Try.ntmps77
      go_wp2
      go_ret
      exact ⟨rfl, rfl⟩
  · rw [decide_eq_false h1]
    go_enter Try.func77, Try.ntmps77
    go_wp2
    go_ret
    exact ⟨rfl, rfl⟩
set_option maxRecDepth 100000 in
theorem ends_yes (gp gl : Nat) (ps : List Pp) (k : Nat) (p : Pp) (w : World) (h : PW w gp gl ps) (hk : ps[k]? = some p) (ht : p.there = true) :
    Calls Try.prog 50 #[.pointer (some ⟨gp, 0, none⟩), .int .i64 ((k : Int) + 1)] w fun e w' => e = .returned (.tuple #[I p.r, I p.w, I 0]) ∧ ∃ N, w' = w.drewN N := by
  obtain ⟨_, _, _, _, c67, c68⟩ := h.c hk
  have H := Lib.hid hk
  go_enter Try.func50, Try.ntmps50
  go_wp2_with fail
  refine (one_yes gp gl ps k p _ h hk ht).mono ?_
  rintro _ _ ⟨rfl, rfl⟩
  clear hk ht
  go_wp2_with fail
  go_quiet (fail)
  go_wp2
  go_ret3
  exact ⟨rfl, nq, rfl⟩
set_option maxRecDepth 100000 in
theorem ends_no (gp gl : Nat) (ps : List Pp) (num : Int) (w : World) (h : PW w gp gl ps) (hh : hereAt ps num = false) :
    Calls Try.prog 50 #[.pointer (some ⟨gp, 0, none⟩), .int .i64 num] w fun e w' => e = .returned (.tuple #[I 0, I 0, I 2]) ∧ w = w' := by
  have H := Lib.hid hh
  clear hh
  go_enter Try.func50, Try.ntmps50
  go_wp2_with fail
  refine (one_no gp gl ps num _ h H.out).mono ?_
  rintro _ _ ⟨rfl, rfl⟩
  go_wp2
  go_ret3
  exact ⟨rfl, rfl⟩
end Go.Proofs.Ytlojadpbdbhmiaa.Pip
