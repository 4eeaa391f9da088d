/- Pipes: Write, Read, Add. -/
import Derived.Test.YtlojadpbdbhmiaaPt
namespace Go.Proofs.Ytlojadpbdbhmiaa.Pip
open Go.RowKit
set_option linter.unusedSimpArgs false
set_option linter.unusedVariables false

/-- What Write answers: bytes taken, an error, the pipe after it. -/
def wrE (p : Pp) (bs : List Int) : Int := if bs.length = 0 then 0 else if p.r = 0 then 16 else if p.pn = 64 then 15 else 0
def wrN (p : Pp) (bs : List Int) : Nat := if bs.length = 0 ∨ p.r = 0 ∨ p.pn = 64 then 0 else min bs.length (64 - p.pn)
theorem putAll_nil (p : Pp) : putAll p [] = p := rfl

set_option maxRecDepth 100000 in
set_option maxHeartbeats 2000000 in
theorem write_yes (gp gl : Nat) (ps : List Pp) (k : Nat) (p : Pp) (w : World) (h : PW w gp gl ps) (hk : ps[k]? = some p) (ht : p.there = true) (A : Option Addr) (c : Nat) (bs : List Int) (hr : Rd U w A bs) (hA : 0 < bs.length → ∀ ad, A = some ad → ad.block ≠ gl) (hb : bs.length ≤ 1000000)
    (hb0 : ∀ x ∈ bs, 0 ≤ x ∧ x < 256) (hc : bs.length ≤ c) :
    Calls Try.prog 48 #[.pointer (some ⟨gp, 0, none⟩), .int .i64 ((k : Int) + 1), .slice A bs.length c] w fun e w' => e = .returned (.tuple #[I (wrN p bs), I (wrE p bs)]) ∧ PW w' gp gl (ps.set k (putAll p (bs.take (wrN p bs)))) ∧ But (· = gl) w w' := by
  obtain ⟨ho, _, c65, _, c67, _⟩ := h.c hk
  have hsame : PW w gp gl (ps.set k p) := by rw [set_same hk]; exact h
  have hone := Lib.hid (one_yes gp gl ps k p w h hk ht)
  by_cases h1 : bs.length = 0
  · have e1 : wrN p bs = 0 := by simp [wrN, h1]
    have e2 : wrE p bs = 0 := by simp [wrE, h1]
    rw [e1, e2, List.take_zero, putAll_nil]
    go_enter Try.func48, Try.ntmps48
    go_wp2_with fail
    refine (hone.out).mono ?_
    rintro _ _ ⟨rfl, rfl⟩
    rw [h1]
    go_wp2
    go_ret2
    exact ⟨rfl, hsame, But.refl _ _⟩
  have hlen0 : (bs.length : Int) ≠ 0 := by omega
  by_cases h2 : p.r = 0
  · have e1 : wrN p bs = 0 := by simp [wrN, h2]
    have e2 : wrE p bs = 16 := by simp [wrE, h1, h2]
    rw [e1, e2, List.take_zero, putAll_nil]
    rw [h2] at c67
    go_enter Try.func48, Try.ntmps48
    go_wp2_with fail
    refine (hone.out).mono ?_
    rintro _ _ ⟨rfl, rfl⟩
    go_wp2
    go_ret2
    exact ⟨rfl, hsame, But.refl _ _⟩
  by_cases h3 : p.pn = 64
  · have e1 : wrN p bs = 0 := by simp [wrN, h3]
    have e2 : wrE p bs = 15 := by simp [wrE, h1, h2, h3]
    rw [e1, e2, List.take_zero, putAll_nil]
    rw [h3] at c65
    go_enter Try.func48, Try.ntmps48
    go_wp2_with fail
    refine (hone.out).mono ?_
    rintro _ _ ⟨rfl, rfl⟩
    go_wp2
    go_ret2
    exact ⟨rfl, hsame, But.refl _ _⟩
  · have e1 : wrN p bs = min bs.length (64 - p.pn) := by simp [wrN, h1, h2, h3]
    have e2 : wrE p bs = 0 := by simp [wrE, h1, h2, h3]
    have e3 : bs.take (min bs.length (64 - p.pn)) = bs.take (64 - p.pn) := by
      rcases Nat.le_total bs.length (64 - p.pn) with h4 | h4
      · rw [Nat.min_eq_left h4, List.take_of_length_le h4, List.take_of_length_le (Nat.le_refl _)]
      · rw [Nat.min_eq_right h4]
    rw [e1, e2, e3]
    have hput := Lib.hid (put_any gp gl ps k p w h hk A c bs hr hA hb hb0 hc)
    have hpn : (p.pn : Int) ≠ 64 := by omega
    clear hr h hk hsame
    go_enter Try.func48, Try.ntmps48
    go_wp2_with fail
    refine (hone.out).mono ?_
    rintro _ _ ⟨rfl, rfl⟩
    go_wp2_with fail
    refine (hput.out).mono ?_
    rintro _ w1 ⟨rfl, hp1, hs1⟩
    go_wp2
    go_ret2
    exact ⟨rfl, hp1, hs1⟩
theorem write_yes' (gp gl : Nat) (ps : List Pp) (k : Nat) (p : Pp) (w : World) (h : PW w gp gl ps) (hk : ps[k]? = some p) (ht : p.there = true) (A : Option Addr) (l c : Nat) (bs : List Int) (hl : l = bs.length) (hr : Rd U w A bs) (hA : 0 < bs.length → ∀ ad, A = some ad → ad.block ≠ gl) (hb : bs.length ≤ 1000000)
    (hb0 : ∀ x ∈ bs, 0 ≤ x ∧ x < 256) (hc : bs.length ≤ c) :
    Calls Try.prog 48 #[.pointer (some ⟨gp, 0, none⟩), .int .i64 ((k : Int) + 1), .slice A l c] w fun e w' => e = .returned (.tuple #[I (wrN p bs), I (wrE p bs)]) ∧ PW w' gp gl (ps.set k (putAll p (bs.take (wrN p bs)))) ∧ But (· = gl) w w' := by
  subst hl
  exact write_yes gp gl ps k p w h hk ht A c bs hr hA hb hb0 hc
theorem wrE_cases (p : Pp) (bs : List Int) (hr : p.r ≠ 0) (hp : p.pn ≤ 64) : wrN p bs ≤ bs.length ∧ p.pn + wrN p bs ≤ 64 ∧ (wrE p bs = 0 ∨ (wrE p bs = 15 ∧ wrN p bs = 0 ∧ p.pn = 64)) := by
  unfold wrN wrE
  by_cases h1 : bs.length = 0
  · simp [h1]; omega
  · by_cases h3 : p.pn = 64
    · simp [h1, hr, h3]
    · simp [h1, hr, h3]; omega
/-- What Read answers. -/
def rdE (p : Pp) (n : Int) : Int := if n < 0 then 1 else if 0 < n ∧ p.pn = 0 ∧ 0 < p.w then 15 else 0
def rdN (p : Pp) (n : Int) : Nat := if rdE p n = 0 then min n.toNat p.pn else 0
set_option maxRecDepth 100000 in
set_option maxHeartbeats 2000000 in
theorem read_yes (gp gl : Nat) (ps : List Pp) (k : Nat) (p : Pp) (w : World) (h : PW w gp gl ps) (hk : ps[k]? = some p) (ht : p.there = true) (n : Int) (hn1 : n ≤ 9223372036854775807) :
    Calls Try.prog 49 #[.pointer (some ⟨gp, 0, none⟩), .int .i64 ((k : Int) + 1), .int .i64 n] w fun e w' => ∃ m : Nat, m = rdN p n ∧ ∃ A c, e = .returned (.tuple #[.slice A m c, I (rdE p n)]) ∧ m ≤ c ∧ (∀ ad, A = some ad → w.heap.size ≤ ad.block) ∧ w'.ownsRow w.heap.size 5 1 (.slice A m c) m ((headN p m).map U) ∧
      PW w' gp gl (ps.set k (takeN p m)) ∧ But (· = gl) w w' := by
  obtain ⟨ho, _, c65, _, _, c68⟩ := h.c hk
  have hsame : PW w gp gl (ps.set k p) := by rw [set_same hk]; exact h
  have hone := Lib.hid (one_yes gp gl ps k p w h hk ht)
  have hw0 := ho.w0
  have hpn := ho.pn
  by_cases h1 : n < 0
  · have e2 : rdE p n = 1 := by simp [rdE, h1]
    have e1 : rdN p n = 0 := by simp [rdN, e2]
    have HS := Lib.hid hsame
    clear hk h hsame
    go_enter Try.func49, Try.ntmps49
    go_wp2_with fail
    refine (hone.out).mono ?_
    rintro _ _ ⟨rfl, rfl⟩
    go_wp2
    go_ret2
    exact ⟨0, by rw [e1], none, 0, by rw [e2]; rfl, by omega, (fun ad he => by cases he), World.ownsRow_nil _ _ _ _, HS.out, But.refl _ _⟩
  by_cases h2 : 0 < n ∧ p.pn = 0 ∧ 0 < p.w
  · have e2 : rdE p n = 15 := by simp [rdE, h1, h2]
    have e1 : rdN p n = 0 := by simp [rdN, e2]
    obtain ⟨h3, h4, h5⟩ := h2
    rw [h4] at c65
    have HS := Lib.hid hsame
    clear hk h hsame
    go_enter Try.func49, Try.ntmps49
    go_wp2_with fail
    refine (hone.out).mono ?_
    rintro _ _ ⟨rfl, rfl⟩
    go_wp2
    go_ret2
    exact ⟨0, by rw [e1], none, 0, by rw [e2]; rfl, by omega, (fun ad he => by cases he), World.ownsRow_nil _ _ _ _, HS.out, But.refl _ _⟩
  · have e2 : rdE p n = 0 := by simp only [rdE, if_neg h1, if_neg h2]
    have e1 : rdN p n = min n.toNat p.pn := by simp [rdN, e2]
    have htk := Lib.hid (take_any gp gl ps k p w h hk n (by omega) hn1)
    clear h hk hsame
    have H2 : (¬ 0 < n) ∨ (0 < n ∧ ¬ (p.pn : Int) = 0) ∨ (0 < n ∧ p.pn = 0 ∧ ¬ 0 < p.w) := by
      by_cases a1 : 0 < n
      · by_cases a2 : p.pn = 0
        · exact .inr (.inr ⟨a1, a2, fun a3 => h2 ⟨a1, a2, a3⟩⟩)
        · exact .inr (.inl ⟨a1, by omega⟩)
      · exact .inl a1
    clear h2
    rcases H2 with a1 | ⟨a1, a2⟩ | ⟨a1, a2, a3⟩
    all_goals
      try rw [a2] at c65
      go_enter Try.func49, Try.ntmps49
      go_wp2_with fail
      refine (hone.out).mono ?_
      rintro _ _ ⟨rfl, rfl⟩
      go_wp2_with fail
      refine (htk.out).mono ?_
      rintro _ w1 ⟨m, hm, A, c, rfl, h5, h6, h7, h8, h9⟩
      have H7 := Lib.hid h7
      have HM := Lib.hid hm
      clear h7 hm
      go_wp2
      go_ret2
      exact ⟨m, by rw [e1, HM.out], A, c, by rw [e2]; rfl, h5, h6, H7.out, h8, h9⟩
end Go.Proofs.Ytlojadpbdbhmiaa.Pip
