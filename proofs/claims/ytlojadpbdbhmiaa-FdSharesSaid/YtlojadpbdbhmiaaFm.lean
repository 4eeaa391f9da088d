/- Open files: each call, of the program and of the reference, answers one and the same plain function. -/
import Derived.Test.YtlojadpbdbhmiaaFo
namespace Go.Proofs.Ytlojadpbdbhmiaa
open Go.RowKit
set_option linter.unusedSimpArgs false
set_option linter.unusedVariables false

/-- Counts from 0 to b. -/
def PosF (os : List FO) (b : Int) : Prop := ∀ (j : Nat) (o : FO), os[j]? = some o → 0 ≤ o.refs ∧ o.refs ≤ b
theorem PosF.mono {os : List FO} {b b' : Int} (h : PosF os b) (hb : b ≤ b') : PosF os b' := fun j o ho => by have := h j o ho; omega
theorem PosF.set {os : List FO} {b b' : Int} (h : PosF os b) (hb : b ≤ b') {k : Nat} {o' : FO} (ho : 0 ≤ o'.refs ∧ o'.refs ≤ b') : PosF (os.set k o') b' := fun j o hj => by
  rw [List.getElem?_set] at hj
  split at hj
  · split at hj
    · injection hj with hj; rw [← hj]; omega
    · cases hj
  · have := h j o hj; omega
theorem PosF.zero (n : Nat) {b : Int} (hb : 0 ≤ b) : PosF (List.replicate n zeroF) b := fun j o hj => by
  rw [List.getElem?_replicate] at hj
  split at hj
  · injection hj with hj; rw [← hj]; exact ⟨Int.le_refl _, hb⟩
  · cases hj
def hasF (os : List FO) (id : Int) : Option (Nat × FO) := if 0 ≤ id then (match os[id.toNat]? with | some o => if o.refs = 0 then none else some (id.toNat, o) | none => none) else none
theorem hasF_cases (os : List FO) (id : Int) : (hasF os id = none ∧ NoF os id) ∨ ∃ (k : Nat) (o : FO), hasF os id = some (k, o) ∧ id = k ∧ os[k]? = some o ∧ o.refs ≠ 0 := by
  rcases f_cases os id with h | ⟨k, o, rfl, hk, ho, hr⟩
  · refine .inl ⟨?_, h⟩
    unfold hasF
    rcases h with h | h | ⟨k, o, rfl, hk, hr⟩
    · rw [if_neg (by omega)]
    · split
      · rw [List.getElem?_eq_none (by omega)]
      · rfl
    · rw [if_pos (by omega), Int.toNat_natCast, hk]
      simp [hr]
  · refine .inr ⟨k, o, ?_, rfl, ho, hr⟩
    unfold hasF
    rw [if_pos (by omega), Int.toNat_natCast, ho]
    simp [hr]
def opM (os : List FO) (a b c : Int) : List FO × Int × Int := if badO a b c then (os, 0, 1) else match freeF os with
  | some k => (os.set k (newO a b c), k, 0)
  | none => (os, 0, 14)
def rfM (os : List FO) (id : Int) : List FO × Int := match hasF os id with
  | some (k, o) => (os.set k { o with refs := o.refs + 1 }, 0)
  | none => (os, 2)
def mvM (os : List FO) (id p : Int) : List FO × Int := match hasF os id with
  | some (k, o) => if p < 0 then (os, 1) else (os.set k { o with pos := p }, 0)
  | none => (os, 2)
def clM (os : List FO) (id : Int) : List FO × FO × Bool × Int := match hasF os id with
  | some (k, o) => (os.set k (clF o), o, decide (o.refs = 1), 0)
  | none => (os, zeroF, false, 2)
theorem opM_pos {os : List FO} {b : Int} (h : PosF os b) (hb : 0 ≤ b) (x y z : Int) : PosF (opM os x y z).1 (b + 1) := by
  unfold opM
  split
  · exact h.mono (by omega)
  · split
    · exact h.set (by omega) (show 0 ≤ (1 : Int) ∧ (1 : Int) ≤ b + 1 from ⟨by omega, by omega⟩)
    · exact h.mono (by omega)
theorem rfM_pos {os : List FO} {b : Int} (h : PosF os b) (hb : 0 ≤ b) (x : Int) : PosF (rfM os x).1 (b + 1) := by
  unfold rfM
  rcases hasF_cases os x with ⟨e, _⟩ | ⟨k, o, e, _, ho, _⟩
  · rw [e]; exact h.mono (by omega)
  · rw [e]; have := h k o ho; exact h.set (by omega) (show 0 ≤ o.refs + 1 ∧ o.refs + 1 ≤ b + 1 from ⟨by omega, by omega⟩)
theorem mvM_pos {os : List FO} {b : Int} (h : PosF os b) (hb : 0 ≤ b) (x p : Int) : PosF (mvM os x p).1 (b + 1) := by
  unfold mvM
  rcases hasF_cases os x with ⟨e, _⟩ | ⟨k, o, e, _, ho, _⟩
  · rw [e]; exact h.mono (by omega)
  · rw [e]
    simp only
    split
    · exact h.mono (by omega)
    · have := h k o ho; exact h.set (by omega) (show 0 ≤ o.refs ∧ o.refs ≤ b + 1 from ⟨by omega, by omega⟩)
theorem clM_pos {os : List FO} {b : Int} (h : PosF os b) (hb : 0 ≤ b) (x : Int) : PosF (clM os x).1 (b + 1) := by
  unfold clM
  rcases hasF_cases os x with ⟨e, _⟩ | ⟨k, o, e, _, ho, hr⟩
  · rw [e]; exact h.mono (by omega)
  · rw [e]
    have := h k o ho
    refine h.set (by omega) ?_
    unfold clF
    split
    · exact ⟨Int.le_refl _, by show 0 ≤ b + 1; omega⟩
    · show 0 ≤ o.refs - 1 ∧ o.refs - 1 ≤ b + 1; omega
theorem fopenM (gf gl : Nat) (os : List FO) (x y z : Int) (w : World) (h : FW w gf gl os) :
    Calls Try.prog 20 #[.pointer (some ⟨gf, 0, none⟩), .int .i64 x, .int .i64 y, .int .i64 z] w fun e w' => e = .returned (.tuple #[I (opM os x y z).2.1, I (opM os x y z).2.2]) ∧ FW w' gf gl (opM os x y z).1 ∧ But (· = gl) w w' := by
  unfold opM
  cases hb : badO x y z with
  | true =>
    refine (fnew_inval gf gl os x y z w h hb).mono ?_
    rintro e w' ⟨rfl, rfl⟩
    exact ⟨rfl, h, But.refl _ _⟩
  | false =>
    rw [if_neg (by decide)]
    cases hf : freeF os with
    | some k => exact fnew_yes gf gl os k x y z w h hb hf
    | none =>
      refine (fnew_full gf gl os x y z w h hb hf).mono ?_
      rintro e w' ⟨rfl, hs⟩
      exact ⟨rfl, h.safe hs, hs.but⟩
theorem frefM (gf gl : Nat) (os : List FO) (id : Int) (w : World) (h : FW w gf gl os) (hp : PosF os 1000) :
    Calls Try.prog 22 #[.pointer (some ⟨gf, 0, none⟩), .int .i64 id] w fun e w' => e = .returned (I (rfM os id).2) ∧ FW w' gf gl (rfM os id).1 ∧ But (· = gl) w w' := by
  unfold rfM
  rcases hasF_cases os id with ⟨e, hn⟩ | ⟨k, o, e, rfl, ho, hr⟩
  · rw [e]
    refine (fref_no gf gl os id w h hn).mono ?_
    rintro _ w' ⟨rfl, rfl⟩
    exact ⟨rfl, h, But.refl _ _⟩
  · rw [e]
    have := hp k o ho
    exact fref_yes gf gl os k o w h ho hr (by omega) (by omega)
theorem fmoveM (gf gl : Nat) (os : List FO) (id p : Int) (w : World) (h : FW w gf gl os) :
    Calls Try.prog 26 #[.pointer (some ⟨gf, 0, none⟩), .int .i64 id, .int .i64 p] w fun e w' => e = .returned (I (mvM os id p).2) ∧ FW w' gf gl (mvM os id p).1 ∧ But (· = gl) w w' := by
  unfold mvM
  rcases hasF_cases os id with ⟨e, hn⟩ | ⟨k, o, e, rfl, ho, hr⟩
  · rw [e]
    refine (fmove_no gf gl os id p w h hn).mono ?_
    rintro _ w' ⟨rfl, rfl⟩
    exact ⟨rfl, h, But.refl _ _⟩
  · rw [e]
    by_cases hpn : p < 0
    · simp only [if_pos hpn]
      refine (fmove_inval gf gl os k o p w h ho hr hpn).mono ?_
      rintro _ w' ⟨rfl, rfl⟩
      exact ⟨rfl, h, But.refl _ _⟩
    · simp only [if_neg hpn]
      exact fmove_yes gf gl os k o p w h ho hr (by omega)
theorem fcloseM (gf gl : Nat) (os : List FO) (id : Int) (w : World) (h : FW w gf gl os) (hp : PosF os 1000) :
    Calls Try.prog 24 #[.pointer (some ⟨gf, 0, none⟩), .int .i64 id] w fun e w' => e = .returned (.tuple #[aggF (clM os id).2.1, .bool (clM os id).2.2.1, I (clM os id).2.2.2]) ∧ FW w' gf gl (clM os id).1 ∧ But (· = gl) w w' := by
  unfold clM
  rcases hasF_cases os id with ⟨e, hn⟩ | ⟨k, o, e, rfl, ho, hr⟩
  · rw [e]
    refine (fclose_no gf gl os id w h hn).mono ?_
    rintro _ w' ⟨rfl, hs⟩
    exact ⟨rfl, h.safe hs, hs.but⟩
  · rw [e]
    have := hp k o ho
    exact fclose_yes gf gl os k o w h ho hr (by omega) (by omega)
theorem ropenM (base : Nat) (v : Value) (os : List FO) (x y z : Int) (w : World) (h : LO w base v os) (h64 : os.length ≤ 64) (hb : base ≤ w.heap.size) :
    Calls Try.prog 21 #[v, .int .i64 x, .int .i64 y, .int .i64 z] w fun e w' => ORet w w' base e (u2 (opM os x y z).2.1 (opM os x y z).2.2) (opM os x y z).1 := by
  unfold opM
  cases hbo : badO x y z with
  | true => exact ropen_bad base v os x y z w h hbo
  | false =>
    rw [if_neg (by decide)]
    refine (ropen_good base v os x y z w h h64 hbo hb).mono ?_
    intro e w' hr
    unfold OpRet at hr
    cases hf : freeF os with
    | some k => rw [hf] at hr; exact hr
    | none => rw [hf] at hr; exact hr
theorem rrefM (base : Nat) (v : Value) (os : List FO) (id : Int) (w : World) (h : LO w base v os) (h64 : os.length ≤ 64) (hb : base ≤ w.heap.size) (hp : PosF os 1000) :
    Calls Try.prog 23 #[v, .int .i64 id] w fun e w' => ORet w w' base e (u1 (rfM os id).2) (rfM os id).1 := by
  unfold rfM
  rcases hasF_cases os id with ⟨e, hn⟩ | ⟨k, o, e, rfl, ho, hr⟩
  · rw [e]; exact rref_no base v os id w h hn
  · rw [e]
    have := hp k o ho
    exact rref_yes base v os k o w h ho h64 (by omega) (by omega) hb
theorem rmoveM (base : Nat) (v : Value) (os : List FO) (id p : Int) (w : World) (h : LO w base v os) (h64 : os.length ≤ 64) (hb : base ≤ w.heap.size) (hp : PosF os 1000) :
    Calls Try.prog 27 #[v, .int .i64 id, .int .i64 p] w fun e w' => ORet w w' base e (u1 (mvM os id p).2) (mvM os id p).1 := by
  unfold mvM
  rcases hasF_cases os id with ⟨e, hn⟩ | ⟨k, o, e, rfl, ho, hr⟩
  · rw [e]; exact rmove_no base v os id p w h hn
  · rw [e]
    have := hp k o ho
    by_cases hpn : p < 0
    · simp only [if_pos hpn]
      exact rmove_inval base v os k o p w h ho (by omega) hpn
    · simp only [if_neg hpn]
      exact rmove_yes base v os k o p w h ho h64 (by omega) (by omega) hb
theorem rcloseM (base : Nat) (v : Value) (os : List FO) (id : Int) (w : World) (h : LO w base v os) (h64 : os.length ≤ 64) (hb : base ≤ w.heap.size) (hp : PosF os 1000) :
    Calls Try.prog 25 #[v, .int .i64 id] w fun e w' => ORet w w' base e (u3 (clM os id).2.1 (clM os id).2.2.1 (clM os id).2.2.2) (clM os id).1 := by
  unfold clM
  rcases hasF_cases os id with ⟨e, hn⟩ | ⟨k, o, e, rfl, ho, hr⟩
  · rw [e]; exact rclose_no base v os id w h hn
  · rw [e]
    have := hp k o ho
    by_cases h1 : o.refs = 1
    · simp only [clF, if_pos h1, decide_eq_true h1]
      exact rclose_last base v os k o w h ho h64 h1 hb
    · simp only [clF, if_neg h1, decide_eq_false h1]
      exact rclose_more base v os k o w h ho h64 (by omega) (by omega) h1 hb
end Go.Proofs.Ytlojadpbdbhmiaa
