/- Open files: each call, of the program and of the reference, answers one and the same plain function. FdShares, plain part: as often as a file is known it is open. FdShares: open files and some sets in memory. DrumlinChain: the map of the sets, and all that lies in memory. DrumlinChain: the closure that closes an open file, and the pipe's end behind it. An argument that is a slice of acts: what it holds. DrumlinChain: the argument, and what holds from turn to turn. -/
import Derived.Test.YtlojadpbdbhmiaaFo
import Derived.Test.YtlojadpbdbhmiaaFv
import Derived.Maps.RangeWalk
import Derived.Maps.OwnSet
import Derived.Test.YtlojadpbdbhmiaaCa
import Derived.Test.YtlojadpbdbhmiaaXj
import Derived.Test.YtlojadpbdbhmiaaFb
import Derived.Test.YtlojadpbdbhmiaaK
import Derived.Test.YtlojadpbdbhmiaaA
import Derived.Test.YtlojadpbdbhmiaaProg
import Derived.Deep.Slices
import Derived.Deep.Fields
import Derived.Test.YtlojadpbdbhmiaaPt
import Derived.Laws.BytesArg
/- Open files: each call, of the program and of the reference, answers one and the same plain function. -/
namespace Go.Proofs.Ytlojadpbdbhmiaa
open Go.RowKit
set_option linter.unusedSimpArgs false
set_option linter.unusedVariables false

/-- Counts from 0 to b. -/
def PosF (os : List FO) (b : Int) : Prop := ∀ (j : Nat) (o : FO), os[j]? = some o → 0 ≤ o.refs ∧ o.refs ≤ b
theorem PosF.mono {os : List FO} {b b' : Int} (h : PosF os b) (hb : b ≤ b') : PosF os b' := fun j o ho => by have := h j o ho; omega
theorem PosF.set {os : List FO} {b b' : Int} (h : PosF os b) (hb : b ≤ b') {k : Nat} {o' : FO} (ho : 0 ≤ o'.refs ∧ o'.refs ≤ b') : PosF (os.set k o') b' := fun j o hj => by
  rw [List.getElem?_set] at hj
  split at hj
  · split at hj
    · injection hj with hj; rw [← hj]; omega
    · cases hj
  · have := h j o hj; omega
theorem PosF.zero (n : Nat) {b : Int} (hb : 0 ≤ b) : PosF (List.replicate n zeroF) b := fun j o hj => by
  rw [List.getElem?_replicate] at hj
  split at hj
  · injection hj with hj; rw [← hj]; exact ⟨Int.le_refl _, hb⟩
  · cases hj
def hasF (os : List FO) (id : Int) : Option (Nat × FO) := if 0 ≤ id then (match os[id.toNat]? with | some o => if o.refs = 0 then none else some (id.toNat, o) | none => none) else none
theorem hasF_cases (os : List FO) (id : Int) : (hasF os id = none ∧ NoF os id) ∨ ∃ (k : Nat) (o : FO), hasF os id = some (k, o) ∧ id = k ∧ os[k]? = some o ∧ o.refs ≠ 0 := by
  rcases f_cases os id with h | ⟨k, o, rfl, hk, ho, hr⟩
  · refine .inl ⟨?_, h⟩
    unfold hasF
    rcases h with h | h | ⟨k, o, rfl, hk, hr⟩
    · rw [if_neg (by omega)]
    · split
      · rw [List.getElem?_eq_none (by omega)]
      · rfl
    · rw [if_pos (by omega), Int.toNat_natCast, hk]
      simp [hr]
  · refine .inr ⟨k, o, ?_, rfl, ho, hr⟩
    unfold hasF
    rw [if_pos (by omega), Int.toNat_natCast, ho]
    simp [hr]
def opM (os : List FO) (a b c : Int) : List FO × Int × Int := if badO a b c then (os, 0, 1) else match freeF os with
  | some k => (os.set k (newO a b c), k, 0)
  | none => (os, 0, 14)
def rfM (os : List FO) (id : Int) : List FO × Int := match hasF os id with
  | some (k, o) => (os.set k { o with refs := o.refs + 1 }, 0)
  | none => (os, 2)
def mvM (os : List FO) (id p : Int) : List FO × Int := match hasF os id with
  | some (k, o) => if p < 0 then (os, 1) else (os.set k { o with pos := p }, 0)
  | none => (os, 2)
def clM (os : List FO) (id : Int) : List FO × FO × Bool × Int := match hasF os id with
  | some (k, o) => (os.set k (clF o), o, decide (o.refs = 1), 0)
  | none => (os, zeroF, false, 2)
theorem opM_pos {os : List FO} {b : Int} (h : PosF os b) (hb : 0 ≤ b) (x y z : Int) : PosF (opM os x y z).1 (b + 1) := by
  unfold opM
  split
  · exact h.mono (by omega)
  · split
    · exact h.set (by omega) (show 0 ≤ (1 : Int) ∧ (1 : Int) ≤ b + 1 from ⟨by omega, by omega⟩)
    · exact h.mono (by omega)
theorem rfM_pos {os : List FO} {b : Int} (h : PosF os b) (hb : 0 ≤ b) (x : Int) : PosF (rfM os x).1 (b + 1) := by
  unfold rfM
  rcases hasF_cases os x with ⟨e, _⟩ | ⟨k, o, e, _, ho, _⟩
  · rw [e]; exact h.mono (by omega)
  · rw [e]; have := h k o ho; exact h.set (by omega) (show 0 ≤ o.refs + 1 ∧ o.refs + 1 ≤ b + 1 from ⟨by omega, by omega⟩)
theorem mvM_pos {os : List FO} {b : Int} (h : PosF os b) (hb : 0 ≤ b) (x p : Int) : PosF (mvM os x p).1 (b + 1) := by
  unfold mvM
  rcases hasF_cases os x with ⟨e, _⟩ | ⟨k, o, e, _, ho, _⟩
  · rw [e]; exact h.mono (by omega)
  · rw [e]
    simp only
    split
    · exact h.mono (by omega)
    · have := h k o ho; exact h.set (by omega) (show 0 ≤ o.refs ∧ o.refs ≤ b + 1 from ⟨by omega, by omega⟩)
theorem clM_pos {os : List FO} {b : Int} (h : PosF os b) (hb : 0 ≤ b) (x : Int) : PosF (clM os x).1 (b + 1) := by
  unfold clM
  rcases hasF_cases os x with ⟨e, _⟩ | ⟨k, o, e, _, ho, hr⟩
  · rw [e]; exact h.mono (by omega)
  · rw [e]
    have := h k o ho
    refine h.set (by omega) ?_
    unfold clF
    split
    · exact ⟨Int.le_refl _, by show 0 ≤ b + 1; omega⟩
    · show 0 ≤ o.refs - 1 ∧ o.refs - 1 ≤ b + 1; omega
theorem fopenM (gf gl : Nat) (os : List FO) (x y z : Int) (w : World) (h : FW w gf gl os) :
    Calls Try.prog 20 #[.pointer (some ⟨gf, 0, none⟩), .int .i64 x, .int .i64 y, .int .i64 z] w fun e w' => e = .returned (.tuple #[I (opM os x y z).2.1, I (opM os x y z).2.2]) ∧ FW w' gf gl (opM os x y z).1 ∧ But (· = gl) w w' := by
  unfold opM
  cases hb : badO x y z with
  | true =>
    refine (fnew_inval gf gl os x y z w h hb).mono ?_
    rintro e w' ⟨rfl, rfl⟩
    exact ⟨rfl, h, But.refl _ _⟩
  | false =>
    rw [if_neg (by decide)]
    cases hf : freeF os with
    | some k => exact fnew_yes gf gl os k x y z w h hb hf
    | none =>
      refine (fnew_full gf gl os x y z w h hb hf).mono ?_
      rintro e w' ⟨rfl, hs⟩
      exact ⟨rfl, h.safe hs, hs.but⟩
theorem frefM (gf gl : Nat) (os : List FO) (id : Int) (w : World) (h : FW w gf gl os) (hp : PosF os 1000) :
    Calls Try.prog 22 #[.pointer (some ⟨gf, 0, none⟩), .int .i64 id] w fun e w' => e = .returned (I (rfM os id).2) ∧ FW w' gf gl (rfM os id).1 ∧ But (· = gl) w w' := by
  unfold rfM
  rcases hasF_cases os id with ⟨e, hn⟩ | ⟨k, o, e, rfl, ho, hr⟩
  · rw [e]
    refine (fref_no gf gl os id w h hn).mono ?_
    rintro _ w' ⟨rfl, rfl⟩
    exact ⟨rfl, h, But.refl _ _⟩
  · rw [e]
    have := hp k o ho
    exact fref_yes gf gl os k o w h ho hr (by omega) (by omega)
theorem fmoveM (gf gl : Nat) (os : List FO) (id p : Int) (w : World) (h : FW w gf gl os) :
    Calls Try.prog 26 #[.pointer (some ⟨gf, 0, none⟩), .int .i64 id, .int .i64 p] w fun e w' => e = .returned (I (mvM os id p).2) ∧ FW w' gf gl (mvM os id p).1 ∧ But (· = gl) w w' := by
  unfold mvM
  rcases hasF_cases os id with ⟨e, hn⟩ | ⟨k, o, e, rfl, ho, hr⟩
  · rw [e]
    refine (fmove_no gf gl os id p w h hn).mono ?_
    rintro _ w' ⟨rfl, rfl⟩
    exact ⟨rfl, h, But.refl _ _⟩
  · rw [e]
    by_cases hpn : p < 0
    · simp only [if_pos hpn]
      refine (fmove_inval gf gl os k o p w h ho hr hpn).mono ?_
      rintro _ w' ⟨rfl, rfl⟩
      exact ⟨rfl, h, But.refl _ _⟩
    · simp only [if_neg hpn]
      exact fmove_yes gf gl os k o p w h ho hr (by omega)
theorem fcloseM (gf gl : Nat) (os : List FO) (id : Int) (w : World) (h : FW w gf gl os) (hp : PosF os 1000) :
    Calls Try.prog 24 #[.pointer (some ⟨gf, 0, none⟩), .int .i64 id] w fun e w' => e = .returned (.tuple #[aggF (clM os id).2.1, .bool (clM os id).2.2.1, I (clM os id).2.2.2]) ∧ FW w' gf gl (clM os id).1 ∧ But (· = gl) w w' := by
  unfold clM
  rcases hasF_cases os id with ⟨e, hn⟩ | ⟨k, o, e, rfl, ho, hr⟩
  · rw [e]
    refine (fclose_no gf gl os id w h hn).mono ?_
    rintro _ w' ⟨rfl, hs⟩
    exact ⟨rfl, h.safe hs, hs.but⟩
  · rw [e]
    have := hp k o ho
    exact fclose_yes gf gl os k o w h ho hr (by omega) (by omega)
theorem ropenM (base : Nat) (v : Value) (os : List FO) (x y z : Int) (w : World) (h : LO w base v os) (h64 : os.length ≤ 64) (hb : base ≤ w.heap.size) :
    Calls Try.prog 21 #[v, .int .i64 x, .int .i64 y, .int .i64 z] w fun e w' => ORet w w' base e (u2 (opM os x y z).2.1 (opM os x y z).2.2) (opM os x y z).1 := by
  unfold opM
  cases hbo : badO x y z with
  | true => exact ropen_bad base v os x y z w h hbo
  | false =>
    rw [if_neg (by decide)]
    refine (ropen_good base v os x y z w h h64 hbo hb).mono ?_
    intro e w' hr
    unfold OpRet at hr
    cases hf : freeF os with
    | some k => rw [hf] at hr; exact hr
    | none => rw [hf] at hr; exact hr
theorem rrefM (base : Nat) (v : Value) (os : List FO) (id : Int) (w : World) (h : LO w base v os) (h64 : os.length ≤ 64) (hb : base ≤ w.heap.size) (hp : PosF os 1000) :
    Calls Try.prog 23 #[v, .int .i64 id] w fun e w' => ORet w w' base e (u1 (rfM os id).2) (rfM os id).1 := by
  unfold rfM
  rcases hasF_cases os id with ⟨e, hn⟩ | ⟨k, o, e, rfl, ho, hr⟩
  · rw [e]; exact rref_no base v os id w h hn
  · rw [e]
    have := hp k o ho
    exact rref_yes base v os k o w h ho h64 (by omega) (by omega) hb
theorem rmoveM (base : Nat) (v : Value) (os : List FO) (id p : Int) (w : World) (h : LO w base v os) (h64 : os.length ≤ 64) (hb : base ≤ w.heap.size) (hp : PosF os 1000) :
    Calls Try.prog 27 #[v, .int .i64 id, .int .i64 p] w fun e w' => ORet w w' base e (u1 (mvM os id p).2) (mvM os id p).1 := by
  unfold mvM
  rcases hasF_cases os id with ⟨e, hn⟩ | ⟨k, o, e, rfl, ho, hr⟩
  · rw [e]; exact rmove_no base v os id p w h hn
  · rw [e]
    have := hp k o ho
    by_cases hpn : p < 0
    · simp only [if_pos hpn]
      exact rmove_inval base v os k o p w h ho (by omega) hpn
    · simp only [if_neg hpn]
      exact rmove_yes base v os k o p w h ho h64 (by omega) (by omega) hb
theorem rcloseM (base : Nat) (v : Value) (os : List FO) (id : Int) (w : World) (h : LO w base v os) (h64 : os.length ≤ 64) (hb : base ≤ w.heap.size) (hp : PosF os 1000) :
    Calls Try.prog 25 #[v, .int .i64 id] w fun e w' => ORet w w' base e (u3 (clM os id).2.1 (clM os id).2.2.1 (clM os id).2.2.2) (clM os id).1 := by
  unfold clM
  rcases hasF_cases os id with ⟨e, hn⟩ | ⟨k, o, e, rfl, ho, hr⟩
  · rw [e]; exact rclose_no base v os id w h hn
  · rw [e]
    have := hp k o ho
    by_cases h1 : o.refs = 1
    · simp only [clF, if_pos h1, decide_eq_true h1]
      exact rclose_last base v os k o w h ho h64 h1 hb
    · simp only [clF, if_neg h1, decide_eq_false h1]
      exact rclose_more base v os k o w h ho h64 (by omega) (by omega) h1 hb
end Go.Proofs.Ytlojadpbdbhmiaa
/- FdShares, plain part: as often as a file is known it is open. -/
namespace Go.Proofs.Ytlojadpbdbhmiaa
open Go.RowKit
set_option linter.unusedSimpArgs false
set_option linter.unusedVariables false

/-- How often the sets know x. -/
def cntS (S : List (List Int)) (x : Int) : Nat := (S.map (fun ids => ids.count x)).sum
theorem cntS_nil (x : Int) : cntS [] x = 0 := rfl
theorem cntS_snoc (S : List (List Int)) (ids : List Int) (x : Int) : cntS (S ++ [ids]) x = cntS S x + ids.count x := by simp [cntS]
theorem cntS_set {S : List (List Int)} {i : Nat} {ids : List Int} (h : S[i]? = some ids) (ids' : List Int) (x : Int) : cntS (S.set i ids') x + ids.count x = cntS S x + ids'.count x := by
  induction S generalizing i with
  | nil => simp at h
  | cons a r ih =>
    cases i with
    | zero =>
      simp at h
      subst h
      simp [cntS]; omega
    | succ i =>
      have := ih (i := i) (by simpa using h)
      simp [cntS] at this ⊢; omega
theorem cntS_at {S : List (List Int)} {i : Nat} {ids : List Int} (h : S[i]? = some ids) (x : Int) : ids.count x ≤ cntS S x := by
  induction S generalizing i with
  | nil => simp at h
  | cons a r ih =>
    cases i with
    | zero => simp at h; subst h; simp [cntS]
    | succ i =>
      have := ih (i := i) (by simpa using h)
      simp [cntS] at this ⊢; omega
theorem cntS_le {S : List (List Int)} {b : Nat} (h : ∀ ids ∈ S, ids.length ≤ b) (x : Int) : cntS S x ≤ S.length * b := by
  induction S with
  | nil => simp [cntS]
  | cons a r ih =>
    have h1 := ih (fun ids hi => h ids (List.mem_cons_of_mem _ hi))
    have h2 := h a (List.mem_cons_self ..)
    have h3 := List.count_le_length (a := x) (l := a)
    simp only [cntS, List.map_cons, List.sum_cons, List.length_cons, Nat.add_mul] at h1 ⊢
    omega
theorem count_set {ids : List Int} {j : Nat} {y : Int} (h : ids[j]? = some y) (x k : Int) : (ids.set j x).count k + (if y = k then 1 else 0) = ids.count k + (if x = k then 1 else 0) := by
  induction ids generalizing j with
  | nil => simp at h
  | cons a r ih =>
    cases j with
    | zero =>
      simp at h
      subst h
      simp only [List.set_cons_zero, List.count_cons, beq_iff_eq]; omega
    | succ j =>
      have := ih (j := j) (by simpa using h)
      simp only [List.set_cons_succ, List.count_cons]; omega
/-- A set's ids are fit. -/
def Fit8 (ids : List Int) : Prop := ids.length = 8 ∧ ∀ x ∈ ids, x = -1 ∨ (0 ≤ x ∧ x < 20)
theorem Fit8.set {ids : List Int} (h : Fit8 ids) (j : Nat) {x : Int} (hx : x = -1 ∨ (0 ≤ x ∧ x < 20)) : Fit8 (ids.set j x) := by
  refine ⟨by rw [List.length_set]; exact h.1, fun y hy => ?_⟩
  rcases List.mem_or_eq_of_mem_set hy with h1 | h1
  · exact h.2 y h1
  · rw [h1]; exact hx
/-- The open files are those that the sets know, just as often. -/
structure Sh (os : List FO) (S : List (List Int)) (e : Int → Nat) : Prop where
  len : os.length = 20
  n1 : 1 ≤ S.length
  n6 : S.length ≤ 6
  fit : ∀ ids ∈ S, Fit8 ids
  refs : ∀ (k : Nat) (o : FO), os[k]? = some o → o.refs = ((cntS S k + e k : Nat) : Int)
  few : ∀ k, e k ≤ 8
abbrev noE : Int → Nat := fun _ => 0
section
variable {os : List FO} {S : List (List Int)} {e : Int → Nat}
theorem Sh.pos (h : Sh os S e) : PosF os 1000 := fun j o ho => by
  have h1 := h.refs j o ho
  have h2 := cntS_le (b := 8) (fun ids hi => by rw [(h.fit ids hi).1]; exact Nat.le_refl _) (j : Int)
  have h3 := h.few j
  have h4 : S.length * 8 ≤ 6 * 8 := Nat.mul_le_mul_right 8 h.n6
  omega
/-- A file that is known is open. -/
theorem Sh.has (h : Sh os S e) {x : Int} (h0 : 0 ≤ x) (h1 : x < 20) (hc : 0 < cntS S x + e x) : ∃ (k : Nat) (o : FO), x = k ∧ hasF os x = some (k, o) ∧ os[k]? = some o ∧ o.refs = ((cntS S x + e x : Nat) : Int) := by
  obtain ⟨k, rfl⟩ : ∃ k : Nat, x = k := ⟨x.toNat, by omega⟩
  have hk : k < os.length := by rw [h.len]; omega
  have ho := List.getElem?_eq_getElem hk
  have hr := h.refs k _ ho
  refine ⟨k, _, rfl, ?_, ho, hr⟩
  unfold hasF
  rw [if_pos h0, Int.toNat_natCast, ho]
  simp only
  rw [if_neg (by omega)]
theorem Sh.start : Sh (List.replicate 20 zeroF) [List.replicate 8 (-1)] noE := by
  refine ⟨by simp, by simp, by simp, fun ids hi => ?_, fun k o ho => ?_, fun _ => by simp⟩
  · rw [List.mem_singleton] at hi
    subst hi
    exact ⟨by simp, fun x hx => .inl (List.eq_of_mem_replicate hx)⟩
  · rw [List.getElem?_replicate] at ho
    split at ho
    · injection ho with ho
      rw [← ho]
      have : cntS [List.replicate 8 (-1)] (k : Int) = 0 := by
        simp only [cntS, List.map_cons, List.map_nil, List.sum_cons, List.sum_nil, Nat.add_zero]
        exact List.count_eq_zero.2 (fun hm => by have := List.eq_of_mem_replicate hm; omega)
      rw [this]; rfl
    · cases ho
theorem Sh.turn (h : Sh os S noE) {os' : List FO} {S' : List (List Int)} (hl : os'.length = os.length) (hS : S'.length = S.length) (hf : ∀ ids ∈ S', Fit8 ids) (hr : ∀ (k : Nat) (o : FO), os'[k]? = some o → o.refs = (cntS S' k : Int)) : Sh os' S' noE :=
  ⟨by rw [hl]; exact h.len, by rw [hS]; exact h.n1, by rw [hS]; exact h.n6, hf, fun k o ho => by rw [hr k o ho]; rfl, fun _ => by simp⟩
theorem Sh.fit_set (h : Sh os S e) (i : Nat) {ids' : List Int} (hf : Fit8 ids') : ∀ ids ∈ S.set i ids', Fit8 ids := fun ids hi => by
  rcases List.mem_or_eq_of_mem_set hi with h1 | h1
  · exact h.fit ids h1
  · rw [h1]; exact hf
theorem Sh.refs0 (h : Sh os S noE) {k : Nat} {o : FO} (ho : os[k]? = some o) : o.refs = (cntS S k : Int) := h.refs k o ho
theorem Sh.set_refs (h : Sh os S noE) {k : Nat} {o' : FO} {S' : List (List Int)} (hS : S'.length = S.length) (hf : ∀ ids ∈ S', Fit8 ids) (h1 : o'.refs = (cntS S' k : Int)) (h2 : ∀ j : Nat, j ≠ k → cntS S' (j : Int) = cntS S (j : Int)) : Sh (os.set k o') S' noE := by
  refine h.turn (by simp) hS hf (fun j o hj => ?_)
  rw [List.getElem?_set] at hj
  split at hj
  · split at hj
    · injection hj with hj
      rename_i e _
      rw [← hj, ← e]; exact h1
    · cases hj
  · rename_i hne
    rw [h2 j (fun e => hne e.symm)]; exact h.refs0 hj
/-- Open: none is free, or one is. -/
theorem Sh.open_ (h : Sh os S noE) : (opM os 1 1 1 = (os, 0, 14)) ∨ ∃ k : Nat, k < 20 ∧ opM os 1 1 1 = (os.set k (newO 1 1 1), (k : Int), 0) ∧ cntS S k = 0 ∧ PosF (os.set k (newO 1 1 1)) 1000 ∧ hasF (os.set k (newO 1 1 1)) k = some (k, newO 1 1 1) := by
  unfold opM
  rw [if_neg (by decide)]
  cases hf : freeF os with
  | none => exact .inl rfl
  | some k =>
    obtain ⟨o, ho, hr, hk⟩ := find_get hf
    have h1 := h.refs0 ho
    have h2 : o.refs = 0 := by simpa using hr
    have hp : PosF (os.set k (newO 1 1 1)) 1000 := h.pos.set (by omega) (show 0 ≤ (1 : Int) ∧ (1 : Int) ≤ 1000 from ⟨by omega, by omega⟩)
    refine .inr ⟨k, by rw [← h.len]; exact hk, rfl, by omega, hp, ?_⟩
    unfold hasF
    rw [if_pos (by omega), Int.toNat_natCast, List.getElem?_set_self hk]
    rfl
theorem Sh.put_yes (h : Sh os S noE) {k i : Nat} {ids : List Int} (hk : k < 20) (hc : cntS S k = 0) (hi : S[i]? = some ids) {j : Nat} (hj : freeS ids = some j) :
    ptM ids k = (ids.set j k, (j : Int), 0) ∧ Sh (os.set k (newO 1 1 1)) (S.set i (ids.set j k)) noE := by
  obtain ⟨hy, hjl⟩ := freeS_get hj
  refine ⟨by unfold ptM; rw [if_neg (by omega), hj], ?_⟩
  have hcs := fun x => cntS_set hi (ids.set j (k : Int)) x
  have hct := fun x => count_set hy (k : Int) x
  refine h.set_refs (by simp) (h.fit_set i ((h.fit ids (List.mem_of_getElem? hi)).set j (.inr ⟨by omega, by omega⟩))) ?_ (fun m hm => ?_)
  · have h1 := hcs k
    have h2 := hct k
    rw [if_neg (by omega), if_pos rfl] at h2
    show (1 : Int) = _
    omega
  · have h1 := hcs m
    have h2 := hct m
    rw [if_neg (by omega), if_neg (by omega)] at h2
    omega
theorem Sh.put_no (h : Sh os S noE) {k : Nat} {ids : List Int} (hk : k < 20) (hc : cntS S k = 0) (hh : hasF (os.set k (newO 1 1 1)) k = some (k, newO 1 1 1)) (hj : freeS ids = none) :
    ptM ids k = (ids, 0, 13) ∧ clM (os.set k (newO 1 1 1)) k = (os.set k zeroF, newO 1 1 1, true, 0) ∧ Sh (os.set k zeroF) S noE := by
  refine ⟨by unfold ptM; rw [if_neg (by omega), hj], ?_, h.set_refs rfl h.fit (by rw [hc]; rfl) (fun m hm => rfl)⟩
  unfold clM
  rw [hh]
  simp only
  rw [List.set_set]
  rfl
/-- Take and Close. -/
theorem Sh.take (h : Sh os S noE) {i : Nat} {ids : List Int} (hi : S[i]? = some ids) (fd : Int) : (tkM ids fd = (ids, 0, 2)) ∨ ∃ (x : Int) (ids' : List Int) (os' : List FO) (o : FO) (b : Bool), tkM ids fd = (ids', x, 0) ∧ clM os x = (os', o, b, 0) ∧ Sh os' (S.set i ids') noE := by
  unfold tkM
  rcases getS_cases ids fd with ⟨e, _⟩ | ⟨j, x, e, rfl, hjl, hx, hm⟩
  · rw [e]; exact .inl rfl
  · rw [e]
    right
    have hfit := h.fit ids (List.mem_of_getElem? hi)
    have hr := hfit.2 x (List.mem_of_getElem? hx)
    have hcp : 0 < ids.count x := List.count_pos_iff.2 (List.mem_of_getElem? hx)
    have hca := cntS_at hi x
    obtain ⟨k, o, rfl, hh, ho, hrf⟩ := h.has (x := x) (by omega) (by omega) (by show 0 < cntS S x + 0; omega)
    have hrf : o.refs = (cntS S k : Int) := hrf
    refine ⟨k, ids.set j (-1), os.set k (clF o), o, decide (o.refs = 1), rfl, by unfold clM; rw [hh], ?_⟩
    have hcs := fun x => cntS_set hi (ids.set j (-1)) x
    have hct := fun x => count_set hx (-1) x
    refine h.set_refs (by simp) (h.fit_set i (hfit.set j (.inl rfl))) ?_ (fun m hm => ?_)
    · have h1 := hcs k
      have h2 := hct k
      rw [if_pos rfl, if_neg (by omega)] at h2
      unfold clF
      split
      · show (0 : Int) = _
        omega
      · show o.refs - 1 = _
        omega
    · have h1 := hcs m
      have h2 := hct m
      rw [if_neg (by omega), if_neg (by omega)] at h2
      omega
theorem Sh.get (h : Sh os S noE) {i : Nat} {ids : List Int} (hi : S[i]? = some ids) (fd : Int) : (gtM ids fd = (0, 2)) ∨ ∃ (x : Int), gtM ids fd = (x, 0) ∧ ((ptM ids x = (ids, 0, 13)) ∨ ∃ (j : Nat) (ids' : List Int) (os' : List FO), ptM ids x = (ids', (j : Int), 0) ∧ rfM os x = (os', 0) ∧ Sh os' (S.set i ids') noE) := by
  unfold gtM
  rcases getS_cases ids fd with ⟨e, _⟩ | ⟨j, x, e, rfl, hjl, hx, hm⟩
  · rw [e]; exact .inl rfl
  · rw [e]
    right
    have hfit := h.fit ids (List.mem_of_getElem? hi)
    have hr := hfit.2 x (List.mem_of_getElem? hx)
    have hcp : 0 < ids.count x := List.count_pos_iff.2 (List.mem_of_getElem? hx)
    have hca := cntS_at hi x
    obtain ⟨k, o, rfl, hh, ho, hrf⟩ := h.has (x := x) (by omega) (by omega) (by show 0 < cntS S x + 0; omega)
    have hrf : o.refs = (cntS S k : Int) := hrf
    refine ⟨k, rfl, ?_⟩
    unfold ptM
    rw [if_neg (by omega)]
    cases hj : freeS ids with
    | none => exact .inl rfl
    | some q =>
      right
      obtain ⟨hy, hql⟩ := freeS_get hj
      refine ⟨q, ids.set q k, os.set k { o with refs := o.refs + 1 }, rfl, by unfold rfM; rw [hh], ?_⟩
      have hcs := fun x => cntS_set hi (ids.set q (k : Int)) x
      have hct := fun x => count_set hy (k : Int) x
      refine h.set_refs (by simp) (h.fit_set i (hfit.set q (.inr ⟨by omega, by omega⟩))) ?_ (fun m hm => ?_)
      · have h1 := hcs k
        have h2 := hct k
        rw [if_neg (by omega), if_pos rfl] at h2
        show o.refs + 1 = _
        omega
      · have h1 := hcs m
        have h2 := hct m
        rw [if_neg (by omega), if_neg (by omega)] at h2
        omega
/-- What a set knows, as a list: of the first q. -/
def eAt (l : List Int) (q : Nat) : Int → Nat := fun x => (l.take q).count x
theorem allS_mem {ids : List Int} {x : Int} (h : x ∈ allS ids) : x ∈ ids ∧ x ≠ -1 := by
  unfold allS at h
  rw [List.mem_filter] at h
  exact ⟨h.1, by simpa using h.2⟩
theorem allS_count {ids : List Int} {x : Int} (h : x ≠ -1) : (allS ids).count x = ids.count x := by
  unfold allS
  rw [List.count_filter]
  simpa using h
/-- Ref, once more each. -/
theorem Sh.ref1 {ids : List Int} (hf : ids ∈ S) {q : Nat} (h : Sh os S (eAt (allS ids) q)) {x : Int} (hx : (allS ids)[q]? = some x) : ∃ os', rfM os x = (os', 0) ∧ Sh os' S (eAt (allS ids) (q + 1)) := by
  have hxm := allS_mem (List.mem_of_getElem? hx)
  have hfit := h.fit ids hf
  have hr := hfit.2 x hxm.1
  have hcp : 0 < ids.count x := List.count_pos_iff.2 hxm.1
  obtain ⟨i, hi⟩ := List.getElem?_of_mem hf
  have hca := cntS_at hi x
  obtain ⟨k, o, rfl, hh, ho, hrf⟩ := h.has (x := x) (by omega) (by omega) (by omega)
  have hk : k < os.length := (List.getElem?_eq_some_iff.1 ho).1
  have he : ∀ y, eAt (allS ids) (q + 1) y = eAt (allS ids) q y + if (k : Int) = y then 1 else 0 := fun y => by
    unfold eAt
    rw [List.take_add_one, hx, List.count_append]
    simp [List.count_cons]
  refine ⟨os.set k { o with refs := o.refs + 1 }, by unfold rfM; rw [hh], by simpa using h.len, h.n1, h.n6, h.fit, fun j o2 hj => ?_, fun y => ?_⟩
  · rw [he]
    rw [List.getElem?_set] at hj
    by_cases e1 : k = j
    · rw [if_pos e1, if_pos hk] at hj
      injection hj with hj
      rw [← hj, ← e1, if_pos rfl]
      show o.refs + 1 = _
      omega
    · rw [if_neg e1] at hj
      rw [if_neg (by omega)]
      exact h.refs j o2 hj
  · unfold eAt
    have h1 := List.count_le_length (a := y) (l := (allS ids).take (q + 1))
    have h2 : (allS ids).length ≤ ids.length := List.length_filter_le _ _
    have h3 := hfit.1
    simp at h1
    omega
theorem Sh.ref0 (h : Sh os S noE) (l : List Int) : Sh os S (eAt l 0) := ⟨h.len, h.n1, h.n6, h.fit, fun k o ho => by rw [h.refs k o ho]; simp [eAt], fun _ => by simp [eAt]⟩
theorem Sh.cloned {ids : List Int} (hf : ids ∈ S) (h : Sh os S (eAt (allS ids) (allS ids).length)) (h5 : S.length < 6) : Sh os (S ++ [ids]) noE := by
  refine ⟨h.len, by simp, by simp; omega, fun l hl => ?_, fun k o ho => ?_, fun _ => by simp⟩
  · rw [List.mem_append, List.mem_singleton] at hl
    rcases hl with hl | rfl
    · exact h.fit l hl
    · exact h.fit _ hf
  · rw [h.refs k o ho, cntS_snoc]
    unfold eAt
    rw [List.take_length, allS_count (by omega)]
    rfl
end
end Go.Proofs.Ytlojadpbdbhmiaa
/- FdShares: open files and some sets in memory. -/
namespace Go.Proofs.Ytlojadpbdbhmiaa
open Go.RowKit
open Go.Maps (Keyed)
set_option linter.unusedSimpArgs false
set_option linter.unusedVariables false

theorem slPsetT : SlT Try.prog 63 61 (.pointer none) 1 8 := ⟨Try.underlying63, by kernel_rfl, rfl, by omega⟩
theorem ownT_blk {w : World} {base n size : Nat} {e : TypeId} {v : Value} {xs : List Value} {k : Nat} (h : w.ownsRow base e size v n xs) (hk : v.ownBlock = some k) : base ≤ k ∧ ∃ cs, Blk w k e cs := by
  rcases h.2 with ⟨rfl, _⟩ | ⟨g', cap, cur, rfl, hb, hh, _⟩
  · simp [Value.ownBlock] at hk
  · have e1 : g' = k := by simpa [Value.ownBlock] using hk
    rw [← e1]
    exact ⟨hb, cur, hh⟩
/-- A set in memory. -/
structure ST where
  gs : Nat
  gl : Nat
  sp : List Value
  ids : List Int
def ptrT (s : ST) : Value := .pointer (some ⟨s.gs, 0, none⟩)
structure SH (w wr : World) (gf gfl : Nat) (os : List FO) (L : List ST) (v : Value) : Prop where
  fw : FW wr gf gfl os
  all : ∀ s ∈ L, SW wr s.gs s.gl s.sp s.ids
  dis : L.Pairwise (fun a b => a.gl ≠ b.gl)
  row : wr.ownsRow w.heap.size 61 1 v L.length (L.map ptrT)
  lof : w.heap.size ≤ gf ∧ w.heap.size ≤ gfl
  los : ∀ s ∈ L, w.heap.size ≤ s.gs ∧ w.heap.size ≤ s.gl
  safe : Safe w wr
section
variable {w wr w' : World} {gf gfl : Nat} {os os' : List FO} {L : List ST} {v : Value}
theorem SH.move (h : SH w wr gf gfl os L v) (hs : Safe wr w') : SH w w' gf gfl os L v :=
  ⟨h.fw.safe hs, fun s m => (h.all s m).safe hs, h.dis, own_safe h.row hs, h.lof, h.los, h.safe.trans hs⟩
/-- The open files have turned. -/
theorem SH.turnF (h : SH w wr gf gfl os L v) (hb : But (· = gfl) wr w') (hf : FW w' gf gfl os') : SH w w' gf gfl os' L v :=
  ⟨hf, fun s m => (h.all s m).but hb (fun e => (h.all s m).hp.ne h.fw.hl (by decide) e) (fun e => (h.all s m).hl.ne h.fw.hl (by decide) e), h.dis, own_but_kept h.row hb (fun k hk e => by
    obtain ⟨_, cs, hB⟩ := ownT_blk h.row hk
    exact hB.ne h.fw.hl (by decide) e), h.lof, h.los, h.safe.step hb (fun j hj => .inr (by rw [show j = gfl from hj]; exact h.lof.2))⟩
theorem map_set_ptr {i : Nat} {s : ST} (hi : L[i]? = some s) (ids' : List Int) : (L.set i { s with ids := ids' }).map ptrT = L.map ptrT := by
  rw [List.map_set]
  exact set_same' (by rw [List.getElem?_map, hi]; rfl)
/-- A set has turned. -/
theorem SH.turnS (h : SH w wr gf gfl os L v) {i : Nat} {s : ST} (hi : L[i]? = some s) {ids' : List Int} (hb : But (· = s.gl) wr w') (hS : SW w' s.gs s.gl s.sp ids') : SH w w' gf gfl os (L.set i { s with ids := ids' }) v := by
  have hsm := List.mem_of_getElem? hi
  have hs := h.all s hsm
  refine ⟨h.fw.but hb (fun e => h.fw.hp.ne hs.hl (by decide) e) (fun e => h.fw.hl.ne hs.hl (by decide) e), fun s2 m => ?_, ?_, ?_, h.lof, fun s2 m => ?_, h.safe.step hb (fun j hj => .inr (by rw [show j = s.gl from hj]; exact (h.los s hsm).2))⟩
  · obtain ⟨j, hj⟩ := List.getElem?_of_mem m
    rw [List.getElem?_set] at hj
    by_cases e : i = j
    · rw [if_pos e] at hj
      split at hj
      · injection hj with hj
        rw [← hj]; exact hS
      · cases hj
    · rw [if_neg e] at hj
      have hm2 := List.mem_of_getElem? hj
      refine (h.all s2 hm2).but hb (fun e => (h.all s2 hm2).hp.ne hs.hl (by decide) e) (fun e2 => ?_)
      obtain ⟨a1, b1⟩ := List.getElem?_eq_some_iff.1 hi
      obtain ⟨a2, b2⟩ := List.getElem?_eq_some_iff.1 hj
      rcases Nat.lt_or_gt_of_ne e with hlt | hlt
      · have := List.pairwise_iff_getElem.1 h.dis i j a1 a2 hlt
        rw [b1, b2] at this
        exact this e2.symm
      · have := List.pairwise_iff_getElem.1 h.dis j i a2 a1 hlt
        rw [b1, b2] at this
        exact this e2
  · have := h.dis
    have e : (L.set i { s with ids := ids' }).map (·.gl) = L.map (·.gl) := by
      rw [List.map_set]
      exact set_same' (by rw [List.getElem?_map, hi]; rfl)
    have h1 : (L.map (·.gl)).Pairwise (· ≠ ·) := List.pairwise_map.2 h.dis
    rw [← e] at h1
    exact List.pairwise_map.1 h1
  · rw [map_set_ptr hi, List.length_set]
    exact own_but_kept h.row hb (fun k hk e => by
      obtain ⟨_, cs, hB⟩ := ownT_blk h.row hk
      exact hB.ne hs.hl (by decide) e)
  · rcases List.mem_or_eq_of_mem_set m with m | rfl
    · exact h.los s2 m
    · exact h.los s hsm
/-- A set more. -/
theorem SH.push (h : SH w wr gf gfl os L v) {w2 : World} (hs : Safe wr w2) {s : ST} (hS : SW w2 s.gs s.gl s.sp s.ids) (hd : ∀ a ∈ L, a.gl ≠ s.gl) (h1 : w.heap.size ≤ s.gs) (h2 : w.heap.size ≤ s.gl) :
    (∀ v', w'.ownsRow w.heap.size 61 1 v' (L.length + 1) (L.map ptrT ++ [ptrT s]) → w2.grownBy w' v.ownBlock → SH w w' gf gfl os (L ++ [s]) v') := by
  intro v' ho hg
  have hm := h.move hs
  have hb := But.of_grown hg
  have hT : ∀ g t cs, Blk w2 g t cs → 61 ≠ t → ¬ (some g = v.ownBlock) := fun g t cs hB ht e => by
    obtain ⟨_, cs', hB'⟩ := ownT_blk hm.row e.symm
    exact hB'.ne hB ht rfl
  have hsz := h.safe.size
  refine ⟨hm.fw.but hb (hT _ _ _ hm.fw.hp (by decide)) (hT _ _ _ hm.fw.hl (by decide)), fun s2 m => ?_, ?_, by rw [List.length_append, List.map_append]; exact ho, h.lof, fun s2 m => ?_, hm.safe.step hb (fun j hj => .inr (ownT_blk hm.row hj.symm).1)⟩
  · rw [List.mem_append, List.mem_singleton] at m
    rcases m with m | rfl
    · exact (hm.all s2 m).but hb (hT _ _ _ (hm.all s2 m).hp (by decide)) (hT _ _ _ (hm.all s2 m).hl (by decide))
    · exact hS.but hb (hT _ _ _ hS.hp (by decide)) (hT _ _ _ hS.hl (by decide))
  · rw [List.pairwise_append]
    refine ⟨h.dis, by simp, fun a ha b hb' => ?_⟩
    rw [List.mem_singleton] at hb'
    rw [hb']
    exact hd a ha
  · rw [List.mem_append, List.mem_singleton] at m
    rcases m with m | rfl
    · exact h.los s2 m
    · exact ⟨h1, h2⟩
end
theorem SH.far {w wr w' : World} {gf gfl : Nat} {os : List FO} {L : List ST} {v : Value} (h : SH w wr gf gfl os L v) {g : Nat} (hb : But (fun k => some k = some g) wr w') (hne : ∀ k t cs, Blk wr k t cs → k ≠ g) (h0 : w.heap.size ≤ g) : SH w w' gf gfl os L v := by
  have hT : ∀ k t cs, Blk wr k t cs → ¬ (some k = some g) := fun k t cs hB e => hne k t cs hB (by injection e)
  refine ⟨h.fw.but hb (hT _ _ _ h.fw.hp) (hT _ _ _ h.fw.hl), fun s m => (h.all s m).but hb (hT _ _ _ (h.all s m).hp) (hT _ _ _ (h.all s m).hl), h.dis, own_but_kept h.row hb (fun k hk e => ?_), h.lof, h.los, h.safe.step hb (fun j hj => .inr (by injection hj with hj; rw [hj]; exact h0))⟩
  obtain ⟨_, cs, hB⟩ := ownT_blk h.row hk
  exact hT _ _ _ hB e
theorem mapB_ne {P : Program} {k : TypeId} {R : Value → Option (DataW Unit × List MemPlace)} {w : World} {bm n : Nat} {D : DataW Unit} (h : w.ownsMap P k R bm n D) : ∀ g t cs, Blk w g t cs → g ≠ bm := by
  intro g t cs hb
  obtain ⟨es, clock, h1, _⟩ := h
  rintro rfl
  unfold Blk at hb
  rw [h1] at hb
  cases hb
theorem iterB_ne {w : World} {P : Program} {k : TypeId} {R : Value → Option (DataW Unit × List MemPlace)} {b r n : Nat} {D : DataW Unit} {left : Lit → Bool} {cnt : Nat} (h : w.ranges P k R b r n D left cnt) : ∀ g t cs, Blk w g t cs → g ≠ r := by
  intro g t cs hb
  obtain ⟨es, clock, since, seen, c0, _, _, _, _, h1, _⟩ := h
  rintro rfl
  unfold Blk at hb
  rw [h1] at hb
  cases hb
theorem mapB_but {H : Type} {P : Program} {k : TypeId} {R : Value → Option (DataW H × List MemPlace)} {w w' : World} {b n : Nat} {D : DataW H} {S : Nat → Prop}
    (h : w.ownsMap P k R b n D) (hg : But S w w') (hb' : ¬ S b) : w'.ownsMap P k R b n D := by
  have h1 := h.lt
  obtain ⟨es, clock, hb, F, hs, hD⟩ := h
  exact ⟨es, clock, (hg.block b h1 hb').trans hb, F, hs, hD⟩
theorem rangesB_but {H : Type} {P : Program} {k : TypeId} {R : Value → Option (DataW H × List MemPlace)} {w w' : World} {b r n : Nat} {D : DataW H} {left : Lit → Bool} {cnt : Nat} {S : Nat → Prop}
    (h : w.ranges P k R b r n D left cnt) (hg : But S w w') (hb' : ¬ S b) (hr' : ¬ S r) : w'.ranges P k R b r n D left cnt := by
  have h1 := h.owns.lt
  have h2 := h.lt
  obtain ⟨es, clock, since, seen, c0, hb, F, hs, hD, hr, rest⟩ := h
  exact ⟨es, clock, since, seen, c0, (hg.block b h1 hb').trans hb, F, hs, hD, (hg.block r h2 hr').trans hr, rest⟩
theorem keyedInt : Keyed Try.prog 3 := Maps.int_keyed Try.underlying3
theorem zeroB (w : World) : (zeroValue 3).run Try.prog w = .ok (.int .i64 0) w := by kernel_rfl
theorem wfB {x : Int} (h1 : -9223372036854775808 ≤ x) (h2 : x ≤ 9223372036854775807) : (Lit.int .i64 x).wf = true := by
  simp [Lit.wf, IntKind.min, IntKind.max, IntKind.signed, IntKind.bits]; omega
/-! The map of how often each is known. -/
def MapN (D : DataW Unit) (l : List Int) : Prop := Maps.IsMap D ∧ (∀ x z, D.atKey (.int .i64 x) z = if x ∈ l then .lit (.int .i64 (l.count x)) else z) ∧ Maps.size D = (List.range 20).countP (fun k : Nat => decide ((k : Int) ∈ l))
theorem litN_ne {x y : Int} (h : x ≠ y) : (Lit.int .i64 x) ≠ .int .i64 y := fun e => h (by injection e)
theorem MapN.nil : MapN (.map []) [] := ⟨Maps.isMap_empty, fun _ _ => rfl, rfl⟩
theorem MapN.has {D : DataW Unit} {l : List Int} (h : MapN D l) (x : Int) : Maps.has D (.int .i64 x) = decide (x ∈ l) := by
  by_cases hx : x ∈ l
  · rw [Maps.has_true_of_atKey (y := .lit (.int .i64 (l.count x))) (fun z => by rw [h.2.1, if_pos hx])]
    simp [hx]
  · rw [Maps.has_false_of_atKey (fun z => by rw [h.2.1, if_neg hx])]
    simp [hx]
theorem MapN.look {D : DataW Unit} {l : List Int} (h : MapN D l) {x c : Int} (hx : D.atKey (.int .i64 x) (.lit (.int .i64 0)) = .lit (.int .i64 c)) : c = l.count x := by
  rw [h.2.1] at hx
  split at hx
  · injection hx with hx
    injection hx with _ hx
    exact hx.symm
  · rename_i hn
    injection hx with hx
    injection hx with _ hx
    rw [List.count_eq_zero.2 hn, ← hx]
    rfl
theorem range_one {l : List Int} {x : Int} (h0 : 0 ≤ x) (h1 : x < 20) (hx : x ∉ l) : (List.range 20).countP (fun k : Nat => decide ((k : Int) ∈ l ++ [x])) = (List.range 20).countP (fun k : Nat => decide ((k : Int) ∈ l)) + 1 := by
  have key : ∀ (L : List Nat), L.Nodup → (L.countP (fun k : Nat => decide ((k : Int) ∈ l ++ [x]))) = L.countP (fun k : Nat => decide ((k : Int) ∈ l)) + if x.toNat ∈ L then 1 else 0 := by
    intro L
    induction L with
    | nil => intro _; rfl
    | cons a r ih =>
      intro hn
      rw [List.nodup_cons] at hn
      rw [List.countP_cons, List.countP_cons, ih hn.2]
      by_cases e : (a : Int) = x
      · have ea : x.toNat = a := by omega
        have h2 : x.toNat ∉ r := by rw [ea]; exact hn.1
        have h3 : (a : Int) ∉ l := by rw [e]; exact hx
        rw [if_neg h2, if_pos (show x.toNat ∈ a :: r by rw [ea]; exact List.mem_cons_self ..)]
        simp [e, hx]
      · have ea : x.toNat ≠ a := by omega
        by_cases hl : (a : Int) ∈ l <;> by_cases hr : x.toNat ∈ r <;> simp [e, ea, hl, hr] <;> omega
  rw [key _ List.nodup_range, if_pos (by rw [List.mem_range]; omega)]
theorem MapN.step {D : DataW Unit} {l : List Int} (h : MapN D l) (ht : Maps.Tidy D) {x : Int} (h0 : 0 ≤ x) (h1 : x < 20) : MapN (D.put (.int .i64 x) (.lit (.int .i64 ((l.count x : Int) + 1)))) (l ++ [x]) := by
  refine ⟨h.1.put _ _, fun y z => ?_, ?_⟩
  · by_cases e : y = x
    · subst e
      rw [Maps.atKey_put_same h.1 (show WideAt.IsKeyLit (.int .i64 y) from trivial), if_pos (by simp), List.count_append]
      simp
    · rw [Maps.atKey_put_other (litN_ne e), h.2.1 y z, List.count_append]
      have : List.count y [x] = 0 := by simp [List.count_cons]; exact fun h => e h.symm
      simp [e, this]
  · rw [Maps.size_put ht, h.has, h.2.2]
    by_cases hx : x ∈ l
    · rw [if_pos (by simpa using hx)]
      congr 1
      funext k
      by_cases hk : (k : Int) = x
      · simp [hk, hx]
      · simp [hk]
    · rw [if_neg (by simpa using hx), range_one h0 h1 hx]
theorem MapN.of_all {D : DataW Unit} {l : List Int} (h : MapN D l) {x c : Int} (hx : ∀ z, D.atKey (.int .i64 x) z = .lit (.int .i64 c)) : x ∈ l ∧ c = l.count x := by
  have h1 := h.look (hx _)
  refine ⟨?_, h1⟩
  have := Maps.has_true_of_atKey hx
  rw [h.has] at this
  simpa using this
/-- What the first p sets know. -/
def doneS (S : List (List Int)) (p : Nat) : List Int := (S.take p).flatMap allS
theorem doneS_snoc {S : List (List Int)} {p : Nat} {ids : List Int} (h : S[p]? = some ids) : doneS S (p + 1) = doneS S p ++ allS ids := by
  unfold doneS
  rw [List.take_add_one, h]
  simp
theorem doneS_all {S : List (List Int)} {x : Int} (h : x ≠ -1) : (doneS S S.length).count x = cntS S x := by
  unfold doneS cntS
  rw [List.take_length, List.count_flatMap]
  congr 1
  apply List.map_congr_left
  intro ids _
  exact allS_count h
theorem Sh.rng {os : List FO} {S : List (List Int)} {e : Int → Nat} (h : Sh os S e) {ids : List Int} (hi : ids ∈ S) {x : Int} (hx : x ∈ allS ids) : 0 ≤ x ∧ x < 20 := by
  obtain ⟨h1, h2⟩ := allS_mem hx
  have := (h.fit ids hi).2 x h1
  omega
theorem doneS_mem {S : List (List Int)} {p : Nat} {x : Int} (h : x ∈ doneS S p) : ∃ ids ∈ S, x ∈ allS ids := by
  unfold doneS at h
  rw [List.mem_flatMap] at h
  obtain ⟨ids, h1, h2⟩ := h
  exact ⟨ids, List.mem_of_mem_take h1, h2⟩
theorem Sh.done_len {os : List FO} {S : List (List Int)} {e : Int → Nat} (h : Sh os S e) (p : Nat) : (doneS S p).length ≤ p * 8 := by
  unfold doneS
  rw [List.length_flatMap]
  have h1 : ∀ l : List (List Int), (∀ ids ∈ l, Fit8 ids) → (l.map (fun x => (allS x).length)).sum ≤ l.length * 8 := by
    intro l
    induction l with
    | nil => intro _; simp
    | cons a r ih =>
      intro hl
      have h2 := ih (fun ids hi => hl ids (List.mem_cons_of_mem _ hi))
      have h3 := (hl a (List.mem_cons_self ..)).1
      have h4 : (allS a).length ≤ a.length := List.length_filter_le _ _
      simp only [List.map_cons, List.sum_cons, List.length_cons, Nat.add_mul]
      omega
  have h5 := h1 (S.take p) (fun ids hi => h.fit ids (List.mem_of_mem_take hi))
  have h6 : (S.take p).length ≤ p := List.length_take_le _ _
  omega
theorem countP_range (os : List FO) (f : FO → Bool) : os.countP f = (List.range os.length).countP (fun k => f (os.getD k zeroF)) := by
  have e : os = (List.range os.length).map (fun k => os.getD k zeroF) := by
    apply List.ext_getElem?
    intro i
    rw [List.getElem?_map]
    by_cases hi : i < os.length
    · rw [List.getElem?_range hi, List.getElem?_eq_getElem hi]
      simp [List.getD_eq_getElem?_getD, List.getElem?_eq_getElem hi]
    · rw [List.getElem?_eq_none (by omega), List.getElem?_eq_none (by simp; omega)]
      rfl
  conv => lhs; rw [e]
  rw [List.countP_map]
  rfl
theorem Sh.count {os : List FO} {S : List (List Int)} (h : Sh os S noE) {D : DataW Unit} (hD : MapN D (doneS S S.length)) : ((os.countP (fun o => decide (0 < o.refs)) : Nat) : Int) = ((Maps.size D : Nat) : Int) := by
  rw [hD.2.2, countP_range, h.len]
  congr 1
  apply List.countP_congr
  intro k hk
  rw [List.mem_range] at hk
  have hkl : k < os.length := by rw [h.len]; exact hk
  have ho := List.getElem?_eq_getElem hkl
  have hr := h.refs0 ho
  have hg : os.getD k zeroF = os[k] := by rw [List.getD_eq_getElem?_getD, ho]; rfl
  rw [hg]
  have h2 : (doneS S S.length).count (k : Int) = cntS S k := doneS_all (by omega)
  simp only [decide_eq_true_eq]
  rw [hr, ← h2]
  rw [← List.count_pos_iff (a := (k : Int)) (l := doneS S S.length)]
  omega
theorem Sh.got {os : List FO} {S : List (List Int)} (h : Sh os S noE) {D : DataW Unit} (hD : MapN D (doneS S S.length)) {x c : Int} (hx : ∀ z, D.atKey (.int .i64 x) z = .lit (.int .i64 c)) :
    ∃ (k : Nat) (o : FO), x = k ∧ os[k]? = some o ∧ o.refs ≠ 0 ∧ o.refs = c := by
  obtain ⟨h1, h2⟩ := hD.of_all hx
  obtain ⟨ids, hi, hm⟩ := doneS_mem h1
  have hr := h.rng hi hm
  have h3 : 0 < (doneS S S.length).count x := List.count_pos_iff.2 h1
  rw [doneS_all (by omega)] at h2 h3
  obtain ⟨k, o, e, hh, ho, hrf⟩ := h.has hr.1 hr.2 (by show 0 < cntS S x + 0; omega)
  have hrf : o.refs = (cntS S x : Int) := hrf
  exact ⟨k, o, e, ho, by omega, by omega⟩
end Go.Proofs.Ytlojadpbdbhmiaa
/- DrumlinChain: the map of the sets, and all that lies in memory. -/
namespace Go.Proofs.Ytlojadpbdbhmiaa
open Go.RowKit
open Pip
open Go.Maps (Keyed)
set_option linter.unusedSimpArgs false
set_option linter.unusedVariables false

/-! A map of pointers. -/
def ptrV : Option Nat → Value
  | some g => .pointer (some ⟨g, 0, none⟩)
  | none => .pointer none
def ptrElem (v : Value) : Option (DataW Unit × List MemPlace) :=
  match v with
  | .pointer (some ⟨g, 0, none⟩) => some (.lit (.int .i64 (g : Int)), [])
  | .pointer none => some (.lit (.int .i64 (-1)), [])
  | _ => none
theorem ptrElem_mk (g : Nat) : ptrElem (.pointer (some ⟨g, 0, none⟩)) = some (.lit (.int .i64 (g : Int)), []) := rfl
theorem ptrElem_none : ptrElem (.pointer none) = some (.lit (.int .i64 (-1)), []) := rfl
theorem ptrElem_inv {v : Value} {y : DataW Unit × List MemPlace} (h : ptrElem v = some y) : ∃ o, v = ptrV o := by
  unfold ptrElem at h
  split at h
  · exact ⟨some _, rfl⟩
  · exact ⟨none, rfl⟩
  · cases h
theorem ptrElem_at {v : Value} {ps : List MemPlace} {g : Nat} (h : ptrElem v = some (.lit (.int .i64 (g : Int)), ps)) : v = .pointer (some ⟨g, 0, none⟩) := by
  obtain ⟨o, rfl⟩ := ptrElem_inv h
  cases o with
  | none =>
    rw [show ptrElem (ptrV none) = some (.lit (.int .i64 (-1)), []) from rfl] at h
    injection h with h
    injection h with h _
    injection h with h
    injection h with _ h
    omega
  | some g' =>
    rw [show ptrElem (ptrV (some g')) = some (.lit (.int .i64 (g' : Int)), []) from rfl] at h
    injection h with h
    injection h with h _
    injection h with h
    injection h with _ h
    have : g' = g := by omega
    rw [this]; rfl
theorem zeroPs (w : World) : (zeroValue 61).run Try.prog w = .ok (.pointer none) w := by kernel_rfl
theorem keyI {x : Int} (h1 : -9223372036854775808 ≤ x) (h2 : x ≤ 9223372036854775807) : keyOf Try.prog 3 (.int .i64 x) = some (.int .i64 x) := Maps.keyOf_int_mk Try.underlying3 (wfB h1 h2)
section
variable {H : Type} {P : Program} (w : World) {ops : Array Oper} {rest : List Oper} {o : Oper} {a : Act} {Q : Exit → Act → World → Prop}
/-- An entry of a map that is written out. -/
theorem wpList_insert_own (hg : o.guard = none) (m x v : Operand) (t : TypeId) (hop : o.op = Op.insert t m x v)
    (k e : TypeId) (K : Keyed P k) (ht : P.underlying t = some (.map k e)) (R : Value → Option (DataW H × List MemPlace)) (b n : Nat) (D : DataW H)
    (hm : a.eval m = .map (some b)) (hown : w.ownsMap P k R b n D) (hn : n < maxLen) (key val : Value) (kl : Lit) (hx : a.eval x = key) (hv : a.eval v = val) (hkey : keyOf P k key = some kl)
    (d : DataW H) (ps : List MemPlace) (hval : R val = some (d, ps))
    (hK : ∀ w', w'.ownsMap P k R b (n + 1) (D.put kl d) → w.grownBy w' (some b) → wpList P ops Q rest (a.put o.dst undef) w') :
    wpList P ops Q (o :: rest) a w := by
  refine wpList_plain hg fun K' hK' => ?_
  obtain ⟨w', hrun, r1, r2⟩ := hown.update K ht hn hkey hval
  unfold Oper.wp
  simp [execOp, hop, hm, hx, hv, hrun, Result.andThen]
  exact hK' _ _ (hK w' r1 r2)
/-- A look-up, whatever it finds. -/
theorem wpList_look_any (hg : o.guard = none) (m x : Operand) (t : TypeId) (hop : o.op = Op.lookup t m x false)
    (k e : TypeId) (K : Keyed P k) (ht : P.underlying t = some (.map k e)) (R : Value → Option (DataW H × List MemPlace)) {z : Value} (hz : (zeroValue e).run P w = .ok z w) (zd : DataW H) (zp : List MemPlace) (hzd : R z = some (zd, zp)) (b n : Nat) (D : DataW H)
    (hm : a.eval m = .map (some b)) (hown : w.ownsMap P k R b n D) (key : Value) (kl : Lit) (hx : a.eval x = key) (hkey : keyOf P k key = some kl)
    (hK : ∀ v ps, R v = some (D.atKey kl zd, ps) → wpList P ops Q rest (a.put o.dst v) w) :
    wpList P ops Q (o :: rest) a w := by
  refine wpList_plain hg fun K' hK' => ?_
  obtain ⟨v, ps, hrun, hv⟩ := hown.lookup K ht hz hzd hkey
  unfold Oper.wp
  simp [execOp, hop, hm, hx, hrun, Result.andThen]
  exact hK' _ _ (hK v ps hv)
end
/-- It stands at an insert. -/
theorem at_ins {P : Program} {ops : Array Oper} {rest : List Oper} {a : Act} {Q : Exit → Act → World → Prop} {w : World} {d : Option Tmp} {t : TypeId} {m k x : Operand} {ty : TypeId} {s : String} {af : Array Edge} {g : Option (Nat × Bool)}
    (h : wpList P ops Q (⟨d, .insert t m k x, ty, s, af, g⟩ :: rest) a w) : wpList P ops Q (⟨d, .insert t m k x, ty, s, af, g⟩ :: rest) a w := h
/-- The map reads as the sets. -/
structure MapP (D : DataW Unit) (L : List CP) : Prop where
  isMap : Maps.IsMap D
  yes : ∀ c ∈ L, ∀ z, D.atKey (.int .i64 c.pid) z = .lit (.int .i64 (c.gs : Int))
  no : ∀ x, (∀ c ∈ L, c.pid ≠ x) → ∀ z, D.atKey (.int .i64 x) z = z
section
variable {D : DataW Unit} {L : List CP}
theorem MapP.nil : MapP (.map []) [] := ⟨Maps.isMap_empty, fun c h => absurd h (List.not_mem_nil), fun _ _ _ => rfl⟩
theorem MapP.put (h : MapP D L) {c : CP} (hn : ∀ d ∈ L, d.pid ≠ c.pid) : MapP (D.put (.int .i64 c.pid) (.lit (.int .i64 (c.gs : Int)))) (L ++ [c]) := by
  refine ⟨h.isMap.put _ _, fun d hd z => ?_, fun x hx z => ?_⟩
  · rw [List.mem_append, List.mem_singleton] at hd
    rcases hd with hd | rfl
    · rw [Maps.atKey_put_other (litN_ne (hn d hd))]; exact h.yes d hd z
    · exact Maps.atKey_put_same h.isMap (show WideAt.IsKeyLit (.int .i64 d.pid) from trivial) _ z
  · have h1 := hx c (by simp)
    rw [Maps.atKey_put_other (litN_ne (fun e => h1 e.symm))]
    exact h.no x (fun d hd => hx d (List.mem_append_left _ hd)) z
theorem MapP.del (h : MapP D L) (hn : L.Pairwise (fun a b => a.pid ≠ b.pid)) {i : Nat} {c : CP} (hi : L[i]? = some c) : MapP (D.del (.int .i64 c.pid)) (L.eraseIdx i) := by
  have hne : ∀ d ∈ L.eraseIdx i, d.pid ≠ c.pid := fun d hd => by
    obtain ⟨j, hj, hjd⟩ := List.mem_eraseIdx_iff_getElem?.1 hd
    obtain ⟨a1, b1⟩ := List.getElem?_eq_some_iff.1 hi
    obtain ⟨a2, b2⟩ := List.getElem?_eq_some_iff.1 hjd
    rcases Nat.lt_trichotomy i j with hlt | e | hlt
    · have := List.pairwise_iff_getElem.1 hn i j a1 a2 hlt
      rw [b1, b2] at this
      exact fun e => this e.symm
    · exact absurd e.symm hj
    · have := List.pairwise_iff_getElem.1 hn j i a2 a1 hlt
      rw [b1, b2] at this
      exact this
  refine ⟨h.isMap.del _, fun d hd z => ?_, fun x hx z => ?_⟩
  · rw [Maps.atKey_del_other (litN_ne (hne d hd))]
    exact h.yes d (List.mem_of_mem_eraseIdx hd) z
  · by_cases e : x = c.pid
    · subst e; exact Maps.atKey_del_same z
    · rw [Maps.atKey_del_other (litN_ne e)]
      refine h.no x (fun d hd e2 => ?_) z
      obtain ⟨j, hj⟩ := List.getElem?_of_mem hd
      by_cases hji : j = i
      · rw [hji, hi] at hj
        injection hj with hj
        exact e (by rw [← e2, ← hj])
      · exact hx d (List.mem_eraseIdx_iff_getElem?.2 ⟨j, hji, hj⟩) e2
theorem MapP.shut (h : MapP D L) {i : Nat} {c : CP} (hi : L[i]? = some c) : MapP D (L.set i { c with kw := false }) := by
  have e1 : (L.set i { c with kw := false }).map (fun c => (c.pid, c.gs)) = L.map (fun c => (c.pid, c.gs)) := by
    rw [List.map_set]
    exact set_same' (by rw [List.getElem?_map, hi]; rfl)
  have back : ∀ d, d ∈ L.set i { c with kw := false } → ∃ d' ∈ L, d'.pid = d.pid ∧ d'.gs = d.gs := fun d hd => by
    have := List.mem_map_of_mem (f := fun c : CP => (c.pid, c.gs)) hd
    rw [e1] at this
    obtain ⟨d', h1, h2⟩ := List.mem_map.1 this
    injection h2 with h2 h3
    exact ⟨d', h1, h2, h3⟩
  have forw : ∀ d, d ∈ L → ∃ d' ∈ L.set i { c with kw := false }, d'.pid = d.pid := fun d hd => by
    have := List.mem_map_of_mem (f := fun c : CP => (c.pid, c.gs)) hd
    rw [← e1] at this
    obtain ⟨d', h1, h2⟩ := List.mem_map.1 this
    injection h2 with h2 h3
    exact ⟨d', h1, h2⟩
  refine ⟨h.isMap, fun d hd z => ?_, fun x hx z => ?_⟩
  · obtain ⟨d', h1, h2, h3⟩ := back d hd
    rw [← h2, ← h3]
    exact h.yes d' h1 z
  · refine h.no x (fun d hd e => ?_) z
    obtain ⟨d', h1, h2⟩ := forw d hd
    exact hx d' h1 (by rw [h2, e])
theorem MapP.got (h : MapP D L) {x : Int} {y : DataW Unit} (hx : ∀ z, D.atKey (.int .i64 x) z = y) : ∃ c ∈ L, c.pid = x ∧ y = .lit (.int .i64 (c.gs : Int)) := by
  by_cases he : ∃ c ∈ L, c.pid = x
  · obtain ⟨c, hc, rfl⟩ := he
    exact ⟨c, hc, rfl, by rw [← hx (.map []), h.yes c hc]⟩
  · have h0 := fun z => h.no x (fun c hc e => he ⟨c, hc, e⟩) z
    have h1 := (hx (.map [])).symm.trans (h0 _)
    have h2 := (hx (.agg [])).symm.trans (h0 _)
    rw [h1] at h2
    cases h2
end
/-! All that lies in memory. -/
structure KC where
  gf : Nat
  gfl : Nat
  gt : Nat
  gp : Nat
  gpl : Nat
  bm : Nat
  b4 : Nat
  b5 : Nat
structure CW (w wr : World) (k : KC) (os : List FO) (v : Value) (ps : List PR) (last : Int) (p : Pp) (L : List CP) (n : Nat) (D : DataW Unit) (vs vg : Value) (sent got : List Int) : Prop where
  fw : FW wr k.gf k.gfl os
  tw : TW wr k.gt w.heap.size v ps 8 last 0
  pw : PW wr k.gp k.gpl [p, zeroP]
  all : ∀ c ∈ L, SW wr c.gs c.gl c.sp (idsC c.kw)
  dis : L.Pairwise (fun a b => a.gl ≠ b.gl)
  map : wr.ownsMap Try.prog 3 ptrElem k.bm n D
  x4 : Blk wr k.b4 39 #[.pointer (some ⟨k.gf, 0, none⟩)]
  x5 : Blk wr k.b5 72 #[.pointer (some ⟨k.gp, 0, none⟩)]
  rs : wr.ownsRow w.heap.size 5 1 vs sent.length (sent.map U)
  rg : wr.ownsRow w.heap.size 5 1 vg got.length (got.map U)
  sg : ∀ j, vs.ownBlock = some j → vg.ownBlock = some j → False
  lo : w.heap.size ≤ k.gfl ∧ w.heap.size ≤ k.gt ∧ w.heap.size ≤ k.gpl ∧ w.heap.size ≤ k.bm
  los : ∀ c ∈ L, w.heap.size ≤ c.gl
  safe : Safe w wr
/-- What turns has one of these types. -/
def Hits (wr : World) (S : Nat → Prop) (Ts : List TypeId) : Prop := ∀ j, S j → ∃ t cs, t ∈ Ts ∧ Blk wr j t cs
theorem Hits.no {wr : World} {S : Nat → Prop} {Ts : List TypeId} (hT : Hits wr S Ts) {g : Nat} {t : TypeId} {cs : Array Value} (h : Blk wr g t cs) (hn : t ∉ Ts) : ¬ S g := fun e => by
  obtain ⟨t', cs', hm, hB⟩ := hT g e
  exact hn (by rw [(h.inj hB).1]; exact hm)
theorem Hits.row {wr : World} {S : Nat → Prop} {Ts : List TypeId} (hT : Hits wr S Ts) {base n size : Nat} {e : TypeId} {v : Value} {xs : List Value} (h : wr.ownsRow base e size v n xs) (hn : e ∉ Ts) : ∀ j, v.ownBlock = some j → ¬ S j := fun j hj => by
  obtain ⟨_, cs, hB⟩ := ownT_blk h hj
  exact hT.no hB hn
theorem Hits.map {wr : World} {S : Nat → Prop} {Ts : List TypeId} (hT : Hits wr S Ts) {P : Program} {k : TypeId} {R : Value → Option (DataW Unit × List MemPlace)} {bm n : Nat} {D : DataW Unit} (h : wr.ownsMap P k R bm n D) : ¬ S bm := fun e => by
  obtain ⟨t, cs, _, hB⟩ := hT bm e
  exact mapB_ne h _ _ _ hB rfl
section
variable {w wr w' : World} {k : KC} {os os' : List FO} {v : Value} {ps ps' : List PR} {last last' : Int} {p p' : Pp} {L : List CP} {n n' : Nat} {D D' : DataW Unit} {vs vg : Value} {sent got : List Int}
theorem CW.move (h : CW w wr k os v ps last p L n D vs vg sent got) (hs : Safe wr w') : CW w w' k os v ps last p L n D vs vg sent got :=
  ⟨h.fw.safe hs, h.tw.safe hs, h.pw.safe hs, fun c m => (h.all c m).safe hs, h.dis, mapB_but h.map hs id, h.x4.but hs id, h.x5.but hs id, own_safe h.rs hs, own_safe h.rg hs, h.sg, h.lo, h.los, h.safe.trans hs⟩
/-- The open files have turned, and the pipe. -/
theorem CW.turnF (h : CW w wr k os v ps last p L n D vs vg sent got) (hb : But (fun j => j = k.gfl ∨ j = k.gpl) wr w') (hf : FW w' k.gf k.gfl os') (hp : PW w' k.gp k.gpl [p', zeroP]) : CW w w' k os' v ps last p' L n D vs vg sent got := by
  have hT : Hits wr (fun j => j = k.gfl ∨ j = k.gpl) [52, 136] := fun j hj => by
    rcases hj with rfl | rfl
    · exact ⟨_, _, by decide, h.fw.hl⟩
    · exact ⟨_, _, by decide, h.pw.hl⟩
  exact ⟨hf, h.tw.but hb (hT.no h.tw.hp (by decide)) (hT.row h.tw.ho (by decide)), hp, fun c m => (h.all c m).but hb (hT.no (h.all c m).hp (by decide)) (hT.no (h.all c m).hl (by decide)), h.dis, mapB_but h.map hb (hT.map h.map), h.x4.but hb (hT.no h.x4 (by decide)), h.x5.but hb (hT.no h.x5 (by decide)),
    own_but_kept h.rs hb (hT.row h.rs (by decide)), own_but_kept h.rg hb (hT.row h.rg (by decide)), h.sg, h.lo, h.los, h.safe.step hb (fun j hj => .inr (by rcases hj with rfl | rfl <;> first | exact h.lo.1 | exact h.lo.2.2.1))⟩
theorem CW.turnF1 (h : CW w wr k os v ps last p L n D vs vg sent got) (hb : But (· = k.gfl) wr w') (hf : FW w' k.gf k.gfl os') : CW w w' k os' v ps last p L n D vs vg sent got :=
  h.turnF (hb.mono (fun j _ e => .inl e)) hf (h.pw.but hb (fun e => h.pw.hp.ne h.fw.hl (by decide) e) (fun e => h.pw.hl.ne h.fw.hl (by decide) e))
theorem CW.turnP1 (h : CW w wr k os v ps last p L n D vs vg sent got) (hb : But (· = k.gpl) wr w') (hp : PW w' k.gp k.gpl [p', zeroP]) : CW w w' k os v ps last p' L n D vs vg sent got :=
  h.turnF (hb.mono (fun j _ e => .inr e)) (h.fw.but hb (fun e => h.fw.hp.ne h.pw.hl (by decide) e) (fun e => h.fw.hl.ne h.pw.hl (by decide) e)) hp
/-- The table has turned. -/
theorem CW.turnT (h : CW w wr k os v ps last p L n D vs vg sent got) (hr : TRet wr w' k.gt w.heap.size v ps' 8 last' 0) : ∃ v', CW w w' k os v' ps' last' p L n D vs vg sent got := by
  have hs := TRet.kept h.safe h.tw (Nat.le_refl _) h.lo.2.1 hr
  obtain ⟨v', h1, hb, _⟩ := hr
  have hT : Hits wr (fun j => j = k.gt ∨ v.ownBlock = some j) [104, 33] := fun j hj => by
    rcases hj with rfl | hj
    · exact ⟨_, _, by decide, h.tw.hp⟩
    · obtain ⟨_, cs, hB⟩ := ownT_blk h.tw.ho hj
      exact ⟨_, cs, by decide, hB⟩
  exact ⟨v', h.fw.but hb (hT.no h.fw.hp (by decide)) (hT.no h.fw.hl (by decide)), h1, h.pw.but hb (hT.no h.pw.hp (by decide)) (hT.no h.pw.hl (by decide)), fun c m => (h.all c m).but hb (hT.no (h.all c m).hp (by decide)) (hT.no (h.all c m).hl (by decide)), h.dis, mapB_but h.map hb (hT.map h.map), h.x4.but hb (hT.no h.x4 (by decide)), h.x5.but hb (hT.no h.x5 (by decide)),
    own_but_kept h.rs hb (hT.row h.rs (by decide)), own_but_kept h.rg hb (hT.row h.rg (by decide)), h.sg, h.lo, h.los, hs⟩
/-- One no longer knows the end to write. -/
theorem CW.turnS (h : CW w wr k os v ps last p L n D vs vg sent got) {i : Nat} {c : CP} (hi : L[i]? = some c) (hb : But (· = c.gl) wr w') (hS : SW w' c.gs c.gl c.sp (idsC false)) : CW w w' k os v ps last p (L.set i { c with kw := false }) n D vs vg sent got := by
  have hcm := List.mem_of_getElem? hi
  have hc := h.all c hcm
  have hT : Hits wr (· = c.gl) [3] := fun j hj => by
    have e : j = c.gl := hj
    subst e
    exact ⟨_, _, by decide, hc.hl⟩
  refine ⟨h.fw.but hb (hT.no h.fw.hp (by decide)) (hT.no h.fw.hl (by decide)), h.tw.but hb (hT.no h.tw.hp (by decide)) (hT.row h.tw.ho (by decide)), h.pw.but hb (hT.no h.pw.hp (by decide)) (hT.no h.pw.hl (by decide)), fun c2 m => ?_, ?_, mapB_but h.map hb (hT.map h.map), h.x4.but hb (hT.no h.x4 (by decide)), h.x5.but hb (hT.no h.x5 (by decide)),
    own_but_kept h.rs hb (hT.row h.rs (by decide)), own_but_kept h.rg hb (hT.row h.rg (by decide)), h.sg, h.lo, fun c2 m => ?_, h.safe.step hb (fun j hj => .inr (by rw [show j = c.gl from hj]; exact h.los c hcm))⟩
  · obtain ⟨j, hj⟩ := List.getElem?_of_mem m
    rw [List.getElem?_set] at hj
    by_cases e : i = j
    · rw [if_pos e] at hj
      split at hj
      · injection hj with hj
        rw [← hj]; exact hS
      · cases hj
    · rw [if_neg e] at hj
      have hm2 := List.mem_of_getElem? hj
      refine (h.all c2 hm2).but hb (hT.no (h.all c2 hm2).hp (by decide)) (fun e2 => ?_)
      obtain ⟨a1, b1⟩ := List.getElem?_eq_some_iff.1 hi
      obtain ⟨a2, b2⟩ := List.getElem?_eq_some_iff.1 hj
      rcases Nat.lt_or_gt_of_ne e with hlt | hlt
      · have := List.pairwise_iff_getElem.1 h.dis i j a1 a2 hlt
        rw [b1, b2] at this
        exact this e2.symm
      · have := List.pairwise_iff_getElem.1 h.dis j i a2 a1 hlt
        rw [b1, b2] at this
        exact this e2
  · have e : (L.set i { c with kw := false }).map (·.gl) = L.map (·.gl) := by
      rw [List.map_set]
      exact set_same' (by rw [List.getElem?_map, hi]; rfl)
    have h1 : (L.map (·.gl)).Pairwise (· ≠ ·) := List.pairwise_map.2 h.dis
    rw [← e] at h1
    exact List.pairwise_map.1 h1
  · rcases List.mem_or_eq_of_mem_set m with m | rfl
    · exact h.los c2 m
    · exact h.los c hcm
theorem CW.far (h : CW w wr k os v ps last p L n D vs vg sent got) {g : Nat} (hb : But (fun j => some j = some g) wr w') (hne : ∀ j t cs, Blk wr j t cs → j ≠ g) (h0 : w.heap.size ≤ g) (hm : w'.ownsMap Try.prog 3 ptrElem k.bm n' D') : CW w w' k os v ps last p L n' D' vs vg sent got := by
  have no : ∀ {j : Nat} {t : TypeId} {cs : Array Value}, Blk wr j t cs → ¬ (some j = some g) := fun hB e => hne _ _ _ hB (by injection e)
  have row : ∀ {base n size : Nat} {e : TypeId} {v : Value} {xs : List Value}, wr.ownsRow base e size v n xs → ∀ j, v.ownBlock = some j → ¬ (some j = some g) := fun h j hj => by
    obtain ⟨_, cs, hB⟩ := ownT_blk h hj
    exact no hB
  exact ⟨h.fw.but hb (no h.fw.hp) (no h.fw.hl), h.tw.but hb (no h.tw.hp) (row h.tw.ho), h.pw.but hb (no h.pw.hp) (no h.pw.hl), fun c m => (h.all c m).but hb (no (h.all c m).hp) (no (h.all c m).hl), h.dis, hm, h.x4.but hb (no h.x4), h.x5.but hb (no h.x5),
    own_but_kept h.rs hb (row h.rs), own_but_kept h.rg hb (row h.rg), h.sg, h.lo, h.los, h.safe.step hb (fun j hj => .inr (by injection hj with hj; rw [hj]; exact h0))⟩
/-- The map has turned. -/
theorem CW.turnM (h : CW w wr k os v ps last p L n D vs vg sent got) (hb : But (fun j => some j = some k.bm) wr w') (hm : w'.ownsMap Try.prog 3 ptrElem k.bm n' D') : CW w w' k os v ps last p L n' D' vs vg sent got :=
  h.far hb (mapB_ne h.map) h.lo.2.2.2 hm
theorem CW.push (h : CW w wr k os v ps last p L n D vs vg sent got) {c : CP} (hS : SW wr c.gs c.gl c.sp (idsC c.kw)) (hd : ∀ a ∈ L, a.gl ≠ c.gl) (hl : w.heap.size ≤ c.gl) : CW w wr k os v ps last p (L ++ [c]) n D vs vg sent got := by
  refine ⟨h.fw, h.tw, h.pw, fun c2 m => ?_, ?_, h.map, h.x4, h.x5, h.rs, h.rg, h.sg, h.lo, fun c2 m => ?_, h.safe⟩
  · rw [List.mem_append, List.mem_singleton] at m
    rcases m with m | rfl
    · exact h.all c2 m
    · exact hS
  · rw [List.pairwise_append]
    refine ⟨h.dis, by simp, fun a ha b hb' => ?_⟩
    rw [List.mem_singleton] at hb'
    rw [hb']
    exact hd a ha
  · rw [List.mem_append, List.mem_singleton] at m
    rcases m with m | rfl
    · exact h.los c2 m
    · exact hl
theorem CW.drop (h : CW w wr k os v ps last p L n D vs vg sent got) (i : Nat) : CW w wr k os v ps last p (L.eraseIdx i) n D vs vg sent got :=
  ⟨h.fw, h.tw, h.pw, fun c m => h.all c (List.mem_of_mem_eraseIdx m), h.dis.sublist (List.eraseIdx_sublist ..), h.map, h.x4, h.x5, h.rs, h.rg, h.sg, h.lo, fun c m => h.los c (List.mem_of_mem_eraseIdx m), h.safe⟩
/-- A byte more was sent. -/
theorem CW.sends (h : CW w wr k os v ps last p L n D vs vg sent got) {v' : Value} {b : Int} (ho : w'.ownsRow w.heap.size 5 1 v' (sent.length + 1) (sent.map U ++ [U b])) (hg : wr.grownBy w' vs.ownBlock) (hd : v'.ownBlock = vs.ownBlock ∨ v'.ownBlock = some wr.heap.size) : CW w w' k os v ps last p L n D v' vg (sent ++ [b]) got := by
  have hb := But.of_grown hg
  have hT : Hits wr (fun j => some j = vs.ownBlock) [5] := fun j hj => by
    obtain ⟨_, cs, hB⟩ := ownT_blk h.rs hj.symm
    exact ⟨_, cs, by decide, hB⟩
  refine ⟨h.fw.but hb (hT.no h.fw.hp (by decide)) (hT.no h.fw.hl (by decide)), h.tw.but hb (hT.no h.tw.hp (by decide)) (hT.row h.tw.ho (by decide)), h.pw.but hb (hT.no h.pw.hp (by decide)) (hT.no h.pw.hl (by decide)), fun c m => (h.all c m).but hb (hT.no (h.all c m).hp (by decide)) (hT.no (h.all c m).hl (by decide)), h.dis, mapB_but h.map hb (hT.map h.map), h.x4.but hb (hT.no h.x4 (by decide)), h.x5.but hb (hT.no h.x5 (by decide)),
    by rw [List.length_append, List.map_append]; exact ho, own_but_kept h.rg hb (fun j hj e => h.sg j e.symm hj), fun j h1 h2 => ?_, h.lo, h.los, h.safe.step hb (fun j hj => .inr (ownT_blk h.rs hj.symm).1)⟩
  rcases hd with hd | hd
  · exact h.sg j (by rw [← hd]; exact h1) h2
  · obtain ⟨_, cs, hB⟩ := ownT_blk h.rg h2
    have := hB.lt
    rw [h1] at hd
    injection hd with hd
    omega
/-- More was got. -/
theorem CW.gets (h : CW w wr k os v ps last p L n D vs vg sent got) {v' : Value} {bs : List Int} (ho : w'.ownsRow w.heap.size 5 1 v' (got.length + bs.length) (got.map U ++ bs.map U)) (hg : wr.grownBy w' vg.ownBlock) (hd : v'.ownBlock = vg.ownBlock ∨ v'.ownBlock = some wr.heap.size) : CW w w' k os v ps last p L n D vs v' sent (got ++ bs) := by
  have hb := But.of_grown hg
  have hT : Hits wr (fun j => some j = vg.ownBlock) [5] := fun j hj => by
    obtain ⟨_, cs, hB⟩ := ownT_blk h.rg hj.symm
    exact ⟨_, cs, by decide, hB⟩
  refine ⟨h.fw.but hb (hT.no h.fw.hp (by decide)) (hT.no h.fw.hl (by decide)), h.tw.but hb (hT.no h.tw.hp (by decide)) (hT.row h.tw.ho (by decide)), h.pw.but hb (hT.no h.pw.hp (by decide)) (hT.no h.pw.hl (by decide)), fun c m => (h.all c m).but hb (hT.no (h.all c m).hp (by decide)) (hT.no (h.all c m).hl (by decide)), h.dis, mapB_but h.map hb (hT.map h.map), h.x4.but hb (hT.no h.x4 (by decide)), h.x5.but hb (hT.no h.x5 (by decide)),
    own_but_kept h.rs hb (fun j hj e => h.sg j hj e.symm), by rw [List.length_append, List.map_append]; exact ho, fun j h1 h2 => ?_, h.lo, h.los, h.safe.step hb (fun j hj => .inr (ownT_blk h.rg hj.symm).1)⟩
  rcases hd with hd | hd
  · exact h.sg j h1 (by rw [← hd]; exact h2)
  · obtain ⟨_, cs, hB⟩ := ownT_blk h.rs h1
    have := hB.lt
    rw [h2] at hd
    injection hd with hd
    omega
end
end Go.Proofs.Ytlojadpbdbhmiaa
/- DrumlinChain: the closure that closes an open file, and the pipe's end behind it. -/
namespace Go.Proofs.Ytlojadpbdbhmiaa
open Go.RowKit
open Pip
set_option linter.unusedSimpArgs false
set_option linter.unusedVariables false

set_option maxRecDepth 100000 in
set_option maxHeartbeats 1000000 in
theorem shut0 (k : KC) (n m : Nat) (w : World) (hf : FW w k.gf k.gfl (osC n m)) (x4 : Blk w k.b4 39 #[.pointer (some ⟨k.gf, 0, none⟩)]) (hn : 2 ≤ n) (hb : n ≤ 1000) :
    Calls Try.prog 41 #[.int .i64 0, .pointer (some ⟨k.b4, 0, none⟩), .pointer (some ⟨k.b5, 0, none⟩)] w fun e w' => e = .returned (.bool true) ∧ FW w' k.gf k.gfl (osC (n - 1) m) ∧ But (· = k.gfl) w w' := by
  have c4 : w.cell? ⟨k.b4, 0, none⟩ = some (.pointer (some ⟨k.gf, 0, none⟩)) := x4.cell' (i := 0) rfl
  have hc := fclose_yes k.gf k.gfl (osC n m) 0 ⟨2, 1, 0, 1, n⟩ w hf (osC_at0 n m) (by show (n : Int) ≠ 0; omega) (by show -9223372036854775808 < (n : Int); omega) (by show (n : Int) ≤ 9223372036854775807; omega)
  rw [osC_cl0 n m hn, decide_eq_false (show ¬ (⟨2, 1, 0, 1, n⟩ : FO).refs = 1 by show ¬ (n : Int) = 1; omega)] at hc
  have HC := Lib.hid hc
  clear hc x4 hf
  obtain ⟨gf, gfl, gt, gp, gpl, bm, b4, b5⟩ := k
  simp only at *
  go_enter Try.func41, Try.ntmps41
  go_wp2_with fail
  refine (HC.out).mono ?_
  rintro _ w1 ⟨rfl, hf1, hb1⟩
  have hfin : ∀ W, Safe w1 W → FW W gf gfl (osC (n - 1) m) ∧ But (· = gfl) w W := fun W hs => ⟨hf1.safe hs, hb1.trans hs.but⟩
  have HF := Lib.hid hfin
  clear hf1 hb1 hfin
  go_wp2
  go_ret
  first
    | exact ⟨rfl, HF.out _ ((But.refl _ _).alloc _)⟩
    | exact ⟨rfl, HF.out _ (((But.refl _ _).alloc _).setCells _ _ (.inr (Nat.le_refl _)))⟩
set_option maxRecDepth 100000 in
set_option maxHeartbeats 1000000 in
theorem shut1 (k : KC) (n m : Nat) (p : Pp) (q : List Int) (w : World) (hf : FW w k.gf k.gfl (osC n m)) (hp : PW w k.gp k.gpl [p, zeroP]) (hP : PC p m q) (x4 : Blk w k.b4 39 #[.pointer (some ⟨k.gf, 0, none⟩)]) (x5 : Blk w k.b5 72 #[.pointer (some ⟨k.gp, 0, none⟩)]) (hm : 1 ≤ m) (hb : m ≤ 1000) :
    Calls Try.prog 41 #[.int .i64 1, .pointer (some ⟨k.b4, 0, none⟩), .pointer (some ⟨k.b5, 0, none⟩)] w fun e w' => e = .returned (.bool true) ∧ ∃ p', PC p' (m - 1) q ∧ FW w' k.gf k.gfl (osC n (m - 1)) ∧ PW w' k.gp k.gpl [p', zeroP] ∧ But (fun j => j = k.gfl ∨ j = k.gpl) w w' := by
  have c4 : w.cell? ⟨k.b4, 0, none⟩ = some (.pointer (some ⟨k.gf, 0, none⟩)) := x4.cell' (i := 0) rfl
  have hc := fclose_yes k.gf k.gfl (osC n m) 1 ⟨3, 1, 0, 2, m⟩ w hf (osC_at1 n m hm) (by show (m : Int) ≠ 0; omega) (by show -9223372036854775808 < (m : Int); omega) (by show (m : Int) ≤ 9223372036854775807; omega)
  rw [osC_cl1 n m hm] at hc
  have e4 : k.b4 ≠ k.gfl := x4.ne hf.hl (by decide)
  have e5 : k.b5 ≠ k.gfl := x5.ne hf.hl (by decide)
  have g1 : k.gp ≠ k.gfl := hp.hp.ne hf.hl (by decide)
  have g2 : k.gpl ≠ k.gfl := hp.hl.ne hf.hl (by decide)
  have g3 : k.gf ≠ k.gpl := hf.hp.ne hp.hl (by decide)
  by_cases h1 : m = 1
  · subst h1
    rw [decide_eq_true (show (⟨3, 1, 0, 2, (1 : Nat)⟩ : FO).refs = 1 from rfl)] at hc
    obtain ⟨hok, hP'⟩ := hP.last
    have hx : ∀ W, But (· = k.gfl) w W → W.cell? ⟨k.b5, 0, none⟩ = some (.pointer (some ⟨k.gp, 0, none⟩)) ∧ PW W k.gp k.gpl [p, zeroP] := fun W hW => ⟨(x5.but hW e5).cell' (i := 0) rfl, hp.but hW g1 g2⟩
    have hadd := fun W (h : PW W k.gp k.gpl [p, zeroP]) => add_yes k.gp k.gpl [p, zeroP] 0 p W h rfl hP.there 0 (-1) hok
    have HC := Lib.hid hc
    have HX := Lib.hid hx
    have HA := Lib.hid hadd
    have HP := Lib.hid hP'
    clear hc x4 x5 hf hp hP hx hok hadd hP' e4 e5 g1
    obtain ⟨gf, gfl, gt, gp, gpl, bm, b4, b5⟩ := k
    simp only at *
    go_enter Try.func41, Try.ntmps41
    go_wp2_with fail
    refine (HC.out).mono ?_
    rintro _ w1 ⟨rfl, hf1, hb1⟩
    obtain ⟨c5, hp1⟩ := HX.out w1 hb1
    have HF1 := Lib.hid hf1
    have HB1 := Lib.hid hb1
    have HP1 := Lib.hid hp1
    have c5a : (w1.alloc (.cells #[I 3, I 1, I 0, I 2, I 1] 52)).cell? ⟨b5, 0, none⟩ = some (.pointer (some ⟨gp, 0, none⟩)) := cell_alloc c5 _
    clear hf1 hb1 hp1
    go_wp2_with fail
    refine (HA.out _ (HP1.out.safe ((But.refl _ w1).alloc _))).mono ?_
    rintro _ w2 ⟨rfl, hp2, hb2⟩
    have HP2 := Lib.hid hp2
    have HB2 := Lib.hid hb2
    clear hp2 hb2
    go_wp2
    go_ret
    exact ⟨rfl, _, HP.out, (HF1.out.safe ((But.refl _ w1).alloc _)).but HB2.out g3 (fun e => g2 e.symm), HP2.out, ((HB1.out.mono (fun j _ e => .inl e)).trans ((But.refl _ w1).alloc _)).trans (HB2.out.mono (fun j _ e => .inr e))⟩
  · rw [decide_eq_false (show ¬ (⟨3, 1, 0, 2, m⟩ : FO).refs = 1 by show ¬ (m : Int) = 1; omega)] at hc
    have HC := Lib.hid hc
    have hfin : ∀ w1, FW w1 k.gf k.gfl (osC n (m - 1)) → But (· = k.gfl) w w1 → ∀ W, Safe w1 W → ∃ p', PC p' (m - 1) q ∧ FW W k.gf k.gfl (osC n (m - 1)) ∧ PW W k.gp k.gpl [p', zeroP] ∧ But (fun j => j = k.gfl ∨ j = k.gpl) w W := fun w1 hf1 hb1 W hs =>
      ⟨p, hP.same (by omega), hf1.safe hs, (hp.but hb1 g1 g2).safe hs, (hb1.mono (fun j _ e => .inl e)).trans hs.but⟩
    have HF := Lib.hid hfin
    clear hc x4 x5 hf hp hP hfin e4 e5 g1 g2 g3
    obtain ⟨gf, gfl, gt, gp, gpl, bm, b4, b5⟩ := k
    simp only at *
    go_enter Try.func41, Try.ntmps41
    go_wp2_with fail
    refine (HC.out).mono ?_
    rintro _ w1 ⟨rfl, hf1, hb1⟩
    have HF1 := Lib.hid (HF.out w1 hf1 hb1)
    clear hf1 hb1
    go_wp2
    go_ret
    first
      | exact ⟨rfl, HF1.out _ ((But.refl _ _).alloc _)⟩
      | exact ⟨rfl, HF1.out _ (((But.refl _ _).alloc _).setCells _ _ (.inr (Nat.le_refl _)))⟩
end Go.Proofs.Ytlojadpbdbhmiaa
/- An argument that is a slice of acts: what it holds. -/
namespace Go.Proofs.Ytlojadpbdbhmiaa
open Go.ChangeShapes Go.WideShapes Go.ChangeAt Go.RowKit Go.Deep
set_option linter.unusedSimpArgs false
set_option linter.unusedVariables false

section
variable {H : Type} {enc : TypeId × Value → H} {P : Program} {w : World} {base : Nat} {spare : Nat → Bool} {held : Bool}
/-- One element, a struct of one-cell fields: its cells, and each field's own reading. -/
theorem elem_fields {e : TypeId} {fs : Array Field} {a : Addr} {i fuel : Nat} {es : List Value} {x : DataW H × List MemPlace} (he : P.underlying e = some (.struct fs)) (hone : oneCellFields P fs = true) (hC : P.cellsOf e = fs.size)
    (hc : w.cells? base (a.add (i * P.cellsOf e)) (P.cellsOf e) = some es) (h : DataW.trod enc P w base spare held fuel e es = some x) :
    ∃ n, ∀ j f, fs[j]? = some f → ∃ v y, w.cell? (a.add (i * fs.size + j)) = some v ∧ DataW.trod enc P w base spare held n f.type [v] = some y := by
  obtain ⟨ys, n, _, _, hlen, hyl, hf⟩ := DataW.trod_struct he h
  obtain ⟨_, _, hat⟩ := World.cells?_some hc
  rw [hC] at hlen hat
  refine ⟨n, fun j f hj => ?_⟩
  obtain ⟨ho, hk⟩ := hone_of hone j f hj
  have hjl : j < fs.size := (Array.getElem?_eq_some_iff.1 hj).1
  have h1 := hf j f hj
  rw [ho, hk, List.drop_eq_getElem_cons (by omega)] at h1
  refine ⟨es[j]'(by omega), ys[j]'(by omega), ?_, ?_⟩
  · rw [← Go.Deep.add_add, hat j hjl, List.getElem?_eq_getElem (by omega)]
  · rw [← List.getElem?_eq_getElem (by omega), ← h1]
    rfl
end

structure ActF where
  kind : Int
  a : Int
  b : Int
  c : Int
instance : Inhabited ActF := ⟨⟨0, 0, 0, 0⟩⟩
def Ranged (x : Int) : Prop := -9223372036854775808 ≤ x ∧ x ≤ 9223372036854775807
/-- n acts lie at A. -/
def ActsAt (W : World) (A : Option Addr) (n : Nat) (D : Nat → ActF) : Prop :=
  ∀ i, i < n → ∃ ad, A = some ad ∧ W.cell? (ad.add (i * 4 + 0)) = some (I (D i).kind) ∧ W.cell? (ad.add (i * 4 + 1)) = some (I (D i).a) ∧ W.cell? (ad.add (i * 4 + 2)) = some (I (D i).b) ∧ W.cell? (ad.add (i * 4 + 3)) = some (I (D i).c) ∧
    Ranged (D i).kind ∧ Ranged (D i).a ∧ Ranged (D i).b ∧ Ranged (D i).c
theorem oneInt {H : Type} {enc : TypeId × Value → H} {w : World} {base : Nat} {spare : Nat → Bool} {held : Bool} {n : Nat} {v : Value} {y : DataW H × List MemPlace} (h : DataW.trod enc Try.prog w base spare held n 3 [v] = some y) :
    ∃ b, v = I b ∧ Ranged b := by
  obtain ⟨b, e, _, wb⟩ := DataW.trod_int Try.underlying3 h
  exact ⟨b, by simpa using e, (int_range wb).1, (int_range wb).2⟩
theorem add_split4 (a : Addr) (i j : Nat) : a.add (i * 4 + (j + 1)) = ⟨(a.add (i * 4)).block, (a.add (i * 4)).off + (j + 1), none⟩ := by
  rw [← Go.Deep.add_add]
  simp [Addr.add]
set_option maxRecDepth 100000 in
theorem open_acts {H : Type} {enc : TypeId × Value → H} {W : World} {r : Reach} {b0 : Nat} {v : Value} {d : DataW H} {p : List MemPlace} {sp : Nat → Bool}
    (hv : Value.okWide Try.prog W r b0 38 v) (h : DataW.Trod enc Try.prog W 0 sp true 38 v d p) :
    ∃ (A : Option Addr) (n c : Nat) (D : Nat → ActF), v = .slice A n c ∧ n ≤ c ∧ c ≤ 9223372036854775807 ∧ ActsAt W A n D := by
  obtain ⟨A, n, c, rfl⟩ := okWide_slice Try.underlying38 hv
  obtain ⟨fuel, hf⟩ := h
  rcases open_slice Try.underlying38 hf with ⟨hcs, _⟩ | ⟨a, len, cap, m, k, D, Pl, hcs, _, hl, hm, hmm, _, hi⟩
  · simp [Value.cells] at hcs
    obtain ⟨rfl, rfl, rfl⟩ := hcs
    exact ⟨none, 0, 0, fun _ => default, rfl, Nat.le_refl _, by omega, fun i hi => absurd hi (by omega)⟩
  · simp [Value.cells] at hcs
    obtain ⟨rfl, rfl, rfl⟩ := hcs
    have hlm : n ≤ m := by rw [hmm]; split <;> omega
    obtain ⟨E, hE⟩ := choose_lt (n := n) (p := fun i (x : ActF) => W.cell? (a.add (i * 4 + 0)) = some (I x.kind) ∧ W.cell? (a.add (i * 4 + 1)) = some (I x.a) ∧ W.cell? (a.add (i * 4 + 2)) = some (I x.b) ∧
        W.cell? (a.add (i * 4 + 3)) = some (I x.c) ∧ Ranged x.kind ∧ Ranged x.a ∧ Ranged x.b ∧ Ranged x.c) (fun i hin => by
      obtain ⟨es, hc, ht⟩ := hi i (by omega)
      obtain ⟨q, hq⟩ := elem_fields Try.underlying44 (by kernel_rfl) (by kernel_rfl) hc ht
      obtain ⟨v0, y0, c0, t0⟩ := hq 0 _ rfl
      obtain ⟨v1, y1, c1, t1⟩ := hq 1 _ rfl
      obtain ⟨v2, y2, c2, t2⟩ := hq 2 _ rfl
      obtain ⟨v3, y3, c3, t3⟩ := hq 3 _ rfl
      obtain ⟨b0, rfl, r0⟩ := oneInt t0
      obtain ⟨b1, rfl, r1⟩ := oneInt t1
      obtain ⟨b2, rfl, r2⟩ := oneInt t2
      obtain ⟨b3, rfl, r3⟩ := oneInt t3
      exact ⟨⟨b0, b1, b2, b3⟩, c0, c1, c2, c3, r0, r1, r2, r3⟩)
    exact ⟨some a, n, c, E, rfl, hl, by simpa [maxLen] using hm, fun i hin => ⟨a, rfl, hE i hin⟩⟩
end Go.Proofs.Ytlojadpbdbhmiaa
/- DrumlinChain: the argument, and what holds from turn to turn. -/
namespace Go.Proofs.Ytlojadpbdbhmiaa
open Go.ChangeShapes Go.WideShapes Go.ChangeAt Go.RowKit Go.Deep
open Pip
set_option linter.unusedSimpArgs false
set_option linter.unusedVariables false

/-- n turns lie at A. -/
def TurnsAt (W : World) (A : Option Addr) (n : Nat) (D : Nat → Int × Int) : Prop :=
  ∀ i, i < n → ∃ ad, A = some ad ∧ W.cell? (ad.add (i * 2 + 0)) = some (I (D i).1) ∧ W.cell? (ad.add (i * 2 + 1)) = some (I (D i).2) ∧ Ranged64 (D i).1 ∧ Ranged64 (D i).2
theorem add_split2 (a : Addr) (i j : Nat) : a.add (i * 2 + (j + 1)) = ⟨(a.add (i * 2)).block, (a.add (i * 2)).off + (j + 1), none⟩ := by
  rw [← Go.Deep.add_add]
  simp [Addr.add]
set_option maxRecDepth 100000 in
theorem open_turns {H : Type} {enc : TypeId × Value → H} {W : World} {r : Reach} {b0 : Nat} {v : Value} {d : DataW H} {p : List MemPlace} {sp : Nat → Bool}
    (hv : Value.okWide Try.prog W r b0 71 v) (h : DataW.Trod enc Try.prog W 0 sp true 71 v d p) :
    ∃ (A : Option Addr) (n c : Nat) (D : Nat → Int × Int), v = .slice A n c ∧ n ≤ c ∧ c ≤ 9223372036854775807 ∧ TurnsAt W A n D := by
  obtain ⟨A, n, c, rfl⟩ := okWide_slice Try.underlying71 hv
  obtain ⟨fuel, hf⟩ := h
  rcases open_slice Try.underlying71 hf with ⟨hcs, _⟩ | ⟨a, len, cap, m, k, D, Pl, hcs, _, hl, hm, hmm, _, hi⟩
  · simp [Value.cells] at hcs
    obtain ⟨rfl, rfl, rfl⟩ := hcs
    exact ⟨none, 0, 0, fun _ => (0, 0), rfl, Nat.le_refl _, by omega, fun i hi => absurd hi (by omega)⟩
  · simp [Value.cells] at hcs
    obtain ⟨rfl, rfl, rfl⟩ := hcs
    have hlm : n ≤ m := by rw [hmm]; split <;> omega
    obtain ⟨E, hE⟩ := choose_lt (n := n) (p := fun i (x : Int × Int) => W.cell? (a.add (i * 2 + 0)) = some (I x.1) ∧ W.cell? (a.add (i * 2 + 1)) = some (I x.2) ∧ Ranged64 x.1 ∧ Ranged64 x.2) (fun i hin => by
      obtain ⟨es, hc, ht⟩ := hi i (by omega)
      obtain ⟨q, hq⟩ := elem_fields Try.underlying81 (by kernel_rfl) (by kernel_rfl) hc ht
      obtain ⟨v0, y0, c0, t0⟩ := hq 0 _ rfl
      obtain ⟨v1, y1, c1, t1⟩ := hq 1 _ rfl
      obtain ⟨b0, rfl, r0⟩ := oneInt t0
      obtain ⟨b1, rfl, r1⟩ := oneInt t1
      exact ⟨(b0, b1), c0, c1, r0, r1⟩)
    exact ⟨some a, n, c, E, rfl, hl, by simpa [maxLen] using hm, fun i hin => ⟨a, rfl, hE i hin⟩⟩
/-- What a set's list of all is. -/
theorem allC_at {kw : Bool} {q : Nat} {x : Int} (h : (allS (idsC kw))[q]? = some x) : x = q ∧ (q = 0 ∨ (q = 1 ∧ kw = true)) := by
  have e : allS (idsC kw) = if kw then [0, 1] else [0] := by cases kw <;> rfl
  rw [e] at h
  cases kw
  · match q, h with
    | 0, h => simp at h; exact ⟨h.symm, .inl rfl⟩
    | q + 1, h => simp at h
  · match q, h with
    | 0, h => simp at h; exact ⟨h.symm, .inl rfl⟩
    | 1, h => simp at h; exact ⟨h.symm, .inr ⟨rfl, rfl⟩⟩
    | q + 2, h => simp at h
theorem allC_len (kw : Bool) : (allS (idsC kw)).length = 1 + if kw = true then 1 else 0 := by cases kw <;> rfl
/-- A string of bytes that are read. -/
theorem conv_any {W : World} {A : Option Addr} {bs : List Int} (h : Rd U W A bs) (c : Nat) : (convert 78 9 (.slice A bs.length c)).run Try.prog W = .ok (.string (strOfNums bs)) W := by
  rw [run_convert_bytes_string W 78 9 5 A bs.length c Try.underlying78 Try.underlying5 Try.underlying9]
  cases A with
  | none =>
    cases bs with
    | nil => rfl
    | cons b r => obtain ⟨ad, e, _⟩ := h (by simp); cases e
  | some ad =>
    have hl : (loadCells ad bs.length).run Try.prog W = .ok (bs.map (Value.int .u8)).toArray W := by
      have := run_loadCells_list (P := Try.prog) W ad (bs.map (Value.int .u8)) (fun j v hj => by
        have hjl : j < bs.length := by
          rcases Nat.lt_or_ge j bs.length with h | h
          · exact h
          · simp [List.getElem?_eq_none (show (bs.map (Value.int .u8)).length ≤ j by simpa using h)] at hj
        obtain ⟨ad', e, hc⟩ := h (by omega)
        injection e with e
        subst e
        rw [List.getElem?_map, List.getElem?_eq_getElem hjl] at hj
        injection hj with hj
        rw [← hj]
        exact hc j _ (List.getElem?_eq_getElem hjl))
      simpa using this
    rw [run_bytesToString W ad bs.length c bs hl, foldl_push_bytes]
    simp [strOfNums, ByteArray.empty, ByteArray.emptyWithCapacity]
    rfl
/-- What holds ahead of turn i. -/
structure CR (w wr : World) (k : KC) (i : Nat) (v : Value) (ps : List PR) (last : Int) (p : Pp) (L : List CP) (n : Nat) (D : DataW Unit) (vs vg : Value) (sent got q : List Int) : Prop where
  ci : CI ps last L
  mp : MapP D L
  pc : PC p (nW L) q
  sq : sent = got ++ q
  b1 : sent.length ≤ i
  b2 : n ≤ i + 1
  b3 : L.length ≤ i + 1
  b4 : last ≤ i + 1
  cw : CW w wr k (osC L.length (nW L)) v ps last p L n D vs vg sent got
section
variable {w wr w' : World} {k : KC} {i : Nat} {v : Value} {ps : List PR} {last : Int} {p : Pp} {L : List CP} {n : Nat} {D : DataW Unit} {vs vg : Value} {sent got q : List Int}
theorem CR.next (h : CR w wr k i v ps last p L n D vs vg sent got q) (hs : Safe wr w') : CR w w' k (i + 1) v ps last p L n D vs vg sent got q :=
  ⟨h.ci, h.mp, h.pc, h.sq, by have := h.b1; omega, by have := h.b2; omega, by have := h.b3; omega, by have := h.b4; omega, h.cw.move hs⟩
theorem CR.len1 (h : CR w wr k i v ps last p L n D vs vg sent got q) : 1 ≤ L.length := by
  obtain ⟨c, hc, _⟩ := h.ci.one
  exact List.length_pos_of_mem hc
end
end Go.Proofs.Ytlojadpbdbhmiaa
