/- An argument that is a slice of acts: what it holds. -/
import Derived.Test.YtlojadpbdbhmiaaK
import Derived.Test.YtlojadpbdbhmiaaA
import Derived.Test.YtlojadpbdbhmiaaProg
import Derived.Deep.Slices
import Derived.Deep.Fields
namespace Go.Proofs.Ytlojadpbdbhmiaa
open Go.ChangeShapes Go.WideShapes Go.ChangeAt Go.RowKit Go.Deep
set_option linter.unusedSimpArgs false
set_option linter.unusedVariables false

section
variable {H : Type} {enc : TypeId × Value → H} {P : Program} {w : World} {base : Nat} {spare : Nat → Bool} {held : Bool}
/-- One element, a struct of one-cell fields: its cells, and each field's own reading. -/
theorem elem_fields {e : TypeId} {fs : Array Field} {a : Addr} {i fuel : Nat} {es : List Value} {x : DataW H × List MemPlace} (he : P.underlying e = some (.struct fs)) (hone : oneCellFields P fs = true) (hC : P.cellsOf e = fs.size)
    (hc : w.cells? base (a.add (i * P.cellsOf e)) (P.cellsOf e) = some es) (h : DataW.trod enc P w base spare held fuel e es = some x) :
    ∃ n, ∀ j f, fs[j]? = some f → ∃ v y, w.cell? (a.add (i * fs.size + j)) = some v ∧ DataW.trod enc P w base spare held n f.type [v] = some y := by
  obtain ⟨ys, n, _, _, hlen, hyl, hf⟩ := DataW.trod_struct he h
  obtain ⟨_, _, hat⟩ := World.cells?_some hc
  rw [hC] at hlen hat
  refine ⟨n, fun j f hj => ?_⟩
  obtain ⟨ho, hk⟩ := hone_of hone j f hj
  have hjl : j < fs.size := (Array.getElem?_eq_some_iff.1 hj).1
  have h1 := hf j f hj
  rw [ho, hk, List.drop_eq_getElem_cons (by omega)] at h1
  refine ⟨es[j]'(by omega), ys[j]'(by omega), ?_, ?_⟩
  · rw [← Go.Deep.add_add, hat j hjl, List.getElem?_eq_getElem (by omega)]
  · rw [← List.getElem?_eq_getElem (by omega), ← h1]
    rfl
end

structure ActF where
  kind : Int
  a : Int
  b : Int
  c : Int
instance : Inhabited ActF := ⟨⟨0, 0, 0, 0⟩⟩
def Ranged (x : Int) : Prop := -9223372036854775808 ≤ x ∧ x ≤ 9223372036854775807
/-- n acts lie at A. -/
def ActsAt (W : World) (A : Option Addr) (n : Nat) (D : Nat → ActF) : Prop :=
  ∀ i, i < n → ∃ ad, A = some ad ∧ W.cell? (ad.add (i * 4 + 0)) = some (I (D i).kind) ∧ W.cell? (ad.add (i * 4 + 1)) = some (I (D i).a) ∧ W.cell? (ad.add (i * 4 + 2)) = some (I (D i).b) ∧ W.cell? (ad.add (i * 4 + 3)) = some (I (D i).c) ∧
    Ranged (D i).kind ∧ Ranged (D i).a ∧ Ranged (D i).b ∧ Ranged (D i).c
theorem oneInt {H : Type} {enc : TypeId × Value → H} {w : World} {base : Nat} {spare : Nat → Bool} {held : Bool} {n : Nat} {v : Value} {y : DataW H × List MemPlace} (h : DataW.trod enc Try.prog w base spare held n 3 [v] = some y) :
    ∃ b, v = I b ∧ Ranged b := by
  obtain ⟨b, e, _, wb⟩ := DataW.trod_int Try.underlying3 h
  exact ⟨b, by simpa using e, (int_range wb).1, (int_range wb).2⟩
theorem add_split4 (a : Addr) (i j : Nat) : a.add (i * 4 + (j + 1)) = ⟨(a.add (i * 4)).block, (a.add (i * 4)).off + (j + 1), none⟩ := by
  rw [← Go.Deep.add_add]
  simp [Addr.add]
set_option maxRecDepth 100000 in
theorem open_acts {H : Type} {enc : TypeId × Value → H} {W : World} {r : Reach} {b0 : Nat} {v : Value} {d : DataW H} {p : List MemPlace} {sp : Nat → Bool}
    (hv : Value.okWide Try.prog W r b0 38 v) (h : DataW.Trod enc Try.prog W 0 sp true 38 v d p) :
    ∃ (A : Option Addr) (n c : Nat) (D : Nat → ActF), v = .slice A n c ∧ n ≤ c ∧ c ≤ 9223372036854775807 ∧ ActsAt W A n D := by
  obtain ⟨A, n, c, rfl⟩ := okWide_slice Try.underlying38 hv
  obtain ⟨fuel, hf⟩ := h
  rcases open_slice Try.underlying38 hf with ⟨hcs, _⟩ | ⟨a, len, cap, m, k, D, Pl, hcs, _, hl, hm, hmm, _, hi⟩
  · simp [Value.cells] at hcs
    obtain ⟨rfl, rfl, rfl⟩ := hcs
    exact ⟨none, 0, 0, fun _ => default, rfl, Nat.le_refl _, by omega, fun i hi => absurd hi (by omega)⟩
  · simp [Value.cells] at hcs
    obtain ⟨rfl, rfl, rfl⟩ := hcs
    have hlm : n ≤ m := by rw [hmm]; split <;> omega
    obtain ⟨E, hE⟩ := choose_lt (n := n) (p := fun i (x : ActF) => W.cell? (a.add (i * 4 + 0)) = some (I x.kind) ∧ W.cell? (a.add (i * 4 + 1)) = some (I x.a) ∧ W.cell? (a.add (i * 4 + 2)) = some (I x.b) ∧
        W.cell? (a.add (i * 4 + 3)) = some (I x.c) ∧ Ranged x.kind ∧ Ranged x.a ∧ Ranged x.b ∧ Ranged x.c) (fun i hin => by
      obtain ⟨es, hc, ht⟩ := hi i (by omega)
      obtain ⟨q, hq⟩ := elem_fields Try.underlying44 (by kernel_rfl) (by kernel_rfl) hc ht
      obtain ⟨v0, y0, c0, t0⟩ := hq 0 _ rfl
      obtain ⟨v1, y1, c1, t1⟩ := hq 1 _ rfl
      obtain ⟨v2, y2, c2, t2⟩ := hq 2 _ rfl
      obtain ⟨v3, y3, c3, t3⟩ := hq 3 _ rfl
      obtain ⟨b0, rfl, r0⟩ := oneInt t0
      obtain ⟨b1, rfl, r1⟩ := oneInt t1
      obtain ⟨b2, rfl, r2⟩ := oneInt t2
      obtain ⟨b3, rfl, r3⟩ := oneInt t3
      exact ⟨⟨b0, b1, b2, b3⟩, c0, c1, c2, c3, r0, r1, r2, r3⟩)
    exact ⟨some a, n, c, E, rfl, hl, by simpa [maxLen] using hm, fun i hin => ⟨a, rfl, hE i hin⟩⟩
end Go.Proofs.Ytlojadpbdbhmiaa
