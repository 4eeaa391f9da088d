/- An argument that is a slice of acts: what it holds. -/
import Derived.Test.YtfokjmlkhaehgaaK
import Derived.Test.YtfokjmlkhaehgaaA
import Derived.Deep.Slices
import Derived.Deep.Fields
namespace Go.Proofs.Ytfokjmlkhaehgaa
open Go.ChangeShapes Go.WideShapes Go.ChangeAt Go.RowKit Go.Deep
set_option linter.unusedSimpArgs false
set_option linter.unusedVariables false

section
variable {H : Type} {enc : TypeId × Value → H} {P : Program} {w : World} {base : Nat} {spare : Nat → Bool} {held : Bool}
/-- One element, a struct of one-cell fields: its cells, and each field's own reading. -/
theorem elem_fields {e : TypeId} {fs : Array Field} {a : Addr} {i fuel : Nat} {es : List Value} {x : DataW H × List MemPlace} (he : P.underlying e = some (.struct fs)) (hone : oneCellFields P fs = true) (hC : P.cellsOf e = fs.size)
    (hc : w.cells? base (a.add (i * P.cellsOf e)) (P.cellsOf e) = some es) (h : DataW.trod enc P w base spare held fuel e es = some x) :
    ∃ n, ∀ j f, fs[j]? = some f → ∃ v y, w.cell? (a.add (i * fs.size + j)) = some v ∧ DataW.trod enc P w base spare held n f.type [v] = some y := by
  obtain ⟨ys, n, _, _, hlen, hyl, hf⟩ := DataW.trod_struct he h
  obtain ⟨_, _, hat⟩ := World.cells?_some hc
  rw [hC] at hlen hat
  refine ⟨n, fun j f hj => ?_⟩
  obtain ⟨ho, hk⟩ := hone_of hone j f hj
  have hjl : j < fs.size := (Array.getElem?_eq_some_iff.1 hj).1
  have h1 := hf j f hj
  rw [ho, hk, List.drop_eq_getElem_cons (by omega)] at h1
  refine ⟨es[j]'(by omega), ys[j]'(by omega), ?_, ?_⟩
  · rw [← Go.Deep.add_add, hat j hjl, List.getElem?_eq_getElem (by omega)]
  · rw [← List.getElem?_eq_getElem (by omega), ← h1]
    rfl
end

structure ActR where
  kind : Int
  num : Int
  n : Int
  m : Int
  B : Option Addr
  bc : Nat
  bs : List Int
instance : Inhabited ActR := ⟨⟨0, 0, 0, 0, none, 0, []⟩⟩
/-- An act's numbers are ints, its bytes are there. -/
structure ActR.In (W : World) (a : ActR) : Prop where
  kind : -9223372036854775808 ≤ a.kind ∧ a.kind ≤ 9223372036854775807
  num : -9223372036854775808 ≤ a.num ∧ a.num ≤ 9223372036854775807
  n : -9223372036854775808 ≤ a.n ∧ a.n ≤ 9223372036854775807
  m : -9223372036854775808 ≤ a.m ∧ a.m ≤ 9223372036854775807
  bl : a.bs.length ≤ a.bc
  bc : a.bc ≤ 9223372036854775807
  rd : Rd (Value.int .u8) W a.B a.bs
  u8 : ∀ x ∈ a.bs, 0 ≤ x ∧ x < 256
/-- n acts lie at A. -/
def ActsAt (W : World) (A : Option Addr) (n : Nat) (D : Nat → ActR) : Prop :=
  ∀ i, i < n → ∃ ad, A = some ad ∧ (D i).In W ∧ W.cell? (ad.add (i * 5 + 0)) = some (I (D i).kind) ∧ W.cell? (ad.add (i * 5 + 1)) = some (I (D i).num) ∧ W.cell? (ad.add (i * 5 + 2)) = some (I (D i).n) ∧
    W.cell? (ad.add (i * 5 + 3)) = some (I (D i).m) ∧ W.cell? (ad.add (i * 5 + 4)) = some (.slice (D i).B (D i).bs.length (D i).bc)
theorem oneInt {H : Type} {enc : TypeId × Value → H} {w : World} {base : Nat} {spare : Nat → Bool} {held : Bool} {n : Nat} {v : Value} {y : DataW H × List MemPlace} (h : DataW.trod enc Try.prog w base spare held n 3 [v] = some y) :
    ∃ b, v = I b ∧ -9223372036854775808 ≤ b ∧ b ≤ 9223372036854775807 := by
  obtain ⟨b, e, _, wb⟩ := DataW.trod_int Try.underlying3 h
  exact ⟨b, by simpa using e, (int_range wb).1, (int_range wb).2⟩
theorem oneBytes {H : Type} {enc : TypeId × Value → H} {w : World} {base : Nat} {spare : Nat → Bool} {held : Bool} {n : Nat} {v : Value} {y : DataW H × List MemPlace} (h : DataW.trod enc Try.prog w base spare held n 57 [v] = some y) :
    ∃ (B : Option Addr) (c : Nat) (bs : List Int), v = .slice B bs.length c ∧ bs.length ≤ c ∧ c ≤ 9223372036854775807 ∧ Rd (Value.int .u8) w B bs ∧ ∀ x ∈ bs, 0 ≤ x ∧ x < 256 := by
  rcases open_ints Try.underlying57 Try.underlying5 (show Try.prog.cellsOf 5 = 1 from by kernel_rfl) h with ⟨hcs, _⟩ | ⟨a, len, cap, zs, hcs, _, hl, hm, hz, _, hcell, hwf⟩
  · simp at hcs
    subst hcs
    exact ⟨none, 0, [], rfl, Nat.le_refl _, by omega, Rd.nil, by simp⟩
  · simp at hcs
    subst hcs
    have hlen : len ≤ zs.length := by rw [hz]; split <;> omega
    have ht : (zs.take len).length = len := by rw [List.length_take]; omega
    refine ⟨some a, cap, zs.take len, by rw [ht], by omega, by simpa [maxLen] using hm, fun _ => ⟨a, rfl, fun k x hk => ?_⟩, fun x hx => ?_⟩
    · rw [List.getElem?_take] at hk
      split at hk
      · have hk' := (List.getElem?_eq_some_iff.1 hk).1
        rw [hcell k hk', List.getD_eq_getElem?_getD, hk]
        rfl
      · cases hk
    · have := hwf x (List.mem_of_mem_take hx)
      simp [Lit.wf, IntKind.min, IntKind.max, IntKind.signed, IntKind.bits] at this
      omega
set_option maxRecDepth 100000 in
theorem open_acts {H : Type} {enc : TypeId × Value → H} {W : World} {r : Reach} {b0 : Nat} {v : Value} {d : DataW H} {p : List MemPlace} {sp : Nat → Bool}
    (hv : Value.okWide Try.prog W r b0 54 v) (h : DataW.Trod enc Try.prog W 0 sp true 54 v d p) :
    ∃ (A : Option Addr) (n c : Nat) (D : Nat → ActR), v = .slice A n c ∧ n ≤ c ∧ c ≤ 9223372036854775807 ∧ ActsAt W A n D := by
  obtain ⟨A, n, c, rfl⟩ := okWide_slice Try.underlying54 hv
  obtain ⟨fuel, hf⟩ := h
  rcases open_slice Try.underlying54 hf with ⟨hcs, _⟩ | ⟨a, len, cap, m, k, D, Pl, hcs, _, hl, hm, hmm, _, hi⟩
  · simp [Value.cells] at hcs
    obtain ⟨rfl, rfl, rfl⟩ := hcs
    exact ⟨none, 0, 0, fun _ => default, rfl, Nat.le_refl _, by omega, fun i hi => absurd hi (by omega)⟩
  · simp [Value.cells] at hcs
    obtain ⟨rfl, rfl, rfl⟩ := hcs
    have hlm : n ≤ m := by rw [hmm]; split <;> omega
    obtain ⟨E, hE⟩ := choose_lt (n := n) (p := fun i (x : ActR) => x.In W ∧ W.cell? (a.add (i * 5 + 0)) = some (I x.kind) ∧ W.cell? (a.add (i * 5 + 1)) = some (I x.num) ∧ W.cell? (a.add (i * 5 + 2)) = some (I x.n) ∧
        W.cell? (a.add (i * 5 + 3)) = some (I x.m) ∧ W.cell? (a.add (i * 5 + 4)) = some (.slice x.B x.bs.length x.bc)) (fun i hin => by
      obtain ⟨es, hc, ht⟩ := hi i (by omega)
      obtain ⟨q, hq⟩ := elem_fields Try.underlying60 (by kernel_rfl) (by kernel_rfl) hc ht
      obtain ⟨v0, y0, c0, t0⟩ := hq 0 _ rfl
      obtain ⟨v1, y1, c1, t1⟩ := hq 1 _ rfl
      obtain ⟨v2, y2, c2, t2⟩ := hq 2 _ rfl
      obtain ⟨v3, y3, c3, t3⟩ := hq 3 _ rfl
      obtain ⟨v4, y4, c4, t4⟩ := hq 4 _ rfl
      obtain ⟨b0, rfl, r0⟩ := oneInt t0
      obtain ⟨b1, rfl, r1⟩ := oneInt t1
      obtain ⟨b2, rfl, r2⟩ := oneInt t2
      obtain ⟨b3, rfl, r3⟩ := oneInt t3
      obtain ⟨B, bc, bs, rfl, h1, h2, h3, h4⟩ := oneBytes t4
      exact ⟨⟨b0, b1, b2, b3, B, bc, bs⟩, ⟨r0, r1, r2, r3, h1, h2, h3, h4⟩, c0, c1, c2, c3, c4⟩)
    exact ⟨some a, n, c, E, rfl, hl, by simpa [maxLen] using hm, fun i hin => ⟨a, rfl, hE i hin⟩⟩
end Go.Proofs.Ytfokjmlkhaehgaa
