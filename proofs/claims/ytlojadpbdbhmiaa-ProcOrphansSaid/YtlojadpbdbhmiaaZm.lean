/- Law 22: an argument that is a slice of acts. -/
import Derived.Test.YtlojadpbdbhmiaaFk
import Derived.Test.YtlojadpbdbhmiaaZl
namespace Go.Proofs.Ytlojadpbdbhmiaa
open Go.ChangeShapes Go.WideShapes Go.ChangeAt Go.RowKit Go.Deep
set_option linter.unusedSimpArgs false
set_option linter.unusedVariables false

instance : Inhabited ActP := ⟨⟨0, 0, 0⟩⟩
/-- n acts lie at A. -/
def ActsP (W : World) (A : Option Addr) (n : Nat) (D : Nat → ActP) : Prop :=
  ∀ i, i < n → ∃ ad, A = some ad ∧ W.cell? (ad.add (i * 3 + 0)) = some (I (D i).kind) ∧ W.cell? (ad.add (i * 3 + 1)) = some (I (D i).pid) ∧ W.cell? (ad.add (i * 3 + 2)) = some (I (D i).n) ∧ Ranged64 (D i).kind ∧ Ranged64 (D i).pid ∧ Ranged64 (D i).n
theorem add_split3 (a : Addr) (i j : Nat) : a.add (i * 3 + (j + 1)) = ⟨(a.add (i * 3)).block, (a.add (i * 3)).off + (j + 1), none⟩ := by
  rw [← Go.Deep.add_add]
  simp [Addr.add]
set_option maxRecDepth 100000 in
theorem open_actsP {H : Type} {enc : TypeId × Value → H} {W : World} {r : Reach} {b0 : Nat} {v : Value} {d : DataW H} {p : List MemPlace} {sp : Nat → Bool}
    (hv : Value.okWide Try.prog W r b0 88 v) (h : DataW.Trod enc Try.prog W 0 sp true 88 v d p) :
    ∃ (A : Option Addr) (n c : Nat) (D : Nat → ActP), v = .slice A n c ∧ n ≤ c ∧ c ≤ 9223372036854775807 ∧ ActsP W A n D := by
  obtain ⟨A, n, c, rfl⟩ := okWide_slice Try.underlying88 hv
  obtain ⟨fuel, hf⟩ := h
  rcases open_slice Try.underlying88 hf with ⟨hcs, _⟩ | ⟨a, len, cap, m, k, D, Pl, hcs, _, hl, hm, hmm, _, hi⟩
  · simp [Value.cells] at hcs
    obtain ⟨rfl, rfl, rfl⟩ := hcs
    exact ⟨none, 0, 0, fun _ => default, rfl, Nat.le_refl _, by omega, fun i hi => absurd hi (by omega)⟩
  · simp [Value.cells] at hcs
    obtain ⟨rfl, rfl, rfl⟩ := hcs
    have hlm : n ≤ m := by rw [hmm]; split <;> omega
    obtain ⟨E, hE⟩ := choose_lt (n := n) (p := fun i (x : ActP) => W.cell? (a.add (i * 3 + 0)) = some (I x.kind) ∧ W.cell? (a.add (i * 3 + 1)) = some (I x.pid) ∧ W.cell? (a.add (i * 3 + 2)) = some (I x.n) ∧
        Ranged64 x.kind ∧ Ranged64 x.pid ∧ Ranged64 x.n) (fun i hin => by
      obtain ⟨es, hc, ht⟩ := hi i (by omega)
      obtain ⟨q, hq⟩ := elem_fields Try.underlying94 (by kernel_rfl) (by kernel_rfl) hc ht
      obtain ⟨v0, y0, c0, t0⟩ := hq 0 _ rfl
      obtain ⟨v1, y1, c1, t1⟩ := hq 1 _ rfl
      obtain ⟨v2, y2, c2, t2⟩ := hq 2 _ rfl
      obtain ⟨b0, rfl, r0⟩ := oneInt t0
      obtain ⟨b1, rfl, r1⟩ := oneInt t1
      obtain ⟨b2, rfl, r2⟩ := oneInt t2
      exact ⟨⟨b0, b1, b2⟩, c0, c1, c2, r0, r1, r2⟩)
    exact ⟨some a, n, c, E, rfl, hl, by simpa [maxLen] using hm, fun i hin => ⟨a, rfl, hE i hin⟩⟩
end Go.Proofs.Ytlojadpbdbhmiaa
