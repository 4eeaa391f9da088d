/- name: Text, as the document's. -/
import Derived.Test.YtodlapkmcnmmhaaDoorMe
namespace Go.Proofs.YtodlapkmcnmmhaaDoor
open Go.RowKit
set_option linter.unusedSimpArgs false
set_option linter.unusedVariables false

theorem inter_join : ∀ X : List Bs, Lib.join X [47] = joinM X
  | [] => rfl
  | [x] => by simp [Lib.join, joinM, List.intercalate]
  | x :: y :: r => by
    have := inter_join (y :: r)
    rw [joinM, ← this]
    simp [Lib.join, List.intercalate]
theorem join_any (A : Option Addr) (X : List Bs) (c : Nat) (w : World) (hr : Rd Sv w A X) (hA : 0 < X.length → ∃ g, A = some ⟨g, 0, none⟩) (hc : X.length ≤ c) (hN : X.length ≤ 1000) (hl : (joinM X).length ≤ 100000) :
    Calls Tryd.prog 40 #[.slice A X.length c, Sv [47]] w fun e w' => e = .returned (Sv (joinM X)) ∧ Safe w w' := by
  by_cases h0 : 0 < X.length
  · obtain ⟨g, rfl⟩ := hA h0
    obtain ⟨ad, e, hcell⟩ := hr h0
    injection e with e
    subst e
    have hm : (X.map (fun x => (⟨x.toArray⟩ : ByteArray))).map (·.data.toList) = X := by
      rw [List.map_map]
      conv => rhs; rw [← List.map_id X]
      apply List.map_congr_left
      intro x _
      rfl
    have h := Tryd.strings_Join g 0 c (X.map (fun x => (⟨x.toArray⟩ : ByteArray))) ⟨#[47]⟩ w (fun j x hx => by
      rw [List.getElem?_map] at hx
      cases hq : X[j]? with
      | none => rw [hq] at hx; cases hx
      | some y =>
        rw [hq] at hx
        simp at hx
        have := hcell j y hq
        rw [add_plain] at this
        rw [this, ← hx]) (hr.lt h0 _ rfl) (by simp; omega) (by simpa using hc) (by rw [hm]; show (Lib.join X [47]).length ≤ _; rw [inter_join]; omega)
    rw [hm, List.length_map] at h
    rw [show Lib.join X (⟨#[47]⟩ : ByteArray).data.toList = joinM X from inter_join X] at h
    exact h.mono fun e w' hh => ⟨hh.1, Safe.of_below hh.2⟩
  · have hX : X = [] := List.eq_nil_of_length_eq_zero (by omega)
    subst hX
    exact (Tryd.strings_Join_none A c ⟨#[47]⟩ w).mono fun e w' hh => ⟨hh.1, by rw [hh.2]; exact But.refl _ _⟩
end Go.Proofs.YtodlapkmcnmmhaaDoor
