/- name: Text. -/
import Derived.Test.YtodlapkmcnmmhaaDoorMg
namespace Go.Proofs.YtodlapkmcnmmhaaDoor
open Go.RowKit
set_option linter.unusedSimpArgs false
set_option linter.unusedVariables false

theorem sv_app (x y : Bs) : (⟨x.toArray⟩ : ByteArray) ++ ⟨y.toArray⟩ = ⟨(x ++ y).toArray⟩ := by
  apply ByteArray.ext
  rw [ByteArray.data_append]
  simp
theorem sv_pre (y : Bs) : (⟨#[47]⟩ : ByteArray) ++ ⟨y.toArray⟩ = ⟨(47 :: y).toArray⟩ := sv_app [47] y
theorem sv_suf (y : Bs) : (⟨y.toArray⟩ : ByteArray) ++ ⟨#[47]⟩ = ⟨(y ++ [47]).toArray⟩ := sv_app y [47]
set_option maxRecDepth 100000 in
set_option maxHeartbeats 2000000 in
theorem text_any (a d : Bool) (A : Option Addr) (P : List Bs) (c : Nat) (w : World) (hr : Rd Sv w A P) (hA : 0 < P.length → ∃ g, A = some ⟨g, 0, none⟩) (hc : P.length ≤ c) (hN : P.length ≤ 1000) (hl : (joinM P).length ≤ 100000) :
    Calls Tryd.prog 21 #[.agg #[.bool a, .bool d, .slice A P.length c]] w fun e w' => e = .returned (Sv (textM ⟨a, d, P⟩)) ∧ Safe w w' := by
  have hs : Safe w (w.alloc (.cells #[.bool a, .bool d, .slice A P.length c] 25)) := (But.refl _ w).alloc _
  have hr1 := hr.safe hs
  have hJ := join_any A P c _ hr1 hA hc hN hl
  have HJ := Lib.hid hJ
  have HS := Lib.hid hs
  have hb : Blk (w.alloc (.cells #[.bool a, .bool d, .slice A P.length c] 25)) w.heap.size 25 #[.bool a, .bool d, .slice A P.length c] := Blk.new _ _ _
  have HB := Lib.hid hb
  by_cases hP : P = []
  · subst hP
    cases a
    · have e : textM ⟨false, d, []⟩ = [46] := rfl
      rw [e]
      clear hJ hs hb hr hr1
      go_enter Tryd.func21, Tryd.ntmps21
      go_wp2_with fail
      refine (HJ.out).mono ?_
      rintro _ w2 ⟨rfl, hs2⟩
      have d0 : w2.cell? ⟨w.heap.size, 0, none⟩ = some (.bool false) := (HB.out.but hs2 id).cell' (i := 0) rfl
      have d2 : w2.cell? ⟨w.heap.size, 2, none⟩ = some (.slice A ([] : List Bs).length c) := (HB.out.but hs2 id).cell' (i := 2) rfl
      have HS2 := Lib.hid (HS.out.trans hs2)
      clear hs2
      go_wp2
      go_ret
      exact ⟨rfl, HS2.out⟩
    · have e : textM ⟨true, d, []⟩ = [47] := by cases d <;> rfl
      rw [e]
      clear hJ hs hb hr hr1
      go_enter Tryd.func21, Tryd.ntmps21
      go_wp2_with fail
      refine (HJ.out).mono ?_
      rintro _ w2 ⟨rfl, hs2⟩
      have d0 : w2.cell? ⟨w.heap.size, 0, none⟩ = some (.bool true) := (HB.out.but hs2 id).cell' (i := 0) rfl
      have d2 : w2.cell? ⟨w.heap.size, 2, none⟩ = some (.slice A ([] : List Bs).length c) := (HB.out.but hs2 id).cell' (i := 2) rfl
      have HS2 := Lib.hid (HS.out.trans hs2)
      clear hs2
      go_wp2
      go_ret
      exact ⟨rfl, HS2.out⟩
  · have hn : 0 < P.length := List.length_pos_iff.2 hP
    obtain ⟨g, rfl⟩ := hA hn
    obtain ⟨y, hy⟩ : ∃ y, P.getLast? = some y := ⟨_, List.getLast?_eq_some_getLast hP⟩
    have hyk : P[P.length - 1]? = some y := by rw [← hy, List.getLast?_eq_getElem?]
    have e : textM ⟨a, d, P⟩ = (if a = true then [47] else []) ++ joinM P ++ (if d = true ∧ y ≠ [46, 46] then [47] else []) := by
      simp only [textM, hP, false_and, if_false, hy]
      congr 1
      simp [hP]
    have hcell : ∀ w2, Safe (w.alloc (.cells #[.bool a, .bool d, .slice (some ⟨g, 0, none⟩) P.length c] 25)) w2 → w2.cell? ⟨g, P.length - 1, none⟩ = some (Sv y) := by
      intro w2 hs2
      obtain ⟨ad, ea, hcl⟩ := (hr1.safe hs2) hn
      injection ea with ea
      subst ea
      have := hcl _ _ hyk
      rwa [add_plain, Nat.zero_add] at this
    generalize hX : joinM P = X at HJ e hl
    rw [e]
    generalize hnn : P.length = n at *
    clear hJ hs hb hr hr1 e hX hy hyk
    obtain ⟨b, hbe⟩ : ∃ b, (y == ([46, 46] : Bs)) = b := ⟨_, rfl⟩
    have hq : y ≠ [46, 46] ↔ b = false := by
      rw [← hbe]
      simp
    have hcs : ∀ z : Bs, (if d = true ∧ y ≠ [46, 46] then z else []) = (if d = true ∧ b = false then z else []) := fun z => by simp only [hq]
    rw [hcs]
    clear hcs hq
    cases a <;> cases d <;> cases b
    all_goals
      simp only [if_true, if_false, Bool.false_eq_true, reduceCtorEq, false_and, and_false, and_self, List.append_nil, List.nil_append, List.cons_append]
      go_enter Tryd.func21, Tryd.ntmps21
      go_wp2_with fail
      refine (HJ.out).mono ?_
      rintro _ w2 ⟨rfl, hs2⟩
      have d0 := (HB.out.but hs2 id).cell' (i := 0) rfl
      have d1 := (HB.out.but hs2 id).cell' (i := 1) rfl
      have d2 := (HB.out.but hs2 id).cell' (i := 2) rfl
      have d3 := hcell w2 hs2
      have HS2 := Lib.hid (HS.out.trans hs2)
      clear hs2
      go_wp2
      go_ret
      refine ⟨?_, HS2.out⟩
      first | rfl | (simp only [sv_pre, sv_suf, List.cons_append]; rfl)
end Go.Proofs.YtodlapkmcnmmhaaDoor
