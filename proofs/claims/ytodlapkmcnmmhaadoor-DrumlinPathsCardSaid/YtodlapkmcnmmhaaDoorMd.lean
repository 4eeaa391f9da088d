/- strings.Split at a slash: the pieces. -/
import Derived.Test.YtodlapkmcnmmhaaDoorMc
import Derived.Lib.SplitLaws
namespace Go.Proofs.YtodlapkmcnmmhaaDoor
open Go.RowKit
set_option linter.unusedSimpArgs false
set_option linter.unusedVariables false

theorem index_none : ∀ l : Bs, (47 : UInt8) ∉ l → Lib.index l [47] = -1
  | [], _ => rfl
  | b :: l, h => by
    have hb : ¬ (47 : UInt8) = b := fun e => h (by rw [e]; exact List.mem_cons_self ..)
    have := index_none l (fun e => h (List.mem_cons_of_mem _ e))
    unfold Lib.index
    simp [hb, this]
theorem index_at : ∀ (x r : Bs), (47 : UInt8) ∉ x → Lib.index (x ++ 47 :: r) [47] = x.length
  | [], r, _ => by simp [Lib.index]
  | b :: x, r, h => by
    have hb : ¬ (47 : UInt8) = b := fun e => h (by rw [e]; exact List.mem_cons_self ..)
    have := index_at x r (fun e => h (List.mem_cons_of_mem _ e))
    rw [List.cons_append]
    unfold Lib.index
    rw [this]
    have h2 : ((x.length : Int) == -1) = false := by simp
    have h3 : [(47 : UInt8)].isPrefixOf (b :: (x ++ 47 :: r)) = false := by simp [List.isPrefixOf, hb]
    rw [h2, h3]
    simp
theorem cut_at : ∀ l : Bs, (47 : UInt8) ∈ l → ∃ x r, l = x ++ 47 :: r ∧ (47 : UInt8) ∉ x
  | [], h => by cases h
  | b :: l, h => by
    by_cases hb : b = 47
    · exact ⟨[], l, by rw [hb]; rfl, by simp⟩
    · rw [List.mem_cons] at h
      obtain ⟨x, r, e, hx⟩ := cut_at l (h.resolve_left (fun e => hb e.symm))
      exact ⟨b :: x, r, by rw [e]; rfl, fun hm => by
        rw [List.mem_cons] at hm
        rcases hm with hm | hm
        · exact hb hm.symm
        · exact hx hm⟩
theorem split_sp : ∀ (n : Nat) (l : Bs), l.count 47 = n → Lib.splitK [47] 0 n l = sp l
  | 0, l, h => by
    have : (47 : UInt8) ∉ l := List.count_eq_zero.1 h
    rw [Lib.splitK, sp_one l this]
  | n + 1, l, h => by
    have hm : (47 : UInt8) ∈ l := List.count_pos_iff.1 (by omega)
    obtain ⟨x, r, e, hx⟩ := cut_at l hm
    subst e
    have hi := index_at x r hx
    have hc : (x ++ 47 :: r).count 47 = 1 + r.count 47 := by
      rw [List.count_append, List.count_eq_zero.2 hx, List.count_cons_self]; omega
    rw [Lib.splitK, hi]
    have h2 : ¬ ((x.length : Int) == -1) = true := by simp
    rw [if_neg h2]
    simp only [Int.toNat_natCast, Nat.add_zero, List.length_singleton]
    rw [List.take_left' rfl, show (x ++ 47 :: r).drop (x.length + 1) = r from by rw [List.drop_append]; simp, split_sp n r (by omega), sp_app x r hx]
theorem cells_sp (l : Bs) : ((Lib.splitB ⟨#[47]⟩ 0 (Lib.countB ⟨l.toArray⟩ ⟨#[47]⟩) ⟨l.toArray⟩).map Value.string) = (sp l).map Sv ∧ Lib.countB ⟨l.toArray⟩ ⟨#[47]⟩ + 1 = (sp l).length := by
  have hc : Lib.countB ⟨l.toArray⟩ ⟨#[47]⟩ = l.count 47 := Lib.count_one 47 l
  have hd := Lib.splitB_data ⟨#[47]⟩ 0 (Lib.countB ⟨l.toArray⟩ ⟨#[47]⟩) ⟨l.toArray⟩
  have hs := split_sp _ l rfl
  have hd2 : (Lib.splitB ⟨#[47]⟩ 0 (Lib.countB ⟨l.toArray⟩ ⟨#[47]⟩) ⟨l.toArray⟩).map (·.data.toList) = sp l := by
    rw [hd]
    show Lib.splitK [47] 0 (Lib.countB ⟨l.toArray⟩ ⟨#[47]⟩) l = _
    rw [hc, hs]
  refine ⟨?_, ?_⟩
  · rw [← hd2, List.map_map]
    apply List.map_congr_left
    intro b _
    show Value.string b = Value.string ⟨b.data.toList.toArray⟩
    rw [Array.toArray_toList]
  · rw [← hd2, List.length_map]
    exact (Lib.splitB_all ⟨#[47]⟩ (by decide) 0 _ ⟨l.toArray⟩ rfl).symm
theorem split_any (l : Bs) (w : World) (hl : l.length < 4294967281) (hm : ∃ m, w.cell? ⟨0, 0, none⟩ = some (.int .i64 m)) :
    Calls Tryd.prog 32 #[Sv l, Sv [47]] w fun e w' => e = .returned (.slice (some ⟨w.heap.size, 0, none⟩) (sp l).length (sp l).length) ∧ w' = w.alloc (.cells ((sp l).map Sv).toArray 9) := by
  obtain ⟨m, hm⟩ := hm
  have h := Tryd.strings_Split ⟨l.toArray⟩ ⟨#[47]⟩ m w hl hm (by decide)
  rw [(cells_sp l).1, (cells_sp l).2] at h
  exact h
end Go.Proofs.YtodlapkmcnmmhaaDoor
