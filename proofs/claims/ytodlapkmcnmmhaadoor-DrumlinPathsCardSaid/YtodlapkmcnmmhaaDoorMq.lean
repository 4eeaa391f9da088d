/- NameLasts: what the calls give, and plain. -/
import Derived.Test.YtodlapkmcnmmhaaDoorMp
namespace Go.Proofs.YtodlapkmcnmmhaaDoor
open Go.RowKit
set_option linter.unusedSimpArgs false
set_option linter.unusedVariables false

theorem parse_ok {s : Bs} {a d : Bool} {P : List Bs} {n : Int} (h : parseM s = (⟨a, d, P⟩, n)) (w : World) (hl : s.length < 100000) (hm : ∃ m, w.cell? ⟨0, 0, none⟩ = some (.int .i64 m)) :
    Calls Tryd.prog 10 #[Sv s] w fun e w' => ∃ A c, e = .returned (.tuple #[Pv a d A P.length c, I n]) ∧ Pr w' w.heap.size A P c ∧ Safe w w' := by
  refine (parse_any s w hl hm).mono ?_
  unfold PRet
  rw [h]
  rintro e w' ⟨v, he, ho, hs⟩
  obtain ⟨A, c, rfl, hP⟩ := Pr.of ho
  exact ⟨A, c, he, hP, hs⟩
/-- A single good part is a path. -/
theorem parse_one {y : Bs} (g : GoodPart y) (hu : y ≠ [46, 46]) : parseM y = (⟨false, false, [y]⟩, 0) := by
  have o : OkP ⟨false, false, [y]⟩ := ⟨fun x hx => by simp only [List.mem_singleton] at hx; rw [hx]; exact g, by simp, fun h => by simp at h, fun h => by simp at h; exact absurd h hu, by
    have := g.len
    simp [textM, joinM]; omega⟩
  have h := text_parse o
  rwa [show textM ⟨false, false, [y]⟩ = y from by simp [textM, joinM]] at h
theorem snoc_of {P : List Bs} (h : P ≠ []) : ∃ X y, P = X ++ [y] := ⟨P.dropLast, P.getLast h, (List.dropLast_concat_getLast h).symm⟩
/-- What a path's parse may be, in three kinds. -/
theorem parse_kinds (s : Bs) : (∃ n : Int, ¬ n = 0 ∧ parseM s = (⟨false, false, []⟩, n)) ∨
    (∃ a d P, OkP ⟨a, d, P⟩ ∧ parseM s = (⟨a, d, P⟩, 0) ∧ (P = [] ∨ P.getLast? = some [46, 46])) ∨
    (∃ a d X y, OkP ⟨a, d, X ++ [y]⟩ ∧ parseM s = (⟨a, d, X ++ [y]⟩, 0) ∧ y ≠ [46, 46]) := by
  have h := parse_cases s
  rcases hp : parseM s with ⟨⟨a, d, P⟩, n⟩
  rw [hp] at h
  rcases h with ⟨hn, o⟩ | ⟨hn, hp0⟩
  · simp only at hn o
    subst hn
    by_cases hP : P = []
    · exact .inr (.inl ⟨a, d, P, o, rfl, .inl hP⟩)
    · obtain ⟨X, y, rfl⟩ := snoc_of hP
      by_cases hy : y = [46, 46]
      · exact .inr (.inl ⟨a, d, _, o, rfl, .inr (by simp [hy])⟩)
      · exact .inr (.inr ⟨a, d, X, y, o, rfl, hy⟩)
  · simp only at hn hp0
    rw [hp0]
    exact .inl ⟨n, hn, rfl⟩
end Go.Proofs.YtodlapkmcnmmhaaDoor
