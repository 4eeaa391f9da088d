/- dirent.Read. -/
import Derived.Test.YtodlapkmcnmmhaaDoorDc
namespace Go.Proofs.YtodlapkmcnmmhaaDoor
open Go.RowKit
set_option linter.unusedSimpArgs false
set_option linter.unusedVariables false

theorem eq_u8s {xs bs : List Int} (w : World) : ∀ (is : List Nat), (∀ i ∈ is, xs[i]? = bs[i]? ∧ i < xs.length) → (Op.eqItems 9999 5 1 (xs.map U).toArray (bs.map U).toArray is).run Tryd.prog w = .ok true w
  | [], _ => by simp [Op.eqItems]
  | i :: is, h => by
    obtain ⟨h1, h2⟩ := h i (List.mem_cons_self ..)
    have hx : xs[i]? = some xs[i] := List.getElem?_eq_getElem h2
    have p1 := run_part_plain (P := Tryd.prog) w (e := 5) (by kernel_rfl) (xs := (xs.map U).toArray) (off := i * 1) (v := U xs[i]) (by rw [Nat.mul_one, List.getElem?_toArray, List.getElem?_map, hx]; rfl)
    have p2 := run_part_plain (P := Tryd.prog) w (e := 5) (by kernel_rfl) (xs := (bs.map U).toArray) (off := i * 1) (v := U xs[i]) (by rw [Nat.mul_one, List.getElem?_toArray, List.getElem?_map, ← h1, hx]; rfl)
    have p3 := run_equalIn_int w 9998 5 .u8 .u8 xs[i] xs[i] Tryd.underlying5
    rw [beq_self_eq_true] at p3
    have ih := eq_u8s w is (fun j hj => h j (List.mem_cons_of_mem _ hj))
    simp only [Op.eqItems, Sem.run_bind, p1, p2, p3, Result.andThen_ok]
    simpa using ih
theorem eq_sect (bs : List Int) (hl : bs.length = 128) (w : World) : (Op.equalIn 10000 34 (.agg (bs.map U).toArray) (.agg (bs.map U).toArray)).run Tryd.prog w = .ok true w := by
  obtain ⟨i, hi⟩ : ∃ i, Tryd.prog.info? 5 = some i := by
    have := infoU8
    cases hq : Tryd.prog.info? 5 with
    | none => rw [hq] at this; cases this
    | some i => exact ⟨i, rfl⟩
  rw [run_equalIn_array w 9999 _ _ Tryd.underlying34 hi, show Tryd.prog.cellsOf 5 = 1 from by kernel_rfl]
  exact eq_u8s w _ (fun j hj => ⟨rfl, by rw [hl]; simpa using hj⟩)
theorem encL_u8 (E : List En) : ∀ v ∈ encL E, 0 ≤ v ∧ v < 256 := fun v hv => by
  unfold encL at hv
  rw [List.mem_flatMap] at hv
  obtain ⟨e, _, he⟩ := hv
  exact encD_u8 e v he
theorem infoEnts : (Tryd.prog.info? 31).map (fun i => (i.zero, i.size, i.bytes)) = some (some (.agg (encE (List.replicate 4 ((0, []) : En))).toArray), 8, 96) := by kernel_rfl
theorem zero_ents (w : World) : (zeroValue 31).run Tryd.prog w = .ok (.agg (encE (List.replicate 4 ((0, []) : En))).toArray) w := by
  obtain ⟨i, hi, hz0, _, _⟩ := info_parts infoEnts
  simp [zeroValue, typeInfo, hi, hz0]
end Go.Proofs.YtodlapkmcnmmhaaDoor
