/- Pipes: New, Make, Count. -/
import Derived.Test.YtlojadpbdbhmiaaPw
import Derived.Test.YtlojadpbdbhmiaaRm
namespace Go.Proofs.Ytlojadpbdbhmiaa.Pip
open Go.RowKit
set_option linter.unusedSimpArgs false
set_option linter.unusedVariables false

theorem infoPipe : (Try.prog.info? 136).map (fun i => (i.zero, i.size, i.bytes)) = some (some (.agg (encP zeroP).toArray), 69, 104) := by kernel_rfl
theorem sizePipe : (Try.prog.info? 136).map (·.size) = some 69 := by kernel_rfl
theorem zero_pipe (w : World) : (zeroValue 136).run Try.prog w = .ok (.agg (encP zeroP).toArray) w := by
  obtain ⟨i, hi, hz0, _, _⟩ := info_parts infoPipe
  simp [zeroValue, typeInfo, hi, hz0]
theorem pipe_one (p : Pp) : ∀ u ∈ encP p, u.oneCell' = true := by
  intro u hu
  unfold encP at hu
  simp at hu
  rcases hu with ⟨x, _, rfl⟩ | rfl | rfl | rfl | rfl | rfl <;> rfl
theorem PW.range {w : World} {gp gl : Nat} {ps : List Pp} (h : PW w gp gl ps) {k : Nat} {p : Pp} (hk : ps[k]? = some p) : w.rangeAt gl (k * 69) (encP p) := fun j v hv =>
  h.hl.cell' (encs_get hk (h.c hk).1.rb hv)
theorem made_pipes (w : World) (m : Nat) (hm : m ≤ 64) : (Instr.makeSlice 128 (.int .i64 m) (.int .i64 m)).run Try.prog w = .ok (.slice (some ⟨w.heap.size, 0, none⟩) m m) (w.alloc (.cells (encs (List.replicate m zeroP)) 136)) := by
  obtain ⟨i, hi, hz0, hz1, hz2⟩ := info_parts infoPipe
  have := run_make (P := Try.prog) w 128 136 i (.agg (encP zeroP).toArray) Try.underlying128 hi hz0 .i64 .i64 m m (by omega) (by omega) (by rw [hz2]; omega) (by omega)
  rw [this, hz1, show madeCells (Value.agg (encP zeroP).toArray).cells ((m : Int).toNat * 69) = encs (List.replicate m zeroP) from ?_]
  · rfl
  · apply Array.ext'
    rw [encs_zero, show ((m : Int).toNat * 69) = m * (Value.agg (encP zeroP).toArray).cells.size from rfl, madeCells_flat _ _ (by decide)]
    rfl

theorem pipe_cells (w : World) (g : Nat) (p : Pp) (h : p.rb.length = 64) (hb : Blk w g 136 (encP p).toArray) : w.cell? ⟨g, 66, none⟩ = some (.bool p.there) :=
  hb.cell' (by rw [List.getElem?_toArray]; exact encP_there h)
theorem encs_put {ps : List Pp} {k : Nat} {p : Pp} (hp : p.rb.length = 64) (hk : k < ps.length) : setAt (encs ps) (k * 69) (encP p) = encs (ps.set k p) := by
  have h := fm_put encs_f ps k p hk
  rw [if_pos hp] at h
  apply Array.ext'
  rw [setAt_list _ _ _ (by rw [encs_size, encP_len hp]; omega)]
  exact h

set_option maxRecDepth 100000 in
set_option maxHeartbeats 2000000 in
theorem new_any (m : Nat) (h1 : 1 ≤ m) (h2 : m ≤ 64) (w : World) :
    Calls Try.prog 39 #[.int .i64 m] w fun e w' => e = .returned (.pointer (some ⟨w.heap.size + 1, 0, none⟩)) ∧ PW w' (w.heap.size + 1) w.heap.size (List.replicate m zeroP) ∧ Safe w w' := by
  have hmk := made_pipes w m h2
  have e1 : min (m : Int) 64 = m := by omega
  have hfin : PW ((w.alloc (.cells (encs (List.replicate m zeroP)) 136)).alloc (.cells #[.slice (some ⟨w.heap.size, 0, none⟩) m m] 130)) (w.heap.size + 1) w.heap.size (List.replicate m zeroP) ∧
      Safe w ((w.alloc (.cells (encs (List.replicate m zeroP)) 136)).alloc (.cells #[.slice (some ⟨w.heap.size, 0, none⟩) m m] 130)) := by
    refine ⟨⟨?_, (Blk.new _ _ _).alloc _, ?_, by simp; omega⟩, ((But.refl _ _).alloc _).alloc _⟩
    · have := Blk.new (w.alloc (.cells (encs (List.replicate m zeroP)) 136)) 130 #[.slice (some ⟨w.heap.size, 0, none⟩) m m]
      simpa using this
    · intro p hp
      rw [List.mem_replicate] at hp
      rw [hp.2]
      exact zeroP_ok
  rcases Nat.lt_or_ge 1 m with h3 | h3
  · have e2 : ¬ ((m : Int) ≤ 1) := by omega
    go_enter Try.func39, Try.ntmps39
    go_wp2
    go_ret
    exact ⟨rfl, hfin⟩
  · obtain rfl : m = 1 := by omega
    clear e1
    rw [show ((1 : Nat) : Int) = 1 from rfl] at *
    go_enter Try.func39, Try.ntmps39
    go_wp2
    go_ret
    exact ⟨rfl, hfin⟩
set_option maxRecDepth 100000 in
set_option maxHeartbeats 2000000 in
theorem free_any (p : Pp) (hp : p.rb.length = 64) (w : World) :
    Calls Try.prog 75 #[.agg (encP p).toArray] w fun e w' => e = .returned (.bool (!p.there)) ∧ Safe w w' := by
  have hb := Blk.new w 136 (encP p).toArray
  have hs : Safe w (w.alloc (.cells (encP p).toArray 136)) := (But.refl _ w).alloc _
  have hsz : (encP p).toArray.size = 69 := by rw [List.size_toArray]; exact encP_len hp
  have c66 := pipe_cells _ _ _ hp hb
  generalize (encP p).toArray = P at *
  go_enter Try.func75, Try.ntmps75
  go_wp2
  go_ret
  exact ⟨rfl, hs⟩
end Go.Proofs.Ytlojadpbdbhmiaa.Pip
