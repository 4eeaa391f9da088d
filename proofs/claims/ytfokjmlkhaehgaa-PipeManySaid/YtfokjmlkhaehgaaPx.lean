/- Pipes: New, Make, Count. -/
import Derived.Test.YtfokjmlkhaehgaaPw
import Derived.Test.YtfokjmlkhaehgaaRm
namespace Go.Proofs.Ytfokjmlkhaehgaa
open Go.RowKit
set_option linter.unusedSimpArgs false
set_option linter.unusedVariables false

theorem infoPipe : (Try.prog.info? 106).map (fun i => (i.zero, i.size, i.bytes)) = some (some (.agg (encP zeroP).toArray), 69, 104) := by kernel_rfl
theorem sizePipe : (Try.prog.info? 106).map (·.size) = some 69 := by kernel_rfl
theorem zero_pipe (w : World) : (zeroValue 106).run Try.prog w = .ok (.agg (encP zeroP).toArray) w := by
  obtain ⟨i, hi, hz0, _, _⟩ := info_parts infoPipe
  simp [zeroValue, typeInfo, hi, hz0]
theorem pipe_one (p : Pp) : ∀ u ∈ encP p, u.oneCell' = true := by
  intro u hu
  unfold encP at hu
  simp at hu
  rcases hu with ⟨x, _, rfl⟩ | rfl | rfl | rfl | rfl | rfl <;> rfl
theorem PW.range {w : World} {gp gl : Nat} {ps : List Pp} (h : PW w gp gl ps) {k : Nat} {p : Pp} (hk : ps[k]? = some p) : w.rangeAt gl (k * 69) (encP p) := fun j v hv =>
  h.hl.cell' (encs_get hk (h.c hk).1.rb hv)
theorem made_pipes (w : World) (m : Nat) (hm : m ≤ 64) : (Instr.makeSlice 98 (.int .i64 m) (.int .i64 m)).run Try.prog w = .ok (.slice (some ⟨w.heap.size, 0, none⟩) m m) (w.alloc (.cells (encs (List.replicate m zeroP)) 106)) := by
  obtain ⟨i, hi, hz0, hz1, hz2⟩ := info_parts infoPipe
  have := run_make (P := Try.prog) w 98 106 i (.agg (encP zeroP).toArray) Try.underlying98 hi hz0 .i64 .i64 m m (by omega) (by omega) (by rw [hz2]; omega) (by omega)
  rw [this, hz1, show madeCells (Value.agg (encP zeroP).toArray).cells ((m : Int).toNat * 69) = encs (List.replicate m zeroP) from ?_]
  · rfl
  · apply Array.ext'
    rw [encs_zero, show ((m : Int).toNat * 69) = m * (Value.agg (encP zeroP).toArray).cells.size from rfl, madeCells_flat _ _ (by decide)]
    rfl

theorem pipe_cells (w : World) (g : Nat) (p : Pp) (h : p.rb.length = 64) (hb : Blk w g 106 (encP p).toArray) : w.cell? ⟨g, 66, none⟩ = some (.bool p.there) :=
  hb.cell' (by rw [List.getElem?_toArray]; exact encP_there h)
theorem encs_put {ps : List Pp} {k : Nat} {p : Pp} (hp : p.rb.length = 64) (hk : k < ps.length) : setAt (encs ps) (k * 69) (encP p) = encs (ps.set k p) := by
  have h := fm_put encs_f ps k p hk
  rw [if_pos hp] at h
  apply Array.ext'
  rw [setAt_list _ _ _ (by rw [encs_size, encP_len hp]; omega)]
  exact h

set_option maxRecDepth 100000 in
set_option maxHeartbeats 2000000 in
theorem new_any (m : Nat) (h1 : 1 ≤ m) (h2 : m ≤ 64) (w : World) :
    Calls Try.prog 25 #[.int .i64 m] w fun e w' => e = .returned (.pointer (some ⟨w.heap.size + 1, 0, none⟩)) ∧ PW w' (w.heap.size + 1) w.heap.size (List.replicate m zeroP) ∧ Safe w w' := by
  have hmk := made_pipes w m h2
  have e1 : min (m : Int) 64 = m := by omega
  have hfin : PW ((w.alloc (.cells (encs (List.replicate m zeroP)) 106)).alloc (.cells #[.slice (some ⟨w.heap.size, 0, none⟩) m m] 100)) (w.heap.size + 1) w.heap.size (List.replicate m zeroP) ∧
      Safe w ((w.alloc (.cells (encs (List.replicate m zeroP)) 106)).alloc (.cells #[.slice (some ⟨w.heap.size, 0, none⟩) m m] 100)) := by
    refine ⟨⟨?_, (Blk.new _ _ _).alloc _, ?_, by simp; omega⟩, ((But.refl _ _).alloc _).alloc _⟩
    · have := Blk.new (w.alloc (.cells (encs (List.replicate m zeroP)) 106)) 100 #[.slice (some ⟨w.heap.size, 0, none⟩) m m]
      simpa using this
    · intro p hp
      rw [List.mem_replicate] at hp
      rw [hp.2]
      exact zeroP_ok
  rcases Nat.lt_or_ge 1 m with h3 | h3
  · have e2 : ¬ ((m : Int) ≤ 1) := by omega
    go_enter Try.func25, Try.ntmps25
    go_wp2
    go_ret
    exact ⟨rfl, hfin⟩
  · obtain rfl : m = 1 := by omega
    clear e1
    rw [show ((1 : Nat) : Int) = 1 from rfl] at *
    go_enter Try.func25, Try.ntmps25
    go_wp2
    go_ret
    exact ⟨rfl, hfin⟩
set_option maxRecDepth 100000 in
set_option maxHeartbeats 2000000 in
theorem free_any (p : Pp) (hp : p.rb.length = 64) (w : World) :
    Calls Try.prog 47 #[.agg (encP p).toArray] w fun e w' => e = .returned (.bool (!p.there)) ∧ Safe w w' := by
  have hb := Blk.new w 106 (encP p).toArray
  have hs : Safe w (w.alloc (.cells (encP p).toArray 106)) := (But.refl _ w).alloc _
  have hsz : (encP p).toArray.size = 69 := by rw [List.size_toArray]; exact encP_len hp
  have c66 := pipe_cells _ _ _ hp hb
  generalize (encP p).toArray = P at *
  go_enter Try.func47, Try.ntmps47
  go_wp2
  go_ret
  exact ⟨rfl, hs⟩
set_option maxRecDepth 100000 in
set_option maxHeartbeats 2000000 in
theorem count_any (gp gl : Nat) (ps : List Pp) (w : World) (h : PW w gp gl ps) :
    Calls Try.prog 31 #[.pointer (some ⟨gp, 0, none⟩)] w fun e w' => e = .returned (I (ps.countP (·.there))) ∧ Safe w w' := by
  have hlen := h.len
  have c0 := h.hp.cell' (i := 0) rfl
  go_enter Try.func31, Try.ntmps31
  go_wp2
  go_loopw [3, 11] (fun c i wr => ∃ k : Nat, k ≤ ps.length ∧ i = .int .i64 k ∧ c = .int .i64 ((ps.take k).countP (·.there)) ∧ Safe w wr) (fun _ i _ => ps.length - (intOf i).toNat)
  case atStart => exact ⟨0, by omega, rfl, rfl, But.refl _ _⟩
  case round =>
    obtain ⟨k, hk, rfl, rfl, hS⟩ := hrel
    have hcl : (ps.take k).countP (·.there) ≤ 64 := Nat.le_trans List.countP_le_length (by simp; omega)
    generalize hc : (ps.take k).countP (·.there) = c at *
    by_cases hlt : k < ps.length
    · obtain ⟨p, hp⟩ : ∃ p, ps[k]? = some p := ⟨_, List.getElem?_eq_getElem hlt⟩
      have hP := h.safe hS
      have hrng := hP.range hp
      have ho := (hP.c hp).1.rb
      have hsn : ((ps.take (k + 1)).countP (·.there) : Nat) = c + (if p.there then 1 else 0) := by
        rw [List.take_add_one, hp, List.countP_append, hc]; simp
      have hsz : (Try.prog.info? 106).map (·.size) = some (encP p).length := by rw [sizePipe, encP_len ho]
      have HS := Lib.hid hsz
      have hsz2 : (Try.prog.info? 106).map (·.size) = some (encP p).toArray.size := by rw [sizePipe, List.size_toArray, encP_len ho]
      have HS2 := Lib.hid hsz2
      have HH := Lib.hid hrng
      have hthere : (wr.alloc (.cells (encP zeroP).toArray 106)).there wr.heap.size 0 (encP p).toArray.size := (Blk.new _ _ _).there (by simp [encP_len, ho, encP_len (p := zeroP) rfl])
      have HT := Lib.hid hthere
      have hblk : Blk ((wr.alloc (.cells (encP zeroP).toArray 106)).setCells wr.heap.size 0 (encP p).toArray.toList) wr.heap.size 106 (encP p).toArray := by
        have := (Blk.new wr 106 (encP zeroP).toArray).setAll (encP p).toArray.toList 0
        rwa [setAt_whole _ _ (by simp [encP_len, ho, encP_len (p := zeroP) rfl]), Array.toArray_toList] at this
      have hS2 : Safe w ((wr.alloc (.cells (encP zeroP).toArray 106)).setCells wr.heap.size 0 (encP p).toArray.toList) := (hS.alloc _).setCells _ _ (.inr hS.size)
      have c66 := pipe_cells _ _ _ ho hblk
      have hzero := zero_pipe wr
      generalize hz : (encP zeroP).toArray = Z at *
      have hone := Lib.hid (pipe_one p)
      have HP := Lib.hid hP
      have HZ := Lib.hid hz
      have HB := Lib.hid hblk
      have HS3 := Lib.hid hS2
      have HN := Lib.hid hsn
      clear hsz hsz2 hrng hthere hP hblk hS2 hsn hc hz
      cases ht : p.there
      all_goals
        rw [ht] at c66 HN
        clear ht
        go_wp2_with (first
          | refine wpList_load_mid rfl 106 (.tmp 13) rfl gl (k * 69) rfl (encP p) _ HH.out Try.underlying106 rfl HS.out ?_
          | refine wpList_store_mid rfl 106 (.tmp 5) (.tmp 14) rfl wr.heap.size 0 (encP p).toArray rfl rfl HT.out HS2.out (all_oneCell_toArray hone.out) ?_)
        go_roundw
        case rel =>
          refine ⟨k + 1, by omega, by go_num, ?_, HS3.out⟩
          rw [HN.out]
          rfl
        case measure => simp [intOf]; omega
    · obtain rfl : k = ps.length := by omega
      clear hcl
      go_wp2
      go_ret
      rw [List.take_length] at hc
      exact ⟨by rw [hc]; rfl, hS⟩
end Go.Proofs.Ytfokjmlkhaehgaa
