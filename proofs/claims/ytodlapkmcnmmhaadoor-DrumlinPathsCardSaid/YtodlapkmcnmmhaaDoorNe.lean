/- num: Writer's bytes, and all of it. -/
import Derived.Test.YtodlapkmcnmmhaaDoorNd
import Derived.Laws.CopyRow
import Derived.Laws.ResultCell
namespace Go.Proofs.YtodlapkmcnmmhaaDoor
open Go.RowKit
set_option linter.unusedSimpArgs false
set_option linter.unusedVariables false

theorem infoU8 : (Tryd.prog.info? 5).map (·.size) = some 1 := by kernel_rfl
theorem setRow_blk {w : World} {g : Nat} {t : TypeId} {cs : Array Value} (h : Blk w g t cs) (cs' : Array Value) : Blk (w.setRow g cs') g t cs' := by
  unfold Blk at h ⊢
  simp [World.setRow, Array.getElem?_modify, h]
theorem setRow_but (w : World) (g : Nat) (cs : Array Value) : But (· = g) w (w.setRow g cs) :=
  ⟨rfl, rfl, rfl, by simp [World.setRow], fun k _ hn => by
    have hn : ¬ g = k := fun e => hn e.symm
    simp [World.setRow, Array.getElem?_modify, hn]⟩
set_option maxRecDepth 100000 in
/-- Bytes are copied into a block of bytes. -/
theorem run_copy_any (w : World) (g : Nat) (t : TypeId) (bs : List Int) (rest : List Value) (h : Blk w g t (encS bs rest)) (o dl dc : Nat) (A : Option Addr) (ys : List Int) (c : Nat) (hr : Rd U w A ys) (h1 : ys.length ≤ dl) (h2 : o + ys.length ≤ bs.length) :
    ∃ w', (Builtin.copy_ #[77, 77] 3 #[.slice (some ⟨g, o, none⟩) dl dc, .slice A ys.length c]).run Tryd.prog w = .ok (goInt ys.length) w' ∧ Blk w' g t (encS (wrL bs o ys) rest) ∧ But (· = g) w w' := by
  by_cases h0 : 0 < ys.length
  · obtain ⟨ad, rfl, hc⟩ := hr.cells h0
    have hcp := run_copy_row (P := Tryd.prog) w 77 77 3 5 g o dl dc ad ys.length c (encS bs rest) t (ys.map U) Tryd.underlying77 infoU8 h (by rw [List.length_map]; exact (Nat.min_eq_left h1).symm) hc (by rw [List.length_map, encS_size]; omega) (by simp [Value.oneCell'])
    rw [List.length_map] at hcp
    refine ⟨_, hcp, ?_, setRow_but _ _ _⟩
    have e : (List.take o (encS bs rest).toList ++ ys.map U ++ List.drop (o + ys.length) (encS bs rest).toList).toArray = encS (wrL bs o ys) rest := by
      unfold encS wrL
      congr 1
      rw [List.take_append_of_le_length (by simp; omega), List.drop_append_of_le_length (by simp; omega)]
      simp [List.map_take, List.map_drop]
    rw [e]
    exact setRow_blk h _
  · have hy : ys = [] := List.eq_nil_of_length_eq_zero (by omega)
    subst hy
    refine ⟨w, ?_, by rw [wrL_nil]; exact h, But.refl _ _⟩
    obtain ⟨i, hi⟩ : ∃ i, Tryd.prog.info? 5 = some i := by
      have := infoU8
      cases hq : Tryd.prog.info? 5 with
      | none => rw [hq] at this; cases this
      | some i => exact ⟨i, rfl⟩
    have his : i.size = 1 := by have := infoU8; rw [hi] at this; simpa using this
    rcases A with _ | ad
    · simp [Builtin.copy_, run_underlying Tryd.underlying77, Builtin.lenOf, Builtin.firstCells, sizeOf, typeInfo, hi, his, storeCells]
    · have hl := run_loadCells_list (P := Tryd.prog) w ad [] (by simp)
      rw [List.length_nil] at hl
      simp [Builtin.copy_, run_underlying Tryd.underlying77, Builtin.lenOf, Builtin.firstCells, sizeOf, typeInfo, hi, his, storeCells, hl]
theorem sectLen : Tryd.prog.arrayLen 34 = 128 := by kernel_rfl
theorem sectElem : Tryd.prog.elem 34 = 5 := by kernel_rfl
theorem sizeU8 (w : World) : (sizeOf 5).run Tryd.prog w = .ok 1 w := by
  have := infoU8
  cases hq : Tryd.prog.info? 5 with
  | none => rw [hq] at this; cases this
  | some i => rw [hq] at this; simp at this; simp [sizeOf, typeInfo, hq, this]
theorem sectArr : Tryd.prog.underlying 34 = some (.array (Tryd.prog.arrayLen 34) (Tryd.prog.elem 34)) := by rw [sectLen, sectElem]; exact Tryd.underlying34
/-- Parts of a sector in memory. -/
theorem sl_from (g b : Nat) (h : b < 128) (W : World) : (Instr.sliceAt 34 (.pointer (some ⟨g, 0, none⟩)) (some (I b)) none none).run Tryd.prog W = .ok (.slice (some ⟨g, b, none⟩) (128 - b) (128 - b)) W := by
  rw [run_sliceAt_array_l W 34 _ sectArr .i64 (b : Int) (by omega) (by rw [sectLen]; omega), sectElem, sizeU8, sectLen]
  have e : ¬ (128 = b) := by omega
  simp [slicedAt, e, add_plain]
theorem sl_to (g b : Nat) (h : b ≤ 128) (W : World) : (Instr.sliceAt 34 (.pointer (some ⟨g, 0, none⟩)) none (some (I b)) none).run Tryd.prog W = .ok (.slice (some ⟨g, 0, none⟩) b 128) W := by
  rw [run_sliceAt_array_h W 34 _ sectArr .i64 (b : Int) (by omega) (by rw [sectLen]; omega), sectElem, sizeU8, sectLen]
  simp [slicedAt, add_plain]
theorem sl_mid (g a b : Nat) (h : a ≤ b) (hb : b ≤ 128) (ha : a < 128) (W : World) : (Instr.sliceAt 34 (.pointer (some ⟨g, 0, none⟩)) (some (I a)) (some (I b)) none).run Tryd.prog W = .ok (.slice (some ⟨g, a, none⟩) (b - a) (128 - a)) W := by
  rw [run_sliceAt_array_lh W 34 _ sectArr .i64 .i64 (a : Int) (b : Int) (by omega) (by omega) (by rw [sectLen]; omega), sectElem, sizeU8, sectLen]
  have e : ¬ (128 = a) := by omega
  simp [slicedAt, e, add_plain]
theorem padL_zero {B : List Int} {k : Nat} (h : B.length + k ≤ 128) : padL (B ++ List.replicate k 0) = padL B := by
  unfold padL
  rw [List.append_assoc, List.replicate_append_replicate, List.length_append, List.length_replicate]
  congr 2
  omega
set_option maxRecDepth 100000 in
set_option maxHeartbeats 2000000 in
theorem wbytes_yes (g : Nat) (B : List Int) (sz : Nat) (A : Option Addr) (ys : List Int) (c : Nat) (w : World) (h : WS w g B) (hr : Rd U w A ys) (h1 : ys.length ≤ sz) (h2 : B.length + sz ≤ 128) (h3 : B.length < 128) :
    Calls Tryd.prog 35 #[.pointer (some ⟨g, 0, none⟩), I sz, .slice A ys.length c] w fun e w' => e = .returned (.tuple #[]) ∧ WS w' g (B ++ ys ++ List.replicate (sz - ys.length) 0) ∧ But (· = g) w w' := by
  obtain ⟨c0, c1, f0, f1⟩ := h.c
  have hlen := padL_len h.len
  obtain ⟨w1, hcp, hb1, hs1⟩ := run_copy_any w.drew g 73 (padL B) [I B.length, I 0] h.hb.drew B.length (128 - B.length) (128 - B.length) A ys c (hr.safe (But.refl _ w).drew) (by omega) (by omega)
  rw [padL_wr (by omega)] at hb1
  have d0 := hb1.cell' (encS_rest (j := 0) (k := 128) (by rw [padL_len (by rw [List.length_append]; omega)]))
  have g0 := hb1.frozen 128
  have hb2 := hb1.set 128 (I (B.length + sz : Nat))
  rw [encS_set_rest (j := 0) (by rw [padL_len (by rw [List.length_append]; omega)])] at hb2
  have hs2 : But (· = g) w (w1.setCell ⟨g, 128, none⟩ (I (B.length + sz : Nat))) := ((But.refl (· = g) w).drew.trans hs1).setCell (p := ⟨g, 128, none⟩) (.inl rfl) _
  rw [show ((B.length + sz : Nat) : Int) = (B.length : Int) + sz from by omega] at hb2 hs2
  have hB1 : ((B.length : Nat) : Int) < 128 := by omega
  have hB2 : (sz : Int) ≤ 128 - (B.length : Int) := by omega
  have hB3 : (ys.length : Int) ≤ sz := by omega
  have hsl := sl_from g B.length h3
  have HB2 := Lib.hid hb2
  have HS2 := Lib.hid hs2
  clear hb1 hs1 hb2 hs2 hlen h hr
  go_enter Tryd.func35, Tryd.ntmps35
  go_wp2
  go_region
  go_wp2
  go_end0
  have e2 : (B ++ ys ++ List.replicate (sz - ys.length) 0).length = B.length + sz := by simp; omega
  refine ⟨rfl, ⟨?_, by omega⟩, HS2.out⟩
  rw [e2, padL_zero (by simp; omega), show ((B.length + sz : Nat) : Int) = (B.length : Int) + sz from by omega]
  exact HB2.out
/-- A result that lies in memory, and one that does not. -/
theorem ret_cell_tmp {P : Program} {fn : Func} {R : Ending → World → Prop} {a : Act} {w : World} {p u : Tmp} {ty : TypeId} {b o : Nat} {v x : Value} (h : fn.results = #[.cell p ty, .tmp u]) (hp : a.tmps.getD p undef = .pointer (some ⟨b, o, none⟩)) (hu : a.tmps.getD u undef = x)
    (hl : (loadVar ty ⟨b, o, none⟩).run P w = .ok v w) (hd : a.defers = []) (hR : R (.returned (.tuple #[v, x])) w) : bodyPost P fn R .ret a w := by
  refine bodyPost_ret ?_ hd hR
  rw [results_cell_tmp h, hp, hu]
  simp [asAddr, hl]
/-- A sector as a value. -/
def sectA (bs : List Int) : Array Value := (bs.map U).toArray
theorem sectA_size {bs : List Int} : (sectA bs).size = bs.length := by simp [sectA]
theorem infoSect : (Tryd.prog.info? 34).map (fun i => (i.zero, i.size, i.bytes)) = some (some (.agg (sectA (padL []))), 128, 128) := by kernel_rfl
theorem sizeSect : (Tryd.prog.info? 34).map (·.size) = some 128 := by kernel_rfl
theorem zero_sect (w : World) : (zeroValue 34).run Tryd.prog w = .ok (.agg (sectA (padL []))) w := by
  obtain ⟨i, hi, hz0, _, _⟩ := info_parts infoSect
  simp [zeroValue, typeInfo, hi, hz0]
theorem encS_range {w : World} {g : Nat} {t : TypeId} {bs : List Int} {rest : List Value} (h : Blk w g t (encS bs rest)) : w.rangeAt g 0 (bs.map U) := fun j v hv => by
  rw [List.getElem?_map] at hv
  cases hq : bs[j]? with
  | none => rw [hq] at hv; cases hv
  | some x =>
    rw [hq] at hv
    simp at hv
    rw [← hv, Nat.zero_add]
    exact h.cell' (encS_byte hq)
theorem sect_one (bs : List Int) : ∀ v ∈ bs.map U, v.oneCell' = true := by simp [Value.oneCell']
theorem blk_sect {w : World} {g : Nat} {t : TypeId} {bs cs : List Int} (h : Blk w g t (sectA cs)) (hl : bs.length = cs.length) : Blk (w.setCells g 0 (sectA bs).toList) g t (sectA bs) := by
  have := h.setAll (sectA bs).toList 0
  rwa [setAt_whole _ _ (by simp [sectA, hl]), Array.toArray_toList] at this
theorem sectA_enc (bs : List Int) : sectA bs = encS bs [] := by simp [sectA, encS]
set_option maxRecDepth 100000 in
set_option maxHeartbeats 2000000 in
theorem wsector_yes (g : Nat) (B : List Int) (w : World) (h : WS w g B) :
    Calls Tryd.prog 36 #[.pointer (some ⟨g, 0, none⟩)] w fun e w' => e = .returned (.tuple #[.agg (sectA (padL B)), I 0]) ∧ Safe w w' := by
  obtain ⟨c0, c1, f0, f1⟩ := h.c
  have hlen := padL_len h.len
  have hz := zero_sect w
  have hr : (w.alloc (.cells (sectA (padL [])) 34)).rangeAt g 0 ((padL B).map U) := encS_range (h.hb.alloc _)
  have hn : Blk (w.alloc (.cells (sectA (padL [])) 34)) w.heap.size 34 (sectA (padL [])) := Blk.new _ _ _
  have hth : (w.alloc (.cells (sectA (padL [])) 34)).there w.heap.size 0 (sectA (padL B)).size := hn.there (by rw [sectA_size, sectA_size, hlen, padL_len (by simp)]; omega)
  have hb2 := blk_sect (bs := padL B) hn (by rw [hlen, padL_len (by simp)])
  have hs2 : Safe w ((w.alloc (.cells (sectA (padL [])) 34)).setCells w.heap.size 0 (sectA (padL B)).toList) := ((But.refl (fun _ => False) w).alloc (.cells (sectA (padL [])) 34)).setCells _ _ (.inr (Nat.le_refl _))
  have hi : (Tryd.prog.info? 34).map (·.size) = some ((padL B).map U).length := by rw [sizeSect, List.length_map, hlen]
  have hi2 : (Tryd.prog.info? 34).map (·.size) = some (sectA (padL B)).size := by rw [sizeSect, sectA_size, hlen]
  have hone : (sectA (padL B)).all (·.oneCell') = true := all_oneCell_toArray (sect_one _)
  generalize hZ : sectA (padL []) = Z at *
  have HR := Lib.hid hr
  have HN := Lib.hid hn
  have HT := Lib.hid hth
  have HB2 := Lib.hid hb2
  have HS2 := Lib.hid hs2
  have HI := Lib.hid hi
  have HI2 := Lib.hid hi2
  have HO := Lib.hid hone
  have c2 := cell_alloc c1 (.cells Z 34)
  clear hr hn hth hb2 hs2 hi hi2 hone hlen hZ h f0 f1 c0 c1
  go_enter Tryd.func36, Tryd.ntmps36
  go_wp2_with (first
    | refine wpList_load_mid rfl 34 (.tmp 16) rfl g 0 rfl _ _ HR.out Tryd.underlying34 rfl HI.out ?_
    | refine wpList_store_mid rfl 34 (.tmp 2) (.tmp 17) rfl w.heap.size 0 (sectA (padL B)) rfl rfl HT.out HI2.out HO.out ?_)
  have hl := run_loadVar_mid (P := Tryd.prog) _ w.heap.size 0 34 ((padL B).map U) _ (encS_range (rest := []) (by rw [← sectA_enc]; exact HB2.out)) Tryd.underlying34 rfl HI.out
  generalize (w.alloc (.cells Z 34)).setCells w.heap.size 0 (sectA (padL B)).toList = w2 at *
  have hl : (loadVar 34 ⟨w.heap.size, 0, none⟩).run Tryd.prog w2 = .ok (.agg (sectA (padL B))) w2 := hl
  exact ret_cell_tmp Tryd.results36 rfl rfl hl rfl ⟨rfl, HS2.out⟩
end Go.Proofs.YtodlapkmcnmmhaaDoor
