/- The reference's Has and Cost: the walks. -/
import Derived.Test.YtfokjmlkhaehgaaP2
import Derived.Test.YtfokjmlkhaehgaaA
namespace Go.Proofs.Ytfokjmlkhaehgaa
open Go.RowKit
set_option linter.unusedSimpArgs false
set_option linter.unusedVariables false

def bools (L : List Bool) : Array Value := (L.map Value.bool).toArray
theorem info4 : (Try.prog.info? 4).map (fun i => (i.zero, i.size, i.bytes)) = some (some (.bool false), 1, 1) := by kernel_rfl
theorem hasL_nil : hasL [] = List.replicate 1064 false := by
  unfold hasL
  apply List.ext_getElem?
  intro i
  rw [List.getElem?_map, List.getElem?_replicate]
  by_cases h : i < 1064
  · rw [List.getElem?_range h, if_pos h]; simp
  · rw [if_neg h, List.getElem?_eq_none (by simp; omega)]; rfl
theorem made_bools (w : World) : (Instr.makeSlice 28 (.int .i64 1064) (.int .i64 1064)).run Try.prog w = .ok (.slice (some ⟨w.heap.size, 0, none⟩) 1064 1064) (w.alloc (.cells (bools (hasL [])) 4)) := by
  obtain ⟨i, hi, hz0, hz1, hz2⟩ := info_parts info4
  have := run_make (P := Try.prog) w 28 4 i (.bool false) Try.underlying28 hi hz0 .i64 .i64 1064 1064 (by omega) (by omega) (by rw [hz2]; omega) (by omega)
  rw [this, hz1, show madeCells (Value.bool false).cells ((1064 : Int).toNat * 1) = bools (hasL []) from ?_]
  · rfl
  · apply Array.ext'
    rw [show (Value.bool false).cells = #[.bool false] from rfl, show (1064 : Int).toNat * 1 = 1064 from rfl, toList_madeCells_one, hasL_nil, bools, List.map_replicate]
theorem bools_get (L : List Bool) (i : Nat) (h : i < L.length) : (bools L)[i]? = some (.bool (L.getD i false)) := by
  unfold bools; simp [List.getElem?_eq_getElem h]
theorem hasL_length (l : List Int) : (hasL l).length = 1064 := by simp [hasL]
theorem bools_set (l : List Int) (i : Nat) (h : i < 1064) : (bools (hasL l)).setIfInBounds i (.bool true) = bools (hasL (l ++ [(i : Int)])) := by
  have e : (hasL l).set i true = hasL (l ++ [(i : Int)]) := by
    apply List.ext_getElem?
    intro j
    rw [List.getElem?_set]
    unfold hasL
    rw [List.getElem?_map, List.getElem?_map]
    by_cases hj : j < 1064
    · rw [List.getElem?_range hj]
      by_cases hij : i = j
      · subst hij; simp [hj]
      · have : ¬ (j : Int) = i := by omega
        simp [hij, this]
    · rw [List.getElem?_eq_none (by simp; omega)]
      have : i ≠ j := by omega
      simp [this]
  rw [← e]
  unfold bools
  simp
theorem hasL_out (l : List Int) (x : Int) (h : x < 0 ∨ 1064 ≤ x) : hasL (l ++ [x]) = hasL l := by
  unfold hasL
  apply List.map_congr_left
  intro i hi
  rw [List.mem_range] at hi
  congr 1
  simp only [List.mem_append, List.mem_singleton]
  have : ¬ (i : Int) = x := by omega
  simp [this]

set_option maxRecDepth 100000 in
set_option maxHeartbeats 2000000 in
theorem has_any (A : Option Addr) (c : Nat) (xs : List Int) (w : World) (hr : Rd I w A xs) (hn : xs.length ≤ 100000) :
    Calls Try.prog 16 #[.slice A xs.length c] w fun e w' => e = .returned (.slice (some ⟨w.heap.size, 0, none⟩) 1064 1064) ∧ Blk w' w.heap.size 4 (bools (hasL xs)) ∧ Safe w w' := by
  have hmk := made_bools
  go_enter Try.func16, Try.ntmps16
  go_wp2
  go_loopw [4] (fun i wr => ∃ k : Nat, k ≤ xs.length ∧ i = .int .i64 k ∧ Blk wr w.heap.size 4 (bools (hasL (xs.take k))) ∧ Safe w wr) (fun i _ => xs.length - (intOf i).toNat)
  case atStart => exact ⟨0, by omega, rfl, Blk.new _ _ _, (But.refl _ _).alloc _⟩
  case round =>
    obtain ⟨k, hk, rfl, hB, hS⟩ := hrel
    clear hmk
    by_cases hlt : k < xs.length
    · obtain ⟨ad, rfl, hcell⟩ := hr.at hlt
      have hcell := hS.cell hcell id
      have hsn : xs.take (k + 1) = xs.take k ++ [xs[k]] := by rw [List.take_succ_eq_append_getElem hlt]
      generalize xs[k] = x at *
      have Hr := Lib.hid hr
      have HSN := Lib.hid hsn
      clear hr hsn
      by_cases h0 : x < 0
      · go_wp2
        go_roundw
        case rel => exact ⟨k + 1, by omega, by go_num, by rw [HSN.out, hasL_out _ _ (.inl h0)]; exact hB, hS⟩
        case measure => simp [intOf]; omega
      · by_cases h1 : x < 1064
        · obtain ⟨i, rfl⟩ : ∃ i : Nat, x = i := ⟨x.toNat, by omega⟩
          have c0 := hB.cell' (bools_get _ i (by rw [hasL_length]; omega))
          have f0 := hB.frozen i
          have hlt' : i < 1064 := by omega
          go_wp2
          go_roundw
          case rel =>
            refine ⟨k + 1, by omega, by go_num, ?_, hS.setCell (.inr (Nat.le_refl _)) _⟩
            rw [HSN.out, ← bools_set _ _ hlt']
            exact hB.set i _
          case measure => simp [intOf]; omega
        · go_wp2
          go_roundw
          case rel => exact ⟨k + 1, by omega, by go_num, by rw [HSN.out, hasL_out _ _ (.inr (by omega))]; exact hB, hS⟩
          case measure => simp [intOf]; omega
    · obtain rfl : k = xs.length := by omega
      go_wp2
      go_ret
      exact ⟨rfl, by simpa using hB, hS⟩
end Go.Proofs.Ytfokjmlkhaehgaa
