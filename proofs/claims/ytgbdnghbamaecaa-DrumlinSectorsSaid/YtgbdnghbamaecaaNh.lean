/- seal: Make, Open, Is. -/
import Derived.Test.YtgbdnghbamaecaaNg
namespace Go.Proofs.Ytgbdnghbamaecaa
open Go.RowKit
set_option linter.unusedSimpArgs false
set_option linter.unusedVariables false

/-- What a sealed sector begins with. -/
def headL (kd : Nat) (ys : List Int) : List Int := lowL 2 19671 ++ lowL 1 kd ++ lowL 1 ys.length ++ ys ++ List.replicate (120 - ys.length) 0
theorem headL_len {kd : Nat} {ys : List Int} (h : ys.length ≤ 120) : (headL kd ys).length = 124 := by
  unfold headL; simp [lowL_len]; omega
def sealL (kd : Nat) (ys : List Int) : List Int := headL kd ys ++ lowL 4 (crcM (headL kd ys)).toNat
theorem sealL_len {kd : Nat} {ys : List Int} (h : ys.length ≤ 120) : (sealL kd ys).length = 128 := by
  unfold sealL; simp [lowL_len, headL_len h]
theorem headL_u8 {kd : Nat} {ys : List Int} (h : ∀ x ∈ ys, 0 ≤ x ∧ x < 256) : ∀ x ∈ headL kd ys, 0 ≤ x ∧ x < 256 := by
  intro x hx
  unfold headL at hx
  simp only [List.mem_append, List.mem_replicate] at hx
  rcases hx with (((hx | hx) | hx) | hx) | ⟨_, rfl⟩
  · exact lowL_u8 _ _ x hx
  · exact lowL_u8 _ _ x hx
  · exact lowL_u8 _ _ x hx
  · exact h x hx
  · omega
theorem sealL_u8 {kd : Nat} {ys : List Int} (h : ∀ x ∈ ys, 0 ≤ x ∧ x < 256) : ∀ x ∈ sealL kd ys, 0 ≤ x ∧ x < 256 := by
  intro x hx
  unfold sealL at hx
  rw [List.mem_append] at hx
  rcases hx with hx | hx
  · exact headL_u8 h x hx
  · exact lowL_u8 _ _ x hx
theorem padL_full {B : List Int} (h : B.length = 128) : padL B = B := by unfold padL; rw [h]; simp
theorem infoWriter : (Try.prog.info? 27).map (fun i => (i.zero, i.size, i.bytes)) = some (some (.agg (encS (padL []) [I 0, I 0])), 130, 144) := by kernel_rfl
theorem zero_writer (w : World) : (zeroValue 27).run Try.prog w = .ok (.agg (encS (padL []) [I 0, I 0])) w := by
  obtain ⟨i, hi, hz0, _, _⟩ := info_parts infoWriter
  simp [zeroValue, typeInfo, hi, hz0]
theorem Safe.far {S : Nat → Prop} {w w1 w2 : World} (h : Safe w w1) (k : But S w1 w2) (hs : ∀ i, S i → w.heap.size ≤ i) : Safe w w2 := h.step k (fun i hi => .inr (hs i hi))
set_option maxRecDepth 100000 in
set_option maxHeartbeats 2000000 in
theorem make_any (kd : Nat) (hk1 : 1 ≤ kd) (hk2 : kd < 256) (A : Option Addr) (ys : List Int) (c : Nat) (w : World) (hr : Rd U w A ys) (hu : ∀ x ∈ ys, 0 ≤ x ∧ x < 256) (hl : ys.length ≤ 120) :
    Calls Try.prog 8 #[.int .u8 kd, .slice A ys.length c] w fun e w' => e = .returned (.tuple #[.agg (sectA (sealL kd ys)), I 0]) ∧ Safe w w' := by
  have hzs := fun W => zero_sect W
  have hzw := fun W => zero_writer W
  have hkb : ((kd : Int) == 0) = false := by simp; omega
  have hli : (ys.length : Int) ≤ 120 := by omega
  have hZ : ∀ (W : World) (t : TypeId), Blk (W.alloc (.cells (sectA (padL [])) t)) W.heap.size t (sectA (padL [])) := fun W t => Blk.new W _ _
  have hY : ∀ (W : World), WS (W.alloc (.cells (encS (padL []) [I 0, I 0]) 27)) W.heap.size [] := fun W => ⟨Blk.new W _ _, by simp⟩
  have hZs : (sectA (padL [])).size = 128 := by rw [sectA_size, padL_len (by simp)]
  generalize hZe : sectA (padL []) = Z at *
  generalize hYe : encS (padL []) [I 0, I 0] = Y at *
  have HR := Lib.hid hr
  have HZE := Lib.hid hZe
  have HYE := Lib.hid hYe
  have HZ := Lib.hid hZ
  have HY := Lib.hid hY
  have HZS := Lib.hid hZs
  clear hr hZe hYe hZ hY hZs
  go_enter Try.func8, Try.ntmps8
  go_wp2_with fail
  have hw2 := HY.out (w.alloc (.cells Z 24))
  have hs2 : Safe w ((w.alloc (.cells Z 24)).alloc (.cells Y 27)) := ((But.refl _ w).alloc _).alloc _
  have h4 := (HZ.out w 24).alloc (.cells Y 27)
  rw [show (w.alloc (.cells Z 24)).heap.size = w.heap.size + 1 from by simp] at hw2
  generalize (w.alloc (.cells Z 24)).alloc (.cells Y 27) = w2 at *
  refine (wnum_yes (w.heap.size + 1) [] 2 19671 w2 hw2 (by omega) (by omega) (by simp) (by omega)).mono ?_
  rintro _ w3 ⟨rfl, hw3, hb3⟩
  have far : ∀ i, (· = w.heap.size + 1) i → w.heap.size ≤ i := fun i hi => by have : i = w.heap.size + 1 := hi; omega
  have far4 : ¬ (· = w.heap.size + 1) w.heap.size := fun e => by have : w.heap.size = w.heap.size + 1 := e; omega
  have hs3 := Safe.far hs2 hb3 far
  have h43 := h4.but hb3 far4
  rw [List.nil_append] at hw3
  clear hw2 hs2 hb3 h4
  go_wp2_with fail
  refine (wnum_yes (w.heap.size + 1) _ 1 kd w3 hw3 (by omega) (by omega) (by rw [lowL_len]; omega) (by omega)).mono ?_
  rintro _ w4 ⟨rfl, hw4, hb4⟩
  have hs4 := Safe.far hs3 hb4 far
  have h44 := h43.but hb4 far4
  clear hw3 hs3 hb4 h43
  go_wp2_with fail
  refine (wnum_yes (w.heap.size + 1) _ 1 ys.length w4 hw4 (by omega) (by omega) (by simp [lowL_len]) (by omega)).mono ?_
  rintro _ w5 ⟨rfl, hw5, hb5⟩
  have hs5 := Safe.far hs4 hb5 far
  have h45 := h44.but hb5 far4
  have hr5 := HR.out.safe hs5
  clear hw4 hs4 hb5 h44
  go_wp2_with fail
  refine (wbytes_yes (w.heap.size + 1) _ 120 A ys c w5 hw5 hr5 hl (by simp [lowL_len]) (by simp [lowL_len])).mono ?_
  rintro _ w6 ⟨rfl, hw6, hb6⟩
  have hs6 := Safe.far hs5 hb6 far
  have h46 := h45.but hb6 far4
  have hw6 : WS w6 (w.heap.size + 1) (headL kd ys) := hw6
  clear hw5 hs5 hb6 h45 hr5
  go_wp2_with fail
  refine (wsector_yes (w.heap.size + 1) _ w6 hw6).mono ?_
  rintro _ w7 ⟨rfl, hb7⟩
  have hs7 := hs6.trans hb7
  have h47 := h46.but hb7 id
  have hpl : (padL (headL kd ys)).length = 128 := padL_len (by rw [headL_len hl]; omega)
  clear hs6 hb7 h46 hw6 far4 far
  have ht : (w7.alloc (.cells Z 24)).there w7.heap.size 0 (sectA (padL (headL kd ys))).size := (HZ.out w7 24).there (by rw [sectA_size, hpl, HZS.out]; omega)
  have hi2 : (Try.prog.info? 24).map (·.size) = some (sectA (padL (headL kd ys))).size := by rw [sizeSect, sectA_size, hpl]
  have hone : (sectA (padL (headL kd ys))).all (·.oneCell') = true := all_oneCell_toArray (sect_one _)
  have HT := Lib.hid ht
  have HI := Lib.hid hi2
  have HO := Lib.hid hone
  clear ht hi2 hone
  go_wp2_with (refine wpList_store_mid rfl 24 (.tmp 7) (.tmp 29) rfl w7.heap.size 0 (sectA (padL (headL kd ys))) rfl rfl HT.out HI.out HO.out ?_)
  have hb8 := blk_sect (bs := padL (headL kd ys)) (cs := padL []) (by rw [HZE.out]; exact HZ.out w7 24) (by rw [hpl, padL_len (by simp)])
  rw [sectA_enc, ← sectA_enc] at hb8
  have hs8 : Safe w ((w7.alloc (.cells Z 24)).setCells w7.heap.size 0 (sectA (padL (headL kd ys))).toList) := (hs7.alloc _).setCells _ _ (.inr hs7.size)
  have h48 : Blk ((w7.alloc (.cells Z 24)).setCells w7.heap.size 0 (sectA (padL (headL kd ys))).toList) w.heap.size 24 Z := (h47.alloc _).farAll _ (by have := h47.lt; omega) _
  have hg7 : w.heap.size < w7.heap.size := h47.lt
  clear hs7 h47 HT HI HO hw6
  generalize (w7.alloc (.cells Z 24)).setCells w7.heap.size 0 (sectA (padL (headL kd ys))).toList = w8 at *
  generalize w7.heap.size = g7 at *
  rw [sectA_enc] at hb8
  have hHl := headL_len (kd := kd) hl
  have hC := fun N => crc_any (some ⟨g7, 0, none⟩) (headL kd ys) 128 (w8.drewN N) (fun _ => ⟨_, rfl, fun k x hk => by
    rw [add_plain, Nat.zero_add]
    exact (hb8.drewN N).cell' (encS_byte (by unfold padL; rw [List.getElem?_append_left (List.getElem?_eq_some_iff.1 hk).1]; exact hk))⟩) (headL_u8 hu) (by omega)
  obtain ⟨hc0, hc1⟩ := crcM_range (headL kd ys)
  have hP := fun N => put_yes g7 24 (padL (headL kd ys)) [] 124 4 (crcM (headL kd ys)).toNat 128 (w8.drewN N) (hb8.drewN N) (by omega) (by omega) (by omega) (by omega) (by omega)
  have hwr := padL_wr (B := headL kd ys) (ys := lowL 4 (crcM (headL kd ys)).toNat) (by rw [hHl, lowL_len]; omega)
  rw [hHl] at hwr
  rw [hwr, show headL kd ys ++ lowL 4 (crcM (headL kd ys)).toNat = sealL kd ys from rfl, padL_full (sealL_len hl), hpl, Int.toNat_of_nonneg hc0, show ((124 : Nat) : Int) = 124 from rfl, show ((4 : Nat) : Int) = 4 from rfl] at hP
  rw [hHl] at hC
  have hsl := sl_to g7 124 (by omega)
  rw [show ((124 : Nat) : Int) = 124 from rfl] at hsl
  generalize crcM (headL kd ys) = cr at *
  have hwrc : IntKind.u64.wrap cr = cr := by
    have := u64_small (n := cr.toNat) (by omega)
    rwa [Int.toNat_of_nonneg hc0] at this
  have hP := hP 1
  have hC := hC 1
  rw [← drew_is] at hP hC
  have HP := Lib.hid hP
  have HC := Lib.hid hC
  have H48 := Lib.hid h48
  have HS8 := Lib.hid hs8
  clear hP hC hwr hb8 hpl hHl h48 hs8
  go_region_with (first
    | (go_at_call 16; (with_reducible refine (HC.out).mono ?_); rintro _ _ ⟨rfl, rfl⟩)
    | (go_at_call 17; (with_reducible refine (HP.out).mono ?_); rintro _ w9 ⟨rfl, hb9, hs9⟩))
  all_goals
    have hl9 := sealL_len (kd := kd) hl
    have hs9' : Safe w w9 := Safe.far (HS8.out.drew) hs9 (fun i hi => by have : i = g7 := hi; omega)
    have h49 : Blk w9 w.heap.size 24 Z := (H48.out.drew).but hs9 (fun e => by have : w.heap.size = g7 := e; omega)
    have hrg := encS_range hb9
    have hI : (Try.prog.info? 24).map (·.size) = some ((sealL kd ys).map U).length := by rw [sizeSect, List.length_map, hl9]
    have hI2 : (Try.prog.info? 24).map (·.size) = some (sectA (sealL kd ys)).size := by rw [sizeSect, sectA_size, hl9]
    have ht : w9.there w.heap.size 0 (sectA (sealL kd ys)).size := h49.there (by rw [sectA_size, hl9, HZS.out]; omega)
    have hone : (sectA (sealL kd ys)).all (·.oneCell') = true := all_oneCell_toArray (sect_one _)
    have hbA := blk_sect (bs := sealL kd ys) (cs := padL []) (by rw [HZE.out]; exact h49) (by rw [hl9, padL_len (by simp)])
    have hsA : Safe w (w9.setCells w.heap.size 0 (sectA (sealL kd ys)).toList) := hs9'.setCells _ _ (.inr (Nat.le_refl _))
    have HRG := Lib.hid hrg
    have HI := Lib.hid hI
    have HI2 := Lib.hid hI2
    have HT := Lib.hid ht
    have HO := Lib.hid hone
    have HBA := Lib.hid hbA
    have HSA := Lib.hid hsA
    clear hrg hI hI2 ht hone hbA hsA hb9 hs9 hs9' h49 hC hP hl9 hwrc hsl
    go_wp2_with (first
      | refine wpList_load_mid rfl 24 (.tmp 7) rfl g7 0 rfl _ _ HRG.out Try.underlying24 rfl HI.out ?_
      | refine wpList_store_mid rfl 24 (.tmp 4) (.tmp 36) rfl w.heap.size 0 (sectA (sealL kd ys)) rfl rfl HT.out HI2.out HO.out ?_)
    have hll : (loadVar 24 ⟨w.heap.size, 0, none⟩).run Try.prog (w9.setCells w.heap.size 0 (sectA (sealL kd ys)).toList) = .ok (.agg (sectA (sealL kd ys))) _ :=
      run_loadVar_mid (P := Try.prog) _ w.heap.size 0 24 ((sealL kd ys).map U) _ (encS_range (rest := []) (by rw [← sectA_enc]; exact HBA.out)) Try.underlying24 rfl HI.out
    generalize w9.setCells w.heap.size 0 (sectA (sealL kd ys)).toList = wA at *
    exact ret_cell_tmp Try.results8 rfl rfl hll rfl ⟨rfl, HSA.out⟩
end Go.Proofs.Ytgbdnghbamaecaa
