/- seal: Open and Is, of a sector that was sealed. -/
import Derived.Test.YtgbdnghbamaecaaNh
import Derived.ChangeKeysEq
namespace Go.Proofs.Ytgbdnghbamaecaa
open Go.RowKit
set_option linter.unusedSimpArgs false
set_option linter.unusedVariables false

theorem own_base {w : World} {b b' n size : Nat} {e : TypeId} {v : Value} {xs : List Value} (h : w.ownsRow b e size v n xs) (hb : b' ≤ b) : w.ownsRow b' e size v n xs := by
  obtain ⟨h1, h2⟩ := h
  refine ⟨h1, ?_⟩
  rcases h2 with h2 | ⟨g, cap, cur, rfl, h3, hr⟩
  · exact .inl h2
  · exact .inr ⟨g, cap, cur, rfl, Nat.le_trans hb h3, hr⟩
section
variable {kd : Nat} {ys : List Int}
theorem sealL_form : sealL kd ys = 215 :: 76 :: ((kd % 256 : Nat) : Int) :: ((ys.length % 256 : Nat) : Int) :: (ys ++ (List.replicate (120 - ys.length) 0 ++ lowL 4 (crcM (headL kd ys)).toNat)) := by
  unfold sealL
  generalize lowL 4 (crcM (headL kd ys)).toNat = X
  unfold headL
  simp [lowL]
theorem seal_kind (hk : kd < 256) : leN (segL (sealL kd ys) 2 1) = kd := by
  rw [sealL_form]; simp [segL, leN]; omega
theorem seal_size (hl : ys.length ≤ 120) : leN (segL (sealL kd ys) 3 1) = ys.length := by
  rw [sealL_form]; simp [segL, leN]; omega
theorem seal_body : segL (sealL kd ys) 4 ys.length = ys := by
  rw [sealL_form]; simp [segL]
end
theorem eq_u8s {xs bs : List Int} (w : World) : ∀ (is : List Nat), (∀ i ∈ is, xs[i]? = bs[i]? ∧ i < xs.length) → (Op.eqItems 9999 5 1 (xs.map U).toArray (bs.map U).toArray is).run Try.prog w = .ok true w
  | [], _ => by simp [Op.eqItems]
  | i :: is, h => by
    obtain ⟨h1, h2⟩ := h i (List.mem_cons_self ..)
    have hx : xs[i]? = some xs[i] := List.getElem?_eq_getElem h2
    have p1 := run_part_plain (P := Try.prog) w (e := 5) (by kernel_rfl) (xs := (xs.map U).toArray) (off := i * 1) (v := U xs[i]) (by rw [Nat.mul_one, List.getElem?_toArray, List.getElem?_map, hx]; rfl)
    have p2 := run_part_plain (P := Try.prog) w (e := 5) (by kernel_rfl) (xs := (bs.map U).toArray) (off := i * 1) (v := U xs[i]) (by rw [Nat.mul_one, List.getElem?_toArray, List.getElem?_map, ← h1, hx]; rfl)
    have p3 := run_equalIn_int w 9998 5 .u8 .u8 xs[i] xs[i] Try.underlying5
    rw [beq_self_eq_true] at p3
    have ih := eq_u8s w is (fun j hj => h j (List.mem_cons_of_mem _ hj))
    simp only [Op.eqItems, Sem.run_bind, p1, p2, p3, Result.andThen_ok]
    simpa using ih
/-- A sector is itself. -/
theorem eq_sect (bs : List Int) (hl : bs.length = 128) (w : World) : (Op.equalIn 10000 24 (.agg (bs.map U).toArray) (.agg (bs.map U).toArray)).run Try.prog w = .ok true w := by
  obtain ⟨i, hi⟩ : ∃ i, Try.prog.info? 5 = some i := by
    have := infoU8
    cases hq : Try.prog.info? 5 with
    | none => rw [hq] at this; cases this
    | some i => exact ⟨i, rfl⟩
  rw [run_equalIn_array w 9999 _ _ Try.underlying24 hi, show Try.prog.cellsOf 5 = 1 from by kernel_rfl]
  exact eq_u8s w _ (fun j hj => ⟨rfl, by rw [hl]; simpa using hj⟩)
set_option maxRecDepth 100000 in
set_option maxHeartbeats 2000000 in
theorem open_any (kd : Nat) (hk1 : 1 ≤ kd) (hk2 : kd < 256) (ys : List Int) (w : World) (hu : ∀ x ∈ ys, 0 ≤ x ∧ x < 256) (hl : ys.length ≤ 120) :
    Calls Try.prog 10 #[.agg (sectA (sealL kd ys))] w fun e w' => ∃ A c, e = .returned (.tuple #[.int .u8 kd, .slice A ys.length c, I 0]) ∧ ys.length ≤ c ∧ w'.ownsRow w.heap.size 5 1 (.slice A ys.length c) ys.length (ys.map U) ∧ Safe w w' := by
  have hzs := fun W => zero_sect W
  have hsl := sealL_len (kd := kd) hl
  have hsu := sealL_u8 (kd := kd) hu
  have e1 := seal_kind (ys := ys) hk2
  have e2 := seal_size (kd := kd) hl
  have e3 := seal_body (kd := kd) (ys := ys)
  have hb1 : Blk (w.alloc (.cells (sectA (sealL kd ys)) 24)) w.heap.size 24 (sectA (sealL kd ys)) := Blk.new _ _ _
  have hr1 : (w.alloc (.cells (sectA (sealL kd ys)) 24)).rangeAt w.heap.size 0 ((sealL kd ys).map U) := encS_range (rest := []) (by rw [← sectA_enc]; exact hb1)
  have hs1 : Safe w (w.alloc (.cells (sectA (sealL kd ys)) 24)) := (But.refl _ w).alloc _
  have hz1 : (w.alloc (.cells (sectA (sealL kd ys)) 24)).heap.size = w.heap.size + 1 := by simp
  have hI : (Try.prog.info? 24).map (·.size) = some ((sealL kd ys).map U).length := by rw [sizeSect, List.length_map, hsl]
  have hMk := fun A c W hr => make_any kd hk1 hk2 A ys c W hr hu hl
  have hli : (ys.length : Int) ≤ 120 := by omega
  generalize hS : sealL kd ys = S at *
  have HSL := Lib.hid hsl
  have HSU := Lib.hid hsu
  have E1 := Lib.hid e1
  have E2 := Lib.hid e2
  have E3 := Lib.hid e3
  have HB1 := Lib.hid hb1
  have HR1 := Lib.hid hr1
  have HS1 := Lib.hid hs1
  have HZ1 := Lib.hid hz1
  have HI := Lib.hid hI
  have HMK := Lib.hid hMk
  have HS := Lib.hid hS
  have HU := Lib.hid hu
  clear hsl hsu e1 e2 e3 hb1 hr1 hs1 hI hMk hS hz1 hu
  go_enter Try.func10, Try.ntmps10
  go_wp2_with (refine wpList_load_mid rfl 24 (.tmp 1) rfl w.heap.size 0 rfl _ _ HR1.out Try.underlying24 rfl HI.out ?_)
  have hRd := read_any S HSL.out HSU.out (w.alloc (.cells (sectA S) 24))
  rw [HZ1.out] at hRd
  have HRd := Lib.hid hRd
  clear hRd
  refine (HRd.out).mono ?_
  rintro _ w2 ⟨rfl, hr2, hs2⟩
  have hs2' := HS1.out.trans hs2
  have hb2 := HB1.out.but hs2 id
  have hz2 := hs2'.size
  clear hs2
  go_wp2_with fail
  refine (rnum_yes (w.heap.size + 1 + 1) S 0 2 w2 hr2 (by omega) (by omega) (by omega)).mono ?_
  rintro _ w3 ⟨rfl, hr3, hs3⟩
  have far : ∀ i, (· = w.heap.size + 1 + 1) i → w.heap.size ≤ i := fun i hi => by have : i = w.heap.size + 1 + 1 := hi; omega
  have far1 : ¬ (· = w.heap.size + 1 + 1) w.heap.size := fun e => by have : w.heap.size = w.heap.size + 1 + 1 := e; omega
  have hs3' := Safe.far hs2' hs3 far
  have hb3 := hb2.but hs3 far1
  clear hs3 hs2' hb2 hr2
  go_wp2_with fail
  have hN4 := rnum_yes (w.heap.size + 1 + 1) S (0 + 2) 1 w3 hr3 (by omega) (by omega) (by omega)
  rw [Nat.zero_add, E1.out] at hN4
  have HN4 := Lib.hid hN4
  clear hN4
  refine (HN4.out).mono ?_
  rintro _ w4 ⟨rfl, hr4, hs4⟩
  have hs4' := Safe.far hs3' hs4 far
  have hb4 := hb3.but hs4 far1
  clear hs4 hs3' hb3 hr3
  go_wp2_with fail
  have hN5 := rnum_yes (w.heap.size + 1 + 1) S (2 + 1) 1 w4 hr4 (by omega) (by omega) (by omega)
  rw [E2.out] at hN5
  have HN5 := Lib.hid hN5
  clear hN5
  refine (HN5.out).mono ?_
  rintro _ w5 ⟨rfl, hr5, hs5⟩
  have hs5' := Safe.far hs4' hs5 far
  have hb5 := hb4.but hs5 far1
  clear hs5 hs4' hb4 hr4
  go_wp2_with fail
  have hN6 := rbytes_yes (w.heap.size + 1 + 1) S (2 + 1 + 1) ys.length w5 hr5 (by omega) (by omega)
  rw [show 2 + 1 + 1 = 4 from rfl, E3.out] at hN6
  have HN6 := Lib.hid hN6
  clear hN6
  refine (HN6.out).mono ?_
  rintro _ w6 ⟨A, c, rfl, hAc, ho6, hr6, hs6⟩
  have hs6' := Safe.far hs5' hs6 far
  have hb6 := hb5.but hs6 far1
  have ho6 := own_base ho6 hs5'.size
  have hrd6 : Rd U w6 A ys := Rd.of_own ho6
  clear hs6 hs5' hb5 hr5
  go_wp2_with fail
  have HM7 := Lib.hid (HMK.out A c w6 hrd6)
  clear hrd6
  refine (HM7.out).mono ?_
  rintro _ w7 ⟨rfl, hs7⟩
  have hs7' := hs6'.trans hs7
  have hb7 := hb6.but hs7 id
  have ho7 := own_safe ho6 hs7
  clear hs7 hs6' hb6 ho6 hr6 HN4 HN5 HN6 HM7 HRd
  have hZ9 : Blk (w7.alloc (.cells (sectA (padL [])) 24)) w7.heap.size 24 (sectA (padL [])) := Blk.new _ _ _
  have ht9 : (w7.alloc (.cells (sectA (padL [])) 24)).there w7.heap.size 0 (sectA S).size := hZ9.there (by rw [sectA_size, sectA_size, HSL.out, padL_len (by simp)]; omega)
  have hb9 := blk_sect (bs := S) hZ9 (by rw [HSL.out, padL_len (by simp)])
  have hs9 : Safe w7 ((w7.alloc (.cells (sectA (padL [])) 24)).setCells w7.heap.size 0 (sectA S).toList) := ((But.refl (fun _ => False) w7).alloc _).setCells _ _ (.inr (Nat.le_refl _))
  have hb17 := hb7.but hs9 id
  have ho9 := own_safe ho7 hs9
  have hsf := hs7'.trans hs9
  have hl9 := encS_range (rest := []) (by rw [← sectA_enc]; exact hb9)
  have hl1 := encS_range (rest := []) (by rw [← sectA_enc]; exact hb17)
  have HI2 : Hid ((Try.prog.info? 24).map (·.size) = some (sectA S).size) := by rw [sizeSect, sectA_size, HSL.out]; trivial
  have HO : Hid ((sectA S).all (·.oneCell') = true) := all_oneCell_toArray (sect_one _)
  generalize hZe : sectA (padL []) = Z at *
  have HT := Lib.hid ht9
  have HO9 := Lib.hid ho9
  have HSF := Lib.hid hsf
  have HL9 := Lib.hid hl9
  have HL1 := Lib.hid hl1
  clear hZ9 ht9 hb9 hs9 hb17 ho9 hsf ho7 hb7 hs7' hZe hl9 hl1
  go_wp2_with (refine wpList_store_mid rfl 24 (.tmp 9) (.tmp 30) rfl w7.heap.size 0 (sectA S) rfl rfl HT.out HI2.out HO.out ?_)
  generalize (w7.alloc (.cells Z 24)).setCells w7.heap.size 0 (sectA S).toList = w9 at *
  have heq := eq_sect S HSL.out w9
  refine wp_load_mid 24 (.tmp 9) rfl w7.heap.size 0 rfl _ _ HL9.out Try.underlying24 rfl HI.out ?_
  go_wp2_with fail
  refine wp_load_mid 24 (.tmp 1) rfl w.heap.size 0 rfl _ _ HL1.out Try.underlying24 rfl HI.out ?_
  go_wp2_with fail
  go_ret3
  exact ⟨A, c, rfl, hAc, HO9.out, HSF.out⟩
set_option maxRecDepth 100000 in
set_option maxHeartbeats 2000000 in
theorem is_any (kd : Nat) (hk1 : 1 ≤ kd) (hk2 : kd < 256) (ys : List Int) (w : World) (hu : ∀ x ∈ ys, 0 ≤ x ∧ x < 256) (hl : ys.length ≤ 120) :
    Calls Try.prog 9 #[.agg (sectA (sealL kd ys)), .int .u8 kd] w fun e w' => e = .returned (.bool true) ∧ Safe w w' := by
  have hb1 : Blk (w.alloc (.cells (sectA (sealL kd ys)) 24)) w.heap.size 24 (sectA (sealL kd ys)) := Blk.new _ _ _
  have HR1 := Lib.hid (encS_range (rest := []) (by rw [← sectA_enc]; exact hb1) : (w.alloc (.cells (sectA (sealL kd ys)) 24)).rangeAt w.heap.size 0 ((sealL kd ys).map U))
  have HI : Hid ((Try.prog.info? 24).map (·.size) = some ((sealL kd ys).map U).length) := by rw [sizeSect, List.length_map, sealL_len hl]; trivial
  have HO := Lib.hid (open_any kd hk1 hk2 ys (w.alloc (.cells (sectA (sealL kd ys)) 24)) hu hl)
  have HS1 : Hid (Safe w (w.alloc (.cells (sectA (sealL kd ys)) 24))) := (But.refl _ w).alloc _
  clear hb1 hu
  go_enter Try.func9, Try.ntmps9
  go_wp2_with (refine wpList_load_mid rfl 24 (.tmp 2) rfl w.heap.size 0 rfl _ _ HR1.out Try.underlying24 rfl HI.out ?_)
  refine (HO.out).mono ?_
  rintro _ w2 ⟨A, c, rfl, hAc, ho, hs⟩
  have HS2 := Lib.hid (HS1.out.trans hs)
  clear ho hs
  go_wp2
  go_ret
  exact ⟨rfl, HS2.out⟩
end Go.Proofs.Ytgbdnghbamaecaa
