/- Law 20: is a set the document's? -/
import Derived.Test.YtlojadpbdbhmiaaFv
namespace Go.Proofs.Ytlojadpbdbhmiaa
open Go.RowKit
set_option linter.unusedSimpArgs false
set_option linter.unusedVariables false

def cntS (ids : List Int) (k : Nat) : Nat := (allS (ids.take k)).length
theorem cntS_le (ids : List Int) (k : Nat) : cntS ids k ≤ k := allS_len ids k
theorem cntS_yes {ids : List Int} {k : Nat} {x : Int} (hk : ids[k]? = some x) (hx : x ≠ -1) : cntS ids (k + 1) = cntS ids k + 1 := by
  unfold cntS; rw [allS_snoc hk, if_neg hx]; simp
theorem cntS_skip {ids : List Int} {k : Nat} (hk : ids[k]? = some (-1)) : cntS ids (k + 1) = cntS ids k := by
  unfold cntS; rw [allS_snoc hk, if_pos rfl]
theorem cntS_no {ids : List Int} {k : Nat} (h : NoS ids ((k : Int) - 1)) : cntS ids (k - 1) = cntS ids k := by
  rcases h.cases with h | ⟨_, h⟩ | ⟨j, e, hj, hx⟩
  · rw [show k = 0 from by omega]
  · unfold cntS; rw [List.take_of_length_le (by omega), List.take_of_length_le (by omega)]
  · obtain rfl : k = j + 1 := by omega
    rw [Nat.add_sub_cancel, cntS_skip hx]
theorem cntS_all (ids : List Int) (k : Nat) (h : ids.length ≤ k) : cntS ids k = (allS ids).length := by unfold cntS; rw [List.take_of_length_le h]
theorem allS_split (ids : List Int) (k : Nat) : allS ids = allS (ids.take k) ++ allS (ids.drop k) := by
  unfold allS; rw [← List.filter_append, List.take_append_drop]
theorem knownS_split (ids : List Int) (k : Nat) : ∃ r, knownS ids = knownS (ids.take k) ++ r := by
  have h : ids.zipIdx = (ids.take k).zipIdx ++ (ids.drop k).zipIdx (0 + (ids.take k).length) := by
    rw [← List.zipIdx_append, List.take_append_drop]
  exact ⟨_, by unfold knownS; rw [h, List.filter_append, List.map_append]⟩
theorem known_len (ids : List Int) : ∀ k, k ≤ ids.length → (knownS (ids.take k)).length = cntS ids k := by
  intro k
  induction k with
  | zero => intro _; rfl
  | succ k ih =>
    intro hk
    obtain ⟨x, hx⟩ : ∃ x, ids[k]? = some x := ⟨_, List.getElem?_eq_getElem (by omega)⟩
    rw [knownS_snoc hx]
    by_cases e : x = -1
    · subst e; rw [if_pos rfl, cntS_skip hx]; exact ih (by omega)
    · rw [if_neg e, cntS_yes hx e, List.length_append, ih (by omega)]; rfl
theorem known_all (ids : List Int) : (knownS ids).length = (allS ids).length := by
  have := known_len ids ids.length (Nat.le_refl _)
  rw [List.take_length, cntS_all ids _ (Nat.le_refl _)] at this
  exact this
theorem all_at {ids : List Int} {k : Nat} {x : Int} (hk : ids[k]? = some x) (hx : x ≠ -1) : (allS ids)[cntS ids k]? = some x := by
  rw [allS_split ids (k + 1), allS_snoc hk, if_neg hx, List.getElem?_append_left (by rw [List.length_append]; unfold cntS; simp), List.getElem?_append_right (by unfold cntS; exact Nat.le_refl _)]
  unfold cntS
  simp
theorem known_at {ids : List Int} {k : Nat} {x : Int} (hk : ids[k]? = some x) (hx : x ≠ -1) : (knownS ids)[cntS ids k]? = some (k : Int) := by
  have hlt := (List.getElem?_eq_some_iff.1 hk).1
  obtain ⟨r, hr⟩ := knownS_split ids (k + 1)
  have hl := known_len ids k (by omega)
  rw [hr, knownS_snoc hk, if_neg hx, List.getElem?_append_left (by rw [List.length_append, hl]; simp), List.getElem?_append_right (by rw [hl]; exact Nat.le_refl _), hl, Nat.sub_self]
  rfl
set_option maxRecDepth 100000 in
set_option maxHeartbeats 2000000 in
theorem set_any (gs gl base : Nat) (sp : List Value) (ids : List Int) (v : Value) (w : World) (h : SW w gs gl sp ids) (hr : LV w base v ids) (hV : VS ids) :
    Calls Try.prog 38 #[.pointer (some ⟨gs, 0, none⟩), v] w fun e w' => e = .returned (.bool true) ∧ Safe w w' := by
  have hlen := h.len
  have HH := Lib.hid h
  have HR := Lib.hid hr
  have HV := Lib.hid hV
  obtain ⟨A, c, rfl, hc, hcm, -⟩ := hr
  clear h hV
  go_enter Try.func38, Try.ntmps38
  go_wp2_with fail
  refine (sall_any gs gl sp ids w HH.out).mono ?_
  rintro e w1 ⟨va, rfl, ha, hs1⟩
  obtain ⟨Aa, ca, rfl, hca⟩ := own_form ha
  have hk1 := fun W (hs : Safe w W) => sknown_any gs gl sp ids W (HH.out.safe hs)
  have HK := Lib.hid hk1
  have hra := Rd.of_own (enc := I) ha
  have HRA := Lib.hid hra
  have HS1 := Lib.hid hs1
  clear hk1 ha hra hs1
  go_wp2_with fail
  refine (HK.out _ HS1.out).mono ?_
  rintro e w2 ⟨vk, rfl, hk, hs2⟩
  obtain ⟨Ak, ck, rfl, hck⟩ := own_form hk
  have hrk := Rd.of_own (enc := I) hk
  have hra2 := HRA.out.safe hs2
  have HRK := Lib.hid hrk
  have HRA2 := Lib.hid hra2
  have HS2 := Lib.hid (HS1.out.trans hs2)
  have hka := known_all ids
  have hall := cntS_all ids ids.length (Nat.le_refl _)
  have hcle := cntS_le ids ids.length
  have HKA := Lib.hid hka
  have HALL := Lib.hid hall
  have hlna : (allS ids).length ≤ 16 := by omega
  have hlnk : (knownS ids).length ≤ 16 := by omega
  clear hk hrk hra2 hs2 hka hall hcle
  go_wp2_with fail
  go_loopw [7, 8] (fun cnt i wr => ∃ k : Nat, k ≤ ids.length + 2 ∧ i = .int .i64 ((k : Int) - 1) ∧ cnt = .int .i64 (cntS ids (k - 1)) ∧ Safe w2 wr) (fun _ i _ => ((ids.length : Int) + 1 - intOf i).toNat)
  case atStart => exact ⟨0, by omega, rfl, rfl, But.refl _ _⟩
  case round =>
    obtain ⟨k, hk, rfl, rfl, hS⟩ := hrel
    obtain ⟨wo, rfl⟩ : ∃ wo : World, wo = wr := ⟨_, rfl⟩
    have hcl := cntS_le ids (k - 1)
    by_cases hlt : k ≤ ids.length + 1
    · have hlt' : (k : Int) - 1 ≤ ids.length := by omega
      have hp := sgetM gs gl sp ids wo ((k : Int) - 1) (HH.out.safe (HS2.out.trans hS))
      have hq := rgetM ids wo base _ ((k : Int) - 1) (HR.out.safe (HS2.out.trans hS)) HV.out
      unfold gtM at hp hq
      rcases getS_cases ids ((k : Int) - 1) with ⟨e, hn⟩ | ⟨j, x, e, ej, hj, hx, hm⟩
      · rw [e] at hp hq
        have hcn := cntS_no hn
        rw [hcn] at hcl ⊢
        have HP := Lib.hid hp
        have HQ := Lib.hid hq
        have HS := Lib.hid hS
        have HC := Lib.hid hcn
        clear hp hq hS hn hcn e
        generalize hcc : cntS ids k = cc at *
        go_wp2_with fail
        refine (HP.out).mono ?_
        rintro _ _ ⟨rfl, rfl⟩
        go_wp2_with fail
        refine (HQ.out).mono ?_
        rintro _ w4 ⟨rfl, hs4⟩
        go_wp2_with fail
        go_roundw
        case rel => exact ⟨k + 1, by omega, by go_num, by rw [Nat.add_sub_cancel, ← hcc], HS.out.trans hs4⟩
        case measure => simp [intOf]; omega
      · rw [e] at hp hq
        obtain rfl : k = j + 1 := by omega
        rw [Nat.add_sub_cancel] at hcl ⊢
        have ej' : ((j + 1 : Nat) : Int) - 1 = (j : Int) := by omega
        rw [ej'] at hp hq hlt' ⊢
        have hat := all_at hx hm
        have hkt := known_at hx hm
        have hla := (List.getElem?_eq_some_iff.1 hat).1
        have hlk := (List.getElem?_eq_some_iff.1 hkt).1
        obtain ⟨ada, rfl, ga⟩ := (HRA2.out.safe hS).at hla
        obtain ⟨adk, rfl, gk⟩ := (HRK.out.safe hS).at hlk
        rw [(List.getElem?_eq_some_iff.1 hat).2] at ga
        rw [(List.getElem?_eq_some_iff.1 hkt).2] at gk
        have hga := fun W (hs : Safe wo W) => hs.cell ga (fun h => h)
        have hgk := fun W (hs : Safe wo W) => hs.cell gk (fun h => h)
        have hcn := cntS_yes hx hm
        have HGA := Lib.hid hga
        have HGK := Lib.hid hgk
        have HP := Lib.hid hp
        have HQ := Lib.hid hq
        have HS := Lib.hid hS
        have HC := Lib.hid hcn
        have HEJ := Lib.hid ej'
        clear hp hq hS hcn e hx hat hkt ga gk hga hgk ej ej'
        generalize hcc : cntS ids j = cc at *
        have hla2 : (cc : Int) < (allS ids).length := by omega
        have hlk2 : (cc : Int) < (knownS ids).length := by omega
        go_wp2_with fail
        refine (HP.out).mono ?_
        rintro _ _ ⟨rfl, rfl⟩
        go_wp2_with fail
        refine (HQ.out).mono ?_
        rintro _ w4 ⟨rfl, hs4⟩
        have g1 := HGA.out _ hs4
        have g2 := HGK.out _ hs4
        go_wp2_with fail
        go_roundw
        case rel => exact ⟨j + 1 + 1, by omega, by go_num, by rw [Nat.add_sub_cancel, HC.out]; go_num, HS.out.trans hs4⟩
        case measure => simp [intOf]; omega
    · obtain rfl : k = ids.length + 2 := by omega
      have hcn := cntS_all ids (ids.length + 2 - 1) (by omega)
      rw [hcn] at hcl ⊢
      have hkl := HKA.out
      generalize (allS ids).length = na at *
      generalize (knownS ids).length = nk at *
      subst hkl
      have HS := Lib.hid hS
      clear hS hcn hcl
      go_wp2
      go_ret
      exact ⟨rfl, HS2.out.trans HS.out⟩
end Go.Proofs.Ytlojadpbdbhmiaa
