/- slices.Clone; name: Last. -/
import Derived.Test.YtodlapkmcnmmhaaDoorMm
namespace Go.Proofs.YtodlapkmcnmmhaaDoor
open Go.RowKit
set_option linter.unusedSimpArgs false
set_option linter.unusedVariables false

theorem clone_any (A : Option Addr) (X : List Bs) (c : Nat) (w : World) (hr : Rd Sv w A X) (hA : 0 < X.length → ∃ g, A = some ⟨g, 0, none⟩) (hN : X.length ≤ 1000) :
    Calls Tryd.prog 41 #[.slice A X.length c] w fun e w' => ∃ v, e = .returned v ∧ w'.ownsRow w.heap.size 9 1 v X.length (X.map Sv) ∧ Safe w w' := by
  by_cases h0 : 0 < X.length
  · obtain ⟨g, rfl⟩ := hA h0
    obtain ⟨ad, e, hcell⟩ := hr h0
    injection e with e
    subst e
    have h := Tryd.slices_Clone_string g 0 X.length c (X.map (fun x => (⟨x.toArray⟩ : ByteArray))) w (by simp) (by omega) (fun j hj => by
      rw [List.length_map] at hj
      have := hcell j X[j] (List.getElem?_eq_getElem hj)
      rw [add_plain] at this
      rw [this]
      simp [List.getD, hj])
    refine h.mono fun e w' ⟨v, he, ho, _, hb⟩ => ⟨v, he, ?_, Safe.of_below hb⟩
    rw [← List.map_take, List.take_of_length_le (Nat.le_refl _), List.map_map] at ho
    exact ho
  · have hX : X = [] := List.eq_nil_of_length_eq_zero (by omega)
    subst hX
    cases A with
    | none => exact (Tryd.slices_Clone_string_nil _ c w).mono fun e w' ⟨he, hw⟩ => ⟨_, he, World.ownsRow_nil _ _ _ _, by rw [hw]; exact But.refl _ _⟩
    | some a => exact (Tryd.slices_Clone_string_zero a c w).mono fun e w' ⟨v, he, ho, _, hb⟩ => ⟨v, he, ho, Safe.of_below hb⟩
set_option maxRecDepth 100000 in
set_option maxHeartbeats 4000000 in
theorem last_no (a d : Bool) (A : Option Addr) (P : List Bs) (c : Nat) (w : World) (hr : Rd Sv w A P) (hA : 0 < P.length → ∃ g, A = some ⟨g, 0, none⟩) (hN : P.length ≤ 1000) (h : P = [] ∨ P.getLast? = some [46, 46]) :
    Calls Tryd.prog 23 #[Pv a d A P.length c] w fun e w' => e = .returned (.tuple #[.agg #[.bool false, .bool false, .slice none 0 0], Sv [], .bool false]) ∧ Safe w w' := by
  obtain ⟨w1, hw1⟩ : ∃ w1, w1 = (w.alloc (.cells #[.bool a, .bool d, .slice A P.length c] 25)).alloc (.cells #[.bool false, .bool false, .slice none 0 0] 25) := ⟨_, rfl⟩
  have hs : Safe w w1 := by rw [hw1]; exact ((But.refl _ w).alloc _).alloc _
  have B := Lib.hid (show Blk w1 w.heap.size 25 #[.bool a, .bool d, .slice A P.length c] by rw [hw1]; exact (Blk.new _ _ _).alloc _)
  have R := Lib.hid (show Blk w1 (w.heap.size + 1) 25 #[.bool false, .bool false, .slice none 0 0] by rw [hw1]; exact Blk.new' _ _ (by simp))
  have hr1 := hr.safe hs
  have S := Lib.hid (((hs.setCell (p := ⟨w.heap.size + 1, 0, none⟩) (.inr (Nat.le_succ _)) (.bool false)).setCell (p := ⟨w.heap.size + 1, 1, none⟩) (.inr (Nat.le_succ _)) (.bool false)).setCell (p := ⟨w.heap.size + 1, 2, none⟩) (.inr (Nat.le_succ _)) (.slice none 0 0))
  obtain ⟨b0, b1, b2⟩ := cells3 B.out
  obtain ⟨r0, r1, r2⟩ := cells3 R.out
  have f0 := R.out.frozen 0
  have f1 := R.out.frozen 1
  have f2 := R.out.frozen 2
  have HW := Lib.hid hw1
  have hcs : (P.length = 0) ∨ ((0 : Int) < P.length ∧ ∃ g, A = some ⟨g, 0, none⟩ ∧ w1.cell? ⟨g, P.length - 1, none⟩ = some (Sv [46, 46])) := by
    by_cases h0 : P = []
    · exact .inl (by rw [h0]; rfl)
    · have hl := List.length_pos_iff.2 h0
      obtain ⟨g, rfl⟩ := hA hl
      refine .inr ⟨by omega, g, rfl, ?_⟩
      have hy := h.resolve_left h0
      rw [List.getLast?_eq_getElem?] at hy
      obtain ⟨ad, ea, hcl⟩ := hr1 hl
      injection ea with ea
      subst ea
      have := hcl _ _ hy
      rwa [add_plain, Nat.zero_add] at this
  generalize P.length = n at *
  have HS0 := Lib.hid hs
  clear hr hA h hr1 hs
  rcases hcs with rfl | ⟨hn, g, rfl, c1⟩
  · clear hw1
    go_enter Tryd.func23, Tryd.ntmps23
    go_wp2_with (fail)
    rw [← HW.out]
    go_wp2
    exact bodyPost_ret (v := .tuple #[.agg #[.bool false, .bool false, .slice none 0 0], Sv [], .bool false]) (by simp [results, Tryd.results23, go_sem, r0, r1, r2, f0, f1, f2]) rfl ⟨rfl, by first | exact HS0.out | exact S.out⟩
  · have C1 := Lib.hid c1
    have hnb : ((n : Int) == 0) = false := by simp; omega
    rw [hw1] at c1
    clear hw1
    go_enter Tryd.func23, Tryd.ntmps23
    go_wp2_with (fail)
    have c1 := C1.out
    rw [← HW.out]
    go_wp2
    exact bodyPost_ret (v := .tuple #[.agg #[.bool false, .bool false, .slice none 0 0], Sv [], .bool false]) (by simp [results, Tryd.results23, go_sem, r0, r1, r2, f0, f1, f2]) rfl ⟨rfl, by first | exact HS0.out | exact S.out⟩
set_option maxRecDepth 100000 in
set_option maxHeartbeats 8000000 in
theorem last_yes (a d : Bool) (g c : Nat) (X : List Bs) (y : Bs) (w : World) (hr : Rd Sv w (some ⟨g, 0, none⟩) (X ++ [y])) (hc : X.length + 1 ≤ c) (hN : X.length ≤ 1000) (hy : y ≠ [46, 46]) :
    Calls Tryd.prog 23 #[Pv a d (some ⟨g, 0, none⟩) (X.length + 1) c] w fun e w' => ∃ v, e = .returned (.tuple #[.agg #[.bool a, .bool true, v], Sv y, .bool true]) ∧ w'.ownsRow w.heap.size 9 1 v X.length (X.map Sv) ∧ Safe w w' := by
  have hl : 0 < (X ++ [y]).length := by simp
  have hlt := hr.lt hl _ rfl
  simp only at hlt
  obtain ⟨m, hm⟩ : ∃ m, m = X.length := ⟨_, rfl⟩
  rw [← hm] at hc hN ⊢
  obtain ⟨w1, hw1⟩ : ∃ w1, w1 = (w.alloc (.cells #[.bool a, .bool d, .slice (some ⟨g, 0, none⟩) (m + 1) c] 25)).alloc (.cells #[.bool false, .bool false, .slice none 0 0] 25) := ⟨_, rfl⟩
  have hs : Safe w w1 := by rw [hw1]; exact ((But.refl _ w).alloc _).alloc _
  have B := Lib.hid (show Blk w1 w.heap.size 25 #[.bool a, .bool d, .slice (some ⟨g, 0, none⟩) (m + 1) c] by rw [hw1]; exact (Blk.new _ _ _).alloc _)
  have R := Lib.hid (show Blk w1 (w.heap.size + 1) 25 #[.bool false, .bool false, .slice none 0 0] by rw [hw1]; exact Blk.new' _ _ (by simp))
  have hsz : w1.heap.size = w.heap.size + 2 := by rw [hw1]; simp
  have hr1 := hr.safe hs
  obtain ⟨b0, b1, b2⟩ := cells3 B.out
  obtain ⟨r0, r1, r2⟩ := cells3 R.out
  have c1 : w1.cell? ⟨g, m, none⟩ = some (Sv y) := by
    obtain ⟨ad, ea, hcl⟩ := hr1 hl
    injection ea with ea
    subst ea
    have := hcl m y (by rw [hm]; simp)
    rwa [add_plain, Nat.zero_add] at this
  have HC := Lib.hid (fun W (hs : Safe w1 W) => (show Calls Tryd.prog 41 #[.slice (some ⟨g, 0, none⟩) m c] W _ from hm ▸ clone_any (some ⟨g, 0, none⟩) X c W (by have := (hr1.take X.length).safe hs; rwa [List.take_left] at this) (fun _ => ⟨g, rfl⟩) (by omega)))
  have hyb : (y == [46, 46]) = false := by simpa using hy
  have hmb : ((m : Int) + 1 == 0) = false := by simp; omega
  have HW := Lib.hid hw1
  have HM := Lib.hid hm
  have HS := Lib.hid hs
  have HSZ := Lib.hid hsz
  have C1 := Lib.hid c1
  have hg1 : Hid (g ≠ w.heap.size + 1) := Lib.hid (by omega)
  rw [hw1] at c1
  clear hw1 hm hs hr hr1 hl hy hsz hlt
  go_enter Tryd.func23, Tryd.ntmps23
  go_wp2_with (fail)
  have c1 := C1.out
  rw [← HW.out]
  have i0 : (0 : Int) ≤ (m : Int) := by omega
  have i1 : (m : Int) ≤ (c : Int) := by omega
  have i2 : (m : Int) < (m : Int) + 1 := by omega
  have i3 : IntKind.i64.wrap (m : Int) = (m : Int) := IntWalk.i64_in _ (by omega)
  have i4 : IntKind.i64.wrap ((m : Int) + 1 - 1) = (m : Int) := by rw [Int.add_sub_cancel]; exact i3
  have i5 : IntKind.i64.wrap ((m : Int) + 1) = (m : Int) + 1 := IntWalk.i64_in _ (by omega)
  go_region_held3 (fun w' => w'.cell? ⟨w.heap.size, 0, none⟩ = some (.bool a) ∧ w'.cell? ⟨w.heap.size, 2, none⟩ = some (.slice (some ⟨g, 0, none⟩) (m + 1) c) ∧ w'.cell? ⟨g, m, none⟩ = some (Sv y))
    (first | (with_reducible exact HKP.out) | (with_reducible exact HKQ.out) | go_keep)
    ((go_at_call 41; refine (HC.out _ (But.refl _ w1).drew).mono ?_; rintro _ w2 ⟨v2, rfl, ho2, hs2⟩; obtain ⟨A2, c2', rfl, hc2⟩ := own_form ho2; (have q0 := hs2.cell b0 id); (have q2 := hs2.cell b2 id); (have qc := hs2.cell c1 id); (have HKP : Hid (_ ∧ _ ∧ _) := Lib.hid ⟨q0, q2, qc⟩);
      (have hkb := (((But.refl (· = w.heap.size + 1) w2).setCell (p := ⟨w.heap.size + 1, 0, none⟩) (.inl rfl) (.bool a)).setCell (p := ⟨w.heap.size + 1, 1, none⟩) (.inl rfl) (.bool true)).setCell (p := ⟨w.heap.size + 1, 2, none⟩) (.inl rfl) (.slice A2 m c2'));
      (have HKQ : Hid (_ ∧ _ ∧ _) := Lib.hid ⟨hkb.cell q0 (Nat.ne_of_lt (Nat.lt_succ_self _)), hkb.cell q2 (Nat.ne_of_lt (Nat.lt_succ_self _)), hkb.cell qc hg1.out⟩); (obtain ⟨t0, t1, t2⟩ := cells3 (R.out.but ((But.refl _ w1).drew.trans hs2) id)); (obtain ⟨f0, f1, f2⟩ : w2.frozen? ⟨w.heap.size + 1, 0, none⟩ = false ∧ w2.frozen? ⟨w.heap.size + 1, 1, none⟩ = false ∧ w2.frozen? ⟨w.heap.size + 1, 2, none⟩ = false := ⟨(R.out.but ((But.refl _ w1).drew.trans hs2) id).frozen 0, (R.out.but ((But.refl _ w1).drew.trans hs2) id).frozen 1, (R.out.but ((But.refl _ w1).drew.trans hs2) id).frozen 2⟩); (have HO2 := Lib.hid ho2); (have HS2 := Lib.hid ((But.refl (fun _ => False) w1).drew.trans hs2)); (have HKB := Lib.hid hkb); clear ho2 hs2 hkb q0 q2 qc))
  have hfin : ((((w2.setCell ⟨w.heap.size + 1, 0, none⟩ (.bool a)).setCell ⟨w.heap.size + 1, 1, none⟩ (.bool true)).setCell ⟨w.heap.size + 1, 2, none⟩ (.slice A2 m c2')).ownsRow w.heap.size 9 1 (.slice A2 m c2') m (X.map Sv)) ∧
      Safe w (((w2.setCell ⟨w.heap.size + 1, 0, none⟩ (.bool a)).setCell ⟨w.heap.size + 1, 1, none⟩ (.bool true)).setCell ⟨w.heap.size + 1, 2, none⟩ (.slice A2 m c2')) := by
    refine ⟨own_base (own_but_kept HO2.out HKB.out (fun k hk e => ?_)) ?_, (HS.out.trans HS2.out).step HKB.out (fun j hj => .inr (by have : j = w.heap.size + 1 := hj; omega))⟩
    · have h1 := (HO2.out.lt k hk).1
      have h2 : w1.drew.heap.size = w1.heap.size := rfl
      have h3 := HSZ.out
      have : k = w.heap.size + 1 := e
      omega
    · have h2 : w1.drew.heap.size = w1.heap.size := rfl
      have h3 := HSZ.out
      omega
  have HFIN := Lib.hid hfin
  clear hfin
  go_wp2
  exact bodyPost_ret (v := .tuple #[.agg #[.bool a, .bool true, .slice A2 m c2'], Sv y, .bool true]) (by simp [results, Tryd.results23, go_sem, t0, t1, t2, f0, f1, f2]) rfl ⟨_, rfl, HFIN.out⟩
end Go.Proofs.YtodlapkmcnmmhaaDoor
