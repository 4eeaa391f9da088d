/- num: Put and Get. -/
import Derived.Test.YtodlapkmcnmmhaaDoorNb
namespace Go.Proofs.YtodlapkmcnmmhaaDoor
open Go.RowKit
set_option linter.unusedSimpArgs false
set_option linter.unusedVariables false

theorem shr_zero {n wd : Nat} (h : n < 256 ^ wd) : ((n : Int) / 2 ^ (8 * wd) != 0) = false := by
  have e : (256 : Nat) ^ wd = 2 ^ (8 * wd) := by rw [Nat.pow_mul]
  rw [e] at h
  have h2 : (n : Int) / 2 ^ (8 * wd) = ((n / 2 ^ (8 * wd) : Nat) : Int) := by simp
  rw [h2, Nat.div_eq_of_lt h]
  rfl
theorem shr_byte (n i : Nat) : (n : Int) / 2 ^ (8 * i) % 256 = ((n / 256 ^ i % 256 : Nat) : Int) := by
  have e : (256 : Nat) ^ i = 2 ^ (8 * i) := by rw [Nat.pow_mul]
  rw [e]
  simp
set_option maxRecDepth 100000 in
set_option maxHeartbeats 2000000 in
theorem put_yes (g : Nat) (t : TypeId) (bs : List Int) (rest : List Value) (at' wd n c : Nat) (w : World) (h : Blk w g t (encS bs rest)) (h1 : 1 ≤ wd) (h2 : wd ≤ 8) (h3 : at' + wd ≤ bs.length) (hb : bs.length ≤ 1000) (hn : n < 256 ^ wd) :
    Calls Tryd.prog 47 #[.slice (some ⟨g, 0, none⟩) bs.length c, I at', I wd, .int .u64 n] w fun e w' => e = .returned (I 0) ∧ Blk w' g t (encS (wrL bs at' (lowL wd n)) rest) ∧ But (· = g) w w' := by
  have hF := Lib.hid (fits_yes (some ⟨g, 0, none⟩) bs.length c at' wd w (by omega) (by omega) (by omega) (by omega) (by omega))
  have hz := shr_zero hn
  have HN := Lib.hid hn
  clear hn
  have h8 : ((wd : Int) < 8) ∨ ¬ ((wd : Int) < 8) := by omega
  rcases h8 with h8 | h8
  all_goals
    go_enter Tryd.func47, Tryd.ntmps47
    go_wp2_with fail
    refine (hF.out).mono ?_
    rintro _ _ ⟨rfl, rfl⟩
    go_wp2_with fail
    go_loopw [27] (fun x wr => ∃ i : Nat, i ≤ wd ∧ x = .int .i64 i ∧ Blk wr g t (encS (wrL bs at' (lowL i n)) rest) ∧ But (· = g) w wr) (fun x _ => wd - (intOf x).toNat)
    case atStart => exact ⟨0, by omega, rfl, by rw [lowL, wrL_nil]; exact h, But.refl _ _⟩
    case round =>
      obtain ⟨i, hi, rfl, hB, hS⟩ := hrel
      obtain ⟨wo, rfl⟩ : ∃ wo : World, wo = wr := ⟨_, rfl⟩
      by_cases hlt : i < wd
      · have hlen : (wrL bs at' (lowL i n)).length = bs.length := wrL_len (by rw [lowL_len]; omega)
        obtain ⟨x, hx⟩ : ∃ x, (wrL bs at' (lowL i n))[at' + i]? = some x := ⟨_, List.getElem?_eq_getElem (by omega)⟩
        have hc := hB.cell' (encS_byte (rest := rest) hx)
        have hf := hB.frozen (at' + i)
        have hB2 := hB.set (at' + i) (U ((n / 256 ^ i % 256 : Nat) : Int))
        have hS2 := hS.setCell (p := ⟨g, at' + i, none⟩) (.inl rfl) (U ((n / 256 ^ i % 256 : Nat) : Int))
        have e := wrL_snoc (bs := bs) (at' := at') (ys := lowL i n) (x := ((n / 256 ^ i % 256 : Nat) : Int)) (by rw [lowL_len]; omega)
        rw [lowL_len, ← lowL_snoc] at e
        rw [encS_set (by omega), ← e] at hB2
        have HB2 := Lib.hid hB2
        have HS2 := Lib.hid hS2
        have hlt2 : (i : Int) < wd := by omega
        clear hB hS hx hB2 hS2 e hlen h
        go_wp2
        go_roundw
        case rel => exact ⟨i + 1, by omega, by go_num, by rw [shr_byte]; exact HB2.out, by rw [shr_byte]; exact HS2.out⟩
        case measure => simp [intOf]; omega
      · obtain rfl : i = wd := by omega
        go_wp2
        go_ret
        exact ⟨rfl, hB, hS⟩
theorem u64_small {n : Nat} (h : n < 18446744073709551616) : IntKind.u64.wrap (n : Int) = n := by
  simp [IntKind.wrap, IntKind.bits, IntKind.signed]
  omega
theorem or_shl {a i : Nat} {x : Int} (ha : a < 256 ^ i) (hi : i < 8) (h0 : 0 ≤ x) (hx : x < 256) : bits .or .u64 (a : Int) (IntKind.u64.wrap (x * 2 ^ (8 * i))) = ((a + x.toNat * 256 ^ i : Nat) : Int) := by
  obtain ⟨X, rfl⟩ : ∃ X : Nat, x = X := ⟨x.toNat, by omega⟩
  have e : (256 : Nat) ^ i = 2 ^ (8 * i) := by rw [Nat.pow_mul]
  rw [e] at ha
  rw [e, Int.toNat_natCast]
  have hp : 2 ^ (8 * i) * 256 ≤ (18446744073709551616 : Nat) := by
    have h1 : (2 : Nat) ^ (8 * i) * 2 ^ 8 = 2 ^ (8 * i + 8) := by rw [Nat.pow_add]
    have h2 : (2 : Nat) ^ (8 * i + 8) ≤ 2 ^ 64 := Nat.pow_le_pow_right (by omega) (by omega)
    omega
  have hX : X < 256 := by omega
  have h1 : X * 2 ^ (8 * i) ≤ 255 * 2 ^ (8 * i) := Nat.mul_le_mul_right _ (by omega)
  have e1 : (X : Int) * 2 ^ (8 * i) = ((X * 2 ^ (8 * i) : Nat) : Int) := by simp
  rw [e1, u64_small (by omega)]
  show IntKind.u64.wrap (((BitVec.ofInt 64 (a : Int) ||| BitVec.ofInt 64 ((X * 2 ^ (8 * i) : Nat) : Int)).toNat : Nat) : Int) = _
  have e2 : ∀ n : Nat, n < 18446744073709551616 → (BitVec.ofInt 64 (n : Int)).toNat = n := fun n h => by
    rw [BitVec.toNat_ofInt]; omega
  rw [BitVec.toNat_or, e2 _ (by omega), e2 _ (by omega)]
  have e3 := Nat.two_pow_add_eq_or_of_lt ha X
  rw [Nat.or_comm, Nat.mul_comm X, ← e3, u64_small (by rw [Nat.mul_comm]; omega)]
  congr 1
  omega
/-- The bytes at a place. -/
def segL (bs : List Int) (at' wd : Nat) : List Int := (bs.drop at').take wd
theorem segL_len {bs : List Int} {at' wd : Nat} (h : at' + wd ≤ bs.length) : (segL bs at' wd).length = wd := by unfold segL; simp; omega
theorem segL_snoc {bs : List Int} {at' i : Nat} (h : at' + i < bs.length) : segL bs at' (i + 1) = segL bs at' i ++ [bs[at' + i]] := by
  unfold segL
  rw [List.take_succ_eq_append_getElem (by simp; omega)]
  simp
set_option maxRecDepth 100000 in
set_option maxHeartbeats 2000000 in
theorem get_yes (A : Option Addr) (bs : List Int) (hu : ∀ x ∈ bs, 0 ≤ x ∧ x < 256) (at' wd c : Nat) (w : World) (hr : Rd U w A bs) (h1 : 1 ≤ wd) (h2 : wd ≤ 8) (h3 : at' + wd ≤ bs.length) (hb : bs.length ≤ 1000) :
    Calls Tryd.prog 48 #[.slice A bs.length c, I at', I wd] w fun e w' => e = .returned (.tuple #[.int .u64 (leN (segL bs at' wd)), I 0]) ∧ w = w' := by
  have hF := Lib.hid (fits_yes A bs.length c at' wd w (by omega) (by omega) (by omega) (by omega) (by omega))
  obtain ⟨ad, hA, hcell⟩ := hr (by omega)
  subst hA
  have HC := Lib.hid hcell
  clear hcell hr
  go_enter Tryd.func48, Tryd.ntmps48
  go_wp2_with fail
  refine (hF.out).mono ?_
  rintro _ _ ⟨rfl, rfl⟩
  go_wp2_with fail
  go_loop [8, 16] (fun y x => ∃ i : Nat, i ≤ wd ∧ x = .int .i64 i ∧ y = .int .u64 (leN (segL bs at' i))) (fun _ x => wd - (intOf x).toNat)
  case atStart => exact ⟨0, by omega, rfl, rfl⟩
  case round =>
    obtain ⟨i, hi, rfl, rfl⟩ := hrel
    by_cases hlt : i < wd
    · have hc := HC.out (at' + i) _ (List.getElem?_eq_getElem (by omega))
      have hsn := segL_snoc (bs := bs) (at' := at') (i := i) (by omega)
      have hlt2 : (i : Int) < wd := by omega
      have hx := hu _ (List.getElem_mem (show at' + i < bs.length by omega))
      have hl := segL_len (bs := bs) (at' := at') (wd := i) (by omega)
      generalize bs[at' + i] = x at *
      have hlt3 := leN_lt (segL bs at' i) (fun y hy => hu y (List.mem_of_mem_drop (List.mem_of_mem_take hy)))
      rw [hl] at hlt3
      have HLT := Lib.hid hlt3
      have HSN := Lib.hid hsn
      have HL := Lib.hid hl
      clear hlt3
      clear hsn hl
      go_wp2
      go_round
      case rel => exact ⟨i + 1, by omega, by go_num, by rw [HSN.out, leN_snoc, HL.out, or_shl HLT.out (by omega) hx.1 hx.2]⟩
      case measure => simp [intOf]; omega
    · obtain rfl : i = wd := by omega
      go_wp2
      go_ret2
      exact ⟨rfl, rfl⟩
end Go.Proofs.YtodlapkmcnmmhaaDoor
