/- seal: Crc is a function of the bytes. -/
import Derived.Test.YtgbdnghbamaecaaNf
namespace Go.Proofs.Ytgbdnghbamaecaa
open Go.RowKit
set_option linter.unusedSimpArgs false
set_option linter.unusedVariables false

def crcStep (z : Int) : Int := if (bits .and .u32 z 1 == 1) = true then bits .xor .u32 (z / 2) 3988292384 else z / 2
def crc8 : Nat → Int → Int
  | 0, z => z
  | k + 1, z => crcStep (crc8 k z)
def crcB (z b : Int) : Int := crc8 8 (bits .xor .u32 z b)
def crcL (bs : List Int) : Int := bs.foldl crcB 4294967295
theorem crcL_snoc (bs : List Int) (b : Int) : crcL (bs ++ [b]) = crcB (crcL bs) b := by simp [crcL]
def crcM (bs : List Int) : Int := bits .xor .u32 IntKind.u32.max (crcL bs)
theorem crcM_range (bs : List Int) : 0 ≤ crcM bs ∧ crcM bs < 4294967296 := by
  show 0 ≤ IntKind.u32.wrap _ ∧ IntKind.u32.wrap _ < _
  simp only [IntKind.wrap, IntKind.bits, IntKind.signed]
  simp
  omega
set_option maxRecDepth 100000 in
set_option maxHeartbeats 2000000 in
theorem crc_any (A : Option Addr) (bs : List Int) (c : Nat) (w : World) (hr : Rd U w A bs) (hu : ∀ x ∈ bs, 0 ≤ x ∧ x < 256) (hb : bs.length ≤ 1000) :
    Calls Try.prog 16 #[.slice A bs.length c] w fun e w' => e = .returned (.int .u32 (crcM bs)) ∧ w = w' := by
  have HR := Lib.hid hr
  clear hr
  go_enter Try.func16, Try.ntmps16
  go_wp2_with fail
  go_loop [3, 9] (fun s x => ∃ (j : Nat), j ≤ bs.length ∧ x = .int .i64 j ∧ s = .int .u32 (crcL (bs.take j))) (fun _ x => bs.length - (intOf x).toNat)
  case atStart => exact ⟨0, by omega, rfl, rfl⟩
  case round =>
    obtain ⟨j, hj, rfl, rfl⟩ := hrel
    by_cases hlt : j < bs.length
    · obtain ⟨ad, hA, hc⟩ := HR.out.at hlt
      subst hA
      have hlt2 : (j : Int) < bs.length := by omega
      have hx := hu _ (List.getElem_mem hlt)
      have hsn : crcL (bs.take (j + 1)) = crcB (crcL (bs.take j)) bs[j] := by rw [List.take_succ_eq_append_getElem hlt, crcL_snoc]
      generalize bs[j] = b at *
      generalize crcL (bs.take j) = y at *
      have HSN := Lib.hid hsn
      clear hsn
      go_wp2_with fail
      generalize hz0 : bits .xor .u32 y b = z0
      have HZ0 := Lib.hid hz0
      clear hz0
      go_loop [3, 17] (fun s x => ∃ (k : Nat), k ≤ 8 ∧ x = .int .i64 k ∧ s = .int .u32 (crc8 k z0)) (fun _ x => 8 - (intOf x).toNat)
      case atStart => exact ⟨0, by omega, rfl, rfl⟩
      case round =>
        obtain ⟨k, hk, rfl, rfl⟩ := hrel
        by_cases hlk : k < 8
        · have hlk2 : (k : Int) < 8 := by omega
          have hst : crc8 (k + 1) z0 = crcStep (crc8 k z0) := rfl
          generalize crc8 k z0 = z at *
          have HST := Lib.hid hst
          clear hst
          cases hq : (bits .and .u32 z 1 == 1)
          · have e : crcStep z = z / 2 := by rw [crcStep, if_neg (by rw [hq]; simp)]
            have E := Lib.hid e
            clear e
            go_wp2
            go_round
            case rel => exact ⟨k + 1, by omega, by go_num, by rw [HST.out, E.out]⟩
            case measure => simp [intOf]; omega
          · have e : crcStep z = bits .xor .u32 (z / 2) 3988292384 := by rw [crcStep, if_pos hq]
            have E := Lib.hid e
            clear e
            go_wp2
            go_round
            case rel => exact ⟨k + 1, by omega, by go_num, by rw [HST.out, E.out]⟩
            case measure => simp [intOf]; omega
        · obtain rfl : k = 8 := by omega
          go_wp2
          go_round
          case rel => exact ⟨j + 1, by omega, by go_num, by rw [HSN.out, crcB, HZ0.out]⟩
          case measure => simp [intOf]; omega
    · obtain rfl : j = bs.length := by omega
      rw [List.take_length]
      go_wp2
      all_goals first
        | (exfalso; have h9 : IntKind.u32.signed = true := by assumption
           exact absurd h9 (by decide))
        | (go_ret; exact ⟨rfl, rfl⟩)
end Go.Proofs.Ytgbdnghbamaecaa
