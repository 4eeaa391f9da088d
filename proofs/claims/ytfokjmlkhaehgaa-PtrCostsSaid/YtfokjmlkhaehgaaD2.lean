/- The reference's Cost: the walk. -/
import Derived.Test.YtfokjmlkhaehgaaD1
namespace Go.Proofs.Ytfokjmlkhaehgaa
open Go.RowKit
set_option linter.unusedSimpArgs false
set_option linter.unusedVariables false

theorem small_up (L : List Bool) (i : Nat) (h : i ≤ 1064) : 1 ≤ costL (upTo L i) ∧ costL (upTo L i) ≤ 4000 := by
  have h0 := (small_cst (upTo L i)).t0
  have h1 := (small_cst (upTo L i)).t1
  have hl : (upTo L i).length ≤ i := by
    unfold upTo
    rw [List.length_map]
    have := List.length_filter_le (fun j => L.getD j false) (List.range i)
    simpa using this
  exact ⟨h0, by have : costL (upTo L i) ≤ ((3 * (upTo L i).length : Nat) : Int) + 1 := h1; omega⟩
set_option maxRecDepth 100000 in
set_option maxHeartbeats 4000000 in
theorem refCost_any (g : Nat) (L : List Bool) (hL : L.length = 1064) (w : World) (hB : Blk w g 4 (bools L)) :
    Calls Try.prog 15 #[.slice (some ⟨g, 0, none⟩) 1064 1064] w fun e w' => e = .returned (I (costL (upTo L 1064))) ∧ w = w' := by
  go_enter Try.func15, Try.ntmps15
  go_wp2
  go_loop [3, 4, 5, 6, 7] (fun n s d lf i => ∃ (k : Nat) (nn : Int) (ss dd : Bool) (ll : Int), i = .int .i64 k ∧ n = .int .i64 nn ∧ s = .bool ss ∧ d = .bool dd ∧ lf = .int .i64 ll ∧ RefC L k nn ss dd ll) (fun _ _ _ _ i => 1064 - (intOf i).toNat)
  case atStart => exact ⟨0, 1, false, false, -1, rfl, rfl, rfl, rfl, rfl, RefC.start L⟩
  case round =>
    obtain ⟨k, n, s, d, lf, rfl, rfl, rfl, rfl, rfl, hC⟩ := hrel
    have hk := hC.i
    have hb := small_up L k hk
    rw [← hC.n] at hb
    obtain ⟨hb0, hb1⟩ := hb
    by_cases hlt : k < 1064
    · have c0 := hB.cell' (bools_get L k (by omega))
      by_cases hhas : L.getD k false = true
      · rw [hhas] at c0
        by_cases h8 : k < 8
        · have hn := hC.low h8 hhas
          clear hC hhas
          go_wp2
          go_round
          case rel => exact ⟨k + 1, _, _, _, _, by go_num, rfl, rfl, rfl, rfl, hn⟩
          case measure => simp [intOf]; omega
        · by_cases h40 : k < 40
          · have hn := hC.mid (by omega) h40 hhas
            clear hC hhas
            cases s
            all_goals
              go_wp2
              go_round
              case rel => exact ⟨k + 1, _, _, _, _, by go_num, rfl, rfl, rfl, rfl, by simpa using hn⟩
              case measure => simp [intOf]; omega
          · have hn := hC.high (by omega) hlt hhas
            clear hC hhas
            have hlf : ∀ P : Prop, P → P := fun _ p => p
            by_cases hl : ((k : Int) - 40) / 32 = lf
            · have hl1 : (((k : Int) - 40) / 32 != lf) = false := by simpa using hl
              rw [if_pos hl] at hn
              have HL := Lib.hid hl
              have HN := Lib.hid hn
              clear hl hn
              cases d
              all_goals
                go_wp2
                go_round
                case rel => exact ⟨k + 1, _, _, _, _, by go_num, rfl, rfl, rfl, rfl, by have := HN.out; rw [HL.out] at this; simpa using this⟩
                case measure => simp [intOf]; omega
            · have hl1 : (((k : Int) - 40) / 32 != lf) = true := by simpa using hl
              rw [if_neg hl] at hn
              have HN := Lib.hid hn
              clear hl hn
              cases d
              all_goals
                go_wp2
                go_round
                case rel => exact ⟨k + 1, _, _, _, _, by go_num, rfl, rfl, rfl, rfl, by simpa using HN.out⟩
                case measure => simp [intOf]; omega
      · have hf : L.getD k false = false := by simpa using hhas
        rw [hf] at c0
        have hn := hC.no hlt hf
        clear hhas hf hC
        go_wp2
        go_round
        case rel => exact ⟨k + 1, _, _, _, _, by go_num, rfl, rfl, rfl, rfl, hn⟩
        case measure => simp [intOf]; omega
    · obtain rfl : k = 1064 := by omega
      have HN := Lib.hid hC.n
      clear hC
      go_wp2
      go_ret
      exact ⟨by rw [← HN.out]; rfl, rfl⟩
end Go.Proofs.Ytfokjmlkhaehgaa
