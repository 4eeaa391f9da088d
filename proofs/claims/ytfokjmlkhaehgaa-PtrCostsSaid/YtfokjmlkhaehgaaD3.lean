/- PtrCosts: the law's walk. -/
import Derived.Test.YtfokjmlkhaehgaaD2
import Derived.Test.YtfokjmlkhaehgaaB1
namespace Go.Proofs.Ytfokjmlkhaehgaa
open Go.RowKit
set_option linter.unusedSimpArgs false
set_option linter.unusedVariables false

theorem T25 : SlT Try.prog 25 3 (I 0) 1 8 := ⟨Try.underlying25, by kernel_rfl, rfl, by omega⟩
theorem cost_n (A : Option Addr) (c n : Nat) (xs : List Int) (hl : xs.length = n) (w : World) (hr : Rd I w A xs) (hn : xs.length ≤ 100000) :
    Calls Try.prog 14 #[.slice A n c] w fun e w' => e = .returned (.int .i64 (costL xs)) ∧ Safe w w' := by subst hl; exact cost_any A c xs w hr hn
theorem has_n (A : Option Addr) (c n : Nat) (xs : List Int) (hl : xs.length = n) (w : World) (hr : Rd I w A xs) (hn : xs.length ≤ 100000) :
    Calls Try.prog 16 #[.slice A n c] w fun e w' => e = .returned (.slice (some ⟨w.heap.size, 0, none⟩) 1064 1064) ∧ Blk w' w.heap.size 4 (bools (hasL xs)) ∧ Safe w w' := by subst hl; exact has_any A c xs w hr hn
theorem cells_n {w : World} {A : Option Addr} {L : List Int} {n : Nat} (h : Rd I w A L) (hn : L.length = n) : 0 < n → ∃ ad, A = some ad ∧ ∀ j u, (L.map I)[j]? = some u → w.cell? (ad.add j) = some u := by subst hn; exact h.cells
set_option maxRecDepth 100000 in
set_option maxHeartbeats 4000000 in
theorem ptrCosts_walk (A : Option Addr) (c : Nat) (xs : List Int) (x : Int) (w : World) (hr0 : Rd I w A xs) (n : Nat) (hxn : xs.length = n) (hc : n ≤ c) (hm : n ≤ 9223372036854775807) (hcm : c ≤ 9223372036854775807) :
    Calls Try.prog 4 #[.slice A n c, .int .i64 x] w fun e w' => e = .returned (.bool true) ∧ Safe w w' := by
  have HXN := Lib.hid hxn
  clear hxn
  by_cases h200 : 200 < n
  · have hr := hr0.take 200
    have hln : (xs.take 200).length = 200 := by rw [List.length_take, HXN.out]; omega
    generalize xs.take 200 = L at *
    have HLN := Lib.hid hln
    clear hln hr0
    have hh := cost_has L
    have HH := Lib.hid hh
    clear hh
    go_enter Try.func4, Try.ntmps4
    go_wp2_with fail
    refine (awake_any _).mono ?_
    rintro _ w0 ⟨rfl, hs0⟩
    go_wp2_with fail
    refine (cost_n A c 200 L HLN.out _ (hr.safe hs0) (by simp [HLN.out] <;> omega)).mono ?_
    rintro _ w1 ⟨rfl, hs1⟩
    go_wp2_with fail
    refine (has_n A c 200 L HLN.out _ ((hr.safe hs0).safe hs1) (by simp [HLN.out] <;> omega)).mono ?_
    rintro _ w2 ⟨rfl, hB2, hs2⟩
    go_wp2_with fail
    refine (refCost_any _ (hasL L) (hasL_length L) _ hB2).mono ?_
    rintro _ w3 ⟨rfl, rfl⟩
    rw [HH.out]
    have hs3 := (hs0.trans hs1).trans hs2
    have hr3 := hr.safe hs3
    clear hs1 hs2 hB2
    go_wp2_with (first | (at_builtin; refine wpList_pushAll T25 rfl (.tmp 21) (.tmp 22) rfl w2.heap.size _ 0 [] rfl (World.ownsRow_lit w2 #[] 0 (Nat.le_refl _) (by simp [maxLen]) rfl) A 200 c (L.map I) rfl (by simp [HLN.out]) (cells_n (hr3.alloc _) HLN.out) (by simp [Value.oneCell']) (by simp [maxLen] <;> omega) (by omega) (by simp) ?_; intro v4 w4 ho4 hg4 hl4; have hb4 := own_but (World.ownsRow_lit (base := w2.heap.size) w2 (e := 3) (size := 1) #[] 0 (Nat.le_refl _) (by simp [maxLen]) rfl) hg4) | (at_builtin; refine wpList_push T25 rfl (.tmp 23) (.tmp 25) rfl w2.heap.size v4 (0 + 200) ([] ++ L.map I) rfl (ho4.alloc _) w4.heap.size 3 #[I x] rfl (Blk.new _ _ _) rfl (by simp [Value.oneCell']) (by simp [maxLen] <;> omega) (by omega) (by have := hb4.size; simp at this ⊢; omega) ?_; intro v5 w5 ho5 hg5 _; have hb5 := own_but (ho4.alloc _) hg5))
    have ho5' : w5.ownsRow w2.heap.size 3 1 v5 (L ++ [x]).length ((L ++ [x]).map I) := by rw [List.length_append, HLN.out]; simpa using ho5
    obtain ⟨A5, c5, rfl, hc5⟩ := own_form ho5'
    have hs5 : Safe w w5 := ((hs3.alloc _).step hb4 (fun k hk => .inr (Nat.le_trans hs3.size hk))).alloc _ |>.step hb5 (fun k hk => .inr (Nat.le_trans hs3.size hk))
    refine (cost_any A5 c5 (L ++ [x]) _ (Rd.of_own ho5') (by simp [HLN.out] <;> omega)).mono ?_
    rintro _ w6 ⟨rfl, hs6⟩
    have hS6 := hs5.trans hs6
    have hr6 := hr.safe hS6
    obtain ⟨hle1, hle2⟩ := costL_snoc_le L x
    have hb1 := (small_cst L).t0
    have hb2 := (small_cst L).t1
    have hb3 : costL L ≤ ((3 * L.length : Nat) : Int) + 1 := hb2
    have hb0 : 1 ≤ costL L := hb1
    have htw := costL_twice L
    have HT := Lib.hid htw
    have HC0 := Lib.hid (Eq.refl (costL L))
    rw [HLN.out] at hb3
    clear hb1 hb2 ho4 hg4 hl4 ho5 hg5 ho5' hs5 hs6 hr3 hs0 htw hb4 hb5
    generalize costL (L ++ [x]) = c2 at *
    go_wp2_with fail
    refine (cost_any none 0 [] _ Rd.nil (by simp)).mono ?_
    rintro _ w7 ⟨rfl, hs7⟩
    rw [show costL [] = 1 from rfl]
    have hS7 := hS6.trans hs7
    have hr7 := hr6.safe hs7
    clear hS6 hs7 hr6
    go_wp2_with (first | (at_builtin; refine wpList_pushAll T25 rfl (.tmp 42) (.tmp 43) rfl w7.heap.size _ 0 [] rfl (World.ownsRow_lit w7 #[] 0 (Nat.le_refl _) (by simp [maxLen]) rfl) A 200 c (L.map I) rfl (by simp [HLN.out]) (cells_n (hr7.alloc _) HLN.out) (by simp [Value.oneCell']) (by simp [maxLen] <;> omega) (by omega) (by simp) ?_; intro v8 w8 ho8 hg8 hl8; have hb8 := own_but (World.ownsRow_lit (base := w7.heap.size) w7 (e := 3) (size := 1) #[] 0 (Nat.le_refl _) (by simp [maxLen]) rfl) hg8; have hS8 := (hS7.alloc (.cells #[] 3)).step hb8 (fun k hk => .inr (Nat.le_trans hS7.size hk))) | (at_builtin; refine wpList_pushAll T25 rfl (.tmp 44) (.tmp 45) rfl w7.heap.size v8 (0 + 200) ([] ++ L.map I) rfl ho8 A 200 c (L.map I) rfl (by simp [HLN.out]) (cells_n (hr.safe hS8) HLN.out) (by simp [Value.oneCell']) (by simp [maxLen] <;> omega) (by omega) (by have := hb8.size; simp at this ⊢; omega) ?_; intro v9 w9 ho9 hg9 _; have hb9 := own_but ho8 hg9))
    have ho9' : w9.ownsRow w7.heap.size 3 1 v9 (L ++ L).length ((L ++ L).map I) := by rw [List.length_append, HLN.out]; simpa using ho9
    obtain ⟨A9, c9, rfl, hc9⟩ := own_form ho9'
    have hS9 : Safe w w9 := hS8.step hb9 (fun k hk => .inr (Nat.le_trans hS7.size hk))
    refine (cost_any A9 c9 (L ++ L) _ (Rd.of_own ho9') (by simp [HLN.out] <;> omega)).mono ?_
    rintro _ w10 ⟨rfl, hs10⟩
    rw [HT.out]
    go_wp2_with fail
    go_ret
    exact ⟨rfl, hS9.trans hs10⟩
  · obtain ⟨L, rfl⟩ : ∃ L, L = xs := ⟨_, rfl⟩
    have hr := hr0
    have HLN := HXN
    have hh := cost_has L
    have HH := Lib.hid hh
    clear hh hr0
    go_enter Try.func4, Try.ntmps4
    go_wp2_with fail
    refine (awake_any _).mono ?_
    rintro _ w0 ⟨rfl, hs0⟩
    go_wp2_with fail
    refine (cost_n A c n L HLN.out _ (hr.safe hs0) (by simp [HLN.out] <;> omega)).mono ?_
    rintro _ w1 ⟨rfl, hs1⟩
    go_wp2_with fail
    refine (has_n A c n L HLN.out _ ((hr.safe hs0).safe hs1) (by simp [HLN.out] <;> omega)).mono ?_
    rintro _ w2 ⟨rfl, hB2, hs2⟩
    go_wp2_with fail
    refine (refCost_any _ (hasL L) (hasL_length L) _ hB2).mono ?_
    rintro _ w3 ⟨rfl, rfl⟩
    rw [HH.out]
    have hs3 := (hs0.trans hs1).trans hs2
    have hr3 := hr.safe hs3
    clear hs1 hs2 hB2
    go_wp2_with (first | (at_builtin; refine wpList_pushAll T25 rfl (.tmp 21) (.tmp 22) rfl w2.heap.size _ 0 [] rfl (World.ownsRow_lit w2 #[] 0 (Nat.le_refl _) (by simp [maxLen]) rfl) A n c (L.map I) rfl (by simp [HLN.out]) (cells_n (hr3.alloc _) HLN.out) (by simp [Value.oneCell']) (by simp [maxLen] <;> omega) (by omega) (by simp) ?_; intro v4 w4 ho4 hg4 hl4; have hb4 := own_but (World.ownsRow_lit (base := w2.heap.size) w2 (e := 3) (size := 1) #[] 0 (Nat.le_refl _) (by simp [maxLen]) rfl) hg4) | (at_builtin; refine wpList_push T25 rfl (.tmp 23) (.tmp 25) rfl w2.heap.size v4 (0 + n) ([] ++ L.map I) rfl (ho4.alloc _) w4.heap.size 3 #[I x] rfl (Blk.new _ _ _) rfl (by simp [Value.oneCell']) (by simp [maxLen] <;> omega) (by omega) (by have := hb4.size; simp at this ⊢; omega) ?_; intro v5 w5 ho5 hg5 _; have hb5 := own_but (ho4.alloc _) hg5))
    have ho5' : w5.ownsRow w2.heap.size 3 1 v5 (L ++ [x]).length ((L ++ [x]).map I) := by rw [List.length_append, HLN.out]; simpa using ho5
    obtain ⟨A5, c5, rfl, hc5⟩ := own_form ho5'
    have hs5 : Safe w w5 := ((hs3.alloc _).step hb4 (fun k hk => .inr (Nat.le_trans hs3.size hk))).alloc _ |>.step hb5 (fun k hk => .inr (Nat.le_trans hs3.size hk))
    refine (cost_any A5 c5 (L ++ [x]) _ (Rd.of_own ho5') (by simp [HLN.out] <;> omega)).mono ?_
    rintro _ w6 ⟨rfl, hs6⟩
    have hS6 := hs5.trans hs6
    have hr6 := hr.safe hS6
    obtain ⟨hle1, hle2⟩ := costL_snoc_le L x
    have hb1 := (small_cst L).t0
    have hb2 := (small_cst L).t1
    have hb3 : costL L ≤ ((3 * L.length : Nat) : Int) + 1 := hb2
    have hb0 : 1 ≤ costL L := hb1
    have htw := costL_twice L
    have HT := Lib.hid htw
    have HC0 := Lib.hid (Eq.refl (costL L))
    rw [HLN.out] at hb3
    clear hb1 hb2 ho4 hg4 hl4 ho5 hg5 ho5' hs5 hs6 hr3 hs0 htw hb4 hb5
    generalize costL (L ++ [x]) = c2 at *
    go_wp2_with fail
    refine (cost_any none 0 [] _ Rd.nil (by simp)).mono ?_
    rintro _ w7 ⟨rfl, hs7⟩
    rw [show costL [] = 1 from rfl]
    have hS7 := hS6.trans hs7
    have hr7 := hr6.safe hs7
    clear hS6 hs7 hr6
    go_wp2_with (first | (at_builtin; refine wpList_pushAll T25 rfl (.tmp 42) (.tmp 43) rfl w7.heap.size _ 0 [] rfl (World.ownsRow_lit w7 #[] 0 (Nat.le_refl _) (by simp [maxLen]) rfl) A n c (L.map I) rfl (by simp [HLN.out]) (cells_n (hr7.alloc _) HLN.out) (by simp [Value.oneCell']) (by simp [maxLen] <;> omega) (by omega) (by simp) ?_; intro v8 w8 ho8 hg8 hl8; have hb8 := own_but (World.ownsRow_lit (base := w7.heap.size) w7 (e := 3) (size := 1) #[] 0 (Nat.le_refl _) (by simp [maxLen]) rfl) hg8; have hS8 := (hS7.alloc (.cells #[] 3)).step hb8 (fun k hk => .inr (Nat.le_trans hS7.size hk))) | (at_builtin; refine wpList_pushAll T25 rfl (.tmp 44) (.tmp 45) rfl w7.heap.size v8 (0 + n) ([] ++ L.map I) rfl ho8 A n c (L.map I) rfl (by simp [HLN.out]) (cells_n (hr.safe hS8) HLN.out) (by simp [Value.oneCell']) (by simp [maxLen] <;> omega) (by omega) (by have := hb8.size; simp at this ⊢; omega) ?_; intro v9 w9 ho9 hg9 _; have hb9 := own_but ho8 hg9))
    have ho9' : w9.ownsRow w7.heap.size 3 1 v9 (L ++ L).length ((L ++ L).map I) := by rw [List.length_append, HLN.out]; simpa using ho9
    obtain ⟨A9, c9, rfl, hc9⟩ := own_form ho9'
    have hS9 : Safe w w9 := hS8.step hb9 (fun k hk => .inr (Nat.le_trans hS7.size hk))
    refine (cost_any A9 c9 (L ++ L) _ (Rd.of_own ho9') (by simp [HLN.out] <;> omega)).mono ?_
    rintro _ w10 ⟨rfl, hs10⟩
    rw [HT.out]
    go_wp2_with fail
    go_ret
    exact ⟨rfl, hS9.trans hs10⟩
theorem ptrCosts_walk' (A : Option Addr) (c : Nat) (xs : List Int) (x : Int) (w : World) (hr : Rd I w A xs) (n : Nat) (hxn : xs.length = n) (hc : n ≤ c) (hcm : c ≤ 9223372036854775807) :
    Calls Try.prog 4 #[.slice A n c, .int .i64 x] w fun e w' => e = .returned (.bool true) ∧ Safe w w' :=
  ptrCosts_walk A c xs x w hr n hxn hc (by omega) hcm
end Go.Proofs.Ytfokjmlkhaehgaa
