/- The reference's processes: Children, New; ints of law 22. -/
import Derived.Test.YtlojadpbdbhmiaaZb
namespace Go.Proofs.Ytlojadpbdbhmiaa
open Go.RowKit
set_option linter.unusedSimpArgs false
set_option linter.unusedVariables false

set_option maxRecDepth 100000 in
set_option maxHeartbeats 1000000 in
theorem rchildren_any (base : Nat) (v : Value) (ps : List PR) (most last now pid : Int) (w : World) (h : LP w base v ps) (h16 : ps.length ≤ 16) :
    Calls Try.prog 99 #[aggT v most last now, .int .i64 pid] w fun e w' => OwnP w w' e (whichP (fun p => p.parent == pid) ps) := by
  obtain ⟨A, c, rfl, hc, hcm, hrd, -⟩ := h
  obtain ⟨W, hW⟩ : ∃ W, W = w.alloc (.cells #[.slice A ps.length c, I most, I last, I now] 91) := ⟨_, rfl⟩
  have hsW : Safe w W := by rw [hW]; exact (But.refl _ w).alloc _
  have hb : Blk W w.heap.size 91 #[.slice A ps.length c, I most, I last, I now] := by rw [hW]; exact Blk.new _ _ _
  have hrd' := hrd.but hsW (fun _ _ => id)
  have HR := Lib.hid hrd'
  have HB := Lib.hid hb
  have HW := Lib.hid hW
  have HSW := Lib.hid hsW
  clear hrd hrd' hb hW hsW
  go_enter Try.func99, Try.ntmps99
  go_wp2
  rw [← HW.out]
  go_loopw [5, 6] (fun v i wr => ∃ k : Nat, k ≤ ps.length ∧ i = .int .i64 k ∧ wr.ownsRow W.heap.size 3 1 v (whichP (fun p => p.parent == pid) (ps.take k)).length ((whichP (fun p => p.parent == pid) (ps.take k)).map I) ∧ Safe W wr) (fun _ i _ => ps.length - (intOf i).toNat)
  case atStart => exact ⟨0, by omega, rfl, World.ownsRow_nil _ _ _ _, But.refl _ _⟩
  case round =>
    obtain ⟨k, hk, rfl, hown, hS⟩ := hrel
    obtain ⟨wo, rfl⟩ : ∃ wo : World, wo = wr := ⟨_, rfl⟩
    have d0 := (HB.out.but hS id).cell' (i := 0) rfl
    by_cases hlt : k < ps.length
    · obtain ⟨p, hp⟩ : ∃ p, ps[k]? = some p := ⟨_, List.getElem?_eq_getElem hlt⟩
      obtain ⟨ad, rfl, hat⟩ := (HR.out.but hS (fun _ _ => id)).at hp
      have a0 := hat.c0
      have a1 := hat.c1
      have hki : (k : Int) < ps.length := by omega
      have hl := whichP_len (fun p => p.parent == pid) ps k
      have hsn := whichP_snoc (fun p => p.parent == pid) hp
      have hsz := HSW.out.size
      have hszo := hS.size
      have HS := Lib.hid hS
      have HOW := Lib.hid hown
      have HN := Lib.hid hsn
      clear hp hS hown hsn hat
      cases hf : (p.parent == pid)
      · rw [hf] at HN
        go_wp2_with fail
        go_roundw
        case rel => exact ⟨k + 1, by omega, by go_num, by rw [HN.out]; exact HOW.out, HS.out⟩
        case measure => simp [intOf]; omega
      · rw [hf, if_pos rfl] at HN
        have h63 : (whichP (fun p => p.parent == pid) (ps.take k)).length + 1 ≤ maxLen := by simp [maxLen]; omega
        have hby : ((whichP (fun p => p.parent == pid) (ps.take k)).length + 1) * 8 ≤ 140737488355328 := by omega
        have hba : W.heap.size ≤ (wo.alloc (.cells #[I p.pid] 3)).heap.size := by
          show _ ≤ (wo.heap.push _).size
          rw [Array.size_push]; omega
        have hone : ∀ u ∈ (#[I p.pid] : Array Value).toList, u.oneCell' = true := by simp [Value.oneCell']
        generalize whichP (fun p => p.parent == pid) (ps.take k) = L at *
        go_wp2_with (at_builtin; go_must (refine wpList_push slIntsP rfl (.tmp 22) (.tmp 29) rfl W.heap.size u5 L.length _ rfl (own_safe HOW.out ((But.refl _ _).alloc _)) wo.heap.size 3 #[I p.pid] rfl (Blk.new _ _ _) rfl hone h63 hby hba ?_); intro v1 w5 ho hg hd; have hs6 := safe_own (HS.out.alloc (.cells #[I p.pid] 3)) (own_safe HOW.out ((But.refl _ _).alloc _)) hg (Nat.le_refl _); have HO1 := Lib.hid ho; have HS6 := Lib.hid hs6; clear ho hg hd hs6)
        go_roundw
        case rel => exact ⟨k + 1, by omega, by go_num, by rw [HN.out, List.length_append, List.map_append]; exact HO1.out, HS6.out⟩
        case measure => simp [intOf]; omega
    · obtain rfl : k = ps.length := by omega
      rw [List.take_length] at hown
      have HOW := Lib.hid hown
      clear hown
      go_wp2
      go_ret
      exact ⟨_, rfl, own_low HOW.out HSW.out.size, HSW.out.trans hS⟩
set_option maxRecDepth 100000 in
set_option maxHeartbeats 1000000 in
theorem rnew_any (m : Int) (w : World) : Calls Try.prog 52 #[.int .i64 m] w fun e w' => PRet w w' w.heap.size e (fun v => aggT v (mostP m) 1 0) [initR] := by
  obtain ⟨n, hn⟩ : ∃ n, n = mostP m := ⟨_, rfl⟩
  rw [← hn]
  have hcs : (m < 1 ∧ n = 1) ∨ (¬ m < 1 ∧ 16 < m ∧ n = 16) ∨ (¬ m < 1 ∧ ¬ 16 < m ∧ m = n) := by unfold mostP at hn; omega
  clear hn
  obtain ⟨W, hW⟩ : ∃ W, W = (w.alloc (.cells #[.slice (some ⟨w.heap.size + 1, 0, none⟩) 1 1, I n, I 1, I 0] 91)).alloc (.cells (encR initR).toArray 145) := ⟨_, rfl⟩
  have hs0 : Safe w W := by rw [hW]; exact ((But.refl _ w).alloc _).alloc _
  have ho : W.ownsRow w.heap.size 145 6 (.slice (some ⟨w.heap.size + 1, 0, none⟩) 1 1) 1 ([initR].flatMap encR) := by
    rw [hW]
    have := World.ownsRow_lit (base := w.heap.size) (e := 145) (size := 6) (w.alloc (.cells #[.slice (some ⟨w.heap.size + 1, 0, none⟩) 1 1, I n, I 1, I 0] 91)) (encR initR).toArray 1 (by simp) (by simp [maxLen]) rfl
    simpa using this
  have hbb : Blk W w.heap.size 91 #[.slice (some ⟨w.heap.size + 1, 0, none⟩) 1 1, I n, I 1, I 0] := by rw [hW]; exact (Blk.new _ _ _).alloc _
  have HF : Hid (LP W w.heap.size (.slice (some ⟨w.heap.size + 1, 0, none⟩) 1 1) [initR] ∧ Safe w W) := Lib.hid ⟨LP.of_own ho, hs0⟩
  obtain ⟨r0, r1, r2, r3⟩ := cells4 hbb
  have HW := Lib.hid hW
  clear hs0 ho hbb hW
  rcases hcs with ⟨h1, rfl⟩ | ⟨h1, h2, rfl⟩ | ⟨h1, h2, rfl⟩
  all_goals
    go_enter Try.func52, Try.ntmps52
    go_wp2
    rw [show (w.alloc (.cells #[.slice (some ⟨w.heap.size + 1, 0, none⟩) 1 1, _, .int .i64 1, .int .i64 0] 91)).alloc (.cells #[.int .i64 1, .int .i64 0, .int .i64 1, .int .i64 0, .int .i64 0, .bool false] 145) = W from HW.out.symm]
    exact bodyPost_ret (v := aggT (.slice (some ⟨w.heap.size + 1, 0, none⟩) 1 1) _ 1 0) (by simp [results, Try.results52, go_sem, r0, r1, r2, r3]) rfl ⟨_, rfl, HF.out⟩
set_option maxRecDepth 100000 in
set_option maxHeartbeats 1000000 in
theorem lints_any (A B : Option Addr) (ca cb : Nat) (xs ys : List Int) (w : World) (hA : Rd I w A xs) (hB : Rd I w B ys) (hx : xs.length ≤ 1000) (hy : ys.length ≤ 1000) :
    Calls Try.prog 91 #[.slice A xs.length ca, .slice B ys.length cb] w fun e w' => e = .returned (.bool (decide (xs = ys))) ∧ Safe w w' := by
  by_cases hl : xs.length = ys.length
  · have hlb : ((xs.length : Int) != ys.length) = false := by simp; omega
    have HA := Lib.hid hA
    have HB := Lib.hid hB
    have HL := Lib.hid hl
    clear hA hB hl
    go_enter Try.func91, Try.ntmps91
    go_wp2
    go_loopw [13] (fun i wr => ∃ k : Nat, k ≤ xs.length ∧ i = .int .i64 k ∧ xs.take k = ys.take k ∧ Safe w wr) (fun i _ => xs.length - (intOf i).toNat)
    case atStart => exact ⟨0, by omega, rfl, rfl, But.refl _ _⟩
    case round =>
      obtain ⟨k, hk, rfl, heq, hS⟩ := hrel
      obtain ⟨wo, rfl⟩ : ∃ wo : World, wo = wr := ⟨_, rfl⟩
      have HEQ := Lib.hid heq
      clear heq
      by_cases hlt : k < xs.length
      · have hlty : k < ys.length := by have := HL.out; omega
        obtain ⟨a1, rfl, ha⟩ := (HA.out.safe hS).at hlt
        obtain ⟨b1, rfl, hb⟩ := (HB.out.safe hS).at hlty
        have hki : (k : Int) < xs.length := by omega
        have hkj : (k : Int) < ys.length := by omega
        have hx1 := List.getElem?_eq_getElem hlt
        have hy1 := List.getElem?_eq_getElem hlty
        generalize xs[k] = x at *
        generalize ys[k] = y at *
        have HX1 := Lib.hid hx1
        have HY1 := Lib.hid hy1
        have HS := Lib.hid hS
        clear hx1 hy1 hS
        by_cases hxy : x = y
        · have hb' : (x != y) = false := by simpa using hxy
          have hnext : xs.take (k + 1) = ys.take (k + 1) := by rw [List.take_add_one, List.take_add_one, HX1.out, HY1.out, HEQ.out, hxy]
          have HNX := Lib.hid hnext
          clear hxy hnext
          go_wp2_with fail
          go_quiet (fail)
          go_wp2_with fail
          go_roundw
          case rel => exact ⟨k + 1, by omega, by go_num, HNX.out, HS.out.drewN _⟩
          case measure => simp [intOf]; omega
        · have hb' : (x != y) = true := by simpa using hxy
          have hne : decide (xs = ys) = false := by
            rw [decide_eq_false_iff_not]
            intro e
            have h1 := HX1.out
            rw [e, HY1.out] at h1
            injection h1 with h1
            exact hxy h1.symm
          have HNE := Lib.hid hne
          clear hxy hne
          go_wp2_with fail
          go_quiet (fail)
          go_wp2
          go_ret
          exact ⟨by rw [HNE.out] <;> rfl, HS.out.drewN _⟩
      · obtain rfl : k = xs.length := by omega
        have heq : decide (xs = ys) = true := by
          have h1 := HEQ.out
          rw [List.take_length, HL.out, List.take_length] at h1
          simpa using h1
        have HE := Lib.hid heq
        clear heq
        go_wp2
        go_ret
        exact ⟨by rw [HE.out] <;> rfl, hS⟩
  · have hlb : ((xs.length : Int) != ys.length) = true := by simp; omega
    have hne : decide (xs = ys) = false := by
      rw [decide_eq_false_iff_not]
      intro e
      exact hl (by rw [e])
    rw [hne]
    clear hl hne hA hB
    go_enter Try.func91, Try.ntmps91
    go_wp2
    go_ret
    exact ⟨rfl, But.refl _ _⟩
end Go.Proofs.Ytlojadpbdbhmiaa
