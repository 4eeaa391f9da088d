/- slices.Grow, slices.Concat. -/
import Derived.Test.YtodlapkmcnmmhaaDoorMn
import Derived.Test.YtodlapkmcnmmhaaDoorSg
namespace Go.Proofs.YtodlapkmcnmmhaaDoor
open Go.RowKit
set_option linter.unusedSimpArgs false
set_option linter.unusedVariables false

theorem grow_any (n : Nat) (w : World) (hn : n ≤ 100000) : Calls Tryd.prog 53 #[.slice none 0 0, .int .i64 n] w fun e w' => ∃ v, e = .returned v ∧ w'.ownsRow w.heap.size 9 1 v 0 [] ∧ Safe w w' := by
  by_cases h0 : n = 0
  · subst h0
    have h : Calls Tryd.prog 53 #[.slice none 0 0, .int .i64 (0 : Nat)] w _ := Any8.slices_Grow_room Tryd.growS none 0 0 0 w (by omega) (by omega) (by omega) (by omega)
    exact h.mono fun e w' ⟨he, hw⟩ => ⟨_, he, World.ownsRow_nil _ _ _ _, by rw [hw]; exact But.refl _ _⟩
  · have hinfo := slStrs.info
    cases hi : Tryd.prog.info? 9 with
    | none => rw [hi] at hinfo; cases hinfo
    | some i0 =>
      rw [hi] at hinfo
      simp only [Option.map_some, Option.some.injEq, Prod.mk.injEq] at hinfo
      obtain ⟨hz, hsize, hbytes⟩ := hinfo
      have h := Any8.slices_Grow_grow Tryd.growS i0 _ hi hz (by omega) none 0 0 n [] w (by omega) (by omega) (by rw [hbytes]; omega) (by omega) (by simp) (fun _ => rfl) (fun _ e => by cases e)
      have h : Calls Tryd.prog 53 #[.slice none 0 0, .int .i64 n] w _ := h
      refine h.mono fun e w' ⟨he, hw⟩ => by
        subst hw
        refine ⟨_, he, ⟨rfl, .inr ⟨w.heap.size, _, _, rfl, Nat.le_refl _, heap_alloc_new w.drew _, Nat.zero_le _, grownCap_le_maxLen w _ _ _ (by simp [maxLen]; omega), ?_, by simp⟩⟩, (But.refl _ w).drew.alloc _⟩
        have hge := grownCap_ge w (0 + n) 0 9
        rw [Array.size_append, Array.size_append, size_zeroCells, size_zeroCells]
        show 0 + (0 + n - 0) * 1 + (grownCap w (0 + n) 0 9 - (0 + n)) * 1 = grownCap w (0 + n) 0 9 * 1
        omega
/-- Of two rows, the first k. -/
def upTo (X Y : List Bs) (k : Nat) : List Bs := if k = 0 then [] else if k = 1 then X else X ++ Y
set_option maxRecDepth 100000 in
set_option maxHeartbeats 4000000 in
theorem concat_any (b : Nat) (A B : Option Addr) (X Y : List Bs) (c c2 : Nat) (w : World) (hb : Blk w b 23 #[.slice A X.length c, .slice B Y.length c2]) (hx : Rd Sv w A X) (hy : Rd Sv w B Y) (hN : X.length ≤ 1000) (hM : Y.length ≤ 1000) :
    Calls Tryd.prog 42 #[.slice (some ⟨b, 0, none⟩) 2 2] w fun e w' => ∃ v, e = .returned v ∧ w'.ownsRow w.heap.size 9 1 v (X ++ Y).length ((X ++ Y).map Sv) ∧ Safe w w' := by
  have hg : ∀ w', Calls Tryd.prog 53 #[.slice none 0 0, .int .i64 ((X.length : Int) + (Y.length : Int))] w' fun e w2 => ∃ v, e = .returned v ∧ w2.ownsRow w'.heap.size 9 1 v 0 [] ∧ Safe w' w2 := fun w' => by have := grow_any (X.length + Y.length) w' (by omega); rwa [Int.natCast_add] at this
  have HG := Lib.hid hg
  have HB := Lib.hid hb
  have HX := Lib.hid hx
  have HY := Lib.hid hy
  obtain ⟨n, hn⟩ : ∃ n, n = X.length := ⟨_, rfl⟩
  obtain ⟨m, hm⟩ : ∃ n, n = Y.length := ⟨_, rfl⟩
  rw [← hn] at hN hb HB HG
  rw [← hm] at hM hb HB HG
  have c0 : w.cell? ⟨b, 0, none⟩ = some (.slice A n c) := hb.cell' (i := 0) rfl
  have c1 : w.cell? ⟨b, 1, none⟩ = some (.slice B m c2) := hb.cell' (i := 1) rfl
  have HNN := Lib.hid hn
  have HMM := Lib.hid hm
  clear hg hx hy hb hn hm
  go_enter Tryd.func42, Tryd.ntmps42
  go_wp2_with fail
  go_loopw [3, 11] (fun x y wr => ∃ k : Nat, k ≤ 2 ∧ y = .int .i64 k ∧ x = .int .i64 (if k = 0 then 0 else if k = 1 then (n : Int) else (n : Int) + m) ∧ wr = w) (fun _ y _ => 2 - (intOf y).toNat)
  case atStart => exact ⟨0, by omega, rfl, rfl, rfl⟩
  case round =>
    obtain ⟨k, hk, rfl, rfl, rfl⟩ := hrel
    obtain ⟨wo, rfl⟩ : ∃ wo : World, wo = wr := ⟨_, rfl⟩
    have hcs : k = 0 ∨ k = 1 ∨ k = 2 := by omega
    rcases hcs with rfl | rfl | rfl
    · go_wp2_with fail
      refine ⟨⟨1, by omega, rfl, ?_, trivial⟩, by simp [intOf]⟩
      rfl
    · have hge : ¬ ((n : Int) + m < 0) := by omega
      go_wp2_with fail
      refine ⟨⟨2, by omega, rfl, ?_, trivial⟩, by simp [intOf]⟩
      rfl
    · clear c0 c1
      go_wp2_with fail
      refine (HG.out _).mono ?_
      rintro _ w1 ⟨v1, rfl, ho1, hs1⟩
      have HO1 := Lib.hid ho1
      have HS1 := Lib.hid hs1
      clear ho1 hs1
      go_wp2_with fail
      go_loopw [6, 27] (fun v y wx => ∃ k : Nat, k ≤ 2 ∧ y = .int .i64 k ∧ wx.ownsRow wo.heap.size 9 1 v (upTo X Y k).length ((upTo X Y k).map Sv) ∧ Safe wo wx) (fun _ y _ => 2 - (intOf y).toNat)
      case atStart => exact ⟨0, by omega, rfl, HO1.out, HS1.out⟩
      case round =>
        obtain ⟨k, hk, rfl, ho, hs⟩ := hrel
        obtain ⟨v, rfl⟩ : ∃ v : Value, v = u6 := ⟨_, rfl⟩
        obtain ⟨wx, rfl⟩ : ∃ wx : World, wx = wr := ⟨_, rfl⟩
        have HO := Lib.hid ho
        have HS := Lib.hid hs
        clear ho hs
        have hcs : k = 0 ∨ k = 1 ∨ k = 2 := by omega
        rcases hcs with rfl | rfl | rfl
        · have ck : wx.cell? ⟨b, 0, none⟩ = some (.slice A n c) := (HB.out.but HS.out id).cell' (i := 0) rfl
          have hcl := Lib.hid (((HX.out).safe HS.out).cells)
          have hone : ∀ u ∈ X.map Sv, u.oneCell' = true := by
            intro u hu
            obtain ⟨x, -, rfl⟩ := List.mem_map.1 hu
            rfl
          have HONE := Lib.hid hone
          have HML : Hid ((X.map Sv).length = n * 1) := Lib.hid (by rw [List.length_map, HNN.out, Nat.mul_one])
          have HCL : Hid (0 < n → ∃ ad, A = some ad ∧ ∀ j u, (X.map Sv)[j]? = some u → wx.cell? (ad.add j) = some u) := Lib.hid (by rw [HNN.out]; exact hcl.out)
          have hown : wx.ownsRow wo.heap.size 9 1 v 0 (([] : List Bs).map Sv) := by have := HO.out; simpa [upTo] using this
          have HOW := Lib.hid hown
          have h63 : 0 + n ≤ maxLen := by simp [maxLen]; omega
          have hby : (0 + n) * 16 ≤ 140737488355328 := by omega
          have hba := Lib.hid HS.out.size
          clear hone hown hcl
          go_wp2_with (at_builtin; go_loud (refine wpList_pushAll slStrs rfl (.tmp 31) (.tmp 32) rfl wo.heap.size v 0 (([] : List Bs).map Sv) rfl HOW.out A n c (X.map Sv) rfl HML.out HCL.out HONE.out h63 hby hba.out ?_; intro v2 w2 ho2 hg2 hd2; (have HO2 := Lib.hid ho2); (have HS2 := Lib.hid (safe_own HS.out HOW.out hg2 (Nat.le_refl _))); clear ho2 hg2 hd2))
          go_roundw
          case rel => exact ⟨1, by omega, rfl, by have := HO2.out; simpa [upTo, HNN.out] using this, HS2.out⟩
          case measure => simp [intOf]
        · have ck : wx.cell? ⟨b, 1, none⟩ = some (.slice B m c2) := (HB.out.but HS.out id).cell' (i := 1) rfl
          have hcl := Lib.hid (((HY.out).safe HS.out).cells)
          have hone : ∀ u ∈ Y.map Sv, u.oneCell' = true := by
            intro u hu
            obtain ⟨x, -, rfl⟩ := List.mem_map.1 hu
            rfl
          have HONE := Lib.hid hone
          have HML : Hid ((Y.map Sv).length = m * 1) := Lib.hid (by rw [List.length_map, HMM.out, Nat.mul_one])
          have HCL : Hid (0 < m → ∃ ad, B = some ad ∧ ∀ j u, (Y.map Sv)[j]? = some u → wx.cell? (ad.add j) = some u) := Lib.hid (by rw [HMM.out]; exact hcl.out)
          have hown : wx.ownsRow wo.heap.size 9 1 v n (X.map Sv) := by have := HO.out; simpa [upTo, HNN.out] using this
          have HOW := Lib.hid hown
          have h63 : n + m ≤ maxLen := by simp [maxLen]; omega
          have hby : (n + m) * 16 ≤ 140737488355328 := by omega
          have hba := Lib.hid HS.out.size
          clear hone hown hcl
          go_wp2_with (at_builtin; go_loud (refine wpList_pushAll slStrs rfl (.tmp 31) (.tmp 32) rfl wo.heap.size v n (X.map Sv) rfl HOW.out B m c2 (Y.map Sv) rfl HML.out HCL.out HONE.out h63 hby hba.out ?_; intro v2 w2 ho2 hg2 hd2; (have HO2 := Lib.hid ho2); (have HS2 := Lib.hid (safe_own HS.out HOW.out hg2 (Nat.le_refl _))); clear ho2 hg2 hd2))
          go_roundw
          case rel => exact ⟨2, by omega, rfl, by have := HO2.out; simpa [upTo, HNN.out, HMM.out] using this, HS2.out⟩
          case measure => simp [intOf]
        · have HFIN : Hid (wx.ownsRow wo.heap.size 9 1 v (X ++ Y).length ((X ++ Y).map Sv) ∧ Safe wo wx) := Lib.hid ⟨HO.out, HS.out⟩
          go_wp2
          go_ret
          exact ⟨_, rfl, HFIN.out⟩

/-- What Join answers. -/
def joinPM (p q : PathM) : PathM := if q.abs = true then ⟨true, q.dir, q.parts⟩ else ⟨p.abs, q.dir || decide (q.parts = []), p.parts ++ q.parts⟩
end Go.Proofs.YtodlapkmcnmmhaaDoor
