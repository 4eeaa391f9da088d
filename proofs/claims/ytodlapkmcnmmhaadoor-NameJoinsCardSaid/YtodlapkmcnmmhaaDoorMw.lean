/- NameJoins, walked. -/
import Derived.Test.YtodlapkmcnmmhaaDoorMt
import Derived.Test.YtodlapkmcnmmhaaDoorSu
import Derived.Deep.RegionHeld3
namespace Go.Proofs.YtodlapkmcnmmhaaDoor
open Go.RowKit
set_option linter.unusedSimpArgs false
set_option linter.unusedVariables false

theorem own_none1' {w : World} {q base : Nat} (hB : Blk w q 9 #[]) (hb : base ≤ q) : w.ownsRow base 9 1 (.slice (some ⟨q, 0, none⟩) 0 0) 0 [] :=
  ⟨rfl, .inr ⟨q, 0, #[], rfl, hb, hB, Nat.le_refl _, by simp [maxLen], rfl, rfl⟩⟩
/-- What region 8 leaves. -/
structure R8 (w7 wx : World) (v : Value) (a d : Bool) (Z : List Bs) : Prop where
  ex : ∃ b A c, v = .pointer (some ⟨b, 0, none⟩) ∧ w7.heap.size ≤ b ∧ Blk wx b 49 #[.bool a, .bool d, .slice A Z.length c] ∧ Pr wx w7.heap.size A Z c
  safe : Safe w7 wx
theorem own_not {w : World} {base n b : Nat} {v : Value} {xs : List Value} {cs : Array Value} (h : w.ownsRow base 9 1 v n xs) (hB : Blk w b 49 cs) : ¬ (fun k => some k = v.ownBlock) b := fun e => by
  rcases h.2 with ⟨hv, _⟩ | ⟨g, cap, cur, hv, _, hg, _⟩
  · rw [hv] at e; cases e
  · rw [hv] at e
    have : b = g := Option.some.inj e
    subst this
    exact absurd (Blk.inj hB hg).1 (by decide)
theorem R8.of {w9 W : World} {b c : Nat} {A : Option Addr} {a dd : Bool} {Z : List Bs} {cs : Array Value} (hT : Safe w9 W) (hb : w9.heap.size ≤ b) (hB : Blk W b 49 #[.bool false, .bool false, .slice none 0 0]) (ho : W.ownsRow w9.heap.size 9 1 (.slice A Z.length c) Z.length (Z.map Sv)) :
    R8 w9 (((W.setCell ⟨b, 0, none⟩ (.bool a)).setCell ⟨b, 1, none⟩ (.bool dd)).setCell ⟨b, 2, none⟩ (.slice A Z.length c)) (.pointer (some ⟨b, 0, none⟩)) a dd Z := by
  have hkb := (((But.refl (· = b) W).setCell (p := ⟨b, 0, none⟩) (.inl rfl) (.bool a)).setCell (p := ⟨b, 1, none⟩) (.inl rfl) (.bool dd)).setCell (p := ⟨b, 2, none⟩) (.inl rfl) (.slice A Z.length c)
  have ho2 := own_but_kept ho hkb (fun k hk e => by
    have e : k = b := e
    subst e
    exact own_not ho hB hk.symm)
  obtain ⟨A2, c2, e2, hP⟩ := Pr.of ho2
  injection e2 with e3 e4 e5
  subst e3 e5
  exact ⟨⟨b, A, c, rfl, hb, ((hB.set 0 _).set 1 _).set 2 _, hP⟩, hT.step hkb (fun j hj => .inr (by have : j = b := hj; omega))⟩
set_option maxRecDepth 100000 in
set_option maxHeartbeats 8000000 in
theorem nameJoins_any (l l2 : Bs) (w : World) (hm : ∃ m, w.cell? ⟨0, 0, none⟩ = some (.int .i64 m)) : Calls Tryd.prog 6 #[Sv l, Sv l2] w fun e w' => e = .returned (.bool true) ∧ Safe w w' := by
  have HM := Lib.hid (fun (w' : World) (hs : Safe w w') => (show ∃ m, w'.cell? ⟨0, 0, none⟩ = some (.int .i64 m) from hm.elim fun m h => ⟨m, hs.cell h id⟩))
  have HAW := Lib.hid (awake_any w hm)
  have HSH := Lib.hid (short_any l)
  have HSH2 := Lib.hid (short_any l2)
  clear hm
  obtain ⟨s, hs⟩ : ∃ s, s = l.take 300 := ⟨_, rfl⟩
  obtain ⟨s2, hs2⟩ : ∃ s, s = l2.take 300 := ⟨_, rfl⟩
  rw [← hs] at HSH
  rw [← hs2] at HSH2
  have hsl : s.length ≤ 300 := by rw [hs]; simp; omega
  have hsl2 : s2.length ≤ 300 := by rw [hs2]; simp; omega
  clear hs hs2
  obtain ⟨⟨a, d, P⟩, n, hp⟩ : ∃ p n, parseM s = (p, n) := ⟨_, _, rfl⟩
  obtain ⟨⟨a2, d2, Q⟩, n2, hq⟩ : ∃ p n, parseM s2 = (p, n) := ⟨_, _, rfl⟩
  have hpk := parse_cases s
  have hqk := parse_cases s2
  rw [hp] at hpk
  rw [hq] at hqk
  simp only at hpk hqk
  have HP := Lib.hid (fun W (hs : Safe w W) => parse_ok hp W (by omega) (HM.out W hs))
  have HQ := Lib.hid (fun W (hs : Safe w W) => parse_ok hq W (by omega) (HM.out W hs))
  have hN : P.length ≤ 32 := by
    rcases hpk with ⟨_, o⟩ | ⟨_, o⟩
    · exact o.len
    · have : P = [] := congrArg PathM.parts o
      rw [this]; simp
  have hM : Q.length ≤ 32 := by
    rcases hqk with ⟨_, o⟩ | ⟨_, o⟩
    · exact o.len
    · have : Q = [] := congrArg PathM.parts o
      rw [this]; simp
  have hnn : ((n == 0) = false) ∨ (n = 0 ∧ (n2 == 0) = false) ∨ (n = 0 ∧ n2 = 0) := by
    by_cases h1 : n = 0
    · by_cases h2 : n2 = 0
      · exact .inr (.inr ⟨h1, h2⟩)
      · exact .inr (.inl ⟨h1, by simpa using h2⟩)
    · exact .inl (by simpa using h1)
  clear hp hq hpk hqk
  go_enter Tryd.func6, Tryd.ntmps6
  go_wp2_with fail
  refine (HAW.out).mono ?_
  rintro _ w1 ⟨rfl, hs1⟩
  have S1 := Lib.hid hs1
  clear hs1
  go_wp2_with fail
  refine (HSH.out _).mono ?_
  rintro _ w2 ⟨rfl, rfl⟩
  go_wp2_with fail
  refine (HP.out _ S1.out).mono ?_
  rintro _ w3 ⟨A3, c3, rfl, hP3, hs3⟩
  obtain ⟨w5, hw5⟩ : ∃ w5, w5 = w3.alloc (.cells #[.bool a, .bool d, .slice A3 P.length c3] 25) := ⟨_, rfl⟩
  have S5 : Hid (Safe w w5) := Lib.hid (by rw [hw5]; exact (S1.out.trans hs3).alloc _)
  have B5 : Hid (Blk w5 w3.heap.size 25 #[.bool a, .bool d, .slice A3 P.length c3]) := Lib.hid (by rw [hw5]; exact Blk.new _ _ _)
  have P5 : Hid (Pr w5 w1.heap.size A3 P c3) := Lib.hid (by rw [hw5]; exact hP3.safe ((But.refl _ _).alloc _))
  have HW5 := Lib.hid hw5
  clear hs3 hP3 hw5
  go_wp2_with fail
  rw [← HW5.out]
  refine (HSH2.out _).mono ?_
  rintro _ w2 ⟨rfl, rfl⟩
  go_wp2_with fail
  refine (HQ.out _ S5.out).mono ?_
  rintro _ w6 ⟨A6, c6, rfl, hP6, hs6⟩
  obtain ⟨w7, hw7⟩ : ∃ w7, w7 = w6.alloc (.cells #[.bool a2, .bool d2, .slice A6 Q.length c6] 25) := ⟨_, rfl⟩
  have hs7 : Safe w5 w7 := by rw [hw7]; exact hs6.alloc _
  have S7 : Hid (Safe w w7) := Lib.hid (S5.out.trans hs7)
  have B7 := Lib.hid (B5.out.but hs7 id)
  have C7 : Hid (Blk w7 w6.heap.size 25 #[.bool a2, .bool d2, .slice A6 Q.length c6]) := Lib.hid (by rw [hw7]; exact Blk.new _ _ _)
  have P7 := Lib.hid (P5.out.safe hs7)
  have Q7 := Lib.hid (show Pr w7 w5.heap.size A6 Q c6 by rw [hw7]; exact hP6.safe ((But.refl _ _).alloc _))
  have HW7 := Lib.hid hw7
  clear hs6 hs7 hP6
  rcases hnn with hnb | ⟨rfl, hnb⟩ | ⟨rfl, rfl⟩
  · clear hw7
    go_wp2_with fail
    rw [← HW7.out]
    go_ret
    exact ⟨rfl, S7.out⟩
  · clear hw7
    go_wp2_with fail
    rw [← HW7.out]
    go_ret
    exact ⟨rfl, S7.out⟩
  · obtain ⟨b0, b1, b2⟩ := cells3 B7.out
    obtain ⟨e0, e1, e2⟩ := cells3 C7.out
    rw [hw7] at b0 b1 b2 e0 e1 e2
    clear hw7
    go_wp2_with fail
    rw [← HW7.out]
    have hJ := joinP_any a d a2 d2 A3 A6 P Q c3 c6 w7 P7.out.rd Q7.out.rd Q7.out.ad (by omega) (by omega)
    refine hJ.mono ?_
    clear hJ
    obtain ⟨⟨ja, jd, Z⟩, hjj⟩ : ∃ p, p = joinPM ⟨a, d, P⟩ ⟨a2, d2, Q⟩ := ⟨_, rfl⟩
    rw [← hjj]
    have HJJ := Lib.hid hjj
    clear hjj b0 b1 b2 e0 e1 e2
    rintro _ w8 ⟨v8, rfl, ho8, hs8⟩
    obtain ⟨A8, c8, rfl, hP8⟩ := Pr.of ho8
    obtain ⟨w9, hw9⟩ : ∃ w9, w9 = w8.alloc (.cells #[.bool ja, .bool jd, .slice A8 Z.length c8] 25) := ⟨_, rfl⟩
    have hs9 : Safe w7 w9 := by rw [hw9]; exact hs8.alloc _
    have S9 := Lib.hid (S7.out.trans hs9)
    have B9 := Lib.hid (B7.out.but hs9 id)
    have C9 := Lib.hid (C7.out.but hs9 id)
    have P9 := Lib.hid (P7.out.safe hs9)
    have Q9 := Lib.hid (Q7.out.safe hs9)
    have J9 : Hid (Blk w9 w8.heap.size 25 #[.bool ja, .bool jd, .slice A8 Z.length c8]) := Lib.hid (by rw [hw9]; exact Blk.new _ _ _)
    have N9 := Lib.hid (show Pr w9 w7.heap.size A8 Z c8 by rw [hw9]; exact hP8.safe ((But.refl _ _).alloc _))
    have HW9 := Lib.hid hw9
    clear hs8 hs9 ho8 hP8 hw9
    go_wp2_with fail
    rw [← HW9.out]
    go_cut [10] from 39 to 57 (fun v wx => R8 w9 wx v a (d2 || decide (Q = [])) (P ++ Q))
    case first =>
      have HKEEP : Hid (∀ W, Safe w9 W → (W.cell? ⟨w3.heap.size, 0, none⟩ = some (.bool a) ∧ W.cell? ⟨w3.heap.size, 2, none⟩ = some (.slice A3 P.length c3) ∧ W.cell? ⟨w6.heap.size, 1, none⟩ = some (.bool d2) ∧ W.cell? ⟨w6.heap.size, 2, none⟩ = some (.slice A6 Q.length c6))) :=
        Lib.hid (fun W hs => ⟨(B9.out.but hs id).cell' (i := 0) rfl, (B9.out.but hs id).cell' (i := 2) rfl, (C9.out.but hs id).cell' (i := 1) rfl, (C9.out.but hs id).cell' (i := 2) rfl⟩)
      have HML : Hid ((P.map Sv).length = P.length * 1) := Lib.hid (by rw [List.length_map, Nat.mul_one])
      have HML2 : Hid ((Q.map Sv).length = Q.length * 1) := Lib.hid (by rw [List.length_map, Nat.mul_one])
      have HON : Hid (∀ u ∈ P.map Sv, u.oneCell' = true) := Lib.hid (fun u hu => by obtain ⟨x, -, rfl⟩ := List.mem_map.1 hu; rfl)
      have HON2 : Hid (∀ u ∈ Q.map Sv, u.oneCell' = true) := Lib.hid (fun u hu => by obtain ⟨x, -, rfl⟩ := List.mem_map.1 hu; rfl)
      have HCA := Lib.hid (fun W (hs : Safe w9 W) => (P9.out.rd.safe hs).cells)
      have HCB := Lib.hid (fun W (hs : Safe w9 W) => (Q9.out.rd.safe hs).cells)
      have h63 : 0 + P.length ≤ maxLen := by simp [maxLen]; omega
      have hby : (0 + P.length) * 16 ≤ 140737488355328 := by omega
      have h63b : P.length + Q.length ≤ maxLen := by simp [maxLen]; omega
      have hbyb : (P.length + Q.length) * 16 ≤ 140737488355328 := by omega
      cases d2
      · skip
        obtain ⟨dd, hdd⟩ : ∃ b, b = ((Q.length : Int) == 0) := ⟨_, rfl⟩
        have HDD : Hid (decide (Q = []) = dd) := Lib.hid (by rw [hdd, Bool.eq_iff_iff]; simp)
        have hdd' := hdd.symm
        clear hdd
        refine wp_region_held_drew (S := fun w' => w'.cell? ⟨w3.heap.size, 0, none⟩ = some (.bool a) ∧ w'.cell? ⟨w3.heap.size, 2, none⟩ = some (.slice A3 P.length c3) ∧ w'.cell? ⟨w6.heap.size, 1, none⟩ = some (.bool false) ∧ w'.cell? ⟨w6.heap.size, 2, none⟩ = some (.slice A6 Q.length c6)) (by kernel_rfl) (HKEEP.out _ (But.refl _ w9).drew) (fun hHeld => ?_)
        obtain ⟨W0, hW0⟩ : ∃ W0, W0 = w9.drew := ⟨_, rfl⟩
        rw [← hW0] at hHeld ⊢
        have hT0 : Safe w9 W0 := by rw [hW0]; exact (But.refl _ w9).drew
        clear hW0
        refine wpAnyH_take (i := 0) (v := (.pointer (some ⟨w3.heap.size, 0, none⟩))) rfl (by kernel_rfl) (by kernel_rfl) (by kernel_rfl) (fun _ _ _ h => h) (Or.inl ⟨by rfl, ?_⟩) hHeld ?_
        · intro w7 hSw
          obtain ⟨k0, k1, k2, k3⟩ := hSw
          go_simp
        try simp only [Act.put, List.setIfInBounds_toArray, List.set_cons_zero, List.set_cons_succ, List.getElem_toArray, List.getElem_cons_succ, List.getElem_cons_zero]
        refine wpAnyH_take (i := 1) (v := (.bool a)) rfl (by kernel_rfl) (by kernel_rfl) (by kernel_rfl) (fun _ _ _ h => h) (Or.inl ⟨by rfl, ?_⟩) hHeld ?_
        · intro w7 hSw
          obtain ⟨k0, k1, k2, k3⟩ := hSw
          go_simp
        try simp only [Act.put, List.setIfInBounds_toArray, List.set_cons_zero, List.set_cons_succ, List.getElem_toArray, List.getElem_cons_succ, List.getElem_cons_zero]
        refine wpAnyH_take (i := 2) (v := (.pointer (some ⟨w6.heap.size, 1, none⟩))) rfl (by kernel_rfl) (by kernel_rfl) (by kernel_rfl) (fun _ _ _ h => h) (Or.inl ⟨by rfl, ?_⟩) hHeld ?_
        · intro w7 hSw
          obtain ⟨k0, k1, k2, k3⟩ := hSw
          go_simp
        try simp only [Act.put, List.setIfInBounds_toArray, List.set_cons_zero, List.set_cons_succ, List.getElem_toArray, List.getElem_cons_succ, List.getElem_cons_zero]
        refine wpAnyH_take (i := 3) (v := (.bool false)) rfl (by kernel_rfl) (by kernel_rfl) (by kernel_rfl) (fun _ _ _ h => h) (Or.inl ⟨by rfl, ?_⟩) hHeld ?_
        · intro w7 hSw
          obtain ⟨k0, k1, k2, k3⟩ := hSw
          go_simp
        try simp only [Act.put, List.setIfInBounds_toArray, List.set_cons_zero, List.set_cons_succ, List.getElem_toArray, List.getElem_cons_succ, List.getElem_cons_zero]
        refine wpAnyH_take (i := 4) (v := (.bool false)) rfl (by kernel_rfl) (by kernel_rfl) (by kernel_rfl) (fun _ _ _ h => h) (Or.inl ⟨by rfl, ?_⟩) hHeld ?_
        · intro w7 hSw
          obtain ⟨k0, k1, k2, k3⟩ := hSw
          go_simp
        try simp only [Act.put, List.setIfInBounds_toArray, List.set_cons_zero, List.set_cons_succ, List.getElem_toArray, List.getElem_cons_succ, List.getElem_cons_zero]
        refine wpAnyH_take (i := 5) (v := (.pointer (some ⟨w6.heap.size, 2, none⟩))) rfl (by kernel_rfl) (by kernel_rfl) (by kernel_rfl) (fun _ _ _ h => h) (Or.inl ⟨by rfl, ?_⟩) hHeld ?_
        · intro w7 hSw
          obtain ⟨k0, k1, k2, k3⟩ := hSw
          go_simp
        try simp only [Act.put, List.setIfInBounds_toArray, List.set_cons_zero, List.set_cons_succ, List.getElem_toArray, List.getElem_cons_succ, List.getElem_cons_zero]
        refine wpAnyH_take (i := 6) (v := (.slice A6 Q.length c6)) rfl (by kernel_rfl) (by kernel_rfl) (by kernel_rfl) (fun _ _ _ h => h) (Or.inl ⟨by rfl, ?_⟩) hHeld ?_
        · intro w7 hSw
          obtain ⟨k0, k1, k2, k3⟩ := hSw
          go_simp
        try simp only [Act.put, List.setIfInBounds_toArray, List.set_cons_zero, List.set_cons_succ, List.getElem_toArray, List.getElem_cons_succ, List.getElem_cons_zero]
        refine wpAnyH_take (i := 7) (v := (.int .i64 (Q.length : Int))) rfl (by kernel_rfl) (by kernel_rfl) (by kernel_rfl) (fun _ _ _ h => h) (Or.inl ⟨by rfl, ?_⟩) hHeld ?_
        · intro w7 hSw
          obtain ⟨k0, k1, k2, k3⟩ := hSw
          go_simp
        try simp only [Act.put, List.setIfInBounds_toArray, List.set_cons_zero, List.set_cons_succ, List.getElem_toArray, List.getElem_cons_succ, List.getElem_cons_zero]
        refine wpAnyH_take (i := 8) (v := (.bool dd)) rfl (by kernel_rfl) (by kernel_rfl) (by kernel_rfl) (fun _ _ _ h => h) (Or.inl ⟨by rfl, ?_⟩) hHeld ?_
        · intro w7 hSw
          obtain ⟨k0, k1, k2, k3⟩ := hSw
          go_simp
        try simp only [Act.put, List.setIfInBounds_toArray, List.set_cons_zero, List.set_cons_succ, List.getElem_toArray, List.getElem_cons_succ, List.getElem_cons_zero]
        refine wpAnyH_take (i := 9) (v := (.bool dd)) rfl (by kernel_rfl) (by kernel_rfl) (by kernel_rfl) (fun _ _ _ h => h) (Or.inl ⟨by rfl, ?_⟩) hHeld ?_
        · intro w7 hSw
          obtain ⟨k0, k1, k2, k3⟩ := hSw
          go_simp
        try simp only [Act.put, List.setIfInBounds_toArray, List.set_cons_zero, List.set_cons_succ, List.getElem_toArray, List.getElem_cons_succ, List.getElem_cons_zero]
        refine wpAnyH_take (i := 11) (v := (.pointer (some ⟨w3.heap.size, 2, none⟩))) rfl (by kernel_rfl) (by kernel_rfl) (by kernel_rfl) (fun _ _ _ h => h) (Or.inl ⟨by rfl, ?_⟩) hHeld ?_
        · intro w7 hSw
          obtain ⟨k0, k1, k2, k3⟩ := hSw
          go_simp
        try simp only [Act.put, List.setIfInBounds_toArray, List.set_cons_zero, List.set_cons_succ, List.getElem_toArray, List.getElem_cons_succ, List.getElem_cons_zero]
        refine wpAnyH_take (i := 12) (v := (.slice A3 P.length c3)) rfl (by kernel_rfl) (by kernel_rfl) (by kernel_rfl) (fun _ _ _ h => h) (Or.inl ⟨by rfl, ?_⟩) hHeld ?_
        · intro w7 hSw
          obtain ⟨k0, k1, k2, k3⟩ := hSw
          go_simp
        try simp only [Act.put, List.setIfInBounds_toArray, List.set_cons_zero, List.set_cons_succ, List.getElem_toArray, List.getElem_cons_succ, List.getElem_cons_zero]
        refine wpAnyH_take (i := 14) (v := (.pointer (some ⟨w6.heap.size, 2, none⟩))) rfl (by kernel_rfl) (by kernel_rfl) (by kernel_rfl) (fun _ _ _ h => h) (Or.inl ⟨by rfl, ?_⟩) hHeld ?_
        · intro w7 hSw
          obtain ⟨k0, k1, k2, k3⟩ := hSw
          go_simp
        try simp only [Act.put, List.setIfInBounds_toArray, List.set_cons_zero, List.set_cons_succ, List.getElem_toArray, List.getElem_cons_succ, List.getElem_cons_zero]
        refine wpAnyH_take (i := 15) (v := (.slice A6 Q.length c6)) rfl (by kernel_rfl) (by kernel_rfl) (by kernel_rfl) (fun _ _ _ h => h) (Or.inl ⟨by rfl, ?_⟩) hHeld ?_
        · intro w7 hSw
          obtain ⟨k0, k1, k2, k3⟩ := hSw
          go_simp
        try simp only [Act.put, List.setIfInBounds_toArray, List.set_cons_zero, List.set_cons_succ, List.getElem_toArray, List.getElem_cons_succ, List.getElem_cons_zero]
        refine wpAnyH_ready (rs := [10, 18]) (by kernel_rfl) (by simp) ?_
        refine AllReadyH.cons rfl (fun K hK => ?_) (AllReadyH.cons rfl (fun K hK => ?_) AllReadyH.nil)
        · go_simp
          obtain ⟨W1, hW1⟩ : ∃ X, X = W0.alloc (.cells #[] 9) := ⟨_, rfl⟩
          rw [← hW1]
          have T1 : Safe w9 W1 := by rw [hW1]; exact hT0.alloc _
          have E1 : W1.ownsRow w9.heap.size 9 1 (.slice (some ⟨W0.heap.size, 0, none⟩) 0 0) 0 [] := own_none1' (by rw [hW1]; exact Blk.new _ _ _) hT0.size
          clear hW1
          refine hK.out _ _ (HKEEP.out _ T1) (fun hHeld => ?_)
          clear hK K
          try simp only [Act.put, List.setIfInBounds_toArray, List.set_cons_zero, List.set_cons_succ, List.getElem_toArray, List.getElem_cons_succ, List.getElem_cons_zero]
          refine wpAnyH_ready (rs := [13, 18]) (by kernel_rfl) (by simp) ?_
          refine AllReadyH.cons rfl (fun K hK => ?_) (AllReadyH.cons rfl (fun K hK => ?_) AllReadyH.nil)
          · refine step_pushAll slStrs (by rfl) (.tmp 49) (.tmp 51) (by rfl) w9.heap.size (.slice (some ⟨W0.heap.size, 0, none⟩) 0 0) 0 [] (by rfl) E1 A3 P.length c3 (P.map Sv) (by rfl) HML.out (HCA.out _ T1) HON.out h63 hby T1.size ?_
            intro v2 W2 ho hg hd
            rw [Nat.zero_add, List.nil_append] at ho
            obtain ⟨A2x, c2x, rfl, -⟩ := own_form ho
            have O2 := ho
            have T2 : Safe w9 W2 := safe_own T1 E1 hg (Nat.le_refl _)
            clear ho hg hd
            refine hK.out _ _ (HKEEP.out _ T2) (fun hHeld => ?_)
            clear hK K
            try simp only [Act.put, List.setIfInBounds_toArray, List.set_cons_zero, List.set_cons_succ, List.getElem_toArray, List.getElem_cons_succ, List.getElem_cons_zero]
            refine wpAnyH_ready (rs := [16, 18]) (by kernel_rfl) (by simp) ?_
            refine AllReadyH.cons rfl (fun K hK => ?_) (AllReadyH.cons rfl (fun K hK => ?_) AllReadyH.nil)
            · refine step_pushAll slStrs (by rfl) (.tmp 52) (.tmp 54) (by rfl) w9.heap.size (.slice A2x P.length c2x) P.length (P.map Sv) (by rfl) O2 A6 Q.length c6 (Q.map Sv) (by rfl) HML2.out (HCB.out _ T2) HON2.out h63b hbyb T2.size ?_
              intro v3 W3 ho hg hd
              obtain ⟨A3x, c3x, rfl, -⟩ := own_form ho
              have O3 := ho
              have T3 : Safe w9 W3 := safe_own T2 O2 hg (Nat.le_refl _)
              clear ho hg hd
              refine hK.out _ _ (HKEEP.out _ T3) (fun hHeld => ?_)
              clear hK K
              try simp only [Act.put, List.setIfInBounds_toArray, List.set_cons_zero, List.set_cons_succ, List.getElem_toArray, List.getElem_cons_succ, List.getElem_cons_zero]
              refine wpAnyH_take (i := 17) (v := (.agg #[.bool a, .bool dd, .slice A3x (P.length + Q.length) c3x])) rfl (by kernel_rfl) (by kernel_rfl) (by kernel_rfl) (fun _ _ _ h => h) (Or.inl ⟨by rfl, ?_⟩) hHeld ?_
              · intro w7 hSw
                go_simp
              try simp only [Act.put, List.setIfInBounds_toArray, List.set_cons_zero, List.set_cons_succ, List.getElem_toArray, List.getElem_cons_succ, List.getElem_cons_zero]
              refine wpAnyH_ready (rs := [18]) (by kernel_rfl) (by simp) ?_
              refine AllReadyH.cons rfl (fun K hK => ?_) AllReadyH.nil
              go_simp
              obtain ⟨W4, hW4⟩ : ∃ X, X = W3.alloc (.cells #[.bool false, .bool false, .slice none 0 0] 49) := ⟨_, rfl⟩
              rw [← hW4]
              have T4 : Safe w9 W4 := by rw [hW4]; exact T3.alloc _
              have B4 : Blk W4 W3.heap.size 49 #[.bool false, .bool false, .slice none 0 0] := by rw [hW4]; exact Blk.new _ _ _
              have hb10 : w9.heap.size ≤ W3.heap.size := T3.size
              have O4 := own_safe O3 (show Safe W3 W4 by rw [hW4]; exact (But.refl _ _).alloc _)
              clear hW4
              refine hK.out _ _ (HKEEP.out _ T4) (fun hHeld => ?_)
              clear hK K
              try simp only [Act.put, List.setIfInBounds_toArray, List.set_cons_zero, List.set_cons_succ, List.getElem_toArray, List.getElem_cons_succ, List.getElem_cons_zero]
              refine wpAnyH_ready (rs := [19]) (by kernel_rfl) (by simp) ?_
              refine AllReadyH.cons rfl (fun K hK => ?_) AllReadyH.nil
              have H8 : Hid (R8 w9 ((((W4.setCell ⟨W3.heap.size, 0, none⟩ (.bool a)).setCell ⟨W3.heap.size, 1, none⟩ (.bool dd)).setCell ⟨W3.heap.size, 2, none⟩ (.slice A3x (P.length + Q.length) c3x))) (.pointer (some ⟨W3.heap.size, 0, none⟩)) a dd (P ++ Q)) := Lib.hid (by
                have := R8.of (a := a) (dd := dd) (Z := P ++ Q) (A := A3x) (c := c3x) (cs := #[]) T4 hb10 B4 (by rw [List.length_append, List.map_append]; exact O4)
                rw [List.length_append] at this
                exact this)
              obtain ⟨x0, x1, x2⟩ := cells3 B4
              have y0 := B4.frozen 0
              have y1 := B4.frozen 1
              have y2 := B4.frozen 2
              go_simp
              refine hK.out _ _ (HKEEP.out _ H8.out.safe) (fun hHeld => ?_)
              clear hK K
              refine wpAnyH_done (by kernel_rfl) ?_ _
              go_wp2_with fail
              go_meet
              exact (by rw [Bool.false_or, HDD.out]; exact H8.out)
            · go_simp
              obtain ⟨W3, hW3⟩ : ∃ X, X = W2.alloc (.cells #[.bool false, .bool false, .slice none 0 0] 49) := ⟨_, rfl⟩
              rw [← hW3]
              have T3 : Safe w9 W3 := by rw [hW3]; exact T2.alloc _
              have B3 : Blk W3 W2.heap.size 49 #[.bool false, .bool false, .slice none 0 0] := by rw [hW3]; exact Blk.new _ _ _
              have hb10 : w9.heap.size ≤ W2.heap.size := T2.size
              have O3 := own_safe O2 (show Safe W2 W3 by rw [hW3]; exact (But.refl _ _).alloc _)
              clear hW3
              refine hK.out _ _ (HKEEP.out _ T3) (fun hHeld => ?_)
              clear hK K
              try simp only [Act.put, List.setIfInBounds_toArray, List.set_cons_zero, List.set_cons_succ, List.getElem_toArray, List.getElem_cons_succ, List.getElem_cons_zero]
              refine wpAnyH_ready (rs := [16]) (by kernel_rfl) (by simp) ?_
              refine AllReadyH.cons rfl (fun K hK => ?_) AllReadyH.nil
              refine step_pushAll slStrs (by rfl) (.tmp 52) (.tmp 54) (by rfl) w9.heap.size (.slice A2x P.length c2x) P.length (P.map Sv) (by rfl) O3 A6 Q.length c6 (Q.map Sv) (by rfl) HML2.out (HCB.out _ T3) HON2.out h63b hbyb T3.size ?_
              intro v4 W4 ho hg hd
              obtain ⟨A4x, c4x, rfl, -⟩ := own_form ho
              have O4 := ho
              have T4 : Safe w9 W4 := safe_own T3 O3 hg (Nat.le_refl _)
              have B4 : Blk W4 W2.heap.size 49 #[.bool false, .bool false, .slice none 0 0] := B3.but (But.of_grown hg) (own_not O3 B3)
              clear ho hg hd
              refine hK.out _ _ (HKEEP.out _ T4) (fun hHeld => ?_)
              clear hK K
              try simp only [Act.put, List.setIfInBounds_toArray, List.set_cons_zero, List.set_cons_succ, List.getElem_toArray, List.getElem_cons_succ, List.getElem_cons_zero]
              refine wpAnyH_take (i := 17) (v := (.agg #[.bool a, .bool dd, .slice A4x (P.length + Q.length) c4x])) rfl (by kernel_rfl) (by kernel_rfl) (by kernel_rfl) (fun _ _ _ h => h) (Or.inl ⟨by rfl, ?_⟩) hHeld ?_
              · intro w7 hSw
                go_simp
              try simp only [Act.put, List.setIfInBounds_toArray, List.set_cons_zero, List.set_cons_succ, List.getElem_toArray, List.getElem_cons_succ, List.getElem_cons_zero]
              refine wpAnyH_ready (rs := [19]) (by kernel_rfl) (by simp) ?_
              refine AllReadyH.cons rfl (fun K hK => ?_) AllReadyH.nil
              have H8 : Hid (R8 w9 ((((W4.setCell ⟨W2.heap.size, 0, none⟩ (.bool a)).setCell ⟨W2.heap.size, 1, none⟩ (.bool dd)).setCell ⟨W2.heap.size, 2, none⟩ (.slice A4x (P.length + Q.length) c4x))) (.pointer (some ⟨W2.heap.size, 0, none⟩)) a dd (P ++ Q)) := Lib.hid (by
                have := R8.of (a := a) (dd := dd) (Z := P ++ Q) (A := A4x) (c := c4x) (cs := #[]) T4 hb10 B4 (by rw [List.length_append, List.map_append]; exact O4)
                rw [List.length_append] at this
                exact this)
              obtain ⟨x0, x1, x2⟩ := cells3 B4
              have y0 := B4.frozen 0
              have y1 := B4.frozen 1
              have y2 := B4.frozen 2
              go_simp
              refine hK.out _ _ (HKEEP.out _ H8.out.safe) (fun hHeld => ?_)
              clear hK K
              refine wpAnyH_done (by kernel_rfl) ?_ _
              go_wp2_with fail
              go_meet
              exact (by rw [Bool.false_or, HDD.out]; exact H8.out)
          · go_simp
            obtain ⟨W2, hW2⟩ : ∃ X, X = W1.alloc (.cells #[.bool false, .bool false, .slice none 0 0] 49) := ⟨_, rfl⟩
            rw [← hW2]
            have T2 : Safe w9 W2 := by rw [hW2]; exact T1.alloc _
            have B2 : Blk W2 W1.heap.size 49 #[.bool false, .bool false, .slice none 0 0] := by rw [hW2]; exact Blk.new _ _ _
            have hb10 : w9.heap.size ≤ W1.heap.size := T1.size
            have E2 := own_safe E1 (show Safe W1 W2 by rw [hW2]; exact (But.refl _ _).alloc _)
            clear hW2
            refine hK.out _ _ (HKEEP.out _ T2) (fun hHeld => ?_)
            clear hK K
            try simp only [Act.put, List.setIfInBounds_toArray, List.set_cons_zero, List.set_cons_succ, List.getElem_toArray, List.getElem_cons_succ, List.getElem_cons_zero]
            refine wpAnyH_ready (rs := [13]) (by kernel_rfl) (by simp) ?_
            refine AllReadyH.cons rfl (fun K hK => ?_) AllReadyH.nil
            refine step_pushAll slStrs (by rfl) (.tmp 49) (.tmp 51) (by rfl) w9.heap.size (.slice (some ⟨W0.heap.size, 0, none⟩) 0 0) 0 [] (by rfl) E2 A3 P.length c3 (P.map Sv) (by rfl) HML.out (HCA.out _ T2) HON.out h63 hby T2.size ?_
            intro v3 W3 ho hg hd
            rw [Nat.zero_add, List.nil_append] at ho
            obtain ⟨A3x, c3x, rfl, -⟩ := own_form ho
            have O3 := ho
            have T3 : Safe w9 W3 := safe_own T2 E2 hg (Nat.le_refl _)
            have B3 : Blk W3 W1.heap.size 49 #[.bool false, .bool false, .slice none 0 0] := B2.but (But.of_grown hg) (own_not E2 B2)
            clear ho hg hd
            refine hK.out _ _ (HKEEP.out _ T3) (fun hHeld => ?_)
            clear hK K
            try simp only [Act.put, List.setIfInBounds_toArray, List.set_cons_zero, List.set_cons_succ, List.getElem_toArray, List.getElem_cons_succ, List.getElem_cons_zero]
            refine wpAnyH_ready (rs := [16]) (by kernel_rfl) (by simp) ?_
            refine AllReadyH.cons rfl (fun K hK => ?_) AllReadyH.nil
            refine step_pushAll slStrs (by rfl) (.tmp 52) (.tmp 54) (by rfl) w9.heap.size (.slice A3x P.length c3x) P.length (P.map Sv) (by rfl) O3 A6 Q.length c6 (Q.map Sv) (by rfl) HML2.out (HCB.out _ T3) HON2.out h63b hbyb T3.size ?_
            intro v4 W4 ho hg hd
            obtain ⟨A4x, c4x, rfl, -⟩ := own_form ho
            have O4 := ho
            have T4 : Safe w9 W4 := safe_own T3 O3 hg (Nat.le_refl _)
            have B4 : Blk W4 W1.heap.size 49 #[.bool false, .bool false, .slice none 0 0] := B3.but (But.of_grown hg) (own_not O3 B3)
            clear ho hg hd
            refine hK.out _ _ (HKEEP.out _ T4) (fun hHeld => ?_)
            clear hK K
            try simp only [Act.put, List.setIfInBounds_toArray, List.set_cons_zero, List.set_cons_succ, List.getElem_toArray, List.getElem_cons_succ, List.getElem_cons_zero]
            refine wpAnyH_take (i := 17) (v := (.agg #[.bool a, .bool dd, .slice A4x (P.length + Q.length) c4x])) rfl (by kernel_rfl) (by kernel_rfl) (by kernel_rfl) (fun _ _ _ h => h) (Or.inl ⟨by rfl, ?_⟩) hHeld ?_
            · intro w7 hSw
              go_simp
            try simp only [Act.put, List.setIfInBounds_toArray, List.set_cons_zero, List.set_cons_succ, List.getElem_toArray, List.getElem_cons_succ, List.getElem_cons_zero]
            refine wpAnyH_ready (rs := [19]) (by kernel_rfl) (by simp) ?_
            refine AllReadyH.cons rfl (fun K hK => ?_) AllReadyH.nil
            have H8 : Hid (R8 w9 ((((W4.setCell ⟨W1.heap.size, 0, none⟩ (.bool a)).setCell ⟨W1.heap.size, 1, none⟩ (.bool dd)).setCell ⟨W1.heap.size, 2, none⟩ (.slice A4x (P.length + Q.length) c4x))) (.pointer (some ⟨W1.heap.size, 0, none⟩)) a dd (P ++ Q)) := Lib.hid (by
              have := R8.of (a := a) (dd := dd) (Z := P ++ Q) (A := A4x) (c := c4x) (cs := #[]) T4 hb10 B4 (by rw [List.length_append, List.map_append]; exact O4)
              rw [List.length_append] at this
              exact this)
            obtain ⟨x0, x1, x2⟩ := cells3 B4
            have y0 := B4.frozen 0
            have y1 := B4.frozen 1
            have y2 := B4.frozen 2
            go_simp
            refine hK.out _ _ (HKEEP.out _ H8.out.safe) (fun hHeld => ?_)
            clear hK K
            refine wpAnyH_done (by kernel_rfl) ?_ _
            go_wp2_with fail
            go_meet
            exact (by rw [Bool.false_or, HDD.out]; exact H8.out)
        · go_simp
          obtain ⟨W1, hW1⟩ : ∃ X, X = W0.alloc (.cells #[.bool false, .bool false, .slice none 0 0] 49) := ⟨_, rfl⟩
          rw [← hW1]
          have T1 : Safe w9 W1 := by rw [hW1]; exact hT0.alloc _
          have B1 : Blk W1 W0.heap.size 49 #[.bool false, .bool false, .slice none 0 0] := by rw [hW1]; exact Blk.new _ _ _
          have hb10 : w9.heap.size ≤ W0.heap.size := hT0.size
          clear hW1
          refine hK.out _ _ (HKEEP.out _ T1) (fun hHeld => ?_)
          clear hK K
          try simp only [Act.put, List.setIfInBounds_toArray, List.set_cons_zero, List.set_cons_succ, List.getElem_toArray, List.getElem_cons_succ, List.getElem_cons_zero]
          refine wpAnyH_ready (rs := [10]) (by kernel_rfl) (by simp) ?_
          refine AllReadyH.cons rfl (fun K hK => ?_) AllReadyH.nil
          go_simp
          obtain ⟨W2, hW2⟩ : ∃ X, X = W1.alloc (.cells #[] 9) := ⟨_, rfl⟩
          rw [← hW2]
          have T2 : Safe w9 W2 := by rw [hW2]; exact T1.alloc _
          have E2 : W2.ownsRow w9.heap.size 9 1 (.slice (some ⟨W1.heap.size, 0, none⟩) 0 0) 0 [] := own_none1' (by rw [hW2]; exact Blk.new _ _ _) T1.size
          have B2 : Blk W2 W0.heap.size 49 #[.bool false, .bool false, .slice none 0 0] := by rw [hW2]; exact B1.alloc _
          clear hW2
          refine hK.out _ _ (HKEEP.out _ T2) (fun hHeld => ?_)
          clear hK K
          try simp only [Act.put, List.setIfInBounds_toArray, List.set_cons_zero, List.set_cons_succ, List.getElem_toArray, List.getElem_cons_succ, List.getElem_cons_zero]
          refine wpAnyH_ready (rs := [13]) (by kernel_rfl) (by simp) ?_
          refine AllReadyH.cons rfl (fun K hK => ?_) AllReadyH.nil
          refine step_pushAll slStrs (by rfl) (.tmp 49) (.tmp 51) (by rfl) w9.heap.size (.slice (some ⟨W1.heap.size, 0, none⟩) 0 0) 0 [] (by rfl) E2 A3 P.length c3 (P.map Sv) (by rfl) HML.out (HCA.out _ T2) HON.out h63 hby T2.size ?_
          intro v3 W3 ho hg hd
          rw [Nat.zero_add, List.nil_append] at ho
          obtain ⟨A3x, c3x, rfl, -⟩ := own_form ho
          have O3 := ho
          have T3 : Safe w9 W3 := safe_own T2 E2 hg (Nat.le_refl _)
          have B3 : Blk W3 W0.heap.size 49 #[.bool false, .bool false, .slice none 0 0] := B2.but (But.of_grown hg) (own_not E2 B2)
          clear ho hg hd
          refine hK.out _ _ (HKEEP.out _ T3) (fun hHeld => ?_)
          clear hK K
          try simp only [Act.put, List.setIfInBounds_toArray, List.set_cons_zero, List.set_cons_succ, List.getElem_toArray, List.getElem_cons_succ, List.getElem_cons_zero]
          refine wpAnyH_ready (rs := [16]) (by kernel_rfl) (by simp) ?_
          refine AllReadyH.cons rfl (fun K hK => ?_) AllReadyH.nil
          refine step_pushAll slStrs (by rfl) (.tmp 52) (.tmp 54) (by rfl) w9.heap.size (.slice A3x P.length c3x) P.length (P.map Sv) (by rfl) O3 A6 Q.length c6 (Q.map Sv) (by rfl) HML2.out (HCB.out _ T3) HON2.out h63b hbyb T3.size ?_
          intro v4 W4 ho hg hd
          obtain ⟨A4x, c4x, rfl, -⟩ := own_form ho
          have O4 := ho
          have T4 : Safe w9 W4 := safe_own T3 O3 hg (Nat.le_refl _)
          have B4 : Blk W4 W0.heap.size 49 #[.bool false, .bool false, .slice none 0 0] := B3.but (But.of_grown hg) (own_not O3 B3)
          clear ho hg hd
          refine hK.out _ _ (HKEEP.out _ T4) (fun hHeld => ?_)
          clear hK K
          try simp only [Act.put, List.setIfInBounds_toArray, List.set_cons_zero, List.set_cons_succ, List.getElem_toArray, List.getElem_cons_succ, List.getElem_cons_zero]
          refine wpAnyH_take (i := 17) (v := (.agg #[.bool a, .bool dd, .slice A4x (P.length + Q.length) c4x])) rfl (by kernel_rfl) (by kernel_rfl) (by kernel_rfl) (fun _ _ _ h => h) (Or.inl ⟨by rfl, ?_⟩) hHeld ?_
          · intro w7 hSw
            go_simp
          try simp only [Act.put, List.setIfInBounds_toArray, List.set_cons_zero, List.set_cons_succ, List.getElem_toArray, List.getElem_cons_succ, List.getElem_cons_zero]
          refine wpAnyH_ready (rs := [19]) (by kernel_rfl) (by simp) ?_
          refine AllReadyH.cons rfl (fun K hK => ?_) AllReadyH.nil
          have H8 : Hid (R8 w9 ((((W4.setCell ⟨W0.heap.size, 0, none⟩ (.bool a)).setCell ⟨W0.heap.size, 1, none⟩ (.bool dd)).setCell ⟨W0.heap.size, 2, none⟩ (.slice A4x (P.length + Q.length) c4x))) (.pointer (some ⟨W0.heap.size, 0, none⟩)) a dd (P ++ Q)) := Lib.hid (by
            have := R8.of (a := a) (dd := dd) (Z := P ++ Q) (A := A4x) (c := c4x) (cs := #[]) T4 hb10 B4 (by rw [List.length_append, List.map_append]; exact O4)
            rw [List.length_append] at this
            exact this)
          obtain ⟨x0, x1, x2⟩ := cells3 B4
          have y0 := B4.frozen 0
          have y1 := B4.frozen 1
          have y2 := B4.frozen 2
          go_simp
          refine hK.out _ _ (HKEEP.out _ H8.out.safe) (fun hHeld => ?_)
          clear hK K
          refine wpAnyH_done (by kernel_rfl) ?_ _
          go_wp2_with fail
          go_meet
          exact (by rw [Bool.false_or, HDD.out]; exact H8.out)
      · skip
        refine wp_region_held_drew (S := fun w' => w'.cell? ⟨w3.heap.size, 0, none⟩ = some (.bool a) ∧ w'.cell? ⟨w3.heap.size, 2, none⟩ = some (.slice A3 P.length c3) ∧ w'.cell? ⟨w6.heap.size, 1, none⟩ = some (.bool true) ∧ w'.cell? ⟨w6.heap.size, 2, none⟩ = some (.slice A6 Q.length c6)) (by kernel_rfl) (HKEEP.out _ (But.refl _ w9).drew) (fun hHeld => ?_)
        obtain ⟨W0, hW0⟩ : ∃ W0, W0 = w9.drew := ⟨_, rfl⟩
        rw [← hW0] at hHeld ⊢
        have hT0 : Safe w9 W0 := by rw [hW0]; exact (But.refl _ w9).drew
        clear hW0
        refine wpAnyH_take (i := 0) (v := (.pointer (some ⟨w3.heap.size, 0, none⟩))) rfl (by kernel_rfl) (by kernel_rfl) (by kernel_rfl) (fun _ _ _ h => h) (Or.inl ⟨by rfl, ?_⟩) hHeld ?_
        · intro w7 hSw
          obtain ⟨k0, k1, k2, k3⟩ := hSw
          go_simp
        try simp only [Act.put, List.setIfInBounds_toArray, List.set_cons_zero, List.set_cons_succ, List.getElem_toArray, List.getElem_cons_succ, List.getElem_cons_zero]
        refine wpAnyH_take (i := 1) (v := (.bool a)) rfl (by kernel_rfl) (by kernel_rfl) (by kernel_rfl) (fun _ _ _ h => h) (Or.inl ⟨by rfl, ?_⟩) hHeld ?_
        · intro w7 hSw
          obtain ⟨k0, k1, k2, k3⟩ := hSw
          go_simp
        try simp only [Act.put, List.setIfInBounds_toArray, List.set_cons_zero, List.set_cons_succ, List.getElem_toArray, List.getElem_cons_succ, List.getElem_cons_zero]
        refine wpAnyH_take (i := 2) (v := (.pointer (some ⟨w6.heap.size, 1, none⟩))) rfl (by kernel_rfl) (by kernel_rfl) (by kernel_rfl) (fun _ _ _ h => h) (Or.inl ⟨by rfl, ?_⟩) hHeld ?_
        · intro w7 hSw
          obtain ⟨k0, k1, k2, k3⟩ := hSw
          go_simp
        try simp only [Act.put, List.setIfInBounds_toArray, List.set_cons_zero, List.set_cons_succ, List.getElem_toArray, List.getElem_cons_succ, List.getElem_cons_zero]
        refine wpAnyH_take (i := 3) (v := (.bool true)) rfl (by kernel_rfl) (by kernel_rfl) (by kernel_rfl) (fun _ _ _ h => h) (Or.inl ⟨by rfl, ?_⟩) hHeld ?_
        · intro w7 hSw
          obtain ⟨k0, k1, k2, k3⟩ := hSw
          go_simp
        try simp only [Act.put, List.setIfInBounds_toArray, List.set_cons_zero, List.set_cons_succ, List.getElem_toArray, List.getElem_cons_succ, List.getElem_cons_zero]
        refine wpAnyH_take (i := 4) (v := (.bool true)) rfl (by kernel_rfl) (by kernel_rfl) (by kernel_rfl) (fun _ _ _ h => h) (Or.inl ⟨by rfl, ?_⟩) hHeld ?_
        · intro w7 hSw
          obtain ⟨k0, k1, k2, k3⟩ := hSw
          go_simp
        try simp only [Act.put, List.setIfInBounds_toArray, List.set_cons_zero, List.set_cons_succ, List.getElem_toArray, List.getElem_cons_succ, List.getElem_cons_zero]
        refine wpAnyH_take (i := 5) (v := undef) rfl (by kernel_rfl) (by kernel_rfl) (by kernel_rfl) (fun _ _ _ h => h) (Or.inr ⟨by rfl, rfl⟩) hHeld ?_
        try simp only [Act.put, List.setIfInBounds_toArray, List.set_cons_zero, List.set_cons_succ, List.getElem_toArray, List.getElem_cons_succ, List.getElem_cons_zero]
        refine wpAnyH_take (i := 6) (v := undef) rfl (by kernel_rfl) (by kernel_rfl) (by kernel_rfl) (fun _ _ _ h => h) (Or.inr ⟨by rfl, rfl⟩) hHeld ?_
        try simp only [Act.put, List.setIfInBounds_toArray, List.set_cons_zero, List.set_cons_succ, List.getElem_toArray, List.getElem_cons_succ, List.getElem_cons_zero]
        refine wpAnyH_take (i := 7) (v := undef) rfl (by kernel_rfl) (by kernel_rfl) (by kernel_rfl) (fun _ _ _ h => h) (Or.inr ⟨by rfl, rfl⟩) hHeld ?_
        try simp only [Act.put, List.setIfInBounds_toArray, List.set_cons_zero, List.set_cons_succ, List.getElem_toArray, List.getElem_cons_succ, List.getElem_cons_zero]
        refine wpAnyH_take (i := 8) (v := undef) rfl (by kernel_rfl) (by kernel_rfl) (by kernel_rfl) (fun _ _ _ h => h) (Or.inr ⟨by rfl, rfl⟩) hHeld ?_
        try simp only [Act.put, List.setIfInBounds_toArray, List.set_cons_zero, List.set_cons_succ, List.getElem_toArray, List.getElem_cons_succ, List.getElem_cons_zero]
        refine wpAnyH_take (i := 9) (v := (.bool true)) rfl (by kernel_rfl) (by kernel_rfl) (by kernel_rfl) (fun _ _ _ h => h) (Or.inl ⟨by rfl, ?_⟩) hHeld ?_
        · intro w7 hSw
          obtain ⟨k0, k1, k2, k3⟩ := hSw
          go_simp
        try simp only [Act.put, List.setIfInBounds_toArray, List.set_cons_zero, List.set_cons_succ, List.getElem_toArray, List.getElem_cons_succ, List.getElem_cons_zero]
        refine wpAnyH_take (i := 11) (v := (.pointer (some ⟨w3.heap.size, 2, none⟩))) rfl (by kernel_rfl) (by kernel_rfl) (by kernel_rfl) (fun _ _ _ h => h) (Or.inl ⟨by rfl, ?_⟩) hHeld ?_
        · intro w7 hSw
          obtain ⟨k0, k1, k2, k3⟩ := hSw
          go_simp
        try simp only [Act.put, List.setIfInBounds_toArray, List.set_cons_zero, List.set_cons_succ, List.getElem_toArray, List.getElem_cons_succ, List.getElem_cons_zero]
        refine wpAnyH_take (i := 12) (v := (.slice A3 P.length c3)) rfl (by kernel_rfl) (by kernel_rfl) (by kernel_rfl) (fun _ _ _ h => h) (Or.inl ⟨by rfl, ?_⟩) hHeld ?_
        · intro w7 hSw
          obtain ⟨k0, k1, k2, k3⟩ := hSw
          go_simp
        try simp only [Act.put, List.setIfInBounds_toArray, List.set_cons_zero, List.set_cons_succ, List.getElem_toArray, List.getElem_cons_succ, List.getElem_cons_zero]
        refine wpAnyH_take (i := 14) (v := (.pointer (some ⟨w6.heap.size, 2, none⟩))) rfl (by kernel_rfl) (by kernel_rfl) (by kernel_rfl) (fun _ _ _ h => h) (Or.inl ⟨by rfl, ?_⟩) hHeld ?_
        · intro w7 hSw
          obtain ⟨k0, k1, k2, k3⟩ := hSw
          go_simp
        try simp only [Act.put, List.setIfInBounds_toArray, List.set_cons_zero, List.set_cons_succ, List.getElem_toArray, List.getElem_cons_succ, List.getElem_cons_zero]
        refine wpAnyH_take (i := 15) (v := (.slice A6 Q.length c6)) rfl (by kernel_rfl) (by kernel_rfl) (by kernel_rfl) (fun _ _ _ h => h) (Or.inl ⟨by rfl, ?_⟩) hHeld ?_
        · intro w7 hSw
          obtain ⟨k0, k1, k2, k3⟩ := hSw
          go_simp
        try simp only [Act.put, List.setIfInBounds_toArray, List.set_cons_zero, List.set_cons_succ, List.getElem_toArray, List.getElem_cons_succ, List.getElem_cons_zero]
        refine wpAnyH_ready (rs := [10, 18]) (by kernel_rfl) (by simp) ?_
        refine AllReadyH.cons rfl (fun K hK => ?_) (AllReadyH.cons rfl (fun K hK => ?_) AllReadyH.nil)
        · go_simp
          obtain ⟨W1, hW1⟩ : ∃ X, X = W0.alloc (.cells #[] 9) := ⟨_, rfl⟩
          rw [← hW1]
          have T1 : Safe w9 W1 := by rw [hW1]; exact hT0.alloc _
          have E1 : W1.ownsRow w9.heap.size 9 1 (.slice (some ⟨W0.heap.size, 0, none⟩) 0 0) 0 [] := own_none1' (by rw [hW1]; exact Blk.new _ _ _) hT0.size
          clear hW1
          refine hK.out _ _ (HKEEP.out _ T1) (fun hHeld => ?_)
          clear hK K
          try simp only [Act.put, List.setIfInBounds_toArray, List.set_cons_zero, List.set_cons_succ, List.getElem_toArray, List.getElem_cons_succ, List.getElem_cons_zero]
          refine wpAnyH_ready (rs := [13, 18]) (by kernel_rfl) (by simp) ?_
          refine AllReadyH.cons rfl (fun K hK => ?_) (AllReadyH.cons rfl (fun K hK => ?_) AllReadyH.nil)
          · refine step_pushAll slStrs (by rfl) (.tmp 49) (.tmp 51) (by rfl) w9.heap.size (.slice (some ⟨W0.heap.size, 0, none⟩) 0 0) 0 [] (by rfl) E1 A3 P.length c3 (P.map Sv) (by rfl) HML.out (HCA.out _ T1) HON.out h63 hby T1.size ?_
            intro v2 W2 ho hg hd
            rw [Nat.zero_add, List.nil_append] at ho
            obtain ⟨A2x, c2x, rfl, -⟩ := own_form ho
            have O2 := ho
            have T2 : Safe w9 W2 := safe_own T1 E1 hg (Nat.le_refl _)
            clear ho hg hd
            refine hK.out _ _ (HKEEP.out _ T2) (fun hHeld => ?_)
            clear hK K
            try simp only [Act.put, List.setIfInBounds_toArray, List.set_cons_zero, List.set_cons_succ, List.getElem_toArray, List.getElem_cons_succ, List.getElem_cons_zero]
            refine wpAnyH_ready (rs := [16, 18]) (by kernel_rfl) (by simp) ?_
            refine AllReadyH.cons rfl (fun K hK => ?_) (AllReadyH.cons rfl (fun K hK => ?_) AllReadyH.nil)
            · refine step_pushAll slStrs (by rfl) (.tmp 52) (.tmp 54) (by rfl) w9.heap.size (.slice A2x P.length c2x) P.length (P.map Sv) (by rfl) O2 A6 Q.length c6 (Q.map Sv) (by rfl) HML2.out (HCB.out _ T2) HON2.out h63b hbyb T2.size ?_
              intro v3 W3 ho hg hd
              obtain ⟨A3x, c3x, rfl, -⟩ := own_form ho
              have O3 := ho
              have T3 : Safe w9 W3 := safe_own T2 O2 hg (Nat.le_refl _)
              clear ho hg hd
              refine hK.out _ _ (HKEEP.out _ T3) (fun hHeld => ?_)
              clear hK K
              try simp only [Act.put, List.setIfInBounds_toArray, List.set_cons_zero, List.set_cons_succ, List.getElem_toArray, List.getElem_cons_succ, List.getElem_cons_zero]
              refine wpAnyH_take (i := 17) (v := (.agg #[.bool a, .bool true, .slice A3x (P.length + Q.length) c3x])) rfl (by kernel_rfl) (by kernel_rfl) (by kernel_rfl) (fun _ _ _ h => h) (Or.inl ⟨by rfl, ?_⟩) hHeld ?_
              · intro w7 hSw
                go_simp
              try simp only [Act.put, List.setIfInBounds_toArray, List.set_cons_zero, List.set_cons_succ, List.getElem_toArray, List.getElem_cons_succ, List.getElem_cons_zero]
              refine wpAnyH_ready (rs := [18]) (by kernel_rfl) (by simp) ?_
              refine AllReadyH.cons rfl (fun K hK => ?_) AllReadyH.nil
              go_simp
              obtain ⟨W4, hW4⟩ : ∃ X, X = W3.alloc (.cells #[.bool false, .bool false, .slice none 0 0] 49) := ⟨_, rfl⟩
              rw [← hW4]
              have T4 : Safe w9 W4 := by rw [hW4]; exact T3.alloc _
              have B4 : Blk W4 W3.heap.size 49 #[.bool false, .bool false, .slice none 0 0] := by rw [hW4]; exact Blk.new _ _ _
              have hb10 : w9.heap.size ≤ W3.heap.size := T3.size
              have O4 := own_safe O3 (show Safe W3 W4 by rw [hW4]; exact (But.refl _ _).alloc _)
              clear hW4
              refine hK.out _ _ (HKEEP.out _ T4) (fun hHeld => ?_)
              clear hK K
              try simp only [Act.put, List.setIfInBounds_toArray, List.set_cons_zero, List.set_cons_succ, List.getElem_toArray, List.getElem_cons_succ, List.getElem_cons_zero]
              refine wpAnyH_ready (rs := [19]) (by kernel_rfl) (by simp) ?_
              refine AllReadyH.cons rfl (fun K hK => ?_) AllReadyH.nil
              have H8 : Hid (R8 w9 ((((W4.setCell ⟨W3.heap.size, 0, none⟩ (.bool a)).setCell ⟨W3.heap.size, 1, none⟩ (.bool true)).setCell ⟨W3.heap.size, 2, none⟩ (.slice A3x (P.length + Q.length) c3x))) (.pointer (some ⟨W3.heap.size, 0, none⟩)) a true (P ++ Q)) := Lib.hid (by
                have := R8.of (a := a) (dd := true) (Z := P ++ Q) (A := A3x) (c := c3x) (cs := #[]) T4 hb10 B4 (by rw [List.length_append, List.map_append]; exact O4)
                rw [List.length_append] at this
                exact this)
              obtain ⟨x0, x1, x2⟩ := cells3 B4
              have y0 := B4.frozen 0
              have y1 := B4.frozen 1
              have y2 := B4.frozen 2
              go_simp
              refine hK.out _ _ (HKEEP.out _ H8.out.safe) (fun hHeld => ?_)
              clear hK K
              refine wpAnyH_done (by kernel_rfl) ?_ _
              go_wp2_with fail
              go_meet
              exact (by rw [Bool.true_or]; exact H8.out)
            · go_simp
              obtain ⟨W3, hW3⟩ : ∃ X, X = W2.alloc (.cells #[.bool false, .bool false, .slice none 0 0] 49) := ⟨_, rfl⟩
              rw [← hW3]
              have T3 : Safe w9 W3 := by rw [hW3]; exact T2.alloc _
              have B3 : Blk W3 W2.heap.size 49 #[.bool false, .bool false, .slice none 0 0] := by rw [hW3]; exact Blk.new _ _ _
              have hb10 : w9.heap.size ≤ W2.heap.size := T2.size
              have O3 := own_safe O2 (show Safe W2 W3 by rw [hW3]; exact (But.refl _ _).alloc _)
              clear hW3
              refine hK.out _ _ (HKEEP.out _ T3) (fun hHeld => ?_)
              clear hK K
              try simp only [Act.put, List.setIfInBounds_toArray, List.set_cons_zero, List.set_cons_succ, List.getElem_toArray, List.getElem_cons_succ, List.getElem_cons_zero]
              refine wpAnyH_ready (rs := [16]) (by kernel_rfl) (by simp) ?_
              refine AllReadyH.cons rfl (fun K hK => ?_) AllReadyH.nil
              refine step_pushAll slStrs (by rfl) (.tmp 52) (.tmp 54) (by rfl) w9.heap.size (.slice A2x P.length c2x) P.length (P.map Sv) (by rfl) O3 A6 Q.length c6 (Q.map Sv) (by rfl) HML2.out (HCB.out _ T3) HON2.out h63b hbyb T3.size ?_
              intro v4 W4 ho hg hd
              obtain ⟨A4x, c4x, rfl, -⟩ := own_form ho
              have O4 := ho
              have T4 : Safe w9 W4 := safe_own T3 O3 hg (Nat.le_refl _)
              have B4 : Blk W4 W2.heap.size 49 #[.bool false, .bool false, .slice none 0 0] := B3.but (But.of_grown hg) (own_not O3 B3)
              clear ho hg hd
              refine hK.out _ _ (HKEEP.out _ T4) (fun hHeld => ?_)
              clear hK K
              try simp only [Act.put, List.setIfInBounds_toArray, List.set_cons_zero, List.set_cons_succ, List.getElem_toArray, List.getElem_cons_succ, List.getElem_cons_zero]
              refine wpAnyH_take (i := 17) (v := (.agg #[.bool a, .bool true, .slice A4x (P.length + Q.length) c4x])) rfl (by kernel_rfl) (by kernel_rfl) (by kernel_rfl) (fun _ _ _ h => h) (Or.inl ⟨by rfl, ?_⟩) hHeld ?_
              · intro w7 hSw
                go_simp
              try simp only [Act.put, List.setIfInBounds_toArray, List.set_cons_zero, List.set_cons_succ, List.getElem_toArray, List.getElem_cons_succ, List.getElem_cons_zero]
              refine wpAnyH_ready (rs := [19]) (by kernel_rfl) (by simp) ?_
              refine AllReadyH.cons rfl (fun K hK => ?_) AllReadyH.nil
              have H8 : Hid (R8 w9 ((((W4.setCell ⟨W2.heap.size, 0, none⟩ (.bool a)).setCell ⟨W2.heap.size, 1, none⟩ (.bool true)).setCell ⟨W2.heap.size, 2, none⟩ (.slice A4x (P.length + Q.length) c4x))) (.pointer (some ⟨W2.heap.size, 0, none⟩)) a true (P ++ Q)) := Lib.hid (by
                have := R8.of (a := a) (dd := true) (Z := P ++ Q) (A := A4x) (c := c4x) (cs := #[]) T4 hb10 B4 (by rw [List.length_append, List.map_append]; exact O4)
                rw [List.length_append] at this
                exact this)
              obtain ⟨x0, x1, x2⟩ := cells3 B4
              have y0 := B4.frozen 0
              have y1 := B4.frozen 1
              have y2 := B4.frozen 2
              go_simp
              refine hK.out _ _ (HKEEP.out _ H8.out.safe) (fun hHeld => ?_)
              clear hK K
              refine wpAnyH_done (by kernel_rfl) ?_ _
              go_wp2_with fail
              go_meet
              exact (by rw [Bool.true_or]; exact H8.out)
          · go_simp
            obtain ⟨W2, hW2⟩ : ∃ X, X = W1.alloc (.cells #[.bool false, .bool false, .slice none 0 0] 49) := ⟨_, rfl⟩
            rw [← hW2]
            have T2 : Safe w9 W2 := by rw [hW2]; exact T1.alloc _
            have B2 : Blk W2 W1.heap.size 49 #[.bool false, .bool false, .slice none 0 0] := by rw [hW2]; exact Blk.new _ _ _
            have hb10 : w9.heap.size ≤ W1.heap.size := T1.size
            have E2 := own_safe E1 (show Safe W1 W2 by rw [hW2]; exact (But.refl _ _).alloc _)
            clear hW2
            refine hK.out _ _ (HKEEP.out _ T2) (fun hHeld => ?_)
            clear hK K
            try simp only [Act.put, List.setIfInBounds_toArray, List.set_cons_zero, List.set_cons_succ, List.getElem_toArray, List.getElem_cons_succ, List.getElem_cons_zero]
            refine wpAnyH_ready (rs := [13]) (by kernel_rfl) (by simp) ?_
            refine AllReadyH.cons rfl (fun K hK => ?_) AllReadyH.nil
            refine step_pushAll slStrs (by rfl) (.tmp 49) (.tmp 51) (by rfl) w9.heap.size (.slice (some ⟨W0.heap.size, 0, none⟩) 0 0) 0 [] (by rfl) E2 A3 P.length c3 (P.map Sv) (by rfl) HML.out (HCA.out _ T2) HON.out h63 hby T2.size ?_
            intro v3 W3 ho hg hd
            rw [Nat.zero_add, List.nil_append] at ho
            obtain ⟨A3x, c3x, rfl, -⟩ := own_form ho
            have O3 := ho
            have T3 : Safe w9 W3 := safe_own T2 E2 hg (Nat.le_refl _)
            have B3 : Blk W3 W1.heap.size 49 #[.bool false, .bool false, .slice none 0 0] := B2.but (But.of_grown hg) (own_not E2 B2)
            clear ho hg hd
            refine hK.out _ _ (HKEEP.out _ T3) (fun hHeld => ?_)
            clear hK K
            try simp only [Act.put, List.setIfInBounds_toArray, List.set_cons_zero, List.set_cons_succ, List.getElem_toArray, List.getElem_cons_succ, List.getElem_cons_zero]
            refine wpAnyH_ready (rs := [16]) (by kernel_rfl) (by simp) ?_
            refine AllReadyH.cons rfl (fun K hK => ?_) AllReadyH.nil
            refine step_pushAll slStrs (by rfl) (.tmp 52) (.tmp 54) (by rfl) w9.heap.size (.slice A3x P.length c3x) P.length (P.map Sv) (by rfl) O3 A6 Q.length c6 (Q.map Sv) (by rfl) HML2.out (HCB.out _ T3) HON2.out h63b hbyb T3.size ?_
            intro v4 W4 ho hg hd
            obtain ⟨A4x, c4x, rfl, -⟩ := own_form ho
            have O4 := ho
            have T4 : Safe w9 W4 := safe_own T3 O3 hg (Nat.le_refl _)
            have B4 : Blk W4 W1.heap.size 49 #[.bool false, .bool false, .slice none 0 0] := B3.but (But.of_grown hg) (own_not O3 B3)
            clear ho hg hd
            refine hK.out _ _ (HKEEP.out _ T4) (fun hHeld => ?_)
            clear hK K
            try simp only [Act.put, List.setIfInBounds_toArray, List.set_cons_zero, List.set_cons_succ, List.getElem_toArray, List.getElem_cons_succ, List.getElem_cons_zero]
            refine wpAnyH_take (i := 17) (v := (.agg #[.bool a, .bool true, .slice A4x (P.length + Q.length) c4x])) rfl (by kernel_rfl) (by kernel_rfl) (by kernel_rfl) (fun _ _ _ h => h) (Or.inl ⟨by rfl, ?_⟩) hHeld ?_
            · intro w7 hSw
              go_simp
            try simp only [Act.put, List.setIfInBounds_toArray, List.set_cons_zero, List.set_cons_succ, List.getElem_toArray, List.getElem_cons_succ, List.getElem_cons_zero]
            refine wpAnyH_ready (rs := [19]) (by kernel_rfl) (by simp) ?_
            refine AllReadyH.cons rfl (fun K hK => ?_) AllReadyH.nil
            have H8 : Hid (R8 w9 ((((W4.setCell ⟨W1.heap.size, 0, none⟩ (.bool a)).setCell ⟨W1.heap.size, 1, none⟩ (.bool true)).setCell ⟨W1.heap.size, 2, none⟩ (.slice A4x (P.length + Q.length) c4x))) (.pointer (some ⟨W1.heap.size, 0, none⟩)) a true (P ++ Q)) := Lib.hid (by
              have := R8.of (a := a) (dd := true) (Z := P ++ Q) (A := A4x) (c := c4x) (cs := #[]) T4 hb10 B4 (by rw [List.length_append, List.map_append]; exact O4)
              rw [List.length_append] at this
              exact this)
            obtain ⟨x0, x1, x2⟩ := cells3 B4
            have y0 := B4.frozen 0
            have y1 := B4.frozen 1
            have y2 := B4.frozen 2
            go_simp
            refine hK.out _ _ (HKEEP.out _ H8.out.safe) (fun hHeld => ?_)
            clear hK K
            refine wpAnyH_done (by kernel_rfl) ?_ _
            go_wp2_with fail
            go_meet
            exact (by rw [Bool.true_or]; exact H8.out)
        · go_simp
          obtain ⟨W1, hW1⟩ : ∃ X, X = W0.alloc (.cells #[.bool false, .bool false, .slice none 0 0] 49) := ⟨_, rfl⟩
          rw [← hW1]
          have T1 : Safe w9 W1 := by rw [hW1]; exact hT0.alloc _
          have B1 : Blk W1 W0.heap.size 49 #[.bool false, .bool false, .slice none 0 0] := by rw [hW1]; exact Blk.new _ _ _
          have hb10 : w9.heap.size ≤ W0.heap.size := hT0.size
          clear hW1
          refine hK.out _ _ (HKEEP.out _ T1) (fun hHeld => ?_)
          clear hK K
          try simp only [Act.put, List.setIfInBounds_toArray, List.set_cons_zero, List.set_cons_succ, List.getElem_toArray, List.getElem_cons_succ, List.getElem_cons_zero]
          refine wpAnyH_ready (rs := [10]) (by kernel_rfl) (by simp) ?_
          refine AllReadyH.cons rfl (fun K hK => ?_) AllReadyH.nil
          go_simp
          obtain ⟨W2, hW2⟩ : ∃ X, X = W1.alloc (.cells #[] 9) := ⟨_, rfl⟩
          rw [← hW2]
          have T2 : Safe w9 W2 := by rw [hW2]; exact T1.alloc _
          have E2 : W2.ownsRow w9.heap.size 9 1 (.slice (some ⟨W1.heap.size, 0, none⟩) 0 0) 0 [] := own_none1' (by rw [hW2]; exact Blk.new _ _ _) T1.size
          have B2 : Blk W2 W0.heap.size 49 #[.bool false, .bool false, .slice none 0 0] := by rw [hW2]; exact B1.alloc _
          clear hW2
          refine hK.out _ _ (HKEEP.out _ T2) (fun hHeld => ?_)
          clear hK K
          try simp only [Act.put, List.setIfInBounds_toArray, List.set_cons_zero, List.set_cons_succ, List.getElem_toArray, List.getElem_cons_succ, List.getElem_cons_zero]
          refine wpAnyH_ready (rs := [13]) (by kernel_rfl) (by simp) ?_
          refine AllReadyH.cons rfl (fun K hK => ?_) AllReadyH.nil
          refine step_pushAll slStrs (by rfl) (.tmp 49) (.tmp 51) (by rfl) w9.heap.size (.slice (some ⟨W1.heap.size, 0, none⟩) 0 0) 0 [] (by rfl) E2 A3 P.length c3 (P.map Sv) (by rfl) HML.out (HCA.out _ T2) HON.out h63 hby T2.size ?_
          intro v3 W3 ho hg hd
          rw [Nat.zero_add, List.nil_append] at ho
          obtain ⟨A3x, c3x, rfl, -⟩ := own_form ho
          have O3 := ho
          have T3 : Safe w9 W3 := safe_own T2 E2 hg (Nat.le_refl _)
          have B3 : Blk W3 W0.heap.size 49 #[.bool false, .bool false, .slice none 0 0] := B2.but (But.of_grown hg) (own_not E2 B2)
          clear ho hg hd
          refine hK.out _ _ (HKEEP.out _ T3) (fun hHeld => ?_)
          clear hK K
          try simp only [Act.put, List.setIfInBounds_toArray, List.set_cons_zero, List.set_cons_succ, List.getElem_toArray, List.getElem_cons_succ, List.getElem_cons_zero]
          refine wpAnyH_ready (rs := [16]) (by kernel_rfl) (by simp) ?_
          refine AllReadyH.cons rfl (fun K hK => ?_) AllReadyH.nil
          refine step_pushAll slStrs (by rfl) (.tmp 52) (.tmp 54) (by rfl) w9.heap.size (.slice A3x P.length c3x) P.length (P.map Sv) (by rfl) O3 A6 Q.length c6 (Q.map Sv) (by rfl) HML2.out (HCB.out _ T3) HON2.out h63b hbyb T3.size ?_
          intro v4 W4 ho hg hd
          obtain ⟨A4x, c4x, rfl, -⟩ := own_form ho
          have O4 := ho
          have T4 : Safe w9 W4 := safe_own T3 O3 hg (Nat.le_refl _)
          have B4 : Blk W4 W0.heap.size 49 #[.bool false, .bool false, .slice none 0 0] := B3.but (But.of_grown hg) (own_not O3 B3)
          clear ho hg hd
          refine hK.out _ _ (HKEEP.out _ T4) (fun hHeld => ?_)
          clear hK K
          try simp only [Act.put, List.setIfInBounds_toArray, List.set_cons_zero, List.set_cons_succ, List.getElem_toArray, List.getElem_cons_succ, List.getElem_cons_zero]
          refine wpAnyH_take (i := 17) (v := (.agg #[.bool a, .bool true, .slice A4x (P.length + Q.length) c4x])) rfl (by kernel_rfl) (by kernel_rfl) (by kernel_rfl) (fun _ _ _ h => h) (Or.inl ⟨by rfl, ?_⟩) hHeld ?_
          · intro w7 hSw
            go_simp
          try simp only [Act.put, List.setIfInBounds_toArray, List.set_cons_zero, List.set_cons_succ, List.getElem_toArray, List.getElem_cons_succ, List.getElem_cons_zero]
          refine wpAnyH_ready (rs := [19]) (by kernel_rfl) (by simp) ?_
          refine AllReadyH.cons rfl (fun K hK => ?_) AllReadyH.nil
          have H8 : Hid (R8 w9 ((((W4.setCell ⟨W0.heap.size, 0, none⟩ (.bool a)).setCell ⟨W0.heap.size, 1, none⟩ (.bool true)).setCell ⟨W0.heap.size, 2, none⟩ (.slice A4x (P.length + Q.length) c4x))) (.pointer (some ⟨W0.heap.size, 0, none⟩)) a true (P ++ Q)) := Lib.hid (by
            have := R8.of (a := a) (dd := true) (Z := P ++ Q) (A := A4x) (c := c4x) (cs := #[]) T4 hb10 B4 (by rw [List.length_append, List.map_append]; exact O4)
            rw [List.length_append] at this
            exact this)
          obtain ⟨x0, x1, x2⟩ := cells3 B4
          have y0 := B4.frozen 0
          have y1 := B4.frozen 1
          have y2 := B4.frozen 2
          go_simp
          refine hK.out _ _ (HKEEP.out _ H8.out.safe) (fun hHeld => ?_)
          clear hK K
          refine wpAnyH_done (by kernel_rfl) ?_ _
          go_wp2_with fail
          go_meet
          exact (by rw [Bool.true_or]; exact H8.out)
    case rest =>
      obtain ⟨⟨b, A10, c10, rfl, hb, hB10, hP10⟩, hs10⟩ := hcut
      have HZL : Z.length ≤ 64 := by
        have h := HJJ.out
        unfold joinPM at h
        split at h
        · have : Z = Q := congrArg PathM.parts h
          rw [this]; omega
        · have : Z = P ++ Q := congrArg PathM.parts h
          rw [this, List.length_append]; omega
      obtain ⟨e0, e1, e2⟩ := cells3 (C9.out.but hs10 id)
      have HB := Lib.hid hb
      have T10 := Lib.hid hs10
      have D10 := Lib.hid hB10
      have R10 := Lib.hid hP10.rd
      clear hs10 hB10 hP10 hb
      go_upto_if 58 with fail
      go_cut [3] from 59 to 61 (fun _ wx => ∃ Ax cx, Safe w9 wx ∧ Blk wx b 49 #[.bool ja, .bool jd, .slice Ax Z.length cx] ∧ Rd Sv wx Ax Z)
      case first =>
        cases a2
        · have hj := HJJ.out
          simp only [joinPM, Bool.false_eq_true, if_false] at hj
          injection hj with j1 j2 j3
          have J1 := Lib.hid j1
          have J2 := Lib.hid j2
          have J3 := Lib.hid j3
          clear j1 j2 j3
          go_wp2_with fail
          go_meet
          exact ⟨A10, c10, T10.out, by rw [J1.out, J2.out, J3.out]; exact D10.out, by rw [J3.out]; exact R10.out⟩
        · have hj := HJJ.out
          simp only [joinPM, if_true] at hj
          injection hj with j1 j2 j3
          have J1 := Lib.hid j1
          have J2 := Lib.hid j2
          have J3 := Lib.hid j3
          clear j1 j2 j3
          have HTD := Lib.hid (fun W => told_any true d2 A6 Q.length c6 W)
          go_wp2_with fail
          refine (HTD.out _).mono ?_
          rintro _ w11 ⟨rfl, hs11⟩
          have hD := D10.out.but hs11 id
          obtain ⟨x0, x1, x2⟩ := cells3 hD
          have y0 := hD.frozen 0
          have y1 := hD.frozen 1
          have y2 := hD.frozen 2
          have T11 := Lib.hid (T10.out.trans hs11)
          have D11 := Lib.hid hD
          clear hD hs11
          go_wp2_with fail
          go_meet
          refine ⟨A6, c6, ((T11.out.setCell (p := ⟨b, 0, none⟩) (.inr HB.out) _).setCell (p := ⟨b, 1, none⟩) (.inr HB.out) _).setCell (p := ⟨b, 2, none⟩) (.inr HB.out) _, by rw [J1.out, J2.out, J3.out]; exact ((D11.out.set 0 _).set 1 _).set 2 _, ?_⟩
          rw [J3.out]
          exact Q9.out.rd.safe (((T11.out.setCell (p := ⟨b, 0, none⟩) (.inr HB.out) _).setCell (p := ⟨b, 1, none⟩) (.inr HB.out) _).setCell (p := ⟨b, 2, none⟩) (.inr HB.out) _)
      case rest =>
        obtain ⟨Ax, cx, hT, hD, hR⟩ := hcut
        have T12 := Lib.hid hT
        obtain ⟨x0, x1, x2⟩ := cells3 hD
        obtain ⟨z0, z1, z2⟩ := cells3 (J9.out.but hT id)
        have HT2 := Lib.hid (fun W => told_any ja jd A8 Z.length c8 W)
        have HSM : Hid (∀ W, Safe wc W → Calls Tryd.prog 19 #[Pv ja jd A8 Z.length c8, Pv ja jd Ax Z.length cx] W fun e w' => e = .returned (.bool true) ∧ Safe W w') := Lib.hid (fun W hs => by
          have := same_any ja jd ja jd A8 Ax Z Z c8 cx W (N9.out.rd.safe (hT.trans hs)) (hR.safe hs) (by omega) (by omega)
          simpa using this)
        have HKE := Lib.hid (show ∀ W, Safe wc W → (W.cell? ⟨w8.heap.size, 0, none⟩ = some (.bool ja) ∧ W.cell? ⟨w8.heap.size, 1, none⟩ = some (.bool jd) ∧ W.cell? ⟨w8.heap.size, 2, none⟩ = some (.slice A8 Z.length c8) ∧ W.cell? ⟨b, 0, none⟩ = some (.bool ja) ∧ W.cell? ⟨b, 1, none⟩ = some (.bool jd) ∧ W.cell? ⟨b, 2, none⟩ = some (.slice Ax Z.length cx)) from
          fun W S => ⟨S.cell z0 id, S.cell z1 id, S.cell z2 id, S.cell x0 id, S.cell x1 id, S.cell x2 id⟩)
        clear hT hD hR
        go_wp2_with fail
        go_region_held3 (fun w' => w'.cell? ⟨w8.heap.size, 0, none⟩ = some (.bool ja) ∧ w'.cell? ⟨w8.heap.size, 1, none⟩ = some (.bool jd) ∧ w'.cell? ⟨w8.heap.size, 2, none⟩ = some (.slice A8 Z.length c8) ∧ w'.cell? ⟨b, 0, none⟩ = some (.bool ja) ∧ w'.cell? ⟨b, 1, none⟩ = some (.bool jd) ∧ w'.cell? ⟨b, 2, none⟩ = some (.slice Ax Z.length cx))
          (first | (with_reducible exact HK2.out) | (with_reducible exact HK1.out) | go_keep)
          ((first
            | (go_at_call 20; refine (HT2.out _).mono ?_; rintro _ w13 ⟨rfl, hs13⟩; have HS13 := Lib.hid ((But.refl (fun _ => False) wc).drew.trans hs13); have HK1 := Lib.hid (HKE.out _ HS13.out); clear hs13)
            | (go_at_call 19; refine (HSM.out _ HS13.out).mono ?_; rintro _ w14 ⟨rfl, hs14⟩; have HS14 := Lib.hid (HS13.out.trans hs14); have HK2 := Lib.hid (HKE.out _ HS14.out); clear hs14)))
        have T14 := Lib.hid (T12.out.trans HS14.out)
        clear x0 x1 x2 z0 z1 z2 HK1 HK2 HS13 HS14 HSM HT2 HKE e0 e1 e2
        obtain ⟨b0, b1, b2⟩ := cells3 (B9.out.but T14.out id)
        obtain ⟨e0, e1, e2⟩ := cells3 (C9.out.but T14.out id)
        obtain ⟨z0, z1, z2⟩ := cells3 (J9.out.but T14.out id)
        go_wp2_with fail
        obtain ⟨wS, hwS⟩ : ∃ wS, wS = w14.alloc (.cells #[.bool a, .bool d, .slice A3 P.length c3, .bool a2, .bool d2, .slice A6 Q.length c6, .bool ja, .bool jd, .slice A8 Z.length c8] 25) := ⟨_, rfl⟩
        have hsS : Safe w14 wS := by rw [hwS]; exact (But.refl _ _).alloc _
        have TS := Lib.hid (T14.out.trans hsS)
        have ES : Hid (Blk wS w14.heap.size 25 #[.bool a, .bool d, .slice A3 P.length c3, .bool a2, .bool d2, .slice A6 Q.length c6, .bool ja, .bool jd, .slice A8 Z.length c8]) := Lib.hid (by rw [hwS]; exact Blk.new _ _ _)
        have HWS := Lib.hid hwS
        rw [← hwS]
        clear hwS hsS b0 b1 b2 e0 e1 e2 z0 z1 z2
        go_loopw [71] (fun x wr => ∃ k : Nat, k ≤ 3 ∧ x = .int .i64 k ∧ Safe wS wr) (fun x _ => 3 - (intOf x).toNat)
        case atStart => exact ⟨0, by omega, rfl, But.refl _ _⟩
        case round =>
          obtain ⟨k, hk, rfl, hR⟩ := hrel
          obtain ⟨wo, rfl⟩ : ∃ wo : World, wo = wr := ⟨_, rfl⟩
          have TR := Lib.hid hR
          have hE := ES.out.but hR id
          clear hR
          have hcs : k = 3 ∨ (k < 3 ∧ ∃ xa xd Ax cx X, X.length ≤ 64 ∧ Rd Sv wS Ax X ∧ ES = ES ∧ (wo.cell? ⟨w14.heap.size, k * 3, none⟩ = some (.bool xa) ∧ wo.cell? ⟨w14.heap.size, k * 3 + 1, none⟩ = some (.bool xd) ∧ wo.cell? ⟨w14.heap.size, k * 3 + 2, none⟩ = some (.slice Ax X.length cx))) := by
            have h4 : k = 3 ∨ k = 0 ∨ k = 1 ∨ k = 2 := by omega
            rcases h4 with rfl | rfl | rfl | rfl
            · exact .inl rfl
            · exact .inr ⟨by omega, a, d, A3, c3, P, by omega, P9.out.rd.safe TS.out, rfl, hE.cell' (i := 0) rfl, hE.cell' (i := 1) rfl, hE.cell' (i := 2) rfl⟩
            · exact .inr ⟨by omega, a2, d2, A6, c6, Q, by omega, Q9.out.rd.safe TS.out, rfl, hE.cell' (i := 3) rfl, hE.cell' (i := 4) rfl, hE.cell' (i := 5) rfl⟩
            · exact .inr ⟨by omega, ja, jd, A8, c8, Z, by omega, N9.out.rd.safe TS.out, rfl, hE.cell' (i := 6) rfl, hE.cell' (i := 7) rfl, hE.cell' (i := 8) rfl⟩
          clear hE
          rcases hcs with rfl | ⟨hlt, xa, xd, Ay, cy, X, hX, hrd, -, y0, y1, y2⟩
          · go_wp2_with fail
            go_ret
            exact ⟨rfl, S9.out.trans (TS.out.trans TR.out)⟩
          · have hi1 : (k : Int) < 3 := by omega
            have hi0 : (0 : Int) ≤ (k : Int) := by omega
            have RX := Lib.hid hrd
            clear hrd
            go_wp2_with fail
            obtain ⟨wX, hwX⟩ : ∃ wX, wX = wo.alloc (.cells #[.bool xa, .bool xd, .slice Ay X.length cy] 25) := ⟨_, rfl⟩
            have hsX : Safe wo wX := by rw [hwX]; exact (But.refl _ _).alloc _
            have TX := Lib.hid (TR.out.trans hsX)
            have hEX : Blk wX wo.heap.size 25 #[.bool xa, .bool xd, .slice Ay X.length cy] := by rw [hwX]; exact Blk.new _ _ _
            rw [← hwX]
            clear hwX hsX y0 y1 y2
            obtain ⟨y0, y1, y2⟩ := cells3 hEX
            obtain ⟨C, hC⟩ : ∃ C, C = cleanM X := ⟨_, rfl⟩
            have hCl : C.length ≤ X.length := by rw [hC]; exact clean_len X
            have HCU := Lib.hid (show ∀ x ∈ C, x ≠ [46, 46] from fun x hx => by rw [hC] at hx; exact (clean_mem hx).1)
            have HC1 := Lib.hid (show ∀ W, Safe wX W → Calls Tryd.prog 25 #[Pv xa xd Ay X.length cy] W fun e w' => ∃ A c, e = .returned (.slice A C.length c) ∧ Rd Sv w' A C ∧ Safe W w' from fun W hs => (clean_any xa xd Ay X cy W (RX.out.safe (TX.out.trans hs)) (by omega)).mono fun e w' ⟨v, he, ho, hs⟩ => by
              rw [← hC] at ho
              obtain ⟨A2, c2, rfl, hPr⟩ := Pr.of ho
              exact ⟨A2, c2, he, hPr.rd, hs⟩)
            have HC2 := Lib.hid (show ∀ W, Safe wX W → Calls Tryd.prog 26 #[.slice Ay X.length cy] W fun e w' => ∃ A c, e = .returned (.slice A C.length c) ∧ Rd Sv w' A C ∧ Safe W w' from fun W hs => (rclean_any Ay X cy W (RX.out.safe (TX.out.trans hs)) (by omega)).mono fun e w' ⟨v, he, ho, hs⟩ => by
              rw [← hC] at ho
              obtain ⟨A2, c2, rfl, hPr⟩ := Pr.of ho
              exact ⟨A2, c2, he, hPr.rd, hs⟩)
            have HKX := Lib.hid (show ∀ W, Safe wX W → (W.cell? ⟨wo.heap.size, 0, none⟩ = some (.bool xa) ∧ W.cell? ⟨wo.heap.size, 1, none⟩ = some (.bool xd) ∧ W.cell? ⟨wo.heap.size, 2, none⟩ = some (.slice Ay X.length cy)) from fun W S => ⟨S.cell y0 id, S.cell y1 id, S.cell y2 id⟩)
            clear hC hEX
            go_region_held3 (fun w' => w'.cell? ⟨wo.heap.size, 0, none⟩ = some (.bool xa) ∧ w'.cell? ⟨wo.heap.size, 1, none⟩ = some (.bool xd) ∧ w'.cell? ⟨wo.heap.size, 2, none⟩ = some (.slice Ay X.length cy))
              (first | (with_reducible exact HK2.out) | (with_reducible exact HK1.out) | go_keep)
              ((first
                | (go_at_call 25; refine (HC1.out _ (But.refl _ wX).drew).mono ?_; rintro _ w16 ⟨A16, c16, rfl, hr16, hs16⟩; have HS16 := Lib.hid ((But.refl (fun _ => False) wX).drew.trans hs16); have HR16 := Lib.hid hr16; have HK1 := Lib.hid (HKX.out _ HS16.out); clear hs16 hr16)
                | (go_at_call 26; refine (HC2.out _ HS16.out).mono ?_; rintro _ w17 ⟨A17, c17, rfl, hr17, hs17⟩; have HS17 := Lib.hid (HS16.out.trans hs17); have HR17 := Lib.hid hr17; have HR16' := Lib.hid (HR16.out.safe hs17); have HK2 := Lib.hid (HKX.out _ HS17.out); clear hs17 hr17)))
            have TW := Lib.hid (TX.out.trans HS17.out)
            have HR16 := Lib.hid HR16'.out
            clear HK1 HK2 HS16 HS17 HR16' y0 y1 y2 HKX HC1 HC2
            go_wp2_with fail
            go_loopw [87] (fun x wr => ∃ k2 : Nat, k2 ≤ C.length ∧ x = .int .i64 k2 ∧ Safe w17 wr) (fun x _ => C.length - (intOf x).toNat)
            case atStart => exact ⟨0, by omega, rfl, But.refl _ _⟩
            case round =>
              obtain ⟨k2, hk2, rfl, hR2⟩ := hrel
              obtain ⟨wy, rfl⟩ : ∃ wy : World, wy = wr := ⟨_, rfl⟩
              by_cases hlt2 : k2 < C.length
              · have hj1 : (k2 : Int) < C.length := by omega
                have hj0 : (0 : Int) ≤ (k2 : Int) := by omega
                obtain ⟨x, hx⟩ : ∃ x, C[k2]? = some x := ⟨_, List.getElem?_eq_getElem hlt2⟩
                obtain ⟨ad, rfl, ck1⟩ := rd_get (HR16.out.safe hR2) hx
                obtain ⟨bd, rfl, ck2⟩ := rd_get (HR17.out.safe hR2) hx
                have hxu : (x == [46, 46]) = false := by simpa using HCU.out x (List.mem_of_getElem? hx)
                have hxx : (x == x) = true := by simp
                have TY := Lib.hid hR2
                clear hR2 hx
                go_wp2
                go_quiet (fail)
                go_wp2
                go_roundw
                case rel => exact ⟨k2 + 1, by omega, by go_num, TY.out.drewN nq⟩
                case measure => simp [intOf]; omega
              · obtain rfl : k2 = C.length := by omega
                have TY := Lib.hid (TW.out.trans hR2)
                clear hR2
                go_wp2_with fail
                go_roundw
                case rel => exact ⟨k + 1, by omega, by go_num, TY.out⟩
                case measure => simp [intOf]; omega
end Go.Proofs.YtodlapkmcnmmhaaDoor
