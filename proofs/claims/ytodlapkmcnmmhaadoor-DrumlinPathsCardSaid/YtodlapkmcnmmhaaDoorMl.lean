/- The reference's Text. -/
import Derived.Test.YtodlapkmcnmmhaaDoorMk
namespace Go.Proofs.YtodlapkmcnmmhaaDoor
open Go.RowKit
set_option linter.unusedSimpArgs false
set_option linter.unusedVariables false

theorem join_snoc : ∀ (X : List Bs) (x : Bs), X ≠ [] → joinM (X ++ [x]) = joinM X ++ 47 :: x
  | [], _, h => absurd rfl h
  | [y], x, _ => rfl
  | y :: z :: r, x, _ => by
    have := join_snoc (z :: r) x (by simp)
    show y ++ 47 :: joinM (z :: r ++ [x]) = _
    rw [this]
    simp [joinM]
theorem join_take {P : List Bs} {k : Nat} {x : Bs} (h : P[k]? = some x) : joinM (P.take (k + 1)) = if k = 0 then x else joinM (P.take k) ++ 47 :: x := by
  have hlt := (List.getElem?_eq_some_iff.1 h).1
  rw [List.take_add_one, h]
  by_cases hk : k = 0
  · subst hk; simp [joinM]
  · rw [if_neg hk]
    exact join_snoc _ _ (fun e => by rw [List.take_eq_nil_iff] at e; rcases e with e | e; exact hk e; rw [e] at hlt; simp at hlt)
theorem text_cons {P : List Bs} (hP : P ≠ []) {y : Bs} (hy : P.getLast? = some y) (a d : Bool) : textM ⟨a, d, P⟩ = (if a = true then [47] else []) ++ joinM P ++ (if d = true ∧ y ≠ [46, 46] then [47] else []) := by
  simp only [textM, hP, false_and, if_false, hy]
  congr 1
  simp [hP]
theorem join_ne {P : List Bs} (hP : P ≠ []) (hg : ∀ x ∈ P, x ≠ []) : joinM P ≠ [] := by
  cases P with
  | nil => exact absurd rfl hP
  | cons x r =>
    have := hg x (List.mem_cons_self ..)
    cases r with
    | nil => simpa [joinM] using this
    | cons y r => simp [joinM]
theorem sum_take (P : List Bs) (k : Nat) : sumL (P.take k) ≤ sumL P := by
  have h := sumL_app (P.take k) (P.drop k)
  rw [List.take_append_drop] at h
  omega
theorem join_len_take (P : List Bs) (k : Nat) : (joinM (P.take k)).length ≤ (joinM P).length := by
  by_cases h : P.take k = []
  · rw [h]; simp [joinM]
  · have h2 : P ≠ [] := fun e => h (by rw [e]; simp)
    have h3 := join_sum _ h
    have h4 := join_sum _ h2
    have := sum_take P k
    omega
set_option maxRecDepth 100000 in
set_option maxHeartbeats 4000000 in
theorem rtext_any (a d : Bool) (A : Option Addr) (P : List Bs) (c : Nat) (w : World) (hr : Rd Sv w A P) (hA : 0 < P.length → ∃ g, A = some ⟨g, 0, none⟩) (hN : P.length ≤ 1000) (hl : (joinM P).length ≤ 100000) (hg : ∀ x ∈ P, x ≠ []) :
    Calls Tryd.prog 22 #[Pv a d A P.length c] w fun e w' => e = .returned (Sv (textM ⟨a, d, P⟩)) ∧ Safe w w' := by
  obtain ⟨n, hn⟩ : ∃ n, n = P.length := ⟨_, rfl⟩
  rw [← hn] at hA hN ⊢
  obtain ⟨w1, hw1⟩ : ∃ w1, w1 = w.alloc (.cells #[.bool a, .bool d, .slice A n c] 49) := ⟨_, rfl⟩
  have hs : Safe w w1 := by rw [hw1]; exact (But.refl _ w).alloc _
  have hb : Blk w1 w.heap.size 49 #[.bool a, .bool d, .slice A n c] := by rw [hw1]; exact Blk.new _ _ _
  obtain ⟨pre, hpre⟩ : ∃ p : Bs, p = if a = true then [47] else [] := ⟨_, rfl⟩
  have HS := Lib.hid hs
  have HB := Lib.hid hb
  have HR := Lib.hid (hr.safe hs)
  have HPRE := Lib.hid hpre
  have HN := Lib.hid hn
  have HW := Lib.hid hw1
  have d0 : w1.cell? ⟨w.heap.size, 0, none⟩ = some (.bool a) := hb.cell' (i := 0) rfl
  have hww : ∀ v, w1 = v → w1 = v := fun _ h => h
  clear hs hb hr hpre hn hww
  have HTX := Lib.hid (show ∀ y, P ≠ [] → P.getLast? = some y → textM ⟨a, d, P⟩ = pre ++ joinM P ++ (if d = true ∧ y ≠ [46, 46] then [47] else []) from fun y h1 h2 => by rw [text_cons h1 h2, HPRE.out])
  cases a
  all_goals
    go_enter Tryd.func22, Tryd.ntmps22
    rw [hw1] at d0
    clear hw1
    go_wp2_with fail
    rw [← HW.out]
    clear d0
    go_loopw [3, 4] (fun x y wr => ∃ k : Nat, k ≤ n ∧ x = Sv (pre ++ joinM (P.take k)) ∧ y = .int .i64 k ∧ wr = w1) (fun _ y _ => n - (intOf y).toNat)
    case atStart => exact ⟨0, by omega, by rw [HPRE.out]; rfl, rfl, rfl⟩
    case round =>
      obtain ⟨k, hk, rfl, rfl, rfl⟩ := hrel
      have d0 := HB.out.cell' (i := 0) rfl
      have d1 := HB.out.cell' (i := 1) rfl
      have d2 := HB.out.cell' (i := 2) rfl
      by_cases hlt : k < n
      · have hi1 : (k : Int) < n := by omega
        obtain ⟨x, hx⟩ : ∃ x, P[k]? = some x := ⟨_, List.getElem?_eq_getElem (by rw [← HN.out]; exact hlt)⟩
        obtain ⟨g, rfl⟩ := hA (by omega)
        have c1 : wr.cell? ⟨g, k, none⟩ = some (Sv x) := by
          obtain ⟨ad, ea, hcl⟩ := HR.out (by rw [← HN.out]; omega)
          injection ea with ea
          subst ea
          have := hcl _ _ hx
          rwa [add_plain, Nat.zero_add] at this
        have hj := join_take hx
        have hjl := join_len_take P (k + 1)
        have hjl0 := join_len_take P k
        obtain ⟨S, hS⟩ : ∃ S, S = pre ++ joinM (P.take k) := ⟨_, rfl⟩
        have hpl : pre.length ≤ 1 := by rw [HPRE.out]; split <;> simp
        have hSl : S.length ≤ 100001 := by rw [hS, List.length_append]; omega
        have hxl : x.length ≤ 100000 := by
          rw [hj] at hjl
          split at hjl
          · omega
          · simp at hjl; omega
        rw [← hS]
        have HJ := Lib.hid hj
        have HSS := Lib.hid hS
        have hs1 : (⟨S.toArray⟩ : ByteArray).size = S.length := rfl
        have hx1 : (⟨x.toArray⟩ : ByteArray).size = x.length := rfl
        have h471 : (⟨#[47]⟩ : ByteArray).size = 1 := rfl
        have hapl := ByteArray.size_append (a := (⟨S.toArray⟩ : ByteArray)) (b := (⟨#[47]⟩ : ByteArray))
        rw [hs1, h471] at hapl
        clear hj hx hS hjl hjl0 hpl
        by_cases hk0 : k = 0
        · subst hk0
          go_wp2_with fail
          refine ⟨⟨1, by omega, ?_, rfl, trivial⟩, by simp [intOf]; omega⟩
          rw [sv_app, HSS.out, HJ.out, if_pos rfl]
          simp [joinM]
        · have hk1 : (0 : Int) < k := by omega
          have hk2 : 0 < k := by omega
          go_wp2_with fail
          refine ⟨⟨k + 1, by omega, ?_, by go_num, trivial⟩, by simp [intOf]; omega⟩
          rw [sv_suf, sv_app, HSS.out, HJ.out, if_neg hk0]
          simp
      · obtain rfl : k = n := by omega
        have hn1 : ¬ ((k : Int) < k) := by omega
        rw [show P.take k = P from by rw [HN.out, List.take_length]]
        obtain ⟨S, hS⟩ : ∃ S, S = pre ++ joinM P := ⟨_, rfl⟩
        rw [← hS]
        by_cases hP : P = []
        · subst hP
          have hk0 : k = 0 := HN.out
          subst hk0
          have hS0 : S = pre := by rw [hS]; simp [joinM]
          rw [HPRE.out] at hS0
          simp only [if_true, if_false, Bool.false_eq_true] at hS0
          subst hS0
          clear hS
          go_wp2_with fail
          go_ret
          exact ⟨by cases d <;> rfl, HS.out⟩
        · have hpos : 0 < k := by rw [HN.out]; exact List.length_pos_iff.2 hP
          have hpos2 : (0 : Int) < k := by omega
          have hSe : S.isEmpty = false := by
            have := join_ne hP hg
            rw [hS]
            cases hj : joinM P with
            | nil => exact absurd hj this
            | cons a r => simp
          have hSl : S.length ≤ 100001 := by
            have hpl : pre.length ≤ 1 := by rw [HPRE.out]; split <;> simp
            rw [hS, List.length_append]; omega
          have hs1 : (⟨S.toArray⟩ : ByteArray).size = S.length := rfl
          obtain ⟨g, rfl⟩ := hA hpos
          obtain ⟨y, hy⟩ : ∃ y, P.getLast? = some y := ⟨_, List.getLast?_eq_some_getLast hP⟩
          have hyk : P[P.length - 1]? = some y := by rw [← hy, List.getLast?_eq_getElem?]
          rw [← HN.out] at hyk
          have c1 : wr.cell? ⟨g, k - 1, none⟩ = some (Sv y) := by
            obtain ⟨ad, ea, hcl⟩ := HR.out (by rw [← HN.out]; omega)
            injection ea with ea
            subst ea
            have := hcl _ _ hyk
            rwa [add_plain, Nat.zero_add] at this
          have ht := HTX.out y hP hy
          have HSS := Lib.hid hS
          clear hP hy hyk hg
          obtain ⟨b, hbe⟩ : ∃ b, (y == ([46, 46] : Bs)) = b := ⟨_, rfl⟩
          have hq : y ≠ [46, 46] ↔ b = false := by rw [← hbe]; simp
          have hcs : ∀ z : Bs, (if d = true ∧ y ≠ [46, 46] then z else []) = (if d = true ∧ b = false then z else []) := fun z => by simp only [hq]
          rw [hcs, ← hS] at ht
          have HT := Lib.hid ht
          clear hcs hq ht hS
          cases d <;> cases b
          all_goals
            go_wp2_with fail
            go_ret
            refine ⟨?_, HS.out⟩
            rw [HT.out]
            simp only [sv_suf, if_true, if_false, Bool.false_eq_true, reduceCtorEq, false_and, and_false, and_self, List.append_nil]
            rfl
end Go.Proofs.YtodlapkmcnmmhaaDoor
