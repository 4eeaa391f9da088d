/- Clean: the program's and the reference's. -/
import Derived.Test.YtodlapkmcnmmhaaDoorMq
namespace Go.Proofs.YtodlapkmcnmmhaaDoor
open Go.RowKit
set_option linter.unusedSimpArgs false
set_option linter.unusedVariables false

def cleanS (out : List Bs) (x : Bs) : List Bs := if x = [46, 46] then out.dropLast else out ++ [x]
def cleanM (P : List Bs) : List Bs := P.foldl cleanS []
theorem clean_take {P : List Bs} {k : Nat} {x : Bs} (h : P[k]? = some x) : cleanM (P.take (k + 1)) = if x = [46, 46] then (cleanM (P.take k)).dropLast else cleanM (P.take k) ++ [x] := by
  rw [List.take_add_one, h]
  simp [cleanM, cleanS]
theorem clean_fold_len : ∀ (P O : List Bs), (P.foldl cleanS O).length ≤ O.length + P.length
  | [], O => by simp
  | x :: P, O => by
    have := clean_fold_len P (cleanS O x)
    have h : (cleanS O x).length ≤ O.length + 1 := by unfold cleanS; split <;> simp; omega
    rw [List.foldl_cons, List.length_cons]; omega
theorem clean_len (P : List Bs) : (cleanM P).length ≤ P.length := by have := clean_fold_len P []; simpa [cleanM] using this
theorem mem_drop {x : Bs} {O : List Bs} (h : x ∈ O.dropLast) : x ∈ O := by rw [List.dropLast_eq_take] at h; exact List.mem_of_mem_take h
theorem rd_get {w : World} {A : Option Addr} {P : List Bs} {k : Nat} {x : Bs} (h : Rd Sv w A P) (hk : P[k]? = some x) : ∃ ad, A = some ad ∧ w.cell? (ad.add k) = some (Sv x) := by
  obtain ⟨ad, e, hc⟩ := h (by have := (List.getElem?_eq_some_iff.1 hk).1; omega)
  exact ⟨ad, e, hc k x hk⟩
theorem clean_fold_mem : ∀ (P O : List Bs), (∀ x ∈ O, x ≠ [46, 46]) → ∀ x ∈ P.foldl cleanS O, x ≠ [46, 46] ∧ (x ∈ O ∨ x ∈ P)
  | [], O, h, x, hx => ⟨h x hx, .inl hx⟩
  | y :: P, O, h, x, hx => by
    have h2 : ∀ z ∈ cleanS O y, z ≠ [46, 46] := fun z hz => by
      unfold cleanS at hz
      split at hz
      · exact h z (mem_drop hz)
      · rename_i hy
        rw [List.mem_append, List.mem_singleton] at hz
        rcases hz with hz | rfl
        · exact h z hz
        · exact hy
    have := clean_fold_mem P (cleanS O y) h2 x hx
    refine ⟨this.1, ?_⟩
    rcases this.2 with hm | hm
    · unfold cleanS at hm
      split at hm
      · exact .inl (mem_drop hm)
      · rw [List.mem_append, List.mem_singleton] at hm
        rcases hm with hm | rfl
        · exact .inl hm
        · exact .inr (List.mem_cons_self ..)
    · exact .inr (List.mem_cons_of_mem _ hm)
theorem clean_mem {P : List Bs} {x : Bs} (h : x ∈ cleanM P) : x ≠ [46, 46] ∧ x ∈ P := by
  have := clean_fold_mem P [] (by simp) x h
  exact ⟨this.1, this.2.resolve_left (by simp)⟩
theorem own_pop {w : World} {base : Nat} {e : TypeId} {A : Option Addr} {n c : Nat} {xs : List Value} (h : w.ownsRow base e 1 (.slice A (n + 1) c) (n + 1) xs) : w.ownsRow base e 1 (.slice A n c) n (xs.take n) := by
  obtain ⟨h1, h2⟩ := h
  refine ⟨by rw [List.length_take, h1]; omega, ?_⟩
  rcases h2 with ⟨_, h2⟩ | ⟨g, cap, cur, hv, hb, hg, hn, hc, hz, ht⟩
  · omega
  · injection hv with e1 e2 e3
    subst e1 e3
    refine .inr ⟨g, c, cur, rfl, hb, hg, by omega, hc, hz, ?_⟩
    rw [← ht, List.take_take]
    congr 1
    omega
theorem own_hd' {w : World} {base : Nat} {e : TypeId} {A : Option Addr} {n c : Nat} {xs : List Value} (h : w.ownsRow base e 1 (.slice A (n + 1) c) (n + 1) xs) : ∃ g, A = some ⟨g, 0, none⟩ := by
  rcases h.2 with ⟨_, h2⟩ | ⟨g, cap, cur, hv, _⟩
  · omega
  · injection hv with e1 e2 e3
    exact ⟨g, e1⟩
set_option maxRecDepth 100000 in
set_option maxHeartbeats 4000000 in
theorem clean_any (a d : Bool) (A : Option Addr) (P : List Bs) (c : Nat) (w : World) (hr : Rd Sv w A P) (hN : P.length ≤ 1000) :
    Calls Tryd.prog 25 #[Pv a d A P.length c] w fun e w' => ∃ v, e = .returned v ∧ w'.ownsRow w.heap.size 9 1 v (cleanM P).length ((cleanM P).map Sv) ∧ Safe w w' := by
  obtain ⟨w1, hw1⟩ : ∃ w1, w1 = w.alloc (.cells #[.bool a, .bool d, .slice A P.length c] 25) := ⟨_, rfl⟩
  have hs : Safe w w1 := by rw [hw1]; exact (But.refl _ w).alloc _
  have HR := Lib.hid (hr.safe hs)
  have HS := Lib.hid hs
  generalize hn : P.length = n at *
  have HN := Lib.hid hn
  have HW := Lib.hid hw1
  clear hr hs hn hw1
  go_enter Tryd.func25, Tryd.ntmps25
  go_wp2_with fail
  rw [← HW.out]
  go_loopw [3, 9] (fun v y wr => ∃ k : Nat, k ≤ n ∧ y = .int .i64 k ∧ wr.ownsRow w1.heap.size 9 1 v (cleanM (P.take k)).length ((cleanM (P.take k)).map Sv) ∧ Safe w1 wr) (fun _ y _ => n - (intOf y).toNat)
  case atStart => exact ⟨0, by omega, rfl, World.ownsRow_nil _ _ _ _, But.refl _ _⟩
  case round =>
    obtain ⟨k, hk, rfl, ho, hs⟩ := hrel
    obtain ⟨wx, rfl⟩ : ∃ wx : World, wx = wr := ⟨_, rfl⟩
    by_cases hlt : k < n
    · have hi1 : (k : Int) < n := by omega
      have hi0 : (0 : Int) ≤ (k : Int) := by omega
      obtain ⟨x, hx⟩ : ∃ x, P[k]? = some x := ⟨_, List.getElem?_eq_getElem (by rw [HN.out]; exact hlt)⟩
      obtain ⟨ad, rfl, ck⟩ := rd_get (HR.out.safe hs) hx
      have hst := clean_take hx
      have hcl := clean_len (P.take k)
      have htl : (P.take k).length ≤ k := by rw [List.length_take]; omega
      obtain ⟨Z, hZ⟩ : ∃ Z, Z = cleanM (P.take k) := ⟨_, rfl⟩
      rw [← hZ] at ho hst hcl
      obtain ⟨z, hz⟩ : ∃ z, z = Z.length := ⟨_, rfl⟩
      rw [← hz] at ho hcl
      obtain ⟨B, cb, rfl, hcb⟩ := own_form ho
      have HST := Lib.hid hst
      have HO := Lib.hid ho
      have HS' := Lib.hid hs
      have HZZ := Lib.hid hz
      have hzk : z ≤ k := by omega
      clear hx hst hcl htl ho hs hZ hz
      by_cases hxu : x = [46, 46]
      · have hb : (x == [46, 46]) = true := by simp [hxu]
        have hst2 : cleanM (P.take (k + 1)) = Z.dropLast := by rw [HST.out, if_pos hxu]
        have HST2 := Lib.hid hst2
        clear hst2 hxu
        by_cases hz0 : z = 0
        · subst hz0
          have hZn : Z = [] := List.eq_nil_of_length_eq_zero HZZ.out.symm
          go_wp2_with fail
          go_roundw
          case rel => exact ⟨k + 1, by omega, by go_num, by have := HO.out; rw [HST2.out, hZn]; simpa [hZn] using this, HS'.out⟩
          case measure => simp [intOf]; omega
        · obtain ⟨m, rfl⟩ : ∃ m, z = m + 1 := ⟨z - 1, by omega⟩
          obtain ⟨g, rfl⟩ := own_hd' HO.out
          have hp := own_pop HO.out
          have i0 : (0 : Int) ≤ (m : Int) := by omega
          have i1 : (m : Int) ≤ (cb : Int) := by omega
          have i2 : (m : Int) < (m : Int) + 1 := by omega
          have i3 : IntKind.i64.wrap (m : Int) = (m : Int) := IntWalk.i64_in _ (by omega)
          have i5 : (0 : Int) < (m : Int) + 1 := by omega
          have HP := Lib.hid hp
          clear hp
          go_wp2_with fail
          go_roundw
          case rel => exact ⟨k + 1, by omega, by go_num, by
            have := HP.out
            rw [HST2.out, List.length_dropLast, ← HZZ.out, List.dropLast_eq_take, ← HZZ.out]
            simpa using this, HS'.out⟩
          case measure => simp [intOf]; omega
      · have hb : (x == [46, 46]) = false := by simpa using hxu
        have hst2 : cleanM (P.take (k + 1)) = Z ++ [x] := by rw [HST.out, if_neg hxu]
        have HST2 := Lib.hid hst2
        have h63 : z + 1 ≤ maxLen := by simp [maxLen]; omega
        have hby : (z + 1) * 16 ≤ 140737488355328 := by omega
        have hone : ∀ u ∈ (#[Sv x] : Array Value).toList, u.oneCell' = true := by simp [Value.oneCell']
        have HONE := Lib.hid hone
        have hba := Lib.hid (Nat.le_trans HS'.out.size ((But.refl (fun _ => False) wx).alloc (.cells #[Sv x] 9)).size)
        clear hst2 hone hxu
        go_wp2_with (at_builtin; go_loud (refine wpList_push slStrs rfl (.tmp 16) (.tmp 18) rfl w1.heap.size (.slice B z cb) z (Z.map Sv) rfl (own_safe HO.out ((But.refl _ wx).alloc _)) wx.heap.size 9 #[Sv x] rfl (Blk.new _ _ _) rfl HONE.out h63 hby hba.out ?_; intro v2 w2 ho2 hg2 hd2; (have HO2 := Lib.hid ho2); (have HS2 := Lib.hid (safe_own (HS'.out.alloc (.cells #[Sv x] 9)) (own_safe HO.out ((But.refl _ wx).alloc _)) hg2 (Nat.le_refl _))); clear ho2 hg2 hd2))
        go_roundw
        case rel => exact ⟨k + 1, by omega, by go_num, by rw [HST2.out, List.length_append, List.length_singleton, ← HZZ.out, List.map_append]; exact HO2.out, HS2.out⟩
        case measure => simp [intOf]; omega
    · obtain rfl : k = n := by omega
      have hFIN : wx.ownsRow w.heap.size 9 1 u3 (cleanM P).length ((cleanM P).map Sv) ∧ Safe w wx := by
        have := ho
        rw [show P.take k = P from by rw [← HN.out, List.take_length]] at this
        exact ⟨own_base this HS.out.size, HS.out.trans hs⟩
      have HFIN := Lib.hid hFIN
      have hn1 : ¬ ((k : Int) < k) := by omega
      clear ho hs hFIN
      go_wp2_with fail
      go_ret
      exact ⟨_, rfl, HFIN.out⟩
set_option maxRecDepth 100000 in
set_option maxHeartbeats 4000000 in
theorem rclean_any (A : Option Addr) (P : List Bs) (c : Nat) (w : World) (hr : Rd Sv w A P) (hN : P.length ≤ 1000) :
    Calls Tryd.prog 26 #[.slice A P.length c] w fun e w' => ∃ v, e = .returned v ∧ w'.ownsRow w.heap.size 9 1 v (cleanM P).length ((cleanM P).map Sv) ∧ Safe w w' := by
  obtain ⟨w1, hw1⟩ : ∃ w1, w1 = w := ⟨_, rfl⟩
  have hs : Safe w w1 := by rw [hw1]; exact But.refl _ w
  have HR := Lib.hid (hr.safe hs)
  have HS := Lib.hid hs
  generalize hn : P.length = n at *
  have HN := Lib.hid hn
  have HW := Lib.hid hw1
  clear hr hs hn hw1
  go_enter Tryd.func26, Tryd.ntmps26
  go_wp2_with fail
  rw [← HW.out]
  go_loopw [3, 4] (fun v y wr => ∃ k : Nat, k ≤ n ∧ y = .int .i64 k ∧ wr.ownsRow w1.heap.size 9 1 v (cleanM (P.take k)).length ((cleanM (P.take k)).map Sv) ∧ Safe w1 wr) (fun _ y _ => n - (intOf y).toNat)
  case atStart => exact ⟨0, by omega, rfl, World.ownsRow_nil _ _ _ _, But.refl _ _⟩
  case round =>
    obtain ⟨k, hk, rfl, ho, hs⟩ := hrel
    obtain ⟨wx, rfl⟩ : ∃ wx : World, wx = wr := ⟨_, rfl⟩
    by_cases hlt : k < n
    · have hi1 : (k : Int) < n := by omega
      have hi0 : (0 : Int) ≤ (k : Int) := by omega
      obtain ⟨x, hx⟩ : ∃ x, P[k]? = some x := ⟨_, List.getElem?_eq_getElem (by rw [HN.out]; exact hlt)⟩
      obtain ⟨ad, rfl, ck⟩ := rd_get (HR.out.safe hs) hx
      have hst := clean_take hx
      have hcl := clean_len (P.take k)
      have htl : (P.take k).length ≤ k := by rw [List.length_take]; omega
      obtain ⟨Z, hZ⟩ : ∃ Z, Z = cleanM (P.take k) := ⟨_, rfl⟩
      rw [← hZ] at ho hst hcl
      obtain ⟨z, hz⟩ : ∃ z, z = Z.length := ⟨_, rfl⟩
      rw [← hz] at ho hcl
      obtain ⟨B, cb, rfl, hcb⟩ := own_form ho
      have HST := Lib.hid hst
      have HO := Lib.hid ho
      have HS' := Lib.hid hs
      have HZZ := Lib.hid hz
      have hzk : z ≤ k := by omega
      clear hx hst hcl htl ho hs hZ hz
      by_cases hxu : x = [46, 46]
      · have hb : (x == [46, 46]) = true := by simp [hxu]
        have hst2 : cleanM (P.take (k + 1)) = Z.dropLast := by rw [HST.out, if_pos hxu]
        have HST2 := Lib.hid hst2
        clear hst2 hxu
        by_cases hz0 : z = 0
        · subst hz0
          have hZn : Z = [] := List.eq_nil_of_length_eq_zero HZZ.out.symm
          go_wp2_with fail
          go_roundw
          case rel => exact ⟨k + 1, by omega, by go_num, by have := HO.out; rw [HST2.out, hZn]; simpa [hZn] using this, HS'.out⟩
          case measure => simp [intOf]; omega
        · obtain ⟨m, rfl⟩ : ∃ m, z = m + 1 := ⟨z - 1, by omega⟩
          obtain ⟨g, rfl⟩ := own_hd' HO.out
          have hp := own_pop HO.out
          have i0 : (0 : Int) ≤ (m : Int) := by omega
          have i1 : (m : Int) ≤ (cb : Int) := by omega
          have i2 : (m : Int) < (m : Int) + 1 := by omega
          have i3 : IntKind.i64.wrap (m : Int) = (m : Int) := IntWalk.i64_in _ (by omega)
          have i5 : (0 : Int) < (m : Int) + 1 := by omega
          have HP := Lib.hid hp
          clear hp
          go_wp2_with fail
          go_roundw
          case rel => exact ⟨k + 1, by omega, by go_num, by
            have := HP.out
            rw [HST2.out, List.length_dropLast, ← HZZ.out, List.dropLast_eq_take, ← HZZ.out]
            simpa using this, HS'.out⟩
          case measure => simp [intOf]; omega
      · have hb : (x == [46, 46]) = false := by simpa using hxu
        have hst2 : cleanM (P.take (k + 1)) = Z ++ [x] := by rw [HST.out, if_neg hxu]
        have HST2 := Lib.hid hst2
        have h63 : z + 1 ≤ maxLen := by simp [maxLen]; omega
        have hby : (z + 1) * 16 ≤ 140737488355328 := by omega
        have hone : ∀ u ∈ (#[Sv x] : Array Value).toList, u.oneCell' = true := by simp [Value.oneCell']
        have HONE := Lib.hid hone
        have hba := Lib.hid (Nat.le_trans HS'.out.size ((But.refl (fun _ => False) wx).alloc (.cells #[Sv x] 9)).size)
        clear hst2 hone hxu
        go_wp2_with (at_builtin; go_loud (refine wpList_push slStrs rfl (.tmp 16) (.tmp 21) rfl w1.heap.size (.slice B z cb) z (Z.map Sv) rfl (own_safe HO.out ((But.refl _ wx).alloc _)) wx.heap.size 9 #[Sv x] rfl (Blk.new _ _ _) rfl HONE.out h63 hby hba.out ?_; intro v2 w2 ho2 hg2 hd2; (have HO2 := Lib.hid ho2); (have HS2 := Lib.hid (safe_own (HS'.out.alloc (.cells #[Sv x] 9)) (own_safe HO.out ((But.refl _ wx).alloc _)) hg2 (Nat.le_refl _))); clear ho2 hg2 hd2))
        go_roundw
        case rel => exact ⟨k + 1, by omega, by go_num, by rw [HST2.out, List.length_append, List.length_singleton, ← HZZ.out, List.map_append]; exact HO2.out, HS2.out⟩
        case measure => simp [intOf]; omega
    · obtain rfl : k = n := by omega
      have hFIN : wx.ownsRow w.heap.size 9 1 u3 (cleanM P).length ((cleanM P).map Sv) ∧ Safe w wx := by
        have := ho
        rw [show P.take k = P from by rw [← HN.out, List.take_length]] at this
        exact ⟨own_base this HS.out.size, HS.out.trans hs⟩
      have HFIN := Lib.hid hFIN
      have hn1 : ¬ ((k : Int) < k) := by omega
      clear ho hs hFIN
      go_wp2_with fail
      go_ret
      exact ⟨_, rfl, HFIN.out⟩
end Go.Proofs.YtodlapkmcnmmhaaDoor
