/- The reference's processes: Exit. -/
import Derived.Test.YtlojadpbdbhmiaaZc
import Derived.Test.YtlojadpbdbhmiaaXg
import Derived.IntWalk
namespace Go.Proofs.Ytlojadpbdbhmiaa
open Go.RowKit
set_option linter.unusedSimpArgs false
set_option linter.unusedVariables false

theorem code256 (c : Int) : (wrap64 (c.tmod 256 + 256)).tmod 256 = c % 256 := by
  have h : c.tmod 256 = c % 256 ∨ c.tmod 256 = c % 256 - 256 := by
    by_cases h0 : 0 ≤ c
    · left; exact Int.tmod_eq_emod_of_nonneg h0
    · have h1 : (-c).tmod 256 = (-c) % 256 := Int.tmod_eq_emod_of_nonneg (by omega)
      rw [Int.neg_tmod] at h1
      omega
  have hm : 0 ≤ c % 256 ∧ c % 256 < 256 := by omega
  rw [IntWalk.wrap64_in _ (by omega), Int.tmod_eq_emod_of_nonneg (by omega)]
  omega
def exq (pid code : Int) (p : PR) : PR := adopt pid (if p.pid = pid then deadR pid code p else p)
def exL (pid code : Int) (ps : List PR) : List PR := (ps.map (exq pid code)).filter (fun p => !bad1 p)
def exitR (ps : List PR) (pid code : Int) : List PR × Int :=
  if liveP ps pid ≠ 0 then (ps, liveP ps pid) else if pid = 1 then (ps, 1) else (exL pid code ps, 0)
theorem exL_snoc (pid code : Int) {ps : List PR} {k : Nat} {p : PR} (h : ps[k]? = some p) : exL pid code (ps.take (k + 1)) = if bad1 (exq pid code p) then exL pid code (ps.take k) else exL pid code (ps.take k) ++ [exq pid code p] := by
  unfold exL
  rw [List.take_add_one, h, List.map_append, List.filter_append]
  cases hf : bad1 (exq pid code p) <;> simp [hf]
theorem exL_len (pid code : Int) (ps : List PR) (k : Nat) : (exL pid code (ps.take k)).length ≤ k := by
  unfold exL
  refine Nat.le_trans (List.length_filter_le _ _) ?_
  rw [List.length_map]
  exact List.length_take_le _ _
theorem own_push6 {w : World} {B : Nat} {v : Value} {L : List PR} {q : PR} (h : w.ownsRow B 145 6 v (L.length + 1) (L.flatMap encR ++ encR q)) : w.ownsRow B 145 6 v (L ++ [q]).length ((L ++ [q]).flatMap encR) := by
  rw [List.length_append, List.flatMap_append]
  simpa using h
set_option maxRecDepth 100000 in
set_option maxHeartbeats 4000000 in
theorem rexit_any (base : Nat) (v : Value) (ps : List PR) (most last now pid code : Int) (w : World) (h : LP w base v ps) (h16 : ps.length ≤ 16) (hb : base ≤ w.heap.size) :
    Calls Try.prog 85 #[aggT v most last now, .int .i64 pid, .int .i64 code] w fun e w' => PRet w w' base e (t1 (exitR ps pid code).2 most last now) (exitR ps pid code).1 := by
  obtain ⟨W, hW, hsW, b0, b1, hsz⟩ := two_blocks w v most last now
  have hlive := rlive_any base v ps most last now pid W (h.safe hsW) h16
  have HLIVE := Lib.hid hlive
  have HW := Lib.hid hW
  have HSW := Lib.hid hsW
  have HB0 := Lib.hid b0
  have HB1 := Lib.hid b1
  have H := Lib.hid h
  obtain ⟨A, c, rfl, hc, hcm, hrd, hbd⟩ := h
  clear hW hsW b0 b1 hsz
  by_cases hl : liveP ps pid ≠ 0
  · have e : exitR ps pid code = (ps, liveP ps pid) := by unfold exitR; rw [if_pos hl]
    rw [e]
    have hbl : (liveP ps pid != 0) = true := by simpa using hl
    generalize liveP ps pid = L at *
    clear hrd hbd hl e hlive
    go_enter Try.func85, Try.ntmps85
    go_wp2_with fail
    rw [← HW.out]
    refine (HLIVE.out).mono ?_
    rintro _ w1 ⟨rfl, hs1⟩
    obtain ⟨d0, d1, d2, d3⟩ := cells4 (HB0.out.but hs1 id)
    obtain ⟨r0, r1, r2, r3⟩ := cells4 (HB1.out.but hs1 id)
    obtain ⟨f0, f1, f2, f3⟩ := frz4 (HB1.out.but hs1 id)
    have HF := Lib.hid (fin4 (HSW.out.trans hs1) (show w.heap.size ≤ w.heap.size + 1 by omega) (H.out.safe (HSW.out.trans hs1)) (HB1.out.but hs1 id) [.slice A ps.length c, I most, I last, I now])
    clear hs1
    go_wp2
    exact bodyPost_ret (v := t1 L most last now (.slice A ps.length c)) (by simp [results, Try.results85, go_sem, r0, r1, r2, r3]) rfl ⟨_, rfl, HF.out⟩
  · have hl0 : liveP ps pid = 0 := by omega
    rw [hl0] at hlive
    have HLIVE := Lib.hid hlive
    by_cases h1 : pid = 1
    · have e : exitR ps pid code = (ps, 1) := by unfold exitR; rw [if_neg hl, if_pos h1]
      rw [e]
      have hb1 : (pid == 1) = true := by simpa using h1
      clear hrd hbd hl e hlive hl0 h1
      go_enter Try.func85, Try.ntmps85
      go_wp2_with fail
      rw [← HW.out]
      refine (HLIVE.out).mono ?_
      rintro _ w1 ⟨rfl, hs1⟩
      obtain ⟨d0, d1, d2, d3⟩ := cells4 (HB0.out.but hs1 id)
      obtain ⟨r0, r1, r2, r3⟩ := cells4 (HB1.out.but hs1 id)
      obtain ⟨f0, f1, f2, f3⟩ := frz4 (HB1.out.but hs1 id)
      have HF := Lib.hid (fin4 (HSW.out.trans hs1) (show w.heap.size ≤ w.heap.size + 1 by omega) (H.out.safe (HSW.out.trans hs1)) (HB1.out.but hs1 id) [.slice A ps.length c, I most, I last, I now])
      clear hs1
      go_wp2
      exact bodyPost_ret (v := t1 1 most last now (.slice A ps.length c)) (by simp [results, Try.results85, go_sem, r0, r1, r2, r3]) rfl ⟨_, rfl, HF.out⟩
    · have e : exitR ps pid code = (exL pid code ps, 0) := by unfold exitR; rw [if_neg hl, if_neg h1]
      rw [e]
      have hb1 : (pid == 1) = false := by simpa using h1
      have hcode := code256 code
      have HRD := Lib.hid hrd
      clear hrd hbd hl e hlive hl0 h1
      go_enter Try.func85, Try.ntmps85
      go_wp2_with fail
      rw [← HW.out]
      refine (HLIVE.out).mono ?_
      rintro _ w1 ⟨rfl, hs1⟩
      have HS1 := Lib.hid (HSW.out.trans hs1)
      have HT1 := Lib.hid (HB0.out.but hs1 id)
      have HR1 := Lib.hid (HB1.out.but hs1 id)
      have HRD1 := Lib.hid (HRD.out.but (HSW.out.trans hs1) (fun _ _ => id))
      clear hs1
      go_wp2_with fail
      go_loopw [9, 10] (fun u i wr => ∃ k : Nat, k ≤ ps.length ∧ i = .int .i64 k ∧ wr.ownsRow w1.heap.size 145 6 u (exL pid code (ps.take k)).length ((exL pid code (ps.take k)).flatMap encR) ∧ Safe w1 wr) (fun _ i _ => ps.length - (intOf i).toNat)
      case atStart => exact ⟨0, by omega, rfl, World.ownsRow_nil _ _ _ _, But.refl _ _⟩
      case round =>
        obtain ⟨k, hk, rfl, hown, hS⟩ := hrel
        obtain ⟨wo, rfl⟩ : ∃ wo : World, wo = wr := ⟨_, rfl⟩
        have d0 := (HT1.out.but hS id).cell' (i := 0) rfl
        by_cases hlt : k < ps.length
        · obtain ⟨p, hp⟩ : ∃ p, ps[k]? = some p := ⟨_, List.getElem?_eq_getElem hlt⟩
          obtain ⟨ad, rfl, hat⟩ := (HRD1.out.but hS (fun _ _ => id)).at hp
          obtain ⟨a0, a1, a2, a3, a4, a5⟩ := hat
          have hki : (k : Int) < ps.length := by omega
          have hl := exL_len pid code ps k
          have hsn := exL_snoc pid code hp
          have hszo := hS.size
          have HS := Lib.hid hS
          have HOW := Lib.hid hown
          have HN := Lib.hid hsn
          clear hp hS hown hsn
          generalize exL pid code (ps.take k) = L at *
          have h63 : L.length + 1 ≤ maxLen := by simp [maxLen]; omega
          have hby : (L.length + 1) * 48 ≤ 140737488355328 := by omega
          have hrc : (p.pid = pid ∧ p.parent = pid) ∨ (p.pid = pid ∧ p.parent ≠ pid) ∨ (p.pid ≠ pid ∧ p.parent = pid) ∨ (p.pid ≠ pid ∧ p.parent ≠ pid) := by
            by_cases h1 : p.pid = pid <;> by_cases h2 : p.parent = pid <;> simp [h1, h2]
          rcases hrc with ⟨c1, c2⟩ | ⟨c1, c2⟩ | ⟨c1, c2⟩ | ⟨c1, c2⟩
          · have hq : exq pid code p = ⟨pid, 1, 3, code % 256, 0, false⟩ := by unfold exq adopt; simp [c1, c2, deadR]
            have e1 : (p.pid == pid) = true := by simpa using c1
            have e2 : (p.parent == pid) = true := by simpa using c2
            have e2b : (pid == pid) = true := by simp
            have hn := HN.out
            rw [hq] at hn
            clear c1 c2 hq
            rcases (show p.state = 3 ∨ p.state ≠ 3 by omega) with c3 | c3 <;> rcases (show p.parent = 1 ∨ p.parent ≠ 1 by omega) with c4 | c4
            · have e3 : (p.state == 3) = true := by simpa using c3
              have e3n : (p.state != 3) = false := by simpa using c3
              have e4 : (p.parent == 1) = true := by simpa using c4
              have e4n : (p.parent != 1) = false := by simpa using c4
              rw [if_pos (by simp [bad1, e3, e4])] at hn
              have HNK := Lib.hid hn
              clear hn c3 c4
              go_wp2_with fail
              go_roundw
              case rel => exact ⟨k + 1, by omega, by go_num, by rw [HNK.out]; exact own_safe HOW.out ((But.refl _ _).alloc _), HS.out.alloc _⟩
              case measure => simp [intOf]; omega
            · have e3 : (p.state == 3) = true := by simpa using c3
              have e3n : (p.state != 3) = false := by simpa using c3
              have e4 : (p.parent == 1) = false := by simpa using c4
              have e4n : (p.parent != 1) = true := by simpa using c4
              rw [if_pos (by simp [bad1, e3, e4])] at hn
              have HNK := Lib.hid hn
              clear hn c3 c4
              go_wp2_with fail
              go_roundw
              case rel => exact ⟨k + 1, by omega, by go_num, by rw [HNK.out]; exact own_safe HOW.out ((But.refl _ _).alloc _), HS.out.alloc _⟩
              case measure => simp [intOf]; omega
            · have e3 : (p.state == 3) = false := by simpa using c3
              have e3n : (p.state != 3) = true := by simpa using c3
              have e4 : (p.parent == 1) = true := by simpa using c4
              have e4n : (p.parent != 1) = false := by simpa using c4
              rw [if_pos (by simp [bad1, e3, e4])] at hn
              have HNK := Lib.hid hn
              clear hn c3 c4
              go_wp2_with fail
              go_roundw
              case rel => exact ⟨k + 1, by omega, by go_num, by rw [HNK.out]; exact own_safe HOW.out ((But.refl _ _).alloc _), HS.out.alloc _⟩
              case measure => simp [intOf]; omega
            · have e3 : (p.state == 3) = false := by simpa using c3
              have e3n : (p.state != 3) = true := by simpa using c3
              have e4 : (p.parent == 1) = false := by simpa using c4
              have e4n : (p.parent != 1) = true := by simpa using c4
              rw [if_pos (by simp [bad1, e3, e4])] at hn
              have HNK := Lib.hid hn
              clear hn c3 c4
              go_wp2_with fail
              go_roundw
              case rel => exact ⟨k + 1, by omega, by go_num, by rw [HNK.out]; exact own_safe HOW.out ((But.refl _ _).alloc _), HS.out.alloc _⟩
              case measure => simp [intOf]; omega
          · have hq : exq pid code p = ⟨pid, p.parent, 3, code % 256, 0, false⟩ := by unfold exq adopt; simp [c1, c2, deadR]
            have e1 : (p.pid == pid) = true := by simpa using c1
            have e2 : (p.parent == pid) = false := by simpa using c2
            have hn := HN.out
            rw [hq] at hn
            clear c1 c2 hq
            rcases (show p.state = 3 ∨ p.state ≠ 3 by omega) with c3 | c3 <;> rcases (show p.parent = 1 ∨ p.parent ≠ 1 by omega) with c4 | c4
            · have e3 : (p.state == 3) = true := by simpa using c3
              have e3n : (p.state != 3) = false := by simpa using c3
              have e4 : (p.parent == 1) = true := by simpa using c4
              have e4n : (p.parent != 1) = false := by simpa using c4
              rw [if_pos (by simp [bad1, e3, e4])] at hn
              have HNK := Lib.hid hn
              clear hn c3 c4
              go_wp2_with fail
              go_roundw
              case rel => exact ⟨k + 1, by omega, by go_num, by rw [HNK.out]; exact own_safe HOW.out ((But.refl _ _).alloc _), HS.out.alloc _⟩
              case measure => simp [intOf]; omega
            · have e3 : (p.state == 3) = true := by simpa using c3
              have e3n : (p.state != 3) = false := by simpa using c3
              have e4 : (p.parent == 1) = false := by simpa using c4
              have e4n : (p.parent != 1) = true := by simpa using c4
              rw [if_neg (by simp [bad1, e3, e4])] at hn
              have HNK := Lib.hid hn
              clear hn c3 c4
              go_wp2_with (at_builtin; (refine wpList_push slRP rfl (.tmp 59) (.tmp 61) rfl w1.heap.size u9 L.length (L.flatMap encR) rfl (own_safe HOW.out (((But.refl _ _).alloc _).alloc _)) (wo.heap.size + 1) 145 (encR ⟨pid, p.parent, 3, code % 256, 0, false⟩).toArray rfl (Blk.new' _ _ (by simp)) rfl (encR_one ⟨pid, p.parent, 3, code % 256, 0, false⟩) h63 hby (by simp; omega) ?_); intro v1 w5 ho hg hd; have hs5 := safe_own ((HS.out.alloc _).alloc _) (own_safe HOW.out (((But.refl _ _).alloc _).alloc _)) hg (Nat.le_refl _); have HO1 := Lib.hid ho; have HS5 := Lib.hid hs5; clear ho hg hd hs5)
              go_roundw
              case rel => exact ⟨k + 1, by omega, by go_num, by rw [HNK.out]; exact own_push6 HO1.out, HS5.out⟩
              case measure => simp [intOf]; omega
            · have e3 : (p.state == 3) = false := by simpa using c3
              have e3n : (p.state != 3) = true := by simpa using c3
              have e4 : (p.parent == 1) = true := by simpa using c4
              have e4n : (p.parent != 1) = false := by simpa using c4
              rw [if_pos (by simp [bad1, e3, e4])] at hn
              have HNK := Lib.hid hn
              clear hn c3 c4
              go_wp2_with fail
              go_roundw
              case rel => exact ⟨k + 1, by omega, by go_num, by rw [HNK.out]; exact own_safe HOW.out ((But.refl _ _).alloc _), HS.out.alloc _⟩
              case measure => simp [intOf]; omega
            · have e3 : (p.state == 3) = false := by simpa using c3
              have e3n : (p.state != 3) = true := by simpa using c3
              have e4 : (p.parent == 1) = false := by simpa using c4
              have e4n : (p.parent != 1) = true := by simpa using c4
              rw [if_neg (by simp [bad1, e3, e4])] at hn
              have HNK := Lib.hid hn
              clear hn c3 c4
              go_wp2_with (at_builtin; (refine wpList_push slRP rfl (.tmp 59) (.tmp 61) rfl w1.heap.size u9 L.length (L.flatMap encR) rfl (own_safe HOW.out (((But.refl _ _).alloc _).alloc _)) (wo.heap.size + 1) 145 (encR ⟨pid, p.parent, 3, code % 256, 0, false⟩).toArray rfl (Blk.new' _ _ (by simp)) rfl (encR_one ⟨pid, p.parent, 3, code % 256, 0, false⟩) h63 hby (by simp; omega) ?_); intro v1 w5 ho hg hd; have hs5 := safe_own ((HS.out.alloc _).alloc _) (own_safe HOW.out (((But.refl _ _).alloc _).alloc _)) hg (Nat.le_refl _); have HO1 := Lib.hid ho; have HS5 := Lib.hid hs5; clear ho hg hd hs5)
              go_roundw
              case rel => exact ⟨k + 1, by omega, by go_num, by rw [HNK.out]; exact own_push6 HO1.out, HS5.out⟩
              case measure => simp [intOf]; omega
          · have hq : exq pid code p = ⟨p.pid, 1, p.state, p.code, p.until_, p.killed⟩ := by unfold exq adopt; simp [c1, c2, deadR]
            have e1 : (p.pid == pid) = false := by simpa using c1
            have e2 : (p.parent == pid) = true := by simpa using c2
            have hn := HN.out
            rw [hq] at hn
            clear c1 c2 hq
            rcases (show p.state = 3 ∨ p.state ≠ 3 by omega) with c3 | c3 <;> rcases (show p.parent = 1 ∨ p.parent ≠ 1 by omega) with c4 | c4
            · have e3 : (p.state == 3) = true := by simpa using c3
              have e3n : (p.state != 3) = false := by simpa using c3
              have e4 : (p.parent == 1) = true := by simpa using c4
              have e4n : (p.parent != 1) = false := by simpa using c4
              rw [if_pos (by simp [bad1, e3, e4])] at hn
              have HNK := Lib.hid hn
              clear hn c3 c4
              go_wp2_with fail
              go_roundw
              case rel => exact ⟨k + 1, by omega, by go_num, by rw [HNK.out]; exact own_safe HOW.out ((But.refl _ _).alloc _), HS.out.alloc _⟩
              case measure => simp [intOf]; omega
            · have e3 : (p.state == 3) = true := by simpa using c3
              have e3n : (p.state != 3) = false := by simpa using c3
              have e4 : (p.parent == 1) = false := by simpa using c4
              have e4n : (p.parent != 1) = true := by simpa using c4
              rw [if_pos (by simp [bad1, e3, e4])] at hn
              have HNK := Lib.hid hn
              clear hn c3 c4
              go_wp2_with fail
              go_roundw
              case rel => exact ⟨k + 1, by omega, by go_num, by rw [HNK.out]; exact own_safe HOW.out ((But.refl _ _).alloc _), HS.out.alloc _⟩
              case measure => simp [intOf]; omega
            · have e3 : (p.state == 3) = false := by simpa using c3
              have e3n : (p.state != 3) = true := by simpa using c3
              have e4 : (p.parent == 1) = true := by simpa using c4
              have e4n : (p.parent != 1) = false := by simpa using c4
              rw [if_neg (by simp [bad1, e3, e4])] at hn
              have HNK := Lib.hid hn
              clear hn c3 c4
              go_wp2_with (at_builtin; (refine wpList_push slRP rfl (.tmp 59) (.tmp 61) rfl w1.heap.size u9 L.length (L.flatMap encR) rfl (own_safe HOW.out (((But.refl _ _).alloc _).alloc _)) (wo.heap.size + 1) 145 (encR ⟨p.pid, 1, p.state, p.code, p.until_, p.killed⟩).toArray rfl (Blk.new' _ _ (by simp)) rfl (encR_one ⟨p.pid, 1, p.state, p.code, p.until_, p.killed⟩) h63 hby (by simp; omega) ?_); intro v1 w5 ho hg hd; have hs5 := safe_own ((HS.out.alloc _).alloc _) (own_safe HOW.out (((But.refl _ _).alloc _).alloc _)) hg (Nat.le_refl _); have HO1 := Lib.hid ho; have HS5 := Lib.hid hs5; clear ho hg hd hs5)
              go_roundw
              case rel => exact ⟨k + 1, by omega, by go_num, by rw [HNK.out]; exact own_push6 HO1.out, HS5.out⟩
              case measure => simp [intOf]; omega
            · have e3 : (p.state == 3) = false := by simpa using c3
              have e3n : (p.state != 3) = true := by simpa using c3
              have e4 : (p.parent == 1) = false := by simpa using c4
              have e4n : (p.parent != 1) = true := by simpa using c4
              rw [if_neg (by simp [bad1, e3, e4])] at hn
              have HNK := Lib.hid hn
              clear hn c3 c4
              go_wp2_with (at_builtin; (refine wpList_push slRP rfl (.tmp 59) (.tmp 61) rfl w1.heap.size u9 L.length (L.flatMap encR) rfl (own_safe HOW.out (((But.refl _ _).alloc _).alloc _)) (wo.heap.size + 1) 145 (encR ⟨p.pid, 1, p.state, p.code, p.until_, p.killed⟩).toArray rfl (Blk.new' _ _ (by simp)) rfl (encR_one ⟨p.pid, 1, p.state, p.code, p.until_, p.killed⟩) h63 hby (by simp; omega) ?_); intro v1 w5 ho hg hd; have hs5 := safe_own ((HS.out.alloc _).alloc _) (own_safe HOW.out (((But.refl _ _).alloc _).alloc _)) hg (Nat.le_refl _); have HO1 := Lib.hid ho; have HS5 := Lib.hid hs5; clear ho hg hd hs5)
              go_roundw
              case rel => exact ⟨k + 1, by omega, by go_num, by rw [HNK.out]; exact own_push6 HO1.out, HS5.out⟩
              case measure => simp [intOf]; omega
          · have hq : exq pid code p = ⟨p.pid, p.parent, p.state, p.code, p.until_, p.killed⟩ := by unfold exq adopt; simp [c1, c2, deadR]
            have e1 : (p.pid == pid) = false := by simpa using c1
            have e2 : (p.parent == pid) = false := by simpa using c2
            have hn := HN.out
            rw [hq] at hn
            clear c1 c2 hq
            rcases (show p.state = 3 ∨ p.state ≠ 3 by omega) with c3 | c3 <;> rcases (show p.parent = 1 ∨ p.parent ≠ 1 by omega) with c4 | c4
            · have e3 : (p.state == 3) = true := by simpa using c3
              have e3n : (p.state != 3) = false := by simpa using c3
              have e4 : (p.parent == 1) = true := by simpa using c4
              have e4n : (p.parent != 1) = false := by simpa using c4
              rw [if_pos (by simp [bad1, e3, e4])] at hn
              have HNK := Lib.hid hn
              clear hn c3 c4
              go_wp2_with fail
              go_roundw
              case rel => exact ⟨k + 1, by omega, by go_num, by rw [HNK.out]; exact own_safe HOW.out ((But.refl _ _).alloc _), HS.out.alloc _⟩
              case measure => simp [intOf]; omega
            · have e3 : (p.state == 3) = true := by simpa using c3
              have e3n : (p.state != 3) = false := by simpa using c3
              have e4 : (p.parent == 1) = false := by simpa using c4
              have e4n : (p.parent != 1) = true := by simpa using c4
              rw [if_neg (by simp [bad1, e3, e4])] at hn
              have HNK := Lib.hid hn
              clear hn c3 c4
              go_wp2_with (at_builtin; (refine wpList_push slRP rfl (.tmp 59) (.tmp 61) rfl w1.heap.size u9 L.length (L.flatMap encR) rfl (own_safe HOW.out (((But.refl _ _).alloc _).alloc _)) (wo.heap.size + 1) 145 (encR ⟨p.pid, p.parent, p.state, p.code, p.until_, p.killed⟩).toArray rfl (Blk.new' _ _ (by simp)) rfl (encR_one ⟨p.pid, p.parent, p.state, p.code, p.until_, p.killed⟩) h63 hby (by simp; omega) ?_); intro v1 w5 ho hg hd; have hs5 := safe_own ((HS.out.alloc _).alloc _) (own_safe HOW.out (((But.refl _ _).alloc _).alloc _)) hg (Nat.le_refl _); have HO1 := Lib.hid ho; have HS5 := Lib.hid hs5; clear ho hg hd hs5)
              go_roundw
              case rel => exact ⟨k + 1, by omega, by go_num, by rw [HNK.out]; exact own_push6 HO1.out, HS5.out⟩
              case measure => simp [intOf]; omega
            · have e3 : (p.state == 3) = false := by simpa using c3
              have e3n : (p.state != 3) = true := by simpa using c3
              have e4 : (p.parent == 1) = true := by simpa using c4
              have e4n : (p.parent != 1) = false := by simpa using c4
              rw [if_neg (by simp [bad1, e3, e4])] at hn
              have HNK := Lib.hid hn
              clear hn c3 c4
              go_wp2_with (at_builtin; (refine wpList_push slRP rfl (.tmp 59) (.tmp 61) rfl w1.heap.size u9 L.length (L.flatMap encR) rfl (own_safe HOW.out (((But.refl _ _).alloc _).alloc _)) (wo.heap.size + 1) 145 (encR ⟨p.pid, p.parent, p.state, p.code, p.until_, p.killed⟩).toArray rfl (Blk.new' _ _ (by simp)) rfl (encR_one ⟨p.pid, p.parent, p.state, p.code, p.until_, p.killed⟩) h63 hby (by simp; omega) ?_); intro v1 w5 ho hg hd; have hs5 := safe_own ((HS.out.alloc _).alloc _) (own_safe HOW.out (((But.refl _ _).alloc _).alloc _)) hg (Nat.le_refl _); have HO1 := Lib.hid ho; have HS5 := Lib.hid hs5; clear ho hg hd hs5)
              go_roundw
              case rel => exact ⟨k + 1, by omega, by go_num, by rw [HNK.out]; exact own_push6 HO1.out, HS5.out⟩
              case measure => simp [intOf]; omega
            · have e3 : (p.state == 3) = false := by simpa using c3
              have e3n : (p.state != 3) = true := by simpa using c3
              have e4 : (p.parent == 1) = false := by simpa using c4
              have e4n : (p.parent != 1) = true := by simpa using c4
              rw [if_neg (by simp [bad1, e3, e4])] at hn
              have HNK := Lib.hid hn
              clear hn c3 c4
              go_wp2_with (at_builtin; (refine wpList_push slRP rfl (.tmp 59) (.tmp 61) rfl w1.heap.size u9 L.length (L.flatMap encR) rfl (own_safe HOW.out (((But.refl _ _).alloc _).alloc _)) (wo.heap.size + 1) 145 (encR ⟨p.pid, p.parent, p.state, p.code, p.until_, p.killed⟩).toArray rfl (Blk.new' _ _ (by simp)) rfl (encR_one ⟨p.pid, p.parent, p.state, p.code, p.until_, p.killed⟩) h63 hby (by simp; omega) ?_); intro v1 w5 ho hg hd; have hs5 := safe_own ((HS.out.alloc _).alloc _) (own_safe HOW.out (((But.refl _ _).alloc _).alloc _)) hg (Nat.le_refl _); have HO1 := Lib.hid ho; have HS5 := Lib.hid hs5; clear ho hg hd hs5)
              go_roundw
              case rel => exact ⟨k + 1, by omega, by go_num, by rw [HNK.out]; exact own_push6 HO1.out, HS5.out⟩
              case measure => simp [intOf]; omega
        · obtain rfl : k = ps.length := by omega
          rw [List.take_length] at hown
          have hlen := exL_len pid code ps ps.length
          rw [List.take_length] at hlen
          obtain ⟨Z, z, rfl, -⟩ := own_form hown
          have hbt := (But.refl (· = w.heap.size) wo).setCell (p := ⟨w.heap.size, 0, none⟩) (.inl rfl) (.slice Z (exL pid code ps).length z)
          have ht9 := (HT1.out.but hS id).set 0 (.slice Z (exL pid code ps).length z)
          have hr9 := (HR1.out.but hS id).far (p := ⟨w.heap.size, 0, none⟩) (show w.heap.size + 1 ≠ w.heap.size by omega) (.slice Z (exL pid code ps).length z)
          have hl9 := (LP.of_own hown).but hbt (fun k hk e => (LP.of_own hown).ne hk (HT1.out.but hS id) (by decide) e)
          have hs9 := (HS1.out.trans hS).setCell (p := ⟨w.heap.size, 0, none⟩) (.inr (Nat.le_refl _)) (.slice Z (exL pid code ps).length z)
          have hT0 := HT1.out.but hS id
          have f0' := hT0.frozen 0
          have hbw : base ≤ w1.heap.size := Nat.le_trans hb HS1.out.size
          have HFF := Lib.hid (fin4 hs9 (show w.heap.size ≤ w.heap.size + 1 by omega) (hl9.lower hbw) hr9 [.slice Z (exL pid code ps).length z, I most, I last, I now])
          generalize hL : exL pid code ps = L at *
          have HL := Lib.hid hL
          obtain ⟨x0, x1, x2, x3⟩ := cells4 ht9
          obtain ⟨r0, r1, r2, r3⟩ := cells4 hr9
          obtain ⟨f0, f1, f2, f3⟩ := frz4 hr9
          clear hbt ht9 hr9 hl9 hs9 hown hT0 hS hL
          go_wp2
          exact bodyPost_ret (v := t1 0 most last now (.slice Z L.length z)) (by simp [results, Try.results85, go_sem, r0, r1, r2, r3]) rfl (by rw [HL.out]; exact ⟨_, rfl, HFF.out⟩)
end Go.Proofs.Ytlojadpbdbhmiaa
