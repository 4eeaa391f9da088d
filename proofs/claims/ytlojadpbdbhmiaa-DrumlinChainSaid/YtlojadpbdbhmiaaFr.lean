/- The reference's sets: slices of numbers, each call's answer. -/
import Derived.Test.YtlojadpbdbhmiaaFu
import Derived.Test.YtlojadpbdbhmiaaSt
namespace Go.Proofs.Ytlojadpbdbhmiaa
open Go.RowKit
set_option linter.unusedSimpArgs false
set_option linter.unusedVariables false

section
variable {w : World} {base n c g : Nat} {e : TypeId} {A : Option Addr} {xs : List Value}
theorem own_at (h : w.ownsRow base e 1 (.slice (some ⟨g, 0, none⟩) n c) n xs) (k : Nat) (hk : k < n) : w.cell? ⟨g, k, none⟩ = xs[k]? ∧ w.frozen? ⟨g, k, none⟩ = false := by
  rcases h.2 with ⟨h0, _⟩ | ⟨g', cap, cur, hv, hb, hh, hn, hm, hs, ht⟩
  · cases h0
  · injection hv with e1 e2 e3
    injection e1 with e1
    injection e1 with e1
    subst e1 e3
    rw [Nat.mul_one] at hs ht
    have hB : Blk w g e cur := hh
    refine ⟨?_, hB.frozen k⟩
    rw [hB.cell, ← ht, List.getElem?_take, if_pos hk]
    simp
theorem own_set (h : w.ownsRow base e 1 (.slice (some ⟨g, 0, none⟩) n c) n xs) (k : Nat) (hk : k < n) (u : Value) : (w.setCell ⟨g, k, none⟩ u).ownsRow base e 1 (.slice (some ⟨g, 0, none⟩) n c) n (xs.set k u) := by
  refine ⟨by rw [List.length_set]; exact h.1, ?_⟩
  rcases h.2 with ⟨h0, _⟩ | ⟨g', cap, cur, hv, hb, hh, hn, hm, hs, ht⟩
  · cases h0
  · injection hv with e1 e2 e3
    injection e1 with e1
    injection e1 with e1
    subst e1 e3
    rw [Nat.mul_one] at hs ht
    have hB : Blk w g e cur := hh
    refine .inr ⟨g, c, cur.setIfInBounds k u, rfl, hb, hB.set k u, hn, hm, by simpa using hs, ?_⟩
    rw [Nat.mul_one, Array.toList_setIfInBounds, List.take_set, ht]
theorem own_ge (h : w.ownsRow base e 1 (.slice (some ⟨g, 0, none⟩) n c) n xs) : base ≤ g ∧ g < w.heap.size := by
  have := h.lt g rfl
  exact this
end
/-- A slice of numbers that reads so; its block lies from base on. -/
def LV (w : World) (base : Nat) (v : Value) (ids : List Int) : Prop := ∃ A c, v = .slice A ids.length c ∧ ids.length ≤ c ∧ c ≤ 9223372036854775807 ∧ Rd I w A ids ∧ ∀ ad, A = some ad → base ≤ ad.block ∧ ad.block < w.heap.size ∧ ∃ cs, Blk w ad.block 3 cs
theorem LV.but {S : Nat → Prop} {w w' : World} {base : Nat} {v : Value} {ids : List Int} (h : LV w base v ids) (hb : But S w w') (hs : ∀ k, v.ownBlock = some k → ¬ S k) : LV w' base v ids := by
  obtain ⟨A, c, rfl, h1, h2, h3, h4⟩ := h
  refine ⟨A, c, rfl, h1, h2, h3.but hb (fun ad e => hs _ (by rw [e]; rfl)), fun ad e => ?_⟩
  obtain ⟨b1, b2, cs, b3⟩ := h4 ad e
  have := hb.size
  exact ⟨b1, by omega, cs, b3.but hb (hs _ (by rw [e]; rfl))⟩
theorem LV.blk {w : World} {base : Nat} {v : Value} {ids : List Int} (h : LV w base v ids) {k : Nat} (hk : v.ownBlock = some k) : base ≤ k ∧ k < w.heap.size ∧ ∃ cs, Blk w k 3 cs := by
  obtain ⟨A, c, rfl, h1, h2, h3, h4⟩ := h
  rcases A with _ | ad
  · simp [Value.ownBlock] at hk
  · have e : ad.block = k := by simpa [Value.ownBlock] using hk
    rw [← e]
    exact h4 ad rfl
theorem LV.safe {w w' : World} {base : Nat} {v : Value} {ids : List Int} (h : LV w base v ids) (hb : Safe w w') : LV w' base v ids := h.but hb (fun _ _ => id)
theorem LV.lower {w : World} {base base' : Nat} {v : Value} {ids : List Int} (h : LV w base v ids) (hb : base' ≤ base) : LV w base' v ids := by
  obtain ⟨A, c, e, h1, h2, h3, h4⟩ := h
  exact ⟨A, c, e, h1, h2, h3, fun ad e => by have := h4 ad e; exact ⟨Nat.le_trans hb this.1, this.2⟩⟩
theorem LV.of_own {w : World} {base : Nat} {v : Value} {ids : List Int} (h : w.ownsRow base 3 1 v ids.length (ids.map I)) : LV w base v ids := by
  rcases h.2 with ⟨rfl, h0⟩ | ⟨g, cap, cur, rfl, hb, hh, hn, hm, hs, ht⟩
  · have : ids = [] := List.eq_nil_of_length_eq_zero h0
    subst this
    exact ⟨none, 0, rfl, Nat.le_refl _, by omega, Rd.nil, fun ad e => by cases e⟩
  · exact ⟨_, cap, rfl, hn, by unfold maxLen at hm; omega, Rd.of_own h, fun ad e => by
      injection e with e
      rw [← e]
      exact ⟨hb, (Array.getElem?_eq_some_iff.1 hh).1, cur, hh⟩⟩
/-- An answer whose first part is a list. -/
def LRet (w w' : World) (base : Nat) (v0 : Value) (e : Ending) (f : Value → Value) (ids : List Int) : Prop := ∃ v, e = .returned (f v) ∧ LV w' base v ids ∧ Safe w w' ∧ ∀ k, v.ownBlock = some k → v0.ownBlock = some k ∨ w.heap.size ≤ k
theorem LV.fresh {w' : World} {b n : Nat} {v v0 : Value} {ids : List Int} (h : LV w' b v ids) (hb : n ≤ b) : ∀ k, v.ownBlock = some k → v0.ownBlock = some k ∨ n ≤ k := fun k hk => .inr (Nat.le_trans hb (h.blk hk).1)
theorem fr_same (v : Value) (n : Nat) : ∀ k, v.ownBlock = some k → v.ownBlock = some k ∨ n ≤ k := fun k hk => .inl hk
theorem push_ready {w1 : World} {base : Nat} {v1 : Value} {ids : List Int} {k : Nat} (ho : w1.ownsRow base 3 1 v1 (0 + ids.length) ([] ++ ids.map I)) (hk : k < ids.length) (x : Int) :
    ∃ g c1, ∃ y : Int, v1 = .slice (some ⟨g, 0, none⟩) ids.length c1 ∧ base ≤ g ∧ w1.cell? ⟨g, k, none⟩ = some (I y) ∧ w1.frozen? ⟨g, k, none⟩ = false ∧
      Hid ((w1.setCell ⟨g, k, none⟩ (I x)).ownsRow base 3 1 (.slice (some ⟨g, 0, none⟩) ids.length c1) ids.length ((ids.set k x).map I)) := by
  rw [Nat.zero_add, List.nil_append] at ho
  obtain ⟨A1, c1, rfl, hc1⟩ := own_form ho
  obtain ⟨g, rfl⟩ := own_hd ho (by omega)
  obtain ⟨hgc0, hgf⟩ := own_at ho k hk
  have hset := own_set ho k hk (I x)
  rw [← List.map_set] at hset
  exact ⟨g, c1, ids[k], rfl, (own_ge ho).1, by rw [hgc0, List.getElem?_map, List.getElem?_eq_getElem hk]; rfl, hgf, hset⟩
set_option maxRecDepth 100000 in
set_option maxHeartbeats 1000000 in
theorem rwith_any (base : Nat) (v : Value) (ids : List Int) (k : Nat) (x : Int) (w : World) (h : LV w base v ids) (hk : k < ids.length) (h16 : ids.length ≤ 16) :
    Calls Try.prog 69 #[v, .int .i64 k, .int .i64 x] w fun e w' => LRet w w' w.heap.size v e (fun v => v) (ids.set k x) := by
  obtain ⟨A, c, rfl, hc, hcm, hrd, -⟩ := h
  have hcells := Rd.cells (hrd.but (But.alloc (But.refl (fun _ => False) w) (.cells #[] 3)) (fun _ _ => id))
  have ho0 : (w.alloc (.cells #[] 3)).ownsRow w.heap.size 3 1 (.slice (some ⟨w.heap.size, 0, none⟩) 0 0) 0 [] := World.ownsRow_lit w #[] 0 (Nat.le_refl _) (by simp [maxLen]) rfl
  have hml : (ids.map I).length = ids.length * 1 := by simp
  have hki : (k : Int) < ids.length := by omega
  have hone : ∀ u ∈ ids.map I, u.oneCell' = true := by intro u hu; rw [List.mem_map] at hu; obtain ⟨x, _, rfl⟩ := hu; rfl
  have h63 : 0 + ids.length ≤ maxLen := by simp [maxLen]; omega
  have hby : (0 + ids.length) * 8 ≤ 140737488355328 := by omega
  have hba : w.heap.size ≤ (w.alloc (.cells #[] 3)).heap.size := by
    show _ ≤ (w.heap.push _).size
    rw [Array.size_push]; omega
  have HC := Lib.hid hcells
  have HO := Lib.hid ho0
  have HM := Lib.hid hml
  have HN := Lib.hid hone
  clear hcells ho0 hml hone hrd
  go_enter Try.func69, Try.ntmps69
  go_wp2_with (at_builtin; go_must (refine wpList_pushAll slInts rfl (.tmp 8) (.tmp 9) rfl w.heap.size (.slice (some ⟨w.heap.size, 0, none⟩) 0 0) 0 [] rfl HO.out A ids.length c (ids.map I) rfl HM.out HC.out HN.out h63 hby hba ?_); intro v1 w1 ho hg hd; have hs1 := safe_own ((But.refl (fun _ => False) w).alloc (.cells #[] 3)) HO.out hg (Nat.le_refl _); have HS1 := Lib.hid hs1; obtain ⟨g, c1, y, rfl, hge, hgc, hgf, HS⟩ := push_ready ho hk x; clear ho hg hd hs1)
  go_ret
  have hL := LV.of_own (ids := ids.set k x) (by rw [List.length_set]; exact HS.out)
  exact ⟨_, rfl, hL, HS1.out.setCell (p := ⟨g, k, none⟩) (.inr hge) _, hL.fresh (Nat.le_refl _)⟩
set_option maxRecDepth 100000 in
set_option maxHeartbeats 1000000 in
theorem rget_yes (base : Nat) (v : Value) (ids : List Int) (k : Nat) (x : Int) (w : World) (h : LV w base v ids) (hk : ids[k]? = some x) (hx : 0 ≤ x) :
    Calls Try.prog 70 #[v, .int .i64 k] w fun e w' => e = .returned (.tuple #[I x, I 0]) ∧ Safe w w' := by
  obtain ⟨A, c, rfl, hc, hcm, hrd, -⟩ := h
  have hlt := (List.getElem?_eq_some_iff.1 hk).1
  obtain ⟨ad, rfl, hcell⟩ := hrd.at hlt
  have e : ids[k] = x := by rw [List.getElem?_eq_getElem hlt] at hk; injection hk
  rw [e] at hcell
  clear hrd e hk
  go_enter Try.func70, Try.ntmps70
  go_wp2
  go_ret2
  exact ⟨rfl, But.refl _ _⟩
/-- Nothing is known there, as the reference sees it. -/
theorem NoS.cases {ids : List Int} {fd : Int} (h : NoS ids fd) : fd < 0 ∨ (¬ fd < 0 ∧ (ids.length : Int) ≤ fd) ∨ ∃ k : Nat, fd = k ∧ k < ids.length ∧ ids[k]? = some (-1) := by
  rcases h with h | h
  · unfold hasS at h
    simp only [Bool.and_eq_false_iff, decide_eq_false_iff_not] at h
    omega
  · exact .inr (.inr h)
set_option maxRecDepth 100000 in
set_option maxHeartbeats 1000000 in
theorem rget_no (base : Nat) (v : Value) (ids : List Int) (fd : Int) (w : World) (h : LV w base v ids) (hn : NoS ids fd) :
    Calls Try.prog 70 #[v, .int .i64 fd] w fun e w' => e = .returned (.tuple #[I 0, I 2]) ∧ Safe w w' := by
  obtain ⟨A, c, rfl, hc, hcm, hrd, -⟩ := h
  rcases hn.cases with h1 | ⟨h1, h2⟩ | ⟨k, rfl, hlt, hk⟩
  · clear hrd hn
    go_enter Try.func70, Try.ntmps70
    go_wp2
    go_ret2
    exact ⟨rfl, But.refl _ _⟩
  · clear hrd hn
    go_enter Try.func70, Try.ntmps70
    go_wp2
    go_ret2
    exact ⟨rfl, But.refl _ _⟩
  · obtain ⟨ad, rfl, hcell⟩ := hrd.at hlt
    have e : ids[k] = -1 := by rw [List.getElem?_eq_getElem hlt] at hk; injection hk
    rw [e] at hcell
    clear hrd e hk hn
    go_enter Try.func70, Try.ntmps70
    go_wp2
    go_ret2
    exact ⟨rfl, But.refl _ _⟩
abbrev t3 (a b : Int) (v : Value) : Value := .tuple #[v, I a, I b]
set_option maxRecDepth 100000 in
set_option maxHeartbeats 1000000 in
theorem rtake_yes (base : Nat) (v : Value) (ids : List Int) (k : Nat) (x : Int) (w : World) (h : LV w base v ids) (hk : ids[k]? = some x) (hx : 0 ≤ x) (h16 : ids.length ≤ 16) (hb : base ≤ w.heap.size) :
    Calls Try.prog 34 #[v, .int .i64 k] w fun e w' => LRet w w' base v e (t3 x 0) (ids.set k (-1)) := by
  have hlt := (List.getElem?_eq_some_iff.1 hk).1
  have HG := Lib.hid (rget_yes base v ids k x w h hk hx)
  have hw := fun W (hs : Safe w W) => rwith_any base v ids k (-1) W (h.safe hs) hlt h16
  generalize ids.set k (-1) = ids2 at *
  have HW := Lib.hid hw
  obtain ⟨A, c, rfl, -⟩ := h
  clear hw hk
  go_enter Try.func34, Try.ntmps34
  go_wp2_with fail
  refine (HG.out).mono ?_
  rintro _ w1 ⟨rfl, hs1⟩
  go_wp2_with fail
  refine (HW.out _ hs1).mono ?_
  rintro e w2 ⟨v2, rfl, hv2, hs2, -⟩
  have hsz := hs1.size
  have HFR := Lib.hid (hv2.fresh (v0 := .slice A ids.length c) hsz)
  have HV := Lib.hid (hv2.lower (show base ≤ _ by omega))
  have HS := Lib.hid (hs1.trans hs2)
  obtain ⟨A2, c2, rfl, _⟩ := hv2
  clear hs1 hs2
  go_wp2
  go_ret3
  exact ⟨_, rfl, HV.out, HS.out, HFR.out⟩
set_option maxRecDepth 100000 in
set_option maxHeartbeats 1000000 in
theorem rtake_no (base : Nat) (v : Value) (ids : List Int) (fd : Int) (w : World) (h : LV w base v ids) (hn : NoS ids fd) :
    Calls Try.prog 34 #[v, .int .i64 fd] w fun e w' => LRet w w' base v e (t3 0 2) ids := by
  have HG := Lib.hid (rget_no base v ids fd w h hn)
  have H := Lib.hid h
  obtain ⟨A, c, rfl, -⟩ := h
  clear hn
  go_enter Try.func34, Try.ntmps34
  go_wp2_with fail
  refine (HG.out).mono ?_
  rintro _ w1 ⟨rfl, hs1⟩
  go_wp2
  go_ret3
  exact ⟨_, rfl, H.out.safe hs1, hs1, fr_same _ _⟩
set_option maxRecDepth 100000 in
set_option maxHeartbeats 1000000 in
theorem rat_no (base : Nat) (v : Value) (ids : List Int) (fd id : Int) (w : World) (h : LV w base v ids) (hn : hasS ids fd = false) :
    Calls Try.prog 36 #[v, .int .i64 fd, .int .i64 id] w fun e w' => LRet w w' base v e (t3 0 2) ids := by
  have hc : fd < 0 ∨ (¬ fd < 0 ∧ (ids.length : Int) ≤ fd) := by
    unfold hasS at hn
    simp only [Bool.and_eq_false_iff, decide_eq_false_iff_not] at hn
    omega
  have H := Lib.hid h
  obtain ⟨A, c, rfl, -⟩ := h
  clear hn
  rcases hc with h1 | ⟨h1, h2⟩
  all_goals
    go_enter Try.func36, Try.ntmps36
    go_wp2
    go_ret3
    exact ⟨_, rfl, H.out, But.refl _ _, fr_same _ _⟩
set_option maxRecDepth 100000 in
set_option maxHeartbeats 1000000 in
theorem rat_inval (base : Nat) (v : Value) (ids : List Int) (k : Nat) (id : Int) (w : World) (h : LV w base v ids) (hk : k < ids.length) (hi : id < 0) :
    Calls Try.prog 36 #[v, .int .i64 k, .int .i64 id] w fun e w' => LRet w w' base v e (t3 0 1) ids := by
  have H := Lib.hid h
  obtain ⟨A, c, rfl, -⟩ := h
  have hk2 : (k : Int) < ids.length := by omega
  go_enter Try.func36, Try.ntmps36
  go_wp2
  go_ret3
  exact ⟨_, rfl, H.out, But.refl _ _, fr_same _ _⟩
set_option maxRecDepth 100000 in
set_option maxHeartbeats 1000000 in
theorem rat_yes (base : Nat) (v : Value) (ids : List Int) (k : Nat) (x id : Int) (w : World) (h : LV w base v ids) (hk : ids[k]? = some x) (hi : 0 ≤ id) (h16 : ids.length ≤ 16) (hb : base ≤ w.heap.size) :
    Calls Try.prog 36 #[v, .int .i64 k, .int .i64 id] w fun e w' => LRet w w' base v e (t3 x 0) (ids.set k id) := by
  have hlt := (List.getElem?_eq_some_iff.1 hk).1
  have hw := fun W (hs : Safe w W) => rwith_any base v ids k id W (h.safe hs) hlt h16
  obtain ⟨A, c, rfl, hc, hcm, hrd, -⟩ := h
  obtain ⟨ad, rfl, hcell⟩ := hrd.at hlt
  have e : ids[k] = x := by rw [List.getElem?_eq_getElem hlt] at hk; injection hk
  rw [e] at hcell
  have hki : (k : Int) < ids.length := by omega
  have hk0 : (0 : Int) ≤ (k : Int) := by omega
  clear hk e hrd
  generalize ids.set k id = ids2 at *
  have HW := Lib.hid hw
  have hlt' : w.heap.size = w.drew.heap.size := rfl
  have HL := Lib.hid hlt'
  clear hw hlt'
  go_enter Try.func36, Try.ntmps36
  go_wp2_with fail
  go_region_held3 (fun w' => w'.cell? (ad.add k) = some (I x)) (first | go_keep | (exact hs2.cell hcell (fun h => h))) ((go_at_call 69; refine (HW.out _ ((But.refl _ _).drew)).mono ?_; rintro e w2 ⟨v2, rfl, hv2, hs2, -⟩))
  have HFR := Lib.hid (hv2.fresh (v0 := .slice (some ad) ids.length c) (show w.heap.size ≤ _ from Nat.le_refl _))
  have HV := Lib.hid (hv2.lower (show base ≤ _ from hb))
  have HS := Lib.hid (((But.refl (fun _ => False) w).drew).trans hs2)
  clear hv2 hs2
  go_wp2
  go_ret3
  exact ⟨_, rfl, HV.out, HS.out, HFR.out⟩
set_option maxRecDepth 100000 in
set_option maxHeartbeats 1000000 in
theorem rput_inval (base : Nat) (v : Value) (ids : List Int) (id : Int) (w : World) (h : LV w base v ids) (hi : id < 0) :
    Calls Try.prog 32 #[v, .int .i64 id] w fun e w' => LRet w w' base v e (t3 0 1) ids := by
  have H := Lib.hid h
  obtain ⟨A, c, rfl, -⟩ := h
  go_enter Try.func32, Try.ntmps32
  go_wp2
  go_ret3
  exact ⟨_, rfl, H.out, But.refl _ _, fr_same _ _⟩
/-- -1 or more. -/
def VS (ids : List Int) : Prop := ∀ (j : Nat) (x : Int), ids[j]? = some x → -1 ≤ x
/-- What Put answers. -/
def PutRet (w w' : World) (base : Nat) (v : Value) (e : Ending) (ids : List Int) (id : Int) : Prop :=
  match freeS ids with
  | some m => LRet w w' base v e (t3 m 0) (ids.set m id)
  | none => LRet w w' base v e (t3 0 13) ids
theorem freeS_hit {ids : List Int} {k : Nat} (hk : ids[k]? = some (-1)) (h : ∀ j (q : Int), j < k → ids[j]? = some q → (q == -1) = false) : freeS ids = some k := by
  unfold freeS
  rw [List.findIdx?_eq_some_iff_getElem]
  obtain ⟨hlt, he⟩ := List.getElem?_eq_some_iff.1 hk
  refine ⟨hlt, by rw [he]; rfl, fun j hj => ?_⟩
  have := h j ids[j] hj (List.getElem?_eq_getElem (by omega))
  simp [this]
theorem freeS_miss {ids : List Int} (h : ∀ j (q : Int), j < ids.length → ids[j]? = some q → (q == -1) = false) : freeS ids = none := by
  unfold freeS
  rw [List.findIdx?_eq_none_iff]
  intro q hq
  obtain ⟨j, hj⟩ := List.getElem?_of_mem hq
  exact h j q (List.getElem?_eq_some_iff.1 hj).1 hj
set_option maxRecDepth 100000 in
set_option maxHeartbeats 1000000 in
theorem rput_good (base : Nat) (v : Value) (ids : List Int) (id : Int) (w : World) (h : LV w base v ids) (h16 : ids.length ≤ 16) (hi : 0 ≤ id) (hV : VS ids) (hb : base ≤ w.heap.size) :
    Calls Try.prog 32 #[v, .int .i64 id] w fun e w' => PutRet w w' base v e ids id := by
  have H := Lib.hid h
  have HVS := Lib.hid hV
  obtain ⟨A, c, rfl, hc, hcm, hrd, -⟩ := h
  have HR := Lib.hid hrd
  clear hrd hV
  go_enter Try.func32, Try.ntmps32
  go_wp2
  go_loop [7] (fun i => ∃ k : Nat, k ≤ ids.length ∧ i = .int .i64 k ∧ (∀ j (q : Int), j < k → ids[j]? = some q → (q == -1) = false)) (fun i => ids.length - (intOf i).toNat)
  case atStart => exact ⟨0, by omega, rfl, fun j q hj => absurd hj (by omega)⟩
  case round =>
    obtain ⟨k, hk, rfl, hall⟩ := hrel
    have HA := Lib.hid hall
    clear hall
    by_cases hlt : k < ids.length
    · obtain ⟨x, hx⟩ : ∃ x, ids[k]? = some x := ⟨_, List.getElem?_eq_getElem hlt⟩
      have hxv := HVS.out k x hx
      obtain ⟨ad, rfl, hcell⟩ := HR.out.at hlt
      have e : ids[k] = x := by rw [List.getElem?_eq_getElem hlt] at hx; injection hx
      rw [e] at hcell
      have HX := Lib.hid hx
      have hki : (k : Int) < ids.length := by omega
      clear e hx
      by_cases hr : x < 0
      · have hxe : x = -1 := by omega
        have hf : freeS ids = some k := freeS_hit (by rw [HX.out, hxe]) HA.out
        have hw := rwith_any base _ ids k id w H.out hlt h16
        generalize hid2 : ids.set k id = ids2 at *
        have HW := Lib.hid hw
        have HF := Lib.hid hf
        have HI2 := Lib.hid hid2
        clear hw hf hid2 hxe
        go_wp2_with fail
        refine (HW.out).mono ?_
        rintro e w2 ⟨v2, rfl, hv2, hs2, -⟩
        have HFR := Lib.hid (hv2.fresh (v0 := .slice (some ad) ids.length c) (Nat.le_refl _))
        have HV := Lib.hid (hv2.lower hb)
        have HS := Lib.hid hs2
        obtain ⟨A2, c2', rfl, -⟩ := hv2
        clear hs2
        go_wp2
        go_ret3
        unfold PutRet
        rw [HF.out]
        show LRet _ _ _ _ _ _ (ids.set k id)
        rw [HI2.out]
        exact ⟨_, rfl, HV.out, HS.out, HFR.out⟩
      · have hrb : (x == -1) = false := by simp; omega
        go_wp2
        go_round
        case rel =>
          refine ⟨k + 1, by omega, by go_num, fun j q hj hq => ?_⟩
          by_cases e : j = k
          · subst e
            have := hq.symm.trans HX.out
            injection this with this
            rw [this]; exact hrb
          · exact HA.out j q (by omega) hq
        case measure => simp [intOf]; omega
    · obtain rfl : k = ids.length := by omega
      go_wp2
      go_ret3
      unfold PutRet
      rw [freeS_miss HA.out]
      exact ⟨_, rfl, H.out, But.refl _ _, fr_same _ _⟩
end Go.Proofs.Ytlojadpbdbhmiaa
