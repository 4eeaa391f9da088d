/- FdShares: open files and some sets in memory. -/
import Derived.Test.YtlojadpbdbhmiaaYa
import Derived.Maps.RangeWalk
import Derived.Maps.OwnSet
namespace Go.Proofs.Ytlojadpbdbhmiaa
open Go.RowKit
open Go.Maps (Keyed)
set_option linter.unusedSimpArgs false
set_option linter.unusedVariables false

theorem slPsetT : SlT Try.prog 63 61 (.pointer none) 1 8 := ⟨Try.underlying63, by kernel_rfl, rfl, by omega⟩
theorem ownT_blk {w : World} {base n size : Nat} {e : TypeId} {v : Value} {xs : List Value} {k : Nat} (h : w.ownsRow base e size v n xs) (hk : v.ownBlock = some k) : base ≤ k ∧ ∃ cs, Blk w k e cs := by
  rcases h.2 with ⟨rfl, _⟩ | ⟨g', cap, cur, rfl, hb, hh, _⟩
  · simp [Value.ownBlock] at hk
  · have e1 : g' = k := by simpa [Value.ownBlock] using hk
    rw [← e1]
    exact ⟨hb, cur, hh⟩
/-- A set in memory. -/
structure ST where
  gs : Nat
  gl : Nat
  sp : List Value
  ids : List Int
def ptrT (s : ST) : Value := .pointer (some ⟨s.gs, 0, none⟩)
structure SH (w wr : World) (gf gfl : Nat) (os : List FO) (L : List ST) (v : Value) : Prop where
  fw : FW wr gf gfl os
  all : ∀ s ∈ L, SW wr s.gs s.gl s.sp s.ids
  dis : L.Pairwise (fun a b => a.gl ≠ b.gl)
  row : wr.ownsRow w.heap.size 61 1 v L.length (L.map ptrT)
  lof : w.heap.size ≤ gf ∧ w.heap.size ≤ gfl
  los : ∀ s ∈ L, w.heap.size ≤ s.gs ∧ w.heap.size ≤ s.gl
  safe : Safe w wr
section
variable {w wr w' : World} {gf gfl : Nat} {os os' : List FO} {L : List ST} {v : Value}
theorem SH.move (h : SH w wr gf gfl os L v) (hs : Safe wr w') : SH w w' gf gfl os L v :=
  ⟨h.fw.safe hs, fun s m => (h.all s m).safe hs, h.dis, own_safe h.row hs, h.lof, h.los, h.safe.trans hs⟩
/-- The open files have turned. -/
theorem SH.turnF (h : SH w wr gf gfl os L v) (hb : But (· = gfl) wr w') (hf : FW w' gf gfl os') : SH w w' gf gfl os' L v :=
  ⟨hf, fun s m => (h.all s m).but hb (fun e => (h.all s m).hp.ne h.fw.hl (by decide) e) (fun e => (h.all s m).hl.ne h.fw.hl (by decide) e), h.dis, own_but_kept h.row hb (fun k hk e => by
    obtain ⟨_, cs, hB⟩ := ownT_blk h.row hk
    exact hB.ne h.fw.hl (by decide) e), h.lof, h.los, h.safe.step hb (fun j hj => .inr (by rw [show j = gfl from hj]; exact h.lof.2))⟩
theorem map_set_ptr {i : Nat} {s : ST} (hi : L[i]? = some s) (ids' : List Int) : (L.set i { s with ids := ids' }).map ptrT = L.map ptrT := by
  rw [List.map_set]
  exact set_same' (by rw [List.getElem?_map, hi]; rfl)
/-- A set has turned. -/
theorem SH.turnS (h : SH w wr gf gfl os L v) {i : Nat} {s : ST} (hi : L[i]? = some s) {ids' : List Int} (hb : But (· = s.gl) wr w') (hS : SW w' s.gs s.gl s.sp ids') : SH w w' gf gfl os (L.set i { s with ids := ids' }) v := by
  have hsm := List.mem_of_getElem? hi
  have hs := h.all s hsm
  refine ⟨h.fw.but hb (fun e => h.fw.hp.ne hs.hl (by decide) e) (fun e => h.fw.hl.ne hs.hl (by decide) e), fun s2 m => ?_, ?_, ?_, h.lof, fun s2 m => ?_, h.safe.step hb (fun j hj => .inr (by rw [show j = s.gl from hj]; exact (h.los s hsm).2))⟩
  · obtain ⟨j, hj⟩ := List.getElem?_of_mem m
    rw [List.getElem?_set] at hj
    by_cases e : i = j
    · rw [if_pos e] at hj
      split at hj
      · injection hj with hj
        rw [← hj]; exact hS
      · cases hj
    · rw [if_neg e] at hj
      have hm2 := List.mem_of_getElem? hj
      refine (h.all s2 hm2).but hb (fun e => (h.all s2 hm2).hp.ne hs.hl (by decide) e) (fun e2 => ?_)
      obtain ⟨a1, b1⟩ := List.getElem?_eq_some_iff.1 hi
      obtain ⟨a2, b2⟩ := List.getElem?_eq_some_iff.1 hj
      rcases Nat.lt_or_gt_of_ne e with hlt | hlt
      · have := List.pairwise_iff_getElem.1 h.dis i j a1 a2 hlt
        rw [b1, b2] at this
        exact this e2.symm
      · have := List.pairwise_iff_getElem.1 h.dis j i a2 a1 hlt
        rw [b1, b2] at this
        exact this e2
  · have := h.dis
    have e : (L.set i { s with ids := ids' }).map (·.gl) = L.map (·.gl) := by
      rw [List.map_set]
      exact set_same' (by rw [List.getElem?_map, hi]; rfl)
    have h1 : (L.map (·.gl)).Pairwise (· ≠ ·) := List.pairwise_map.2 h.dis
    rw [← e] at h1
    exact List.pairwise_map.1 h1
  · rw [map_set_ptr hi, List.length_set]
    exact own_but_kept h.row hb (fun k hk e => by
      obtain ⟨_, cs, hB⟩ := ownT_blk h.row hk
      exact hB.ne hs.hl (by decide) e)
  · rcases List.mem_or_eq_of_mem_set m with m | rfl
    · exact h.los s2 m
    · exact h.los s hsm
/-- A set more. -/
theorem SH.push (h : SH w wr gf gfl os L v) {w2 : World} (hs : Safe wr w2) {s : ST} (hS : SW w2 s.gs s.gl s.sp s.ids) (hd : ∀ a ∈ L, a.gl ≠ s.gl) (h1 : w.heap.size ≤ s.gs) (h2 : w.heap.size ≤ s.gl) :
    (∀ v', w'.ownsRow w.heap.size 61 1 v' (L.length + 1) (L.map ptrT ++ [ptrT s]) → w2.grownBy w' v.ownBlock → SH w w' gf gfl os (L ++ [s]) v') := by
  intro v' ho hg
  have hm := h.move hs
  have hb := But.of_grown hg
  have hT : ∀ g t cs, Blk w2 g t cs → 61 ≠ t → ¬ (some g = v.ownBlock) := fun g t cs hB ht e => by
    obtain ⟨_, cs', hB'⟩ := ownT_blk hm.row e.symm
    exact hB'.ne hB ht rfl
  have hsz := h.safe.size
  refine ⟨hm.fw.but hb (hT _ _ _ hm.fw.hp (by decide)) (hT _ _ _ hm.fw.hl (by decide)), fun s2 m => ?_, ?_, by rw [List.length_append, List.map_append]; exact ho, h.lof, fun s2 m => ?_, hm.safe.step hb (fun j hj => .inr (ownT_blk hm.row hj.symm).1)⟩
  · rw [List.mem_append, List.mem_singleton] at m
    rcases m with m | rfl
    · exact (hm.all s2 m).but hb (hT _ _ _ (hm.all s2 m).hp (by decide)) (hT _ _ _ (hm.all s2 m).hl (by decide))
    · exact hS.but hb (hT _ _ _ hS.hp (by decide)) (hT _ _ _ hS.hl (by decide))
  · rw [List.pairwise_append]
    refine ⟨h.dis, by simp, fun a ha b hb' => ?_⟩
    rw [List.mem_singleton] at hb'
    rw [hb']
    exact hd a ha
  · rw [List.mem_append, List.mem_singleton] at m
    rcases m with m | rfl
    · exact h.los s2 m
    · exact ⟨h1, h2⟩
end
theorem SH.far {w wr w' : World} {gf gfl : Nat} {os : List FO} {L : List ST} {v : Value} (h : SH w wr gf gfl os L v) {g : Nat} (hb : But (fun k => some k = some g) wr w') (hne : ∀ k t cs, Blk wr k t cs → k ≠ g) (h0 : w.heap.size ≤ g) : SH w w' gf gfl os L v := by
  have hT : ∀ k t cs, Blk wr k t cs → ¬ (some k = some g) := fun k t cs hB e => hne k t cs hB (by injection e)
  refine ⟨h.fw.but hb (hT _ _ _ h.fw.hp) (hT _ _ _ h.fw.hl), fun s m => (h.all s m).but hb (hT _ _ _ (h.all s m).hp) (hT _ _ _ (h.all s m).hl), h.dis, own_but_kept h.row hb (fun k hk e => ?_), h.lof, h.los, h.safe.step hb (fun j hj => .inr (by injection hj with hj; rw [hj]; exact h0))⟩
  obtain ⟨_, cs, hB⟩ := ownT_blk h.row hk
  exact hT _ _ _ hB e
theorem mapB_ne {P : Program} {k : TypeId} {R : Value → Option (DataW Unit × List MemPlace)} {w : World} {bm n : Nat} {D : DataW Unit} (h : w.ownsMap P k R bm n D) : ∀ g t cs, Blk w g t cs → g ≠ bm := by
  intro g t cs hb
  obtain ⟨es, clock, h1, _⟩ := h
  rintro rfl
  unfold Blk at hb
  rw [h1] at hb
  cases hb
theorem iterB_ne {w : World} {P : Program} {k : TypeId} {R : Value → Option (DataW Unit × List MemPlace)} {b r n : Nat} {D : DataW Unit} {left : Lit → Bool} {cnt : Nat} (h : w.ranges P k R b r n D left cnt) : ∀ g t cs, Blk w g t cs → g ≠ r := by
  intro g t cs hb
  obtain ⟨es, clock, since, seen, c0, _, _, _, _, h1, _⟩ := h
  rintro rfl
  unfold Blk at hb
  rw [h1] at hb
  cases hb
theorem mapB_but {H : Type} {P : Program} {k : TypeId} {R : Value → Option (DataW H × List MemPlace)} {w w' : World} {b n : Nat} {D : DataW H} {S : Nat → Prop}
    (h : w.ownsMap P k R b n D) (hg : But S w w') (hb' : ¬ S b) : w'.ownsMap P k R b n D := by
  have h1 := h.lt
  obtain ⟨es, clock, hb, F, hs, hD⟩ := h
  exact ⟨es, clock, (hg.block b h1 hb').trans hb, F, hs, hD⟩
theorem rangesB_but {H : Type} {P : Program} {k : TypeId} {R : Value → Option (DataW H × List MemPlace)} {w w' : World} {b r n : Nat} {D : DataW H} {left : Lit → Bool} {cnt : Nat} {S : Nat → Prop}
    (h : w.ranges P k R b r n D left cnt) (hg : But S w w') (hb' : ¬ S b) (hr' : ¬ S r) : w'.ranges P k R b r n D left cnt := by
  have h1 := h.owns.lt
  have h2 := h.lt
  obtain ⟨es, clock, since, seen, c0, hb, F, hs, hD, hr, rest⟩ := h
  exact ⟨es, clock, since, seen, c0, (hg.block b h1 hb').trans hb, F, hs, hD, (hg.block r h2 hr').trans hr, rest⟩
theorem keyedInt : Keyed Try.prog 3 := Maps.int_keyed Try.underlying3
theorem zeroB (w : World) : (zeroValue 3).run Try.prog w = .ok (.int .i64 0) w := by kernel_rfl
theorem wfB {x : Int} (h1 : -9223372036854775808 ≤ x) (h2 : x ≤ 9223372036854775807) : (Lit.int .i64 x).wf = true := by
  simp [Lit.wf, IntKind.min, IntKind.max, IntKind.signed, IntKind.bits]; omega
/-! The map of how often each is known. -/
def MapN (D : DataW Unit) (l : List Int) : Prop := Maps.IsMap D ∧ (∀ x z, D.atKey (.int .i64 x) z = if x ∈ l then .lit (.int .i64 (l.count x)) else z) ∧ Maps.size D = (List.range 20).countP (fun k : Nat => decide ((k : Int) ∈ l))
theorem litN_ne {x y : Int} (h : x ≠ y) : (Lit.int .i64 x) ≠ .int .i64 y := fun e => h (by injection e)
theorem MapN.nil : MapN (.map []) [] := ⟨Maps.isMap_empty, fun _ _ => rfl, rfl⟩
theorem MapN.has {D : DataW Unit} {l : List Int} (h : MapN D l) (x : Int) : Maps.has D (.int .i64 x) = decide (x ∈ l) := by
  by_cases hx : x ∈ l
  · rw [Maps.has_true_of_atKey (y := .lit (.int .i64 (l.count x))) (fun z => by rw [h.2.1, if_pos hx])]
    simp [hx]
  · rw [Maps.has_false_of_atKey (fun z => by rw [h.2.1, if_neg hx])]
    simp [hx]
theorem MapN.look {D : DataW Unit} {l : List Int} (h : MapN D l) {x c : Int} (hx : D.atKey (.int .i64 x) (.lit (.int .i64 0)) = .lit (.int .i64 c)) : c = l.count x := by
  rw [h.2.1] at hx
  split at hx
  · injection hx with hx
    injection hx with _ hx
    exact hx.symm
  · rename_i hn
    injection hx with hx
    injection hx with _ hx
    rw [List.count_eq_zero.2 hn, ← hx]
    rfl
theorem range_one {l : List Int} {x : Int} (h0 : 0 ≤ x) (h1 : x < 20) (hx : x ∉ l) : (List.range 20).countP (fun k : Nat => decide ((k : Int) ∈ l ++ [x])) = (List.range 20).countP (fun k : Nat => decide ((k : Int) ∈ l)) + 1 := by
  have key : ∀ (L : List Nat), L.Nodup → (L.countP (fun k : Nat => decide ((k : Int) ∈ l ++ [x]))) = L.countP (fun k : Nat => decide ((k : Int) ∈ l)) + if x.toNat ∈ L then 1 else 0 := by
    intro L
    induction L with
    | nil => intro _; rfl
    | cons a r ih =>
      intro hn
      rw [List.nodup_cons] at hn
      rw [List.countP_cons, List.countP_cons, ih hn.2]
      by_cases e : (a : Int) = x
      · have ea : x.toNat = a := by omega
        have h2 : x.toNat ∉ r := by rw [ea]; exact hn.1
        have h3 : (a : Int) ∉ l := by rw [e]; exact hx
        rw [if_neg h2, if_pos (show x.toNat ∈ a :: r by rw [ea]; exact List.mem_cons_self ..)]
        simp [e, hx]
      · have ea : x.toNat ≠ a := by omega
        by_cases hl : (a : Int) ∈ l <;> by_cases hr : x.toNat ∈ r <;> simp [e, ea, hl, hr] <;> omega
  rw [key _ List.nodup_range, if_pos (by rw [List.mem_range]; omega)]
theorem MapN.step {D : DataW Unit} {l : List Int} (h : MapN D l) (ht : Maps.Tidy D) {x : Int} (h0 : 0 ≤ x) (h1 : x < 20) : MapN (D.put (.int .i64 x) (.lit (.int .i64 ((l.count x : Int) + 1)))) (l ++ [x]) := by
  refine ⟨h.1.put _ _, fun y z => ?_, ?_⟩
  · by_cases e : y = x
    · subst e
      rw [Maps.atKey_put_same h.1 (show WideAt.IsKeyLit (.int .i64 y) from trivial), if_pos (by simp), List.count_append]
      simp
    · rw [Maps.atKey_put_other (litN_ne e), h.2.1 y z, List.count_append]
      have : List.count y [x] = 0 := by simp [List.count_cons]; exact fun h => e h.symm
      simp [e, this]
  · rw [Maps.size_put ht, h.has, h.2.2]
    by_cases hx : x ∈ l
    · rw [if_pos (by simpa using hx)]
      congr 1
      funext k
      by_cases hk : (k : Int) = x
      · simp [hk, hx]
      · simp [hk]
    · rw [if_neg (by simpa using hx), range_one h0 h1 hx]
theorem MapN.of_all {D : DataW Unit} {l : List Int} (h : MapN D l) {x c : Int} (hx : ∀ z, D.atKey (.int .i64 x) z = .lit (.int .i64 c)) : x ∈ l ∧ c = l.count x := by
  have h1 := h.look (hx _)
  refine ⟨?_, h1⟩
  have := Maps.has_true_of_atKey hx
  rw [h.has] at this
  simpa using this
/-- What the first p sets know. -/
def doneS (S : List (List Int)) (p : Nat) : List Int := (S.take p).flatMap allS
theorem doneS_snoc {S : List (List Int)} {p : Nat} {ids : List Int} (h : S[p]? = some ids) : doneS S (p + 1) = doneS S p ++ allS ids := by
  unfold doneS
  rw [List.take_add_one, h]
  simp
theorem doneS_all {S : List (List Int)} {x : Int} (h : x ≠ -1) : (doneS S S.length).count x = cntS S x := by
  unfold doneS cntS
  rw [List.take_length, List.count_flatMap]
  congr 1
  apply List.map_congr_left
  intro ids _
  exact allS_count h
theorem Sh.rng {os : List FO} {S : List (List Int)} {e : Int → Nat} (h : Sh os S e) {ids : List Int} (hi : ids ∈ S) {x : Int} (hx : x ∈ allS ids) : 0 ≤ x ∧ x < 20 := by
  obtain ⟨h1, h2⟩ := allS_mem hx
  have := (h.fit ids hi).2 x h1
  omega
theorem doneS_mem {S : List (List Int)} {p : Nat} {x : Int} (h : x ∈ doneS S p) : ∃ ids ∈ S, x ∈ allS ids := by
  unfold doneS at h
  rw [List.mem_flatMap] at h
  obtain ⟨ids, h1, h2⟩ := h
  exact ⟨ids, List.mem_of_mem_take h1, h2⟩
theorem Sh.done_len {os : List FO} {S : List (List Int)} {e : Int → Nat} (h : Sh os S e) (p : Nat) : (doneS S p).length ≤ p * 8 := by
  unfold doneS
  rw [List.length_flatMap]
  have h1 : ∀ l : List (List Int), (∀ ids ∈ l, Fit8 ids) → (l.map (fun x => (allS x).length)).sum ≤ l.length * 8 := by
    intro l
    induction l with
    | nil => intro _; simp
    | cons a r ih =>
      intro hl
      have h2 := ih (fun ids hi => hl ids (List.mem_cons_of_mem _ hi))
      have h3 := (hl a (List.mem_cons_self ..)).1
      have h4 : (allS a).length ≤ a.length := List.length_filter_le _ _
      simp only [List.map_cons, List.sum_cons, List.length_cons, Nat.add_mul]
      omega
  have h5 := h1 (S.take p) (fun ids hi => h.fit ids (List.mem_of_mem_take hi))
  have h6 : (S.take p).length ≤ p := List.length_take_le _ _
  omega
theorem countP_range (os : List FO) (f : FO → Bool) : os.countP f = (List.range os.length).countP (fun k => f (os.getD k zeroF)) := by
  have e : os = (List.range os.length).map (fun k => os.getD k zeroF) := by
    apply List.ext_getElem?
    intro i
    rw [List.getElem?_map]
    by_cases hi : i < os.length
    · rw [List.getElem?_range hi, List.getElem?_eq_getElem hi]
      simp [List.getD_eq_getElem?_getD, List.getElem?_eq_getElem hi]
    · rw [List.getElem?_eq_none (by omega), List.getElem?_eq_none (by simp; omega)]
      rfl
  conv => lhs; rw [e]
  rw [List.countP_map]
  rfl
theorem Sh.count {os : List FO} {S : List (List Int)} (h : Sh os S noE) {D : DataW Unit} (hD : MapN D (doneS S S.length)) : ((os.countP (fun o => decide (0 < o.refs)) : Nat) : Int) = ((Maps.size D : Nat) : Int) := by
  rw [hD.2.2, countP_range, h.len]
  congr 1
  apply List.countP_congr
  intro k hk
  rw [List.mem_range] at hk
  have hkl : k < os.length := by rw [h.len]; exact hk
  have ho := List.getElem?_eq_getElem hkl
  have hr := h.refs0 ho
  have hg : os.getD k zeroF = os[k] := by rw [List.getD_eq_getElem?_getD, ho]; rfl
  rw [hg]
  have h2 : (doneS S S.length).count (k : Int) = cntS S k := doneS_all (by omega)
  simp only [decide_eq_true_eq]
  rw [hr, ← h2]
  rw [← List.count_pos_iff (a := (k : Int)) (l := doneS S S.length)]
  omega
theorem Sh.got {os : List FO} {S : List (List Int)} (h : Sh os S noE) {D : DataW Unit} (hD : MapN D (doneS S S.length)) {x c : Int} (hx : ∀ z, D.atKey (.int .i64 x) z = .lit (.int .i64 c)) :
    ∃ (k : Nat) (o : FO), x = k ∧ os[k]? = some o ∧ o.refs ≠ 0 ∧ o.refs = c := by
  obtain ⟨h1, h2⟩ := hD.of_all hx
  obtain ⟨ids, hi, hm⟩ := doneS_mem h1
  have hr := h.rng hi hm
  have h3 : 0 < (doneS S S.length).count x := List.count_pos_iff.2 h1
  rw [doneS_all (by omega)] at h2 h3
  obtain ⟨k, o, e, hh, ho, hrf⟩ := h.has hr.1 hr.2 (by show 0 < cntS S x + 0; omega)
  have hrf : o.refs = (cntS S x : Int) := hrf
  exact ⟨k, o, e, ho, by omega, by omega⟩
end Go.Proofs.Ytlojadpbdbhmiaa
