/- Law 22, sleeps: the map of who sleeps till when, and what Fork, Sleep and Tick make of it. -/
import Derived.Test.YtlojadpbdbhmiaaXl
namespace Go.Proofs.Ytlojadpbdbhmiaa
open Go.RowKit
open Go.Maps (Keyed)
set_option linter.unusedSimpArgs false
set_option linter.unusedVariables false

/-- The map holds just m. -/
def MapIs {H : Type} (D : DataW H) (m : Int → Option Int) : Prop := Maps.IsMap D ∧ ∀ x z, D.atKey (.int .i64 x) z = match m x with | some u => .lit (.int .i64 u) | none => z
theorem lit_ne {x y : Int} (h : x ≠ y) : (Lit.int .i64 x) ≠ .int .i64 y := fun e => h (by injection e)
section
variable {H : Type} {D : DataW H} {m : Int → Option Int}
theorem MapIs.put (h : MapIs D m) (x u : Int) : MapIs (D.put (.int .i64 x) (.lit (.int .i64 u))) (fun y => if y = x then some u else m y) := by
  refine ⟨h.1.put _ _, fun y z => ?_⟩
  by_cases e : y = x
  · subst e
    rw [Maps.atKey_put_same h.1 (show WideAt.IsKeyLit (.int .i64 y) from trivial)]
    simp
  · rw [Maps.atKey_put_other (lit_ne e), h.2 y z]
    simp [e]
theorem MapIs.del (h : MapIs D m) (x : Int) : MapIs (D.del (.int .i64 x)) (fun y => if y = x then none else m y) := by
  refine ⟨h.1.del _, fun y z => ?_⟩
  by_cases e : y = x
  · subst e
    rw [Maps.atKey_del_same]
    simp
  · rw [Maps.atKey_del_other (lit_ne e), h.2 y z]
    simp [e]
theorem MapIs.congr {m' : Int → Option Int} (h : MapIs D m) (e : ∀ x, m x = m' x) : MapIs D m' := by rw [show m' = m from (funext e).symm]; exact h
theorem MapIs.some (h : MapIs D m) {x u : Int} (hx : m x = .some u) (z : DataW H) : D.atKey (.int .i64 x) z = .lit (.int .i64 u) := by rw [h.2, hx]
theorem MapIs.has (h : MapIs D m) (x : Int) : Maps.has D (.int .i64 x) = (m x).isSome := by
  cases hx : m x with
  | none => exact Maps.has_false_of_atKey (fun z => by rw [h.2, hx])
  | some u => exact Maps.has_true_of_atKey (fun z => by rw [h.2, hx])
theorem MapIs.of_all (h : MapIs D m) {x c : Int} (hx : ∀ z, D.atKey (.int .i64 x) z = .lit (.int .i64 c)) : m x = .some c := by
  cases hm : m x with
  | none =>
    have := hx (.lit (.bool true))
    rw [h.2, hm] at this
    injection this with this
    cases this
  | some u =>
    have := hx (.lit (.bool true))
    rw [h.2, hm] at this
    injection this with this
    injection this with _ this
    rw [this]
theorem MapIs.empty : MapIs (.map [] : DataW H) (fun _ => none) := ⟨Maps.isMap_empty, fun _ _ => rfl⟩
end
theorem sl_set {ps : List PR} (ha : Asc ps) {k : Nat} {p q : PR} (hk : ps[k]? = some p) (hq : q.pid = p.pid) (x : Int) : sl (ps.set k q) x = if x = p.pid then (if q.state = 2 then some q.until_ else none) else sl ps x := by
  have hlt := (List.getElem?_eq_some_iff.1 hk).1
  have hA : Asc (ps.set k q) := by unfold Asc; rw [set_pids hk hq]; exact ha
  have hself : (ps.set k q)[k]? = some q := List.getElem?_set_self hlt
  by_cases e : x = p.pid
  · rw [if_pos e]
    by_cases h2 : q.state = 2
    · rw [if_pos h2, e, ← hq]
      exact sl_of hA hself h2
    · rw [if_neg h2]
      cases hs : sl (ps.set k q) x with
      | none => rfl
      | some u =>
        obtain ⟨j, r, h1, h3, h4, _⟩ := (sl_iff hA x u).1 hs
        have := hA.inj h1 hself (by rw [h3, hq, e])
        subst this
        rw [hself] at h1
        injection h1 with h1
        exact absurd (h1 ▸ h4) h2
  · rw [if_neg e]
    apply Option.ext
    intro u
    rw [sl_iff hA, sl_iff ha]
    constructor
    · rintro ⟨j, r, h1, h2, h3⟩
      refine ⟨j, r, ?_, h2, h3⟩
      by_cases hjk : j = k
      · subst hjk
        rw [hself] at h1
        injection h1 with h1
        exact absurd (by rw [← h2, ← h1, hq]) e
      · rw [List.getElem?_set_ne (fun e => hjk e.symm)] at h1
        exact h1
    · rintro ⟨j, r, h1, h2, h3⟩
      refine ⟨j, r, ?_, h2, h3⟩
      have hjk : j ≠ k := by
        rintro rfl
        rw [hk] at h1
        injection h1 with h1
        exact e (by rw [← h2, ← h1])
      rw [List.getElem?_set_ne (fun e => hjk e.symm)]
      exact h1
theorem sl_snoc {ps : List PR} {q : PR} (h2 : q.state ≠ 2) (x : Int) : sl (ps ++ [q]) x = sl ps x := by
  unfold sl
  rw [List.find?_append]
  have : [q].find? (fun p => p.pid == x && p.state == 2) = none := by simp [h2]
  rw [this]
  cases ps.find? (fun p => p.pid == x && p.state == 2) <;> rfl
/-- What holds of the table while who is to sleep is made: i of them. -/
structure Sl1 (ps : List PR) (i : Nat) : Prop where
  len : ps.length = i + 1
  asc : Asc ps
  top : ∀ p ∈ ps, 0 ≤ p.pid ∧ p.pid ≤ i + 1
  fst : ∃ p, ps[0]? = some p ∧ p.pid = 1 ∧ p.state = 1
  pos : ∀ x u, sl ps x = some u → 0 < u
theorem Sl1.start : Sl1 [initR] 0 := ⟨rfl, by simp [Asc], by simp [initR], ⟨initR, rfl, rfl, rfl⟩, fun x u h => by simp [sl, initR] at h⟩
theorem Sl1.live {ps : List PR} {i : Nat} (h : Sl1 ps i) : liveP ps 1 = 0 := by
  obtain ⟨p, h0, h1, h2⟩ := h.fst
  have hk := oneP_at h.asc h0
  rw [h1] at hk
  unfold liveP
  rw [hk]
  simp only
  rw [List.getD_eq_getElem?_getD, h0]
  simp [h2]
def kid (i : Nat) : PR := ⟨((i + 1 : Nat) : Int) + 1, 1, 1, 0, 0, false⟩
theorem Sl1.fork {ps : List PR} {i : Nat} (h : Sl1 ps i) (hi : i < 15) : forkM ps 16 ((i + 1 : Nat) : Int) 1 = (ps ++ [kid i], ((i + 1 : Nat) : Int) + 1, ((i + 1 : Nat) : Int) + 1, 0) := by
  unfold forkM
  rw [h.live, if_neg (by simp), if_neg (by rw [h.len]; omega)]
  rfl
theorem Sl1.asc' {ps : List PR} {i : Nat} (h : Sl1 ps i) : Asc (ps ++ [kid i]) := by
  unfold Asc
  rw [List.map_append, List.pairwise_append]
  refine ⟨h.asc, by simp, fun a ha b hb => ?_⟩
  obtain ⟨p, hp, rfl⟩ := List.mem_map.1 ha
  have := h.top p hp
  simp [kid] at hb
  omega
theorem kid_at {ps : List PR} {i : Nat} (h : Sl1 ps i) : (ps ++ [kid i])[i + 1]? = some (kid i) := by
  rw [← h.len, List.getElem?_append_right (Nat.le_refl _), Nat.sub_self]; rfl
def slept (ps : List PR) (i : Nat) (n : Int) : List PR := if 1 ≤ n then (ps ++ [kid i]).set (i + 1) { kid i with state := 2, until_ := n } else ps ++ [kid i]
theorem Sl1.sleep {ps : List PR} {i : Nat} (h : Sl1 ps i) (n : Int) (hn : n ≤ 1048576) : sleepM (ps ++ [kid i]) 0 (((i + 1 : Nat) : Int) + 1) n = (slept ps i n, 0) := by
  have hk : oneP (ps ++ [kid i]) (((i + 1 : Nat) : Int) + 1) = some (i + 1) := oneP_at h.asc' (kid_at h)
  have hg : (ps ++ [kid i]).getD (i + 1) zeroR = kid i := by rw [List.getD_eq_getElem?_getD, kid_at h]; rfl
  have hl : liveP (ps ++ [kid i]) (((i + 1 : Nat) : Int) + 1) = 0 := by
    unfold liveP
    rw [hk]
    simp only
    rw [hg, if_neg (by simp [kid])]
  unfold sleepM slept
  rw [hl, if_neg (by simp), hk]
  simp only [hg]
  rw [if_neg (by simp [kid])]
  split
  · have : (0 : Int) + min n (longest - 0) = n := by unfold longest; omega
    rw [this]
  · rfl
theorem Sl1.sl_slept {ps : List PR} {i : Nat} (h : Sl1 ps i) (n : Int) (x : Int) : sl (slept ps i n) x = if 1 ≤ n then (if x = ((i + 1 : Nat) : Int) + 1 then some n else sl ps x) else sl ps x := by
  unfold slept
  split
  · rw [sl_set h.asc' (kid_at h) (q := { kid i with state := 2, until_ := n }) rfl, sl_snoc (by simp [kid])]
    simp [kid]
  · rw [sl_snoc (by simp [kid])]
theorem Sl1.step {ps : List PR} {i : Nat} (h : Sl1 ps i) (n : Int) : Sl1 (slept ps i n) (i + 1) := by
  have hp : (slept ps i n).map (·.pid) = (ps ++ [kid i]).map (·.pid) := by
    unfold slept
    split
    · exact set_pids (kid_at h) rfl
    · rfl
  have hlen : (slept ps i n).length = i + 1 + 1 := by
    have := congrArg List.length hp
    simpa [h.len] using this
  refine ⟨hlen, by unfold Asc; rw [hp]; exact h.asc', fun p hpm => ?_, ?_, fun x u hx => ?_⟩
  · have hm : p.pid ∈ (ps ++ [kid i]).map (·.pid) := by rw [← hp]; exact List.mem_map_of_mem hpm
    simp only [List.map_append, List.mem_append, List.mem_map, List.map_cons, List.map_nil, List.mem_singleton] at hm
    rcases hm with ⟨q, hq, e⟩ | e
    · have := h.top q hq; omega
    · simp [kid] at e; omega
  · obtain ⟨p, h0, h1, h2⟩ := h.fst
    have h0' : (ps ++ [kid i])[0]? = some p := by rw [List.getElem?_append_left (by rw [h.len]; omega)]; exact h0
    refine ⟨p, ?_, h1, h2⟩
    unfold slept
    split
    · rw [List.getElem?_set_ne (by omega)]; exact h0'
    · exact h0'
  · rw [h.sl_slept] at hx
    split at hx
    · split at hx
      · injection hx with hx; omega
      · exact h.pos x u hx
    · exact h.pos x u hx
/-- What holds of it as the time goes on. -/
structure Sl2 (ps : List PR) (now : Int) : Prop where
  asc : Asc ps
  late : ∀ x u, sl ps x = some u → now < u
  pos : 0 < ps.length
  top : ∀ x ∈ ps.map (·.pid), 0 ≤ x ∧ x ≤ 100
theorem Sl1.done {ps : List PR} {i : Nat} (h : Sl1 ps i) (hi : i ≤ 15) : Sl2 ps 0 := ⟨h.asc, h.pos, by rw [h.len]; omega, fun x hx => by
  obtain ⟨p, hp, rfl⟩ := List.mem_map.1 hx
  have := h.top p hp
  omega⟩
theorem wakeAll_len (ps : List PR) (out : List Int) : (wakeAll ps out).length = ps.length := by simpa using congrArg List.length (wakeAll_pids out ps)
theorem Sl2.tick {ps : List PR} {now : Int} (h : Sl2 ps now) (T : Int) : Sl2 (wakeAll ps (whichP (due T) ps)) T := by
  refine ⟨wakeAll_asc h.asc _, fun x u hx => ?_, by rw [wakeAll_len]; exact h.pos, by rw [wakeAll_pids]; exact h.top⟩
  rw [sl_wakeAll _ h.asc] at hx
  split at hx
  · cases hx
  · rename_i hm
    by_cases hu : u ≤ T
    · exact absurd ((due_mem h.asc).2 ⟨u, hx, hu⟩) hm
    · omega
theorem tickN_in {now n : Int} (h0 : 0 ≤ n) (h1 : n ≤ 1048576) (h2 : now ≤ 31457280) : tickN now n = now + n := by unfold tickN longest; omega
theorem get_of_sl {ps : List PR} {x u : Int} (ha : Asc ps) (h : sl ps x = some u) : ∃ p, getP ps x = (p, 0) ∧ p.state = 2 ∧ p.until_ = u := by
  obtain ⟨k, p, h1, h2, h3, h4, h5⟩ := sl_one ha h
  refine ⟨p, ?_, h4, h5⟩
  unfold getP
  rw [h1]
  simp only
  rw [List.getD_eq_getElem?_getD, h2]
  rfl
/-- The loop stays where it is while other blocks turn. -/
theorem ranges_but {H : Type} {P : Program} {k : TypeId} {R : Value → Option (DataW H × List MemPlace)} {w w' : World} {b r n : Nat} {D : DataW H} {left : Lit → Bool} {cnt : Nat} {S : Nat → Prop}
    (h : w.ranges P k R b r n D left cnt) (hg : But S w w') (hb' : ¬ S b) (hr' : ¬ S r) : w'.ranges P k R b r n D left cnt := by
  have h1 := h.owns.lt
  have h2 := h.lt
  obtain ⟨es, clock, since, seen, c0, hb, F, hs, hD, hr, rest⟩ := h
  exact ⟨es, clock, since, seen, c0, (hg.block b h1 hb').trans hb, F, hs, hD, (hg.block r h2 hr').trans hr, rest⟩
theorem map_but {H : Type} {P : Program} {k : TypeId} {R : Value → Option (DataW H × List MemPlace)} {w w' : World} {b n : Nat} {D : DataW H} {S : Nat → Prop}
    (h : w.ownsMap P k R b n D) (hg : But S w w') (hb' : ¬ S b) : w'.ownsMap P k R b n D := by
  have h1 := h.lt
  obtain ⟨es, clock, hb, F, hs, hD⟩ := h
  exact ⟨es, clock, (hg.block b h1 hb').trans hb, F, hs, hD⟩
/-- What is in memory: the table, the map, and nothing that was there has turned. -/
structure SI (w0 w : World) (gt bm n : Nat) (D : DataW Unit) (v : Value) (ps : List PR) (last now : Int) : Prop where
  tw : TW w gt w0.heap.size v ps 16 last now
  mp : w.ownsMap Try.prog 3 (plainElem Try.prog 3) bm n D
  gt0 : w0.heap.size ≤ gt
  bm0 : w0.heap.size ≤ bm
  safe : Safe w0 w
section
variable {w0 w w' : World} {gt bm n : Nat} {D : DataW Unit} {v : Value} {ps : List PR} {last now : Int}
theorem map_ne {P : Program} {k : TypeId} {R : Value → Option (DataW Unit × List MemPlace)} {g : Nat} {t : TypeId} {cs : Array Value} (h : w.ownsMap P k R bm n D) (hb : Blk w g t cs) : bm ≠ g := by
  obtain ⟨es, clock, h1, _⟩ := h
  rintro rfl
  unfold Blk at hb
  rw [h1] at hb
  cases hb
theorem SI.ne (h : SI w0 w gt bm n D v ps last now) : ¬ (bm = gt ∨ v.ownBlock = some bm) := by
  rintro (e | e)
  · exact map_ne h.mp h.tw.hp e
  · obtain ⟨_, _, cs, hB⟩ := own_blk6 h.tw.ho e
    exact map_ne h.mp hB rfl
theorem SI.mono (h : SI w0 w gt bm n D v ps last now) {n' : Nat} (hn : n ≤ n') : SI w0 w gt bm n' D v ps last now := ⟨h.tw, h.mp.mono hn, h.gt0, h.bm0, h.safe⟩
theorem SI.move (h : SI w0 w gt bm n D v ps last now) (hs : Safe w w') : SI w0 w' gt bm n D v ps last now :=
  ⟨h.tw.safe hs, map_but h.mp hs id, h.gt0, h.bm0, h.safe.trans hs⟩
theorem SI.turn (h : SI w0 w gt bm n D v ps last now) {ps' : List PR} {last' now' : Int} (hr : TRet w w' gt w0.heap.size v ps' 16 last' now') : ∃ v', SI w0 w' gt bm n D v' ps' last' now' := by
  have hs := TRet.kept h.safe h.tw (Nat.le_refl _) h.gt0 hr
  obtain ⟨v', h1, h2, h3⟩ := hr
  exact ⟨v', h1, map_but h.mp h2 h.ne, h.gt0, h.bm0, hs⟩
theorem SI.map (h : SI w0 w gt bm n D v ps last now) {n' : Nat} {D' : DataW Unit} (hm : w'.ownsMap Try.prog 3 (plainElem Try.prog 3) bm n' D') (hg : w.grownBy w' (some bm)) : SI w0 w' gt bm n' D' v ps last now := by
  have hb := But.of_grown hg
  have hne := h.ne
  refine ⟨h.tw.but hb (fun e => hne (.inl (by injection e with e; exact e.symm))) (fun k hk e => hne (.inr (by injection e with e; rw [← e]; exact hk))), hm, h.gt0, h.bm0, h.safe.step hb (fun i e => .inr ?_)⟩
  injection e with e
  rw [e]; exact h.bm0
end
theorem iter_ne {w : World} {P : Program} {k : TypeId} {R : Value → Option (DataW Unit × List MemPlace)} {b r n : Nat} {D : DataW Unit} {left : Lit → Bool} {cnt g : Nat} {t : TypeId} {cs : Array Value} (h : w.ranges P k R b r n D left cnt) (hb : Blk w g t cs) : g ≠ r := by
  obtain ⟨es, clock, since, seen, c0, _, _, _, _, h1, _⟩ := h
  rintro rfl
  unfold Blk at hb
  rw [h1] at hb
  cases hb
/-- A step of a loop over the map. -/
theorem SI.iter {w0 w w' : World} {gt bm n : Nat} {D : DataW Unit} {v : Value} {ps : List PR} {last now : Int} (h : SI w0 w gt bm n D v ps last now) {r cnt : Nat} {left left' : Lit → Bool} {cnt' : Nat} (hr : w.ranges Try.prog 3 (plainElem Try.prog 3) bm r n D left cnt)
    (hg : w.grownBy w' (some r)) (hr' : w'.ranges Try.prog 3 (plainElem Try.prog 3) bm r n D left' cnt') (h0 : w0.heap.size ≤ r) : SI w0 w' gt bm n D v ps last now := by
  have hb := But.of_grown hg
  refine ⟨h.tw.but hb (fun e => iter_ne hr h.tw.hp (by injection e)) (fun k hk e => ?_), hr'.owns, h.gt0, h.bm0, h.safe.step hb (fun i e => .inr ?_)⟩
  · obtain ⟨_, _, cs, hB⟩ := own_blk6 h.tw.ho hk
    exact iter_ne hr hB (by injection e)
  · injection e with e
    rw [e]; exact h0
/-- Who wakes at T. -/
structure OutF (ps : List PR) (now T : Int) (out : List Int) : Prop where
  asc : out.Pairwise (· < ·)
  due : ∀ x ∈ out, ∃ u, sl ps x = some u ∧ now < u ∧ u ≤ T
  rng : ∀ x ∈ out, 0 ≤ x ∧ x ≤ 100
theorem Sl2.out {ps : List PR} {now : Int} (h : Sl2 ps now) (T : Int) : OutF ps now T (whichP (due T) ps) :=
  ⟨whichP_asc h.asc _, fun x hx => by
    obtain ⟨u, h1, h2⟩ := (due_mem h.asc).1 hx
    exact ⟨u, h1, h.late x u h1, h2⟩, fun x hx => h.top x (whichP_mem hx)⟩
theorem OutF.next {ps : List PR} {now T : Int} {out : List Int} (h : OutF ps now T out) {j : Nat} {x : Int} (hx : out[j]? = some x) :
    ∃ u, (if x ∈ out.take j then none else sl ps x) = some u ∧ now < u ∧ u ≤ T := by
  obtain ⟨u, h1, h2, h3⟩ := h.due x (List.mem_of_getElem? hx)
  refine ⟨u, ?_, h2, h3⟩
  rw [if_neg]
  · exact h1
  · intro hm
    obtain ⟨i, hi⟩ := List.getElem?_of_mem hm
    rw [List.getElem?_take] at hi
    split at hi
    · rename_i hij
      obtain ⟨a1, b1⟩ := List.getElem?_eq_some_iff.1 hi
      obtain ⟨a2, b2⟩ := List.getElem?_eq_some_iff.1 hx
      have := List.pairwise_iff_getElem.1 h.asc i j a1 a2 hij
      rw [b1, b2] at this
      omega
    · cases hi
theorem OutF.lt {ps : List PR} {now T : Int} {out : List Int} (h : OutF ps now T out) {j : Nat} {x y : Int} (hx : out[j]? = some x) (hy : out[j + 1]? = some y) : x < y := by
  obtain ⟨a1, b1⟩ := List.getElem?_eq_some_iff.1 hx
  obtain ⟨a2, b2⟩ := List.getElem?_eq_some_iff.1 hy
  have := List.pairwise_iff_getElem.1 h.asc j (j + 1) a1 a2 (by omega)
  rw [b1, b2] at this
  exact this
theorem take_strike {out : List Int} {j : Nat} {x : Int} (hx : out[j]? = some x) (m : Int → Option Int) (y : Int) : (if y = x then none else if y ∈ out.take j then none else m y) = if y ∈ out.take (j + 1) then none else m y := by
  rw [List.take_add_one, hx]
  simp only [Option.toList, List.mem_append, List.mem_singleton]
  by_cases h1 : y = x <;> by_cases h2 : y ∈ out.take j <;> simp [h1, h2]
end Go.Proofs.Ytlojadpbdbhmiaa
