/- Processes: a *Table in memory; one, Get, Live. -/
import Derived.Test.YtlojadpbdbhmiaaSr
import Derived.Test.YtlojadpbdbhmiaaProg
import Derived.Deep.RegionHeld3
import Derived.Deep.QuietTactic
import Derived.BigQuiet
namespace Go.Proofs.Ytlojadpbdbhmiaa
open Go.RowKit
set_option linter.unusedSimpArgs false
set_option linter.unusedVariables false

/-! A row of structs of one's own. -/
section
variable {α : Type} {f : α → List Value} {s : Nat} {w : World} {base n c g : Nat} {e : TypeId} {l : List α}
theorem ownf_open (hf : ∀ x, (f x).length = s) {v : Value} (h : w.ownsRow base e s v l.length (l.flatMap f)) (hl : 0 < l.length) : ∃ g c cur, v = .slice (some ⟨g, 0, none⟩) l.length c ∧ base ≤ g ∧ Blk w g e cur ∧ l.length ≤ c ∧ c ≤ maxLen ∧ cur.size = c * s ∧ cur.toList.take (l.length * s) = l.flatMap f := by
  rcases h.2 with ⟨_, h0⟩ | ⟨g, cap, cur, hv, hb, hh, hn, hm, hs, ht⟩
  · omega
  · exact ⟨g, cap, cur, hv, hb, hh, hn, hm, hs, ht⟩
theorem ownf_at (hf : ∀ x, (f x).length = s) (h : w.ownsRow base e s (.slice (some ⟨g, 0, none⟩) l.length c) l.length (l.flatMap f)) {k j : Nat} {x : α} {u : Value} (hk : l[k]? = some x) (hu : (f x)[j]? = some u) : w.cell? ⟨g, k * s + j, none⟩ = some u ∧ ∀ i, w.frozen? ⟨g, i, none⟩ = false := by
  have hlt := (List.getElem?_eq_some_iff.1 hk).1
  have hj : j < s := by rw [← hf x]; exact (List.getElem?_eq_some_iff.1 hu).1
  obtain ⟨g', c', cur, hv, hb, hB, hn, hm, hs, ht⟩ := ownf_open hf h (by omega)
  injection hv with e1 e2 e3
  injection e1 with e1
  injection e1 with e1
  subst e1 e3
  have hlt2 : k * s + j < l.length * s := by
    have : (k + 1) * s ≤ l.length * s := Nat.mul_le_mul_right s hlt
    rw [Nat.add_mul] at this; omega
  refine ⟨?_, fun i => hB.frozen i⟩
  have hg := fm_get hf l k j x hk hj
  rw [← ht, List.getElem?_take, if_pos hlt2, hu] at hg
  exact hB.cell' (by simpa using hg)
theorem ownf_range (hf : ∀ x, (f x).length = s) (h : w.ownsRow base e s (.slice (some ⟨g, 0, none⟩) l.length c) l.length (l.flatMap f)) {k : Nat} {x : α} (hk : l[k]? = some x) : w.rangeAt g (k * s) (f x) := fun j v hv => (ownf_at hf h hk hv).1
/-- Cells of one element are laid anew. -/
theorem ownf_put (hf : ∀ x, (f x).length = s) (h : w.ownsRow base e s (.slice (some ⟨g, 0, none⟩) l.length c) l.length (l.flatMap f)) {k : Nat} (hk : k < l.length) (y : α) :
    w.there g (k * s) s ∧ (w.setCells g (k * s) (f y)).ownsRow base e s (.slice (some ⟨g, 0, none⟩) l.length c) l.length ((l.set k y).flatMap f) := by
  obtain ⟨g', c', cur, hv, hb, hB, hn, hm, hs, ht⟩ := ownf_open hf h (by omega)
  injection hv with e1 e2 e3
  injection e1 with e1
  injection e1 with e1
  subst e1 e3
  have h5 : k * s + s ≤ l.length * s := by
    have : (k + 1) * s ≤ l.length * s := Nat.mul_le_mul_right s hk
    rw [Nat.add_mul] at this; omega
  have h5c : l.length * s ≤ c * s := Nat.mul_le_mul_right s hn
  refine ⟨hB.there (by omega), by rw [fm_len hf, List.length_set], .inr ⟨g, c, setAt cur (k * s) (f y), rfl, hb, hB.setAll _ _, hn, hm, by rw [setAt_size]; exact hs, ?_⟩⟩
  rw [setAt_list _ _ _ (by rw [hf]; omega), ← fm_put hf l k y hk, ← ht, hf]
  apply List.ext_getElem?
  intro j
  rw [List.getElem?_take]
  by_cases hj : j < l.length * s
  · rw [if_pos hj, List.take_take, Nat.min_eq_left (by omega)]
    have hl1 : (cur.toList.take (k * s) ++ f y).length = k * s + s := by rw [List.length_append, List.length_take, hf, Array.length_toList]; omega
    by_cases hj2 : j < k * s + s
    · have hL := fun D : List Value => List.getElem?_append_left (l₁ := cur.toList.take (k * s) ++ f y) (l₂ := D) (i := j) (by omega)
      rw [hL, hL]
    · have hL := fun D : List Value => List.getElem?_append_right (l₁ := cur.toList.take (k * s) ++ f y) (l₂ := D) (i := j) (by omega)
      rw [hL, hL, hl1, List.getElem?_drop, List.getElem?_drop, List.getElem?_take, if_pos (by omega)]
  · rw [if_neg hj]
    symm
    apply List.getElem?_eq_none
    have hcl : cur.toList.length = c * s := by simpa using hs
    rw [List.length_append, List.length_append, List.length_take, List.length_take, List.length_drop, List.length_take, hf, hcl]
    generalize l.length * s = P at *
    generalize k * s = K at *
    generalize c * s = C at *
    omega
/-- One cell of an element turns. -/
theorem ownf_set (hf : ∀ x, (f x).length = s) (h : w.ownsRow base e s (.slice (some ⟨g, 0, none⟩) l.length c) l.length (l.flatMap f)) {k j : Nat} {x y : α} {u : Value} (hk : l[k]? = some x) (hj : j < s) (hy : f y = (f x).set j u) :
    (w.setCell ⟨g, k * s + j, none⟩ u).ownsRow base e s (.slice (some ⟨g, 0, none⟩) l.length c) l.length ((l.set k y).flatMap f) := by
  have hlt := (List.getElem?_eq_some_iff.1 hk).1
  obtain ⟨g', c', cur, hv, hb, hB, hn, hm, hs, ht⟩ := ownf_open hf h (by omega)
  injection hv with e1 e2 e3
  injection e1 with e1
  injection e1 with e1
  subst e1 e3
  refine ⟨by rw [fm_len hf, List.length_set], .inr ⟨g, c, cur.setIfInBounds (k * s + j) u, rfl, hb, hB.set _ _, hn, hm, by simpa using hs, ?_⟩⟩
  rw [← fm_set hf l k j x y u hk hj hy, Array.toList_setIfInBounds, List.take_set, ht]
end

structure PR where
  pid : Int
  parent : Int
  state : Int
  code : Int
  until_ : Int
  killed : Bool
def encR (p : PR) : List Value := [I p.pid, I p.parent, I p.state, I p.code, I p.until_, .bool p.killed]
theorem encR_len (p : PR) : (encR p).length = 6 := rfl
abbrev aggR (p : PR) : Value := .agg #[I p.pid, I p.parent, I p.state, I p.code, I p.until_, .bool p.killed]
def zeroR : PR := ⟨0, 0, 0, 0, 0, false⟩
theorem encR_one (p : PR) : ∀ u ∈ encR p, u.oneCell' = true := by
  intro u hu
  simp only [encR, List.mem_cons, List.not_mem_nil, or_false] at hu
  rcases hu with rfl | rfl | rfl | rfl | rfl | rfl <;> rfl
/-- A *Table at block gt; its list is v, of its own from block B on. -/
structure TW (w : World) (gt B : Nat) (v : Value) (ps : List PR) (most last now : Int) : Prop where
  hp : Blk w gt 104 #[v, I most, I last, I now]
  ho : w.ownsRow B 33 6 v ps.length (ps.flatMap encR)
  len : ps.length ≤ 16
theorem own_blk6 {w : World} {base n size : Nat} {e : TypeId} {v : Value} {xs : List Value} {k : Nat} (h : w.ownsRow base e size v n xs) (hk : v.ownBlock = some k) : base ≤ k ∧ k < w.heap.size ∧ ∃ cs, Blk w k e cs := by
  rcases h.2 with ⟨rfl, _⟩ | ⟨g', cap, cur, rfl, hb, hh, _⟩
  · simp [Value.ownBlock] at hk
  · have e1 : g' = k := by simpa [Value.ownBlock] using hk
    rw [← e1]
    exact ⟨hb, (Array.getElem?_eq_some_iff.1 hh).1, cur, hh⟩
section
variable {w w' : World} {gt B : Nat} {v : Value} {ps : List PR} {most last now : Int} {S : Nat → Prop}
theorem TW.but (h : TW w gt B v ps most last now) (hb : But S w w') (h1 : ¬ S gt) (h2 : ∀ k, v.ownBlock = some k → ¬ S k) : TW w' gt B v ps most last now :=
  ⟨h.hp.but hb h1, own_but_kept h.ho hb h2, h.len⟩
theorem TW.safe (h : TW w gt B v ps most last now) (hb : Safe w w') : TW w' gt B v ps most last now := h.but hb id (fun _ _ => id)
theorem TW.ne (h : TW w gt B v ps most last now) {k : Nat} (hk : v.ownBlock = some k) : k ≠ gt := by
  obtain ⟨_, _, cs, hB⟩ := own_blk6 h.ho hk
  exact hB.ne h.hp (by decide)
theorem TW.form (h : TW w gt B v ps most last now) (hn : 0 < ps.length) : ∃ g c, v = .slice (some ⟨g, 0, none⟩) ps.length c ∧ g < w.heap.size ∧ B ≤ g := by
  obtain ⟨g, c, cur, hv, hb, hB, _⟩ := ownf_open encR_len h.ho hn
  exact ⟨g, c, hv, hB.lt, hb⟩
end
theorem own6 {w : World} {B g c : Nat} {ps : List PR} (h : w.ownsRow B 33 6 (.slice (some ⟨g, 0, none⟩) ps.length c) ps.length (ps.flatMap encR)) {k : Nat} {p : PR} (hk : ps[k]? = some p) :
    w.cell? ⟨g, k * 6, none⟩ = some (I p.pid) ∧ w.cell? ⟨g, k * 6 + 1, none⟩ = some (I p.parent) ∧ w.cell? ⟨g, k * 6 + 2, none⟩ = some (I p.state) ∧ w.cell? ⟨g, k * 6 + 3, none⟩ = some (I p.code) ∧ w.cell? ⟨g, k * 6 + 4, none⟩ = some (I p.until_) ∧ w.cell? ⟨g, k * 6 + 5, none⟩ = some (.bool p.killed) :=
  ⟨(ownf_at encR_len h hk (j := 0) rfl).1, (ownf_at encR_len h hk (j := 1) rfl).1, (ownf_at encR_len h hk (j := 2) rfl).1, (ownf_at encR_len h hk (j := 3) rfl).1, (ownf_at encR_len h hk (j := 4) rfl).1, (ownf_at encR_len h hk (j := 5) rfl).1⟩
theorem TW.cells {w : World} {gt B g c : Nat} {ps : List PR} {most last now : Int} (h : TW w gt B (.slice (some ⟨g, 0, none⟩) ps.length c) ps most last now) {k : Nat} {p : PR} (hk : ps[k]? = some p) :
    w.cell? ⟨g, k * 6, none⟩ = some (I p.pid) ∧ w.cell? ⟨g, k * 6 + 1, none⟩ = some (I p.parent) ∧ w.cell? ⟨g, k * 6 + 2, none⟩ = some (I p.state) ∧ w.cell? ⟨g, k * 6 + 3, none⟩ = some (I p.code) ∧ w.cell? ⟨g, k * 6 + 4, none⟩ = some (I p.until_) ∧ w.cell? ⟨g, k * 6 + 5, none⟩ = some (.bool p.killed) := own6 h.ho hk
theorem TW.frz {w : World} {gt B g c : Nat} {ps : List PR} {most last now : Int} (h : TW w gt B (.slice (some ⟨g, 0, none⟩) ps.length c) ps most last now) {k : Nat} {p : PR} (hk : ps[k]? = some p) (i : Nat) : w.frozen? ⟨g, i, none⟩ = false := (ownf_at encR_len h.ho hk (j := 0) rfl).2 i
def ixP : Option Nat → Int
  | some k => k
  | none => -1
theorem findP_hit {f : PR → Bool} {os : List PR} {k : Nat} {o : PR} (hp : os[k]? = some o) (ht : f o = true) (h : ∀ j q, j < k → os[j]? = some q → f q = false) : os.findIdx? f = some k := by
  rw [List.findIdx?_eq_some_iff_getElem]
  obtain ⟨hlt, he⟩ := List.getElem?_eq_some_iff.1 hp
  refine ⟨hlt, by rw [he]; exact ht, fun j hj => ?_⟩
  have := h j os[j] hj (List.getElem?_eq_getElem (by omega))
  simp [this]
theorem findP_miss {f : PR → Bool} {os : List PR} (h : ∀ j q, j < os.length → os[j]? = some q → f q = false) : os.findIdx? f = none := by
  rw [List.findIdx?_eq_none_iff]
  intro q hq
  obtain ⟨j, hj⟩ := List.getElem?_of_mem hq
  exact h j q (List.getElem?_eq_some_iff.1 hj).1 hj
theorem findP_get {f : PR → Bool} {os : List PR} {k : Nat} (h : os.findIdx? f = some k) : ∃ o, os[k]? = some o ∧ f o = true ∧ k < os.length ∧ ∀ j q, j < k → os[j]? = some q → f q = false := by
  rw [List.findIdx?_eq_some_iff_getElem] at h
  obtain ⟨hlt, he, hm⟩ := h
  refine ⟨os[k], List.getElem?_eq_getElem hlt, he, hlt, fun j q hj hq => ?_⟩
  have := hm j hj
  obtain ⟨h1, h2⟩ := List.getElem?_eq_some_iff.1 hq
  rw [h2] at this
  simpa using this
set_option maxRecDepth 100000 in
set_option maxHeartbeats 1000000 in
/-- IndexFunc, over any function that answers as f does. -/
theorem pidx_any (F : FuncId) (q : Value) (f : PR → Bool) (B g c : Nat) (ps : List PR) (w : World) (ho : w.ownsRow B 33 6 (.slice (some ⟨g, 0, none⟩) ps.length c) ps.length (ps.flatMap encR)) (hlen : ps.length ≤ 16)
    (hE : ∀ (args : Array Value) (W : World), (callFunc F args).run Try.prog W = .ok (.enter F args) W)
    (hF : ∀ p W, Safe w W → Calls Try.prog F #[aggR p, q] W fun e w' => e = .returned (.bool (f p)) ∧ Safe W w') :
    Calls Try.prog 93 #[.slice (some ⟨g, 0, none⟩) ps.length c, .func (.func F) #[] #[q]] w fun e w' => e = .returned (I (ixP (ps.findIdx? f))) ∧ Safe w w' := by
  have HF := Lib.hid hF
  have HO := Lib.hid ho
  clear hF ho
  go_enter Try.func93, Try.ntmps93
  go_wp2
  go_loopw [8] (fun i wr => ∃ k : Nat, k ≤ ps.length ∧ i = .int .i64 k ∧ (∀ j (q : PR), j < k → ps[j]? = some q → f q = false) ∧ Safe w wr) (fun i _ => ps.length - (intOf i).toNat)
  case atStart => exact ⟨0, by omega, rfl, fun j q hj => absurd hj (by omega), But.refl _ _⟩
  case round =>
    obtain ⟨k, hk, rfl, hall, hS⟩ := hrel
    obtain ⟨wo, rfl⟩ : ∃ wo : World, wo = wr := ⟨_, rfl⟩
    have HA := Lib.hid hall
    clear hall
    by_cases hlt : k < ps.length
    · obtain ⟨p, hp⟩ : ∃ p, ps[k]? = some p := ⟨_, List.getElem?_eq_getElem hlt⟩
      obtain ⟨c0, c1, c2, c3, c4, c5⟩ := own6 (own_safe HO.out hS) hp
      have HP := Lib.hid hp
      clear hp
      go_wp2_with fail
      refine (HF.out p _ hS).mono ?_
      rintro _ w1 ⟨rfl, hs1⟩
      cases hr : f p
      · go_wp2
        go_roundw
        case rel =>
          refine ⟨k + 1, by omega, by go_num, fun j q hj hq => ?_, hS.trans hs1⟩
          by_cases e : j = k
          · subst e
            have := hq.symm.trans HP.out
            injection this with this
            rw [this]; exact hr
          · exact HA.out j q (by omega) hq
        case measure => simp [intOf]; omega
      · go_wp2
        go_ret
        exact ⟨by rw [findP_hit HP.out hr HA.out]; rfl, hS.trans hs1⟩
    · obtain rfl : k = ps.length := by omega
      go_wp2
      go_ret
      exact ⟨by rw [findP_miss HA.out]; rfl, hS⟩
set_option maxRecDepth 100000 in
set_option maxHeartbeats 1000000 in
/-- .. that captures nothing, and answers as f does. -/
theorem pidx0_any (F : FuncId) (f : PR → Bool) (B g c : Nat) (ps : List PR) (w : World) (ho : w.ownsRow B 33 6 (.slice (some ⟨g, 0, none⟩) ps.length c) ps.length (ps.flatMap encR)) (hlen : ps.length ≤ 16)
    (hE : ∀ (args : Array Value) (W : World), (callFunc F args).run Try.prog W = .ok (.enter F args) W)
    (hF : ∀ p W, Safe w W → Calls Try.prog F #[aggR p] W fun e w' => e = .returned (.bool (f p)) ∧ Safe W w') :
    Calls Try.prog 93 #[.slice (some ⟨g, 0, none⟩) ps.length c, .func (.func F) #[] #[]] w fun e w' => e = .returned (I (ixP (ps.findIdx? f))) ∧ Safe w w' := by
  have HF := Lib.hid hF
  have HO := Lib.hid ho
  clear hF ho
  go_enter Try.func93, Try.ntmps93
  go_wp2
  go_loopw [8] (fun i wr => ∃ k : Nat, k ≤ ps.length ∧ i = .int .i64 k ∧ (∀ j (q : PR), j < k → ps[j]? = some q → f q = false) ∧ Safe w wr) (fun i _ => ps.length - (intOf i).toNat)
  case atStart => exact ⟨0, by omega, rfl, fun j q hj => absurd hj (by omega), But.refl _ _⟩
  case round =>
    obtain ⟨k, hk, rfl, hall, hS⟩ := hrel
    obtain ⟨wo, rfl⟩ : ∃ wo : World, wo = wr := ⟨_, rfl⟩
    have HA := Lib.hid hall
    clear hall
    by_cases hlt : k < ps.length
    · obtain ⟨p, hp⟩ : ∃ p, ps[k]? = some p := ⟨_, List.getElem?_eq_getElem hlt⟩
      obtain ⟨c0, c1, c2, c3, c4, c5⟩ := own6 (own_safe HO.out hS) hp
      have HP := Lib.hid hp
      clear hp
      go_wp2_with fail
      refine (HF.out p _ hS).mono ?_
      rintro _ w1 ⟨rfl, hs1⟩
      cases hr : f p
      · go_wp2
        go_roundw
        case rel =>
          refine ⟨k + 1, by omega, by go_num, fun j q hj hq => ?_, hS.trans hs1⟩
          by_cases e : j = k
          · subst e
            have := hq.symm.trans HP.out
            injection this with this
            rw [this]; exact hr
          · exact HA.out j q (by omega) hq
        case measure => simp [intOf]; omega
      · go_wp2
        go_ret
        exact ⟨by rw [findP_hit HP.out hr HA.out]; rfl, hS.trans hs1⟩
    · obtain rfl : k = ps.length := by omega
      go_wp2
      go_ret
      exact ⟨by rw [findP_miss HA.out]; rfl, hS⟩
def oneP (ps : List PR) (pid : Int) : Option Nat := ps.findIdx? (fun p => p.pid == pid)
theorem oneP_get {ps : List PR} {pid : Int} {k : Nat} (h : oneP ps pid = some k) : ∃ p, ps[k]? = some p ∧ p.pid = pid ∧ k < ps.length := by
  obtain ⟨p, h1, h2, h3, _⟩ := findP_get h
  exact ⟨p, h1, by simpa using h2, h3⟩
set_option maxRecDepth 100000 in
theorem one1_any (a : Nat) (pid : Int) (p : PR) (w : World) (hc : Blk w a 3 #[I pid]) :
    Calls Try.prog 96 #[aggR p, .pointer (some ⟨a, 0, none⟩)] w fun e w' => e = .returned (.bool (p.pid == pid)) ∧ Safe w w' := by
  have c0 := hc.cell' (i := 0) rfl
  have hlt := hc.lt
  clear hc
  cases hr : (p.pid == pid)
  all_goals
    go_enter Try.func96, Try.ntmps96
    go_wp2
    go_ret
    exact ⟨rfl, (But.refl _ _).alloc _⟩
set_option maxRecDepth 100000 in
set_option maxHeartbeats 1000000 in
theorem one_yes (gt B g c : Nat) (ps : List PR) (most last now pid : Int) (k : Nat) (w : World) (h : TW w gt B (.slice (some ⟨g, 0, none⟩) ps.length c) ps most last now) (hk : oneP ps pid = some k) :
    Calls Try.prog 57 #[.pointer (some ⟨gt, 0, none⟩), .int .i64 pid] w fun e w' => e = .returned (.pointer (some ⟨g, k * 6, none⟩)) ∧ Safe w w' := by
  obtain ⟨p, hp, hpid, hlt⟩ := oneP_get hk
  have hs : Safe w (w.alloc (.cells #[I pid] 3)) := (But.refl _ w).alloc _
  have c0 := h.hp.cell' (i := 0) rfl
  have hix := pidx_any 96 (.pointer (some ⟨w.heap.size, 0, none⟩)) (fun p => p.pid == pid) B g c ps _ (own_safe h.ho hs) h.len (fun args W => by go_simp) (fun p W hW => one1_any w.heap.size pid p W ((Blk.new _ _ _).but hW id))
  rw [show ps.findIdx? (fun p => p.pid == pid) = some k from hk, show ixP (some k) = (k : Int) from rfl] at hix
  have hc1 := fun W (hW : Safe w W) => (h.safe hW).hp.cell' (i := 0) rfl
  have HC1 := Lib.hid hc1
  have HX := Lib.hid hix
  have HS := Lib.hid hs
  have hlen := h.len
  have hlg := h.hp.lt
  have hki : (k : Int) < ps.length := by omega
  clear hix hs hp hpid hc1 hk h
  go_enter Try.func57, Try.ntmps57
  go_wp2_with fail
  refine (HX.out).mono ?_
  rintro _ w1 ⟨rfl, hs1⟩
  have c1 := HC1.out _ (HS.out.trans hs1)
  have HS1 := Lib.hid (HS.out.trans hs1)
  clear hs1
  go_wp2
  go_ret
  exact ⟨rfl, HS1.out⟩
set_option maxRecDepth 100000 in
set_option maxHeartbeats 1000000 in
theorem one_no (gt B g c : Nat) (ps : List PR) (most last now pid : Int) (w : World) (h : TW w gt B (.slice (some ⟨g, 0, none⟩) ps.length c) ps most last now) (hk : oneP ps pid = none) :
    Calls Try.prog 57 #[.pointer (some ⟨gt, 0, none⟩), .int .i64 pid] w fun e w' => e = .returned (.pointer none) ∧ Safe w w' := by
  have hs : Safe w (w.alloc (.cells #[I pid] 3)) := (But.refl _ w).alloc _
  have c0 := h.hp.cell' (i := 0) rfl
  have hix := pidx_any 96 (.pointer (some ⟨w.heap.size, 0, none⟩)) (fun p => p.pid == pid) B g c ps _ (own_safe h.ho hs) h.len (fun args W => by go_simp) (fun p W hW => one1_any w.heap.size pid p W ((Blk.new _ _ _).but hW id))
  rw [show ps.findIdx? (fun p => p.pid == pid) = none from hk, show ixP none = -1 from rfl] at hix
  have HX := Lib.hid hix
  have HS := Lib.hid hs
  have hlg := h.hp.lt
  clear hix hs hk h
  go_enter Try.func57, Try.ntmps57
  go_wp2_with fail
  refine (HX.out).mono ?_
  rintro _ w1 ⟨rfl, hs1⟩
  have HS1 := Lib.hid (HS.out.trans hs1)
  clear hs1
  go_wp2
  go_ret
  exact ⟨rfl, HS1.out⟩
def getP (ps : List PR) (pid : Int) : PR × Int := match oneP ps pid with
  | some k => (ps.getD k zeroR, 0)
  | none => (zeroR, 18)
theorem new6 (w w1 : World) (p : PR) (hs : Safe (w.alloc (.cells (encR p).toArray 33)) w1) :
    w1.cell? ⟨w.heap.size, 0, none⟩ = some (I p.pid) ∧ w1.cell? ⟨w.heap.size, 1, none⟩ = some (I p.parent) ∧ w1.cell? ⟨w.heap.size, 2, none⟩ = some (I p.state) ∧ w1.cell? ⟨w.heap.size, 3, none⟩ = some (I p.code) ∧ w1.cell? ⟨w.heap.size, 4, none⟩ = some (I p.until_) ∧ w1.cell? ⟨w.heap.size, 5, none⟩ = some (.bool p.killed) :=
  have h := (Blk.new w 33 (encR p).toArray).but hs id
  ⟨h.cell' rfl, h.cell' rfl, h.cell' rfl, h.cell' rfl, h.cell' rfl, h.cell' rfl⟩
theorem frz6 (w w1 : World) (p : PR) (hs : Safe (w.alloc (.cells (encR p).toArray 33)) w1) :
    w1.frozen? ⟨w.heap.size, 0, none⟩ = false ∧ w1.frozen? ⟨w.heap.size, 1, none⟩ = false ∧ w1.frozen? ⟨w.heap.size, 2, none⟩ = false ∧ w1.frozen? ⟨w.heap.size, 3, none⟩ = false ∧ w1.frozen? ⟨w.heap.size, 4, none⟩ = false ∧ w1.frozen? ⟨w.heap.size, 5, none⟩ = false :=
  have h := (Blk.new w 33 (encR p).toArray).but hs id
  ⟨h.frozen _, h.frozen _, h.frozen _, h.frozen _, h.frozen _, h.frozen _⟩
set_option maxRecDepth 100000 in
set_option maxHeartbeats 1000000 in
theorem pget_any (gt B g c : Nat) (ps : List PR) (most last now pid : Int) (w : World) (h : TW w gt B (.slice (some ⟨g, 0, none⟩) ps.length c) ps most last now) :
    Calls Try.prog 15 #[.pointer (some ⟨gt, 0, none⟩), .int .i64 pid] w fun e w' => e = .returned (.tuple #[aggR (getP ps pid).1, I (getP ps pid).2]) ∧ Safe w w' := by
  have hs : Safe w (w.alloc (.cells #[I 0, I 0, I 0, I 0, I 0, .bool false] 33)) := (But.refl _ w).alloc _
  cases hk : oneP ps pid with
  | none =>
    have e : getP ps pid = (zeroR, 18) := by unfold getP; rw [hk]
    rw [e]
    have HO := Lib.hid (one_no gt B g c ps most last now pid _ (h.safe hs) hk)
    have HS := Lib.hid hs
    clear hs e hk h
    go_enter Try.func15, Try.ntmps15
    go_wp2_with fail
    refine (HO.out).mono ?_
    rintro _ w1 ⟨rfl, hs1⟩
    obtain ⟨c0, c1, c2, c3, c4, c5⟩ := new6 w w1 zeroR hs1
    obtain ⟨f0, f1, f2, f3, f4, f5⟩ := frz6 w w1 zeroR hs1
    have hsw := HS.out.trans hs1
    have HSW := Lib.hid hsw
    clear hs1 hsw
    go_wp2
    exact bodyPost_ret (v := .tuple #[aggR zeroR, I 18]) (by simp [results, Try.results15, go_sem, c0, c1, c2, c3, c4, c5, zeroR]) rfl ⟨rfl, HSW.out.setCells (b := w.heap.size) (encR zeroR) 0 (.inr (Nat.le_refl _))⟩
  | some k =>
    obtain ⟨p, hp, hpid, hlt⟩ := oneP_get hk
    have e : getP ps pid = (p, 0) := by unfold getP; rw [hk]; simp only; rw [List.getD_eq_getElem?_getD, hp]; rfl
    rw [e]
    have hcs := fun W (hW : Safe w W) => (h.safe hW).cells hp
    have HO := Lib.hid (one_yes gt B g c ps most last now pid k _ (h.safe hs) hk)
    have HS := Lib.hid hs
    have HCS := Lib.hid hcs
    clear hs e hk h hp hpid hcs
    go_enter Try.func15, Try.ntmps15
    go_wp2_with fail
    refine (HO.out).mono ?_
    rintro _ w1 ⟨rfl, hs1⟩
    obtain ⟨c0, c1, c2, c3, c4, c5⟩ := new6 w w1 zeroR hs1
    obtain ⟨f0, f1, f2, f3, f4, f5⟩ := frz6 w w1 zeroR hs1
    have hsw := HS.out.trans hs1
    obtain ⟨d0, d1, d2, d3, d4, d5⟩ := HCS.out _ hsw
    have HSW := Lib.hid hsw
    clear hs1 hsw
    go_wp2
    exact bodyPost_ret (v := .tuple #[aggR p, I 0]) (by simp [results, Try.results15, go_sem, c0, c1, c2, c3, c4, c5]) rfl ⟨rfl, HSW.out.setCells (b := w.heap.size) (encR p) 0 (.inr (Nat.le_refl _))⟩
def liveP (ps : List PR) (pid : Int) : Int := match oneP ps pid with
  | some k => if (ps.getD k zeroR).state = 3 then 18 else 0
  | none => 18
set_option maxRecDepth 100000 in
set_option maxHeartbeats 1000000 in
theorem plive_any (gt B g c : Nat) (ps : List PR) (most last now pid : Int) (w : World) (h : TW w gt B (.slice (some ⟨g, 0, none⟩) ps.length c) ps most last now) :
    Calls Try.prog 44 #[.pointer (some ⟨gt, 0, none⟩), .int .i64 pid] w fun e w' => e = .returned (I (liveP ps pid)) ∧ Safe w w' := by
  cases hk : oneP ps pid with
  | none =>
    have e : liveP ps pid = 18 := by unfold liveP; rw [hk]
    rw [e]
    have HO := Lib.hid (one_no gt B g c ps most last now pid _ h hk)
    clear e hk h
    go_enter Try.func44, Try.ntmps44
    go_wp2_with fail
    refine (HO.out).mono ?_
    rintro _ w1 ⟨rfl, hs1⟩
    go_wp2
    go_ret
    exact ⟨rfl, hs1⟩
  | some k =>
    obtain ⟨p, hp, hpid, hlt⟩ := oneP_get hk
    have e : liveP ps pid = if p.state = 3 then 18 else 0 := by unfold liveP; rw [hk]; simp only; rw [List.getD_eq_getElem?_getD, hp]; rfl
    rw [e]
    have hcs := fun W (hW : Safe w W) => ((h.safe hW).cells hp).2.2.1
    have HO := Lib.hid (one_yes gt B g c ps most last now pid k _ h hk)
    have HCS := Lib.hid hcs
    clear e hk h hp hpid hcs
    by_cases h3 : p.state = 3
    · have hb : (p.state == 3) = true := by simpa using h3
      rw [if_pos h3]
      clear h3
      go_enter Try.func44, Try.ntmps44
      go_wp2_with fail
      refine (HO.out).mono ?_
      rintro _ w1 ⟨rfl, hs1⟩
      have d2 := HCS.out _ hs1
      go_wp2
      go_ret
      exact ⟨rfl, hs1⟩
    · have hb : (p.state == 3) = false := by simpa using h3
      rw [if_neg h3]
      clear h3
      go_enter Try.func44, Try.ntmps44
      go_wp2_with fail
      refine (HO.out).mono ?_
      rintro _ w1 ⟨rfl, hs1⟩
      have d2 := HCS.out _ hs1
      go_wp2
      go_ret
      exact ⟨rfl, hs1⟩
end Go.Proofs.Ytlojadpbdbhmiaa
