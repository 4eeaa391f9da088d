/- Law 22: orphans, plain. -/
import Derived.Test.YtlojadpbdbhmiaaZn
namespace Go.Proofs.Ytlojadpbdbhmiaa
open Go.RowKit
set_option linter.unusedSimpArgs false
set_option linter.unusedVariables false

theorem mod_atP (x : Int) {n : Nat} (hn : 1 ≤ n) (h6 : n ≤ 1000) : ∃ m : Nat, m < n ∧ (wrap64 (x.tmod n + n)).tmod n = m := by
  have h1 := Int.tmod_lt_of_pos x (show (0 : Int) < n by omega)
  have h2 : -(n : Int) < x.tmod n := by
    have := Int.lt_tmod_of_pos x (show (0 : Int) < n by omega)
    omega
  rw [IntWalk.wrap64_in _ (by omega)]
  have h3 : 0 ≤ x.tmod n + n := by omega
  have h4 := Int.tmod_nonneg (n : Int) h3
  have h5 := Int.tmod_lt_of_pos (x.tmod n + n) (show (0 : Int) < n by omega)
  exact ⟨((x.tmod n + n).tmod n).toNat, by omega, by omega⟩
section
variable {ps : List PR} {last : Int} {N : Nat} {pid : Int} {k : Nat} {p : PR}
theorem exq_parent (code : Int) (p : PR) : (exq pid code p).parent = if p.parent = pid then 1 else p.parent := by
  by_cases hpp : p.pid = pid
  · rw [exq_self hpp, adopt_parent]; rfl
  · rw [exq_other hpp, adopt_parent]
theorem exit_code (h : PT ps last N) (hk : ps[k]? = some p) (hpid : p.pid = pid) : ((exitM ps pid 3).2 ≠ 0 ∧ (pid = 1 ∨ p.state = 3)) ∨ ((exitM ps pid 3) = (exL pid 3 ps, 0) ∧ pid ≠ 1 ∧ p.state ≠ 3) := by
  rw [← exit_is h.asc]
  have hl := live_mk h.asc hk
  rw [hpid] at hl
  unfold exitR
  by_cases h3 : p.state = 3
  · rw [if_pos h3] at hl
    left
    rw [if_pos (by omega)]
    exact ⟨by simp only; omega, .inr h3⟩
  · rw [if_neg h3] at hl
    rw [if_neg (by omega)]
    by_cases h1 : pid = 1
    · left; rw [if_pos h1]; exact ⟨by simp, .inl h1⟩
    · right; rw [if_neg h1]; exact ⟨rfl, h1, h3⟩
theorem orphan_child (h : PT ps last N) {c : Int} (hc : c ∈ whichP (fun p => p.parent == pid) ps) : (getP (exL pid 3 ps) c).2 = 18 ∨ ((getP (exL pid 3 ps) c).2 = 0 ∧ (getP (exL pid 3 ps) c).1.parent = 1) := by
  unfold getP
  cases hf : oneP (exL pid 3 ps) c with
  | none => exact .inl rfl
  | some j =>
    right
    simp only
    obtain ⟨q, hq, hqc, _⟩ := oneP_get hf
    rw [List.getD_eq_getElem?_getD, hq]
    refine ⟨trivial, ?_⟩
    obtain ⟨p0, hp0, rfl, _⟩ := exL_mem.1 (List.mem_of_getElem? hq)
    obtain ⟨p1, hp1, e1⟩ := List.mem_map.1 hc
    obtain ⟨hm1, hb1⟩ := List.mem_filter.1 hp1
    rw [exq_pid] at hqc
    obtain ⟨i0, hi0⟩ := List.getElem?_of_mem hp0
    obtain ⟨i1, hi1⟩ := List.getElem?_of_mem hm1
    have := h.asc.inj hi0 hi1 (by rw [hqc, e1])
    subst this
    rw [hi0] at hi1
    injection hi1 with hi1
    subst hi1
    show (exq pid 3 p0).parent = 1
    rw [exq_parent, if_pos (by simpa using hb1)]
theorem orphan_none (h1 : pid ≠ 1) : whichP (fun p => p.parent == pid) (exL pid 3 ps) = [] := by
  unfold whichP
  rw [List.map_eq_nil_iff, List.filter_eq_nil_iff]
  intro q hq
  obtain ⟨p0, hp0, rfl, _⟩ := exL_mem.1 hq
  rw [exq_parent]
  by_cases hc : p0.parent = pid
  · rw [if_pos hc]; simp; exact fun e => h1 e.symm
  · rw [if_neg hc]; simpa using hc
theorem orphan_gone (h : PT ps last N) (hk : ps[k]? = some p) (hpid : p.pid = pid) (h1 : pid ≠ 1) (hp1 : p.parent = 1) : getP (exL pid 3 ps) pid = (zeroR, 18) := by
  unfold getP
  cases hf : oneP (exL pid 3 ps) pid with
  | none => rfl
  | some j =>
    exfalso
    obtain ⟨q, hq, hqc, _⟩ := oneP_get hf
    obtain ⟨p0, hp0, rfl, hb⟩ := exL_mem.1 (List.mem_of_getElem? hq)
    rw [exq_pid] at hqc
    obtain ⟨i0, hi0⟩ := List.getElem?_of_mem hp0
    have := h.asc.inj hi0 hk (by rw [hqc, hpid])
    subst this
    rw [hi0] at hk
    injection hk with hk
    subst hk
    rw [exq_self hqc] at hb
    unfold bad1 at hb
    rw [adopt_state, adopt_parent] at hb
    simp [deadR, hp1] at hb
theorem orphan_left (h : PT ps last N) (hk : ps[k]? = some p) (hpid : p.pid = pid) (h1 : pid ≠ 1) (hp1 : p.parent ≠ 1) : getP (exL pid 3 ps) pid = (⟨pid, p.parent, 3, 3, 0, false⟩, 0) := by
  have hup := (h.up p (List.mem_of_getElem? hk) (by rw [hpid]; exact h1)).2.1
  have hq : exq pid 3 p = ⟨pid, p.parent, 3, 3, 0, false⟩ := by
    rw [exq_self hpid]
    unfold adopt
    rw [if_neg (by show p.parent ≠ pid; omega)]
    rfl
  have hm : (⟨pid, p.parent, 3, 3, 0, false⟩ : PR) ∈ exL pid 3 ps := exL_mem.2 ⟨p, List.mem_of_getElem? hk, hq, by simp [bad1, hp1]⟩
  obtain ⟨j, hj⟩ := List.getElem?_of_mem hm
  have ha : Asc (exL pid 3 ps) := h.asc.sublist (exL_pids_sub pid 3 ps)
  exact get_at ha hj
end
/-- What is in memory: both tables, alike. -/
structure TO (w wr : World) (gt gw : Nat) (v vq : Value) (ps : List PR) (last now : Int) : Prop where
  tw : TW wr gt w.heap.size v ps 16 last now
  pt : PT ps last 16
  gt0 : w.heap.size ≤ gt
  gw0 : w.heap.size ≤ gw
  tb : Blk wr gw 91 #[vq, I 16, I last, I now]
  lp : LP wr w.heap.size vq ps
  sf : Safe w wr
  nw : 0 ≤ now ∧ now ≤ 1099511627776
theorem TO.move {w wr w' : World} {gt gw : Nat} {v vq : Value} {ps : List PR} {last now : Int} (h : TO w wr gt gw v vq ps last now) (hs : Safe wr w') : TO w w' gt gw v vq ps last now :=
  ⟨h.tw.safe hs, h.pt, h.gt0, h.gw0, h.tb.but hs id, h.lp.safe hs, h.sf.trans hs, h.nw⟩
/-- Do has been carried out; the reference's table is laid into its box. -/
structure TD (w wr : World) (gt gw g5 : Nat) (v vq vq0 : Value) (ps : List PR) (last now last0 now0 : Int) : Prop where
  tw : TW wr gt w.heap.size v ps 16 last now
  pt : PT ps last 16
  gt0 : w.heap.size ≤ gt
  gw0 : w.heap.size ≤ gw
  tb : Blk wr gw 91 #[vq0, I 16, I last0, I now0]
  b5 : Blk wr g5 91 #[vq, I 16, I last, I now]
  lp : LP wr w.heap.size vq ps
  sf : Safe w wr
  nw : 0 ≤ now ∧ now ≤ 1099511627776
theorem TD.fin {w wr : World} {gt gw g5 : Nat} {v vq vq0 : Value} {ps : List PR} {last now last0 now0 : Int} (h : TD w wr gt gw g5 v vq vq0 ps last now last0 now0) : TO w (wr.setCells gw 0 [vq, I 16, I last, I now]) gt gw v vq ps last now := by
  have hb := (But.refl (· = gw) wr).setCells [vq, I 16, I last, I now] 0 (.inl rfl)
  have h1 := h.tb.setAll [vq, I 16, I last, I now] 0
  rw [setAt_whole _ _ (by rfl)] at h1
  refine ⟨h.tw.but hb (fun e => h.tw.hp.ne h.tb (by decide) e) (fun k hk e => ?_), h.pt, h.gt0, h.gw0, h1, h.lp.but hb (fun k hk e => h.lp.ne hk h.tb (by decide) e), h.sf.setCells _ _ (.inr h.gw0), h.nw⟩
  obtain ⟨_, _, cs', hB'⟩ := own_blk6 h.tw.ho hk
  exact hB'.ne h.tb (by decide) e
/-- Do has been carried out. -/
structure TM (w wr : World) (gt gw : Nat) (v vq vq0 : Value) (ps : List PR) (last now last0 now0 : Int) : Prop where
  tw : TW wr gt w.heap.size v ps 16 last now
  pt : PT ps last 16
  gt0 : w.heap.size ≤ gt
  gw0 : w.heap.size ≤ gw
  tb : Blk wr gw 91 #[vq0, I 16, I last0, I now0]
  lp : LP wr w.heap.size vq ps
  sf : Safe w wr
  nw : 0 ≤ now ∧ now ≤ 1099511627776
theorem TO.did {w wo W' w7 : World} {gt gw : Nat} {v vq vq7 : Value} {ps ps2 : List PR} {last now last2 now2 : Int} (h : TO w wo gt gw v vq ps last now) (hs : Safe wo W') (hr : TRet W' w7 gt w.heap.size v ps2 16 last2 now2) (hl : LP w7 w.heap.size vq7 ps2) (hp : PT ps2 last2 16) (hn : 0 ≤ now2 ∧ now2 ≤ 1099511627776) :
    ∃ v8, TM w w7 gt gw v8 vq7 vq ps2 last2 now2 last now := by
  have h' := h.move hs
  have hsf := TRet.kept h'.sf h'.tw (Nat.le_refl _) h'.gt0 hr
  have hb := hr.blk h'.tw h'.tb (by decide) (by decide)
  obtain ⟨v8, h1, _⟩ := hr
  exact ⟨v8, h1, hp, h.gt0, h.gw0, hb, hl, hsf, hn⟩
section
variable {w w7 : World} {gt gw : Nat} {v vq vq0 : Value} {ps : List PR} {last now last0 now0 : Int}
theorem TM.box (h : TM w w7 gt gw v vq vq0 ps last now last0 now0) : TD w (w7.alloc (.cells #[vq, I 16, I last, I now] 91)) gt gw w7.heap.size v vq vq0 ps last now last0 now0 :=
  have hs := (But.refl (fun _ => False) w7).alloc (.cells #[vq, I 16, I last, I now] 91)
  ⟨h.tw.safe hs, h.pt, h.gt0, h.gw0, h.tb.but hs id, Blk.new _ _ _, h.lp.safe hs, h.sf.trans hs, h.nw⟩
theorem TM.fill (h : TM w w7 gt gw v vq vq0 ps last now last0 now0) {g5 : Nat} {x y z u : Value} (hB : Blk w7 g5 91 #[x, y, z, u]) (hne : gw ≠ g5) (h0 : w.heap.size ≤ g5) : TD w (w7.setCells g5 0 [vq, I 16, I last, I now]) gt gw g5 v vq vq0 ps last now last0 now0 := by
  have hb := (But.refl (· = g5) w7).setCells [vq, I 16, I last, I now] 0 (.inl rfl)
  have h1 := hB.setAll [vq, I 16, I last, I now] 0
  rw [setAt_whole _ _ (by rfl)] at h1
  refine ⟨h.tw.but hb (fun e => h.tw.hp.ne hB (by decide) e) (fun k hk e => ?_), h.pt, h.gt0, h.gw0, h.tb.but hb (fun e => hne e), h1, h.lp.but hb (fun k hk e => h.lp.ne hk hB (by decide) e), h.sf.setCells _ _ (.inr h0), h.nw⟩
  obtain ⟨_, _, cs', hB'⟩ := own_blk6 h.tw.ho hk
  exact hB'.ne hB (by decide) e
end
end Go.Proofs.Ytlojadpbdbhmiaa
