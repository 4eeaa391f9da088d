/- FdSets: what holds from act to act. -/
import Derived.Test.YtlojadpbdbhmiaaLj
namespace Go.Proofs.Ytlojadpbdbhmiaa
open Go.RowKit
set_option linter.unusedSimpArgs false
set_option linter.unusedVariables false

theorem slPset : SlT Try.prog 63 61 (.pointer none) 1 8 := ⟨Try.underlying63, by kernel_rfl, rfl, by omega⟩
theorem slIntss : SlT Try.prog 64 22 (.slice none 0 0) 1 24 := ⟨Try.underlying64, by kernel_rfl, rfl, by omega⟩
theorem own_ne {w : World} {base n size : Nat} {e t : TypeId} {v : Value} {xs : List Value} {k g : Nat} {cs : Array Value} (h : w.ownsRow base e size v n xs) (hk : v.ownBlock = some k) (hb : Blk w g t cs) (ht : e ≠ t) : k ≠ g := by
  rcases h.2 with ⟨rfl, _⟩ | ⟨g', cap, cur, rfl, _, hh, _⟩
  · simp [Value.ownBlock] at hk
  · have e1 : g' = k := by simpa [Value.ownBlock] using hk
    rw [← e1]
    have hB : Blk w g' e cur := hh
    exact hB.ne hb ht
theorem own_blk {w : World} {base n size : Nat} {e : TypeId} {v : Value} {xs : List Value} {k : Nat} (h : w.ownsRow base e size v n xs) (hk : v.ownBlock = some k) : ∃ cs, Blk w k e cs := by
  rcases h.2 with ⟨rfl, _⟩ | ⟨g', cap, cur, rfl, _, hh, _⟩
  · simp [Value.ownBlock] at hk
  · have e1 : g' = k := by simpa [Value.ownBlock] using hk
    rw [← e1]
    exact ⟨cur, hh⟩
/-- A set that was left, and what the document said of it. -/
structure Old where
  gs : Nat
  gl : Nat
  sp : List Value
  ids : List Int
  v : Value
def ptrO (o : Old) : Value := .pointer (some ⟨o.gs, 0, none⟩)
structure OldOk (wr : World) (base gl : Nat) (o : Old) : Prop where
  sw : SW wr o.gs o.gl o.sp o.ids
  lv : LV wr base o.v o.ids
  vs : VS o.ids
  ne1 : o.gl ≠ gl
  ne2 : ∀ k, o.v.ownBlock = some k → k ≠ gl
structure SI (w wr : World) (gs gl : Nat) (sp : List Value) (v : Value) (ids : List Int) (ol lo lw : List Old) (vo vw : Value) : Prop where
  sw : SW wr gs gl sp ids
  lv : LV wr w.heap.size v ids
  vs : VS ids
  n1 : 0 < ids.length
  safe : Safe w wr
  gsb : w.heap.size ≤ gs
  glb : w.heap.size ≤ gl
  ne : ∀ k, v.ownBlock = some k → k ≠ gl
  oo : wr.ownsRow w.heap.size 61 1 vo lo.length (lo.map ptrO)
  ow : wr.ownsRow w.heap.size 22 1 vw lw.length (lw.map (·.v))
  old : ∀ o ∈ ol, OldOk wr w.heap.size gl o
section
variable {w wr w' : World} {gs gl : Nat} {sp : List Value} {v vo vw : Value} {ids : List Int} {ol lo lw : List Old}
theorem SI.move (h : SI w wr gs gl sp v ids ol lo lw vo vw) (hs : Safe wr w') : SI w w' gs gl sp v ids ol lo lw vo vw :=
  ⟨h.sw.safe hs, h.lv.safe hs, h.vs, h.n1, h.safe.trans hs, h.gsb, h.glb, h.ne, own_safe h.oo hs, own_safe h.ow hs, fun o ho => by
    have := h.old o ho; exact ⟨this.sw.safe hs, this.lv.safe hs, this.vs, this.ne1, this.ne2⟩⟩
/-- The program's side has turned, and the reference's. -/
theorem SI.turn (h : SI w wr gs gl sp v ids ol lo lw vo vw) {w4 w5 : World} {ids2 : List Int} {v2 : Value} (hb : But (· = gl) wr w4) (hS : SW w4 gs gl sp ids2) (hs : Safe w4 w5) (hl : LV w5 w.heap.size v2 ids2)
    (hf : ∀ k, v2.ownBlock = some k → v.ownBlock = some k ∨ w4.heap.size ≤ k) (hV : VS ids2) (hn : ids2.length = ids.length) : SI w w5 gs gl sp v2 ids2 ol lo lw vo vw := by
  have hglt : gl < w4.heap.size := hS.hl.lt
  refine ⟨hS.safe hs, hl, hV, by rw [hn]; exact h.n1, (h.safe.step hb (fun j hj => .inr (by rw [show j = gl from hj]; exact h.glb))).trans hs, h.gsb, h.glb, fun k hk => ?_, own_safe (own_but_kept h.oo hb (fun k hk e => own_ne h.oo hk h.sw.hl (by decide) e)) hs, own_safe (own_but_kept h.ow hb (fun k hk e => own_ne h.ow hk h.sw.hl (by decide) e)) hs, fun o ho => ?_⟩
  · rcases hf k hk with h1 | h1
    · exact h.ne k h1
    · omega
  · have q := h.old o ho
    exact ⟨(q.sw.but hb (fun e => q.sw.hp.ne h.sw.hl (by decide) e) (fun e => q.ne1 e)).safe hs, (q.lv.but hb (fun k hk e => q.ne2 k hk e)).safe hs, q.vs, q.ne1, q.ne2⟩
/-- One set more is kept. -/
theorem SI.push1 (h : SI w wr gs gl sp v ids ol lo lw vo vw) {x : Old} {v' : Value} (ho : w'.ownsRow w.heap.size 61 1 v' (lo.length + 1) (lo.map ptrO ++ [ptrO x])) (hg : wr.grownBy w' vo.ownBlock) : SI w w' gs gl sp v ids ol (lo ++ [x]) lw v' vw := by
  have hb := But.of_grown hg
  have hT : ∀ g t cs, Blk wr g t cs → 61 ≠ t → ¬ (some g = vo.ownBlock) := fun g t cs hB ht e => own_ne h.oo e.symm hB ht rfl
  refine ⟨h.sw.but hb (hT _ _ _ h.sw.hp (by decide)) (hT _ _ _ h.sw.hl (by decide)), h.lv.but hb (fun k hk e => by
      obtain ⟨_, _, cs, hB⟩ := h.lv.blk hk
      exact hT _ _ _ hB (by decide) e), h.vs, h.n1, h.safe.step hb (fun k hk => .inr ((h.oo.lt k hk.symm).1)), h.gsb, h.glb, h.ne, by rw [List.length_append, List.map_append]; exact ho, own_but_kept h.ow hb (fun k hk e => by
      obtain ⟨cs, hB⟩ := own_blk h.ow hk
      exact hT _ _ _ hB (by decide) e), fun o hm => ?_⟩
  have q := h.old o hm
  exact ⟨q.sw.but hb (hT _ _ _ q.sw.hp (by decide)) (hT _ _ _ q.sw.hl (by decide)), q.lv.but hb (fun k hk e => by
      obtain ⟨_, _, cs, hB⟩ := q.lv.blk hk
      exact hT _ _ _ hB (by decide) e), q.vs, q.ne1, q.ne2⟩
theorem SI.push2 (h : SI w wr gs gl sp v ids ol lo lw vo vw) {x : Old} {v' : Value} (ho : w'.ownsRow w.heap.size 22 1 v' (lw.length + 1) (lw.map (·.v) ++ [x.v])) (hg : wr.grownBy w' vw.ownBlock) : SI w w' gs gl sp v ids ol lo (lw ++ [x]) vo v' := by
  have hb := But.of_grown hg
  have hT : ∀ g t cs, Blk wr g t cs → 22 ≠ t → ¬ (some g = vw.ownBlock) := fun g t cs hB ht e => own_ne h.ow e.symm hB ht rfl
  refine ⟨h.sw.but hb (hT _ _ _ h.sw.hp (by decide)) (hT _ _ _ h.sw.hl (by decide)), h.lv.but hb (fun k hk e => by
      obtain ⟨_, _, cs, hB⟩ := h.lv.blk hk
      exact hT _ _ _ hB (by decide) e), h.vs, h.n1, h.safe.step hb (fun k hk => .inr ((h.ow.lt k hk.symm).1)), h.gsb, h.glb, h.ne, own_but_kept h.oo hb (fun k hk e => by
      obtain ⟨cs, hB⟩ := own_blk h.oo hk
      exact hT _ _ _ hB (by decide) e), by rw [List.length_append, List.map_append]; exact ho, fun o hm => ?_⟩
  have q := h.old o hm
  exact ⟨q.sw.but hb (hT _ _ _ q.sw.hp (by decide)) (hT _ _ _ q.sw.hl (by decide)), q.lv.but hb (fun k hk e => by
      obtain ⟨_, _, cs, hB⟩ := q.lv.blk hk
      exact hT _ _ _ hB (by decide) e), q.vs, q.ne1, q.ne2⟩
/-- A clone goes on in its place. -/
theorem SI.clone (h : SI w wr gs gl sp v ids ol lo lw vo vw) {gs' gl' : Nat} {sp' : List Value} (hS : SW w' gs' gl' sp' ids) (h1 : wr.heap.size ≤ gs') (h2 : wr.heap.size ≤ gl') (hs : Safe wr w') : SI w w' gs' gl' sp' v ids (ol ++ [⟨gs, gl, sp, ids, v⟩]) lo lw vo vw := by
  have hm := h.move hs
  have hsz := h.safe.size
  refine ⟨hS, hm.lv, h.vs, h.n1, hm.safe, by omega, by omega, fun k hk e => ?_, hm.oo, hm.ow, fun o ho => ?_⟩
  · have := (h.lv.blk hk).2.1; omega
  · rw [List.mem_append, List.mem_singleton] at ho
    rcases ho with ho | rfl
    · have q := h.old o ho
      have q' := hm.old o ho
      refine ⟨q'.sw, q'.lv, q.vs, ?_, fun k hk => ?_⟩
      · have := q.sw.hl.lt; omega
      · have := (q.lv.blk hk).2.1; omega
    · refine ⟨hm.sw, hm.lv, h.vs, ?_, fun k hk => ?_⟩
      · have := h.sw.hl.lt; show gl ≠ gl'; omega
      · have := (h.lv.blk hk).2.1; omega
end
end Go.Proofs.Ytlojadpbdbhmiaa
