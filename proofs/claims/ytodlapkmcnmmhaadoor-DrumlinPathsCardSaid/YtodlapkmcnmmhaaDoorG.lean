/- Plain words for memory: a block known whole; a world in which nothing has turned but some blocks; small laws on them. -/
import Derived.WalkKit
import Derived.WalkSpells
import Derived.Below
import Derived.Lib.Hide
import Derived.Outline
import Derived.Handy
import Derived.Deep.Draws
import Derived.Laws.OwnMore
import Derived.Laws.Rows
import Derived.Deep.MidRow
import Derived.Laws.NewBlocks
import Derived.Laws.IdiomCopy
namespace Go.Proofs.YtodlapkmcnmmhaaDoor
open Go.RowKit
set_option linter.unusedSimpArgs false
set_option linter.unusedVariables false

/-- Block g holds just these cells, of element type t; none is frozen. -/
def Blk (w : World) (g : Nat) (t : TypeId) (cs : Array Value) : Prop := w.heap[g]? = some (.cells cs t (0, 0))

section
variable {w w' : World} {g : Nat} {t : TypeId} {cs : Array Value}
theorem Blk.lt (h : Blk w g t cs) : g < w.heap.size := (Array.getElem?_eq_some_iff.1 h).1
theorem Blk.cell (h : Blk w g t cs) (i : Nat) : w.cell? ⟨g, i, none⟩ = cs[i]? := by
  unfold Blk at h
  simp [World.cell?, h]
theorem Blk.cell' (h : Blk w g t cs) {i : Nat} {v : Value} (hv : cs[i]? = some v) : w.cell? ⟨g, i, none⟩ = some v := (h.cell i).trans hv
theorem Blk.frozen (h : Blk w g t cs) (i : Nat) : w.frozen? ⟨g, i, none⟩ = false := by
  unfold Blk at h
  simp [World.frozen?, h]
theorem Blk.new (w : World) (t : TypeId) (cs : Array Value) : Blk (w.alloc (.cells cs t)) w.heap.size t cs := heap_alloc_new w _
theorem Blk.new' {w : World} {g : Nat} (t : TypeId) (cs : Array Value) (h : g = w.heap.size) : Blk (w.alloc (.cells cs t)) g t cs := by subst h; exact heap_alloc_new w _
theorem Blk.drew (h : Blk w g t cs) : Blk w.drew g t cs := h
theorem Blk.drewN (h : Blk w g t cs) (n : Nat) : Blk (w.drewN n) g t cs := h
theorem Blk.alloc (h : Blk w g t cs) (o : Obj) : Blk (w.alloc o) g t cs := (Below.heap_alloc w o g h.lt).trans h
theorem Blk.set (h : Blk w g t cs) (i : Nat) (u : Value) : Blk (w.setCell ⟨g, i, none⟩ u) g t (cs.setIfInBounds i u) := by
  unfold Blk at h ⊢
  simp [World.setCell, Array.getElem?_modify, h]
theorem Blk.far (h : Blk w g t cs) {p : Addr} (hp : g ≠ p.block) (u : Value) : Blk (w.setCell p u) g t cs := (Below.heap_setCell w p u g hp).trans h
theorem Blk.inj {t' : TypeId} {cs' : Array Value} (h : Blk w g t cs) (h' : Blk w g t' cs') : t = t' ∧ cs = cs' := by
  unfold Blk at h h'
  rw [h] at h'
  injection h' with h'
  injection h' with h1 h2
  exact ⟨h2, h1⟩
theorem Blk.ne {g' : Nat} {t' : TypeId} {cs' : Array Value} (h : Blk w g t cs) (h' : Blk w g' t' cs') (hne : t ≠ t') : g ≠ g' := by
  rintro rfl
  exact hne (h.inj h').1
end

theorem cell_lt {w : World} {a : Addr} {v : Value} (h : w.cell? a = some v) : a.block < w.heap.size := World.block_lt_of_cell? w a h
theorem cell_alloc {w : World} {a : Addr} {v : Value} (h : w.cell? a = some v) (o : Obj) : (w.alloc o).cell? a = some v :=
  (World.cell?_alloc_lt w o a (cell_lt h)).trans h
theorem drew_is (w : World) : w.drew = w.drewN 1 := rfl

/-- Nothing has turned but the blocks of S, and what is new. -/
structure But (S : Nat → Prop) (w w' : World) : Prop where
  os : w'.os = w.os
  tape : w'.tape = w.tape
  output : w'.output = w.output
  size : w.heap.size ≤ w'.heap.size
  block : ∀ k, k < w.heap.size → ¬ S k → w'.heap[k]? = w.heap[k]?

section
variable {S S' : Nat → Prop} {w w' w'' : World}
theorem But.refl (S : Nat → Prop) (w : World) : But S w w := ⟨rfl, rfl, rfl, Nat.le_refl _, fun _ _ _ => rfl⟩
theorem But.trans (h : But S w w') (k : But S w' w'') : But S w w'' :=
  ⟨k.os.trans h.os, k.tape.trans h.tape, k.output.trans h.output, Nat.le_trans h.size k.size, fun i hi hs => (k.block i (Nat.lt_of_lt_of_le hi h.size) hs).trans (h.block i hi hs)⟩
theorem But.mono (h : But S w w') (hs : ∀ k, k < w.heap.size → S k → S' k) : But S' w w' := ⟨h.os, h.tape, h.output, h.size, fun k hk hn => h.block k hk (fun e => hn (hs k hk e))⟩
/-- A step behind: what turns in it may be new, too. -/
theorem But.step (h : But S w w') (k : But S' w' w'') (hs : ∀ i, S' i → S i ∨ w.heap.size ≤ i) : But S w w'' :=
  ⟨k.os.trans h.os, k.tape.trans h.tape, k.output.trans h.output, Nat.le_trans h.size k.size, fun i hi hn => (k.block i (Nat.lt_of_lt_of_le hi h.size) (fun e => by
    rcases hs i e with e | e
    · exact hn e
    · omega)).trans (h.block i hi hn)⟩
theorem But.drew (h : But S w w') : But S w w'.drew := ⟨h.os, h.tape, h.output, h.size, h.block⟩
theorem But.drewN (h : But S w w') (n : Nat) : But S w (w'.drewN n) := ⟨h.os, h.tape, h.output, h.size, h.block⟩
theorem But.alloc (h : But S w w') (o : Obj) : But S w (w'.alloc o) :=
  h.trans ⟨rfl, rfl, rfl, by simp, fun k hk _ => Below.heap_alloc _ _ _ hk⟩
theorem But.setCell (h : But S w w') {p : Addr} (hp : S p.block ∨ w.heap.size ≤ p.block) (u : Value) : But S w (w'.setCell p u) :=
  ⟨h.os, h.tape, h.output, by simpa [World.setCell] using h.size, fun k hk hn => (Below.heap_setCell w' p u k (fun e => by
    subst e
    rcases hp with hp | hp
    · exact hn hp
    · omega)).trans (h.block k hk hn)⟩
theorem But.below (h : But S w w') {B : Nat} (hB : B ≤ w.heap.size) (hs : ∀ k, S k → B ≤ k) : Below B w w' :=
  ⟨h.os, h.tape, h.output, h.size, fun k hk => h.block k (by omega) (fun e => by have := hs k e; omega)⟩
theorem But.of_below {B : Nat} (h : Below B w w') (hs : ∀ k, B ≤ k → k < w.heap.size → S k) : But S w w' :=
  ⟨h.os, h.tape, h.output, h.size, fun k hk hn => h.block k (by
    rcases Nat.lt_or_ge k B with h1 | h1
    · exact h1
    · exact absurd (hs k h1 hk) hn)⟩
theorem But.of_grown {row : Option Nat} (h : w.grownBy w' row) : But (fun k => some k = row) w w' :=
  ⟨h.os, h.tape, h.output, h.size, fun k hk hn => h.block k hk hn⟩
theorem Blk.but {g : Nat} {t : TypeId} {cs : Array Value} (h : Blk w g t cs) (hb : But S w w') (hn : ¬ S g) : Blk w' g t cs := (hb.block g h.lt hn).trans h
theorem But.heap {g : Nat} {o : Obj} (hb : But S w w') (h : w.heap[g]? = some o) (hn : ¬ S g) : w'.heap[g]? = some o := (hb.block g (Array.getElem?_eq_some_iff.1 h).1 hn).trans h
theorem But.cell {a : Addr} {v : Value} (hb : But S w w') (h : w.cell? a = some v) (hn : ¬ S a.block) : w'.cell? a = some v :=
  (World.cell?_of_block (hb.block a.block (cell_lt h) hn)).trans h
theorem But.frozen {a : Addr} (hb : But S w w') (h : a.block < w.heap.size) (hn : ¬ S a.block) : w'.frozen? a = w.frozen? a :=
  World.frozen?_of_block (hb.block a.block h hn)
end
/-- The slice at A reads as xs (each by enc), nil let in. -/
def Rd {α : Type} (enc : α → Value) (w : World) (A : Option Addr) (xs : List α) : Prop :=
  0 < xs.length → ∃ ad, A = some ad ∧ ∀ (k : Nat) (x : α), xs[k]? = some x → w.cell? (ad.add k) = some (enc x)
abbrev I (x : Int) : Value := .int .i64 x
section
variable {α : Type} {enc : α → Value} {S : Nat → Prop} {w w' : World} {A : Option Addr} {xs : List α}
theorem block_add (a : Addr) (n : Nat) : (a.add n).block = a.block := by unfold Addr.add; split <;> rfl
theorem add_plain (b o n : Nat) : (⟨b, o, none⟩ : Addr).add n = ⟨b, o + n, none⟩ := by unfold Addr.add; split <;> simp_all
theorem Rd.nil : Rd enc w A ([] : List α) := fun h => absurd h (by simp)
theorem Rd.at (h : Rd enc w A xs) {k : Nat} (hk : k < xs.length) : ∃ ad, A = some ad ∧ w.cell? (ad.add k) = some (enc xs[k]) := by
  obtain ⟨ad, e, hc⟩ := h (by omega)
  exact ⟨ad, e, hc k _ (List.getElem?_eq_getElem hk)⟩
theorem Rd.but (h : Rd enc w A xs) (hb : But S w w') (hs : ∀ ad, A = some ad → ¬ S ad.block) : Rd enc w' A xs := fun hn => by
  obtain ⟨ad, e, hc⟩ := h hn
  exact ⟨ad, e, fun k x hx => hb.cell (hc k x hx) (by rw [block_add]; exact hs ad e)⟩
theorem Rd.of_blk {g : Nat} {t : TypeId} {cs : Array Value} {xs : List α} (h : Blk w g t cs) (hx : cs.toList.take xs.length = xs.map enc) : Rd enc w (some ⟨g, 0, none⟩) xs := fun _ =>
  ⟨_, rfl, fun k x hk => by
    rw [add_plain, Nat.zero_add]
    apply h.cell'
    have hk' := (List.getElem?_eq_some_iff.1 hk).1
    have : (xs.map enc)[k]? = some (enc x) := by rw [List.getElem?_map, hk]; rfl
    rw [← hx, List.getElem?_take, if_pos hk'] at this
    simpa using this⟩
theorem Rd.lt (h : Rd enc w A xs) (hn : 0 < xs.length) : ∀ ad, A = some ad → ad.block < w.heap.size := by
  intro ad he
  obtain ⟨ad', e, hc⟩ := h hn
  rw [e] at he
  injection he with he
  subst he
  have := cell_lt (hc 0 _ (List.getElem?_eq_getElem hn))
  rwa [block_add] at this
end

/-- Nothing that was there has turned. -/
abbrev Safe (w w' : World) : Prop := But (fun _ => False) w w'
theorem Safe.below {w w' : World} (h : Safe w w') : Below w.heap.size w w' := But.below h (Nat.le_refl _) (fun _ e => e.elim)
theorem Safe.of_below {w w' : World} (h : Below w.heap.size w w') : Safe w w' := But.of_below h (fun k h1 h2 => by omega)
theorem Safe.but {S : Nat → Prop} {w w' : World} (h : Safe w w') : But S w w' := h.mono (fun _ _ e => e.elim)
end Go.Proofs.YtodlapkmcnmmhaaDoor
