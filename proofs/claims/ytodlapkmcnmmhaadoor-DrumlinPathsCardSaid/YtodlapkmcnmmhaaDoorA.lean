/- append and make onto rows of the call's own, in few words. -/
import Derived.Test.YtodlapkmcnmmhaaDoorG
import Derived.Maps.AppendAt
import Derived.Deep.AppendLies
import Derived.Laws.MakeOwn
import Derived.OneCell
namespace Go.Proofs.YtodlapkmcnmmhaaDoor
open Go.RowKit
set_option linter.unusedSimpArgs false
set_option linter.unusedVariables false

/-- t is a slice type; its elements are of type e: their zero, their cells, their bytes. -/
structure SlT (P : Program) (t e : TypeId) (z : Value) (size bytes : Nat) : Prop where
  ht : P.underlying t = some (.slice e)
  info : (P.info? e).map (fun i => (i.zero, i.size, i.bytes)) = some (some z, size, bytes)
  zs : z.cells.size = size
  pos : 0 < size

section
variable {P : Program} {w : World}
/-- An operation that is wanted, and yields a value. -/
theorem wpList_value {ops : Array Oper} {rest : List Oper} {o : Oper} {a : Act} {Q : Exit → Act → World → Prop} (hw : Region.wanted o (yielded ops a.tmps) = true) {v : Value} {w' : World}
    (hrun : (execOp a.eval o).run P w = .ok (.value v) w') (h : wpList P ops Q rest (a.put o.dst v) w') : wpList P ops Q (o :: rest) a w := by
  refine wpList_step fun K hK => ?_
  rw [if_pos hw]
  unfold Oper.wp
  rw [hrun]
  exact hK _ _ h
/-- What append comes to: m elements that lie at A, onto a row of one's own. -/
theorem run_push {t e : TypeId} {z : Value} {size bytes : Nat} (T : SlT P t e z size bytes) (ty : TypeId) (base : Nat) (v : Value) (n : Nat) (xs : List Value) (hown : w.ownsRow base e size v n xs)
    (A : Option Addr) (m c : Nat) (ys : List Value) (hl : ys.length = m * size)
    (hr : 0 < m → ∃ ad, A = some ad ∧ ∀ j u, ys[j]? = some u → w.cell? (ad.add j) = some u) (h1 : ∀ u ∈ ys, u.oneCell' = true)
    (h63 : n + m ≤ maxLen) (hbytes : (n + m) * bytes ≤ 140737488355328) (hbase : base ≤ w.heap.size) :
    ∃ v' w', (Builtin.append_ #[t, t] ty #[v, .slice A m c]).run P w = .ok v' w' ∧ w'.ownsRow base e size v' (n + m) (xs ++ ys) ∧ w.grownBy w' v.ownBlock ∧ (v'.ownBlock = v.ownBlock ∨ v'.ownBlock = some w.heap.size) := by
  obtain ⟨i, hi, hz0, hz1, hz2⟩ := info_parts T.info
  by_cases hm : 0 < m
  · obtain ⟨ad, rfl, hc⟩ := hr hm
    obtain ⟨v', w', hr, h2, h3, _, h5⟩ := run_append_own_at (P := P) w base t ty e i z size bytes T.ht hi hz0 hz1 hz2 T.zs T.pos v n xs hown ad m c ys hl hc h1 h63 hbytes hbase
    exact ⟨v', w', hr, h2, h3, h5⟩
  · obtain rfl : m = 0 := by omega
    have hys : ys = [] := List.eq_nil_of_length_eq_zero (by simpa using hl)
    subst hys
    rcases A with _ | ad
    · refine ⟨v, w, ?_, by simpa using hown, World.grownBy.refl w _, .inl rfl⟩
      rcases hown.2 with ⟨rfl, rfl⟩ | ⟨g, cap, cur, rfl, _, _, hnc, _⟩
      · simp [Builtin.append_, run_underlying T.ht, sizeOf, typeInfo, hi, Builtin.lenOf, Builtin.firstCells]
      · simp [Builtin.append_, run_underlying T.ht, sizeOf, typeInfo, hi, Builtin.lenOf, Builtin.firstCells, hnc, storeCells]
    · obtain ⟨v', w', hr, h2, h3, _, h5⟩ := run_append_own_at (P := P) w base t ty e i z size bytes T.ht hi hz0 hz1 hz2 T.zs T.pos v n xs hown ad 0 c [] hl (by simp) (by simp) h63 hbytes hbase
      exact ⟨v', w', hr, h2, h3, h5⟩
/-- 'append(s, ys...)': what lies at A, m elements. -/
theorem wpList_pushAll {t e : TypeId} {z : Value} {size bytes : Nat} (T : SlT P t e z size bytes) {ops : Array Oper} {rest : List Oper} {o : Oper} {a : Act} {Q : Exit → Act → World → Prop} (hw : Region.wanted o (yielded ops a.tmps) = true) (s x : Operand)
    (ho : o.op = .call { callee := .builtin .append, args := #[s, x], argTypes := #[t, t] })
    (base : Nat) (v : Value) (n : Nat) (xs : List Value) (hs : a.eval s = v) (hown : w.ownsRow base e size v n xs)
    (A : Option Addr) (m c : Nat) (ys : List Value) (hx : a.eval x = .slice A m c) (hl : ys.length = m * size)
    (hr : 0 < m → ∃ ad, A = some ad ∧ ∀ j u, ys[j]? = some u → w.cell? (ad.add j) = some u) (h1 : ∀ u ∈ ys, u.oneCell' = true)
    (h63 : n + m ≤ maxLen) (hbytes : (n + m) * bytes ≤ 140737488355328) (hbase : base ≤ w.heap.size)
    (h : ∀ v' w', w'.ownsRow base e size v' (n + m) (xs ++ ys) → w.grownBy w' v.ownBlock → (v'.ownBlock = v.ownBlock ∨ v'.ownBlock = some w.heap.size) → wpList P ops Q rest (a.put o.dst v') w') :
    wpList P ops Q (o :: rest) a w := by
  obtain ⟨v', w', hrun, h2, h3, h4⟩ := run_push T o.type base v n xs hown A m c ys hl hr h1 h63 hbytes hbase
  refine wpList_value hw (v := v') (w' := w') ?_ (h v' w' h2 h3 h4)
  unfold execOp
  simp only [ho, resolve, invoke, builtin, Sem.run_bind, Sem.run_pure, Result.andThen_ok, List.map_toArray, List.map_cons, List.map_nil, hs, hx, hrun]
/-- 'append(s, y)': one element more, that was laid in a block of its own. -/
theorem wpList_push {t e : TypeId} {z : Value} {size bytes : Nat} (T : SlT P t e z size bytes) {ops : Array Oper} {rest : List Oper} {o : Oper} {a : Act} {Q : Exit → Act → World → Prop} (hw : Region.wanted o (yielded ops a.tmps) = true) (s x : Operand)
    (ho : o.op = .call { callee := .builtin .append, args := #[s, x], argTypes := #[t, t] })
    (base : Nat) (v : Value) (n : Nat) (xs : List Value) (hs : a.eval s = v) (hown : w.ownsRow base e size v n xs)
    (g : Nat) (te : TypeId) (ys : Array Value) (hx : a.eval x = .slice (some ⟨g, 0, none⟩) 1 1) (hb : Blk w g te ys) (hy : ys.size = size) (h1 : ∀ u ∈ ys.toList, u.oneCell' = true)
    (h63 : n + 1 ≤ maxLen) (hbytes : (n + 1) * bytes ≤ 140737488355328) (hbase : base ≤ w.heap.size)
    (h : ∀ v' w', w'.ownsRow base e size v' (n + 1) (xs ++ ys.toList) → w.grownBy w' v.ownBlock → (v'.ownBlock = v.ownBlock ∨ v'.ownBlock = some w.heap.size) → wpList P ops Q rest (a.put o.dst v') w') :
    wpList P ops Q (o :: rest) a w :=
  wpList_pushAll T hw s x ho base v n xs hs hown (some ⟨g, 0, none⟩) 1 1 ys.toList hx (by simp [hy])
    (fun _ => ⟨_, rfl, fun j u hu => by rw [add_plain, Nat.zero_add]; exact hb.cell' (by simpa using hu)⟩) h1 h63 hbytes hbase h
end
theorem own_but {w w' : World} {base n size : Nat} {e : TypeId} {v : Value} {xs : List Value} (h : w.ownsRow base e size v n xs) (hg : w.grownBy w' v.ownBlock) : But (fun k => base ≤ k) w w' :=
  (But.of_grown hg).mono (fun k _ hk => (h.lt k hk.symm).1)
theorem safe_own {w0 w w' : World} {base n size : Nat} {e : TypeId} {v : Value} {xs : List Value} (h0 : Safe w0 w) (h : w.ownsRow base e size v n xs) (hg : w.grownBy w' v.ownBlock) (hb : w0.heap.size ≤ base) : Safe w0 w' :=
  h0.step (own_but h hg) (fun k hk => .inr (by omega))
theorem own_safe {w w' : World} {base n size : Nat} {e : TypeId} {v : Value} {xs : List Value} (h : w.ownsRow base e size v n xs) (hs : Safe w w') : w'.ownsRow base e size v n xs :=
  h.kept (row := none) ⟨hs.os, hs.tape, hs.output, hs.size, fun k hk _ => hs.block k hk id⟩ (by cases hv : v.ownBlock <;> simp)
theorem own_but_kept {S : Nat → Prop} {w w' : World} {base n size : Nat} {e : TypeId} {v : Value} {xs : List Value} (h : w.ownsRow base e size v n xs) (hs : But S w w') (hn : ∀ k, v.ownBlock = some k → ¬ S k) : w'.ownsRow base e size v n xs := by
  obtain ⟨h1, h2⟩ := h
  refine ⟨h1, ?_⟩
  rcases h2 with h2 | ⟨g, cap, cur, rfl, hb, hc, hr⟩
  · exact .inl h2
  · exact .inr ⟨g, cap, cur, rfl, hb, hs.heap hc (hn g rfl), hr⟩
/-- A row of one's own of ints reads as they do. -/
theorem Rd.of_own {α : Type} {enc : α → Value} {w : World} {base n c : Nat} {e : TypeId} {A : Option Addr} {xs : List α} (h : w.ownsRow base e 1 (.slice A n c) xs.length (xs.map enc)) : Rd enc w A xs := fun hn => by
  rcases h.2 with ⟨_, h0⟩ | ⟨g, cap, cur, hv, _⟩
  · omega
  · injection hv with hA hlen hcap
    subst hA
    refine ⟨_, rfl, fun k x hk => ?_⟩
    exact h.cells rfl k _ (by rw [List.getElem?_map, hk]; rfl)
theorem Rd.safe {α : Type} {enc : α → Value} {w w' : World} {A : Option Addr} {xs : List α} (h : Rd enc w A xs) (hs : Safe w w') : Rd enc w' A xs := h.but hs (fun _ _ => id)
theorem Rd.alloc {α : Type} {enc : α → Value} {w : World} {A : Option Addr} {xs : List α} (h : Rd enc w A xs) (o : Obj) : Rd enc (w.alloc o) A xs := h.safe ((But.refl _ w).alloc o)
theorem Rd.cells {α : Type} {enc : α → Value} {w : World} {A : Option Addr} {L : List α} (h : Rd enc w A L) : 0 < L.length → ∃ ad, A = some ad ∧ ∀ j u, (L.map enc)[j]? = some u → w.cell? (ad.add j) = some u := by
  intro hn
  obtain ⟨ad, e, hc⟩ := h hn
  refine ⟨ad, e, fun j u hu => ?_⟩
  rw [List.getElem?_map] at hu
  cases hx : L[j]? with
  | none => rw [hx] at hu; cases hu
  | some x => rw [hx] at hu; simp at hu; rw [← hu]; exact hc j x hx
theorem Rd.take {α : Type} {enc : α → Value} {w : World} {A : Option Addr} {L : List α} (h : Rd enc w A L) (n : Nat) : Rd enc w A (L.take n) := fun hn => by
  obtain ⟨ad, e, hc⟩ := h (by simp at hn; omega)
  exact ⟨ad, e, fun k x hk => hc k x (by
    rw [List.getElem?_take] at hk
    split at hk
    · exact hk
    · cases hk)⟩
/-- A slice's value. -/
theorem own_form {w : World} {base n size : Nat} {e : TypeId} {v : Value} {xs : List Value} (h : w.ownsRow base e size v n xs) : ∃ A c, v = .slice A n c ∧ n ≤ c := by
  rcases h.2 with ⟨rfl, rfl⟩ | ⟨g, cap, cur, rfl, _, _, h1, _⟩
  · exact ⟨none, 0, rfl, Nat.le_refl _⟩
  · exact ⟨_, cap, rfl, h1⟩
end Go.Proofs.YtodlapkmcnmmhaaDoor
