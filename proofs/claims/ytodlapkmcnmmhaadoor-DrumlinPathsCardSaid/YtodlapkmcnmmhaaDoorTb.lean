/- The closure of ptr.Cost: one more of a place. -/
import Derived.Test.YtodlapkmcnmmhaaDoorTa
namespace Go.Proofs.YtodlapkmcnmmhaaDoor
open Go.RowKit
set_option linter.unusedSimpArgs false
set_option linter.unusedVariables false

theorem setM_same {w : World} {b : Nat} {M M' : List (K3 × Int)} (h : w.heap[b]? = some (mobj M)) : (setM w b M').heap[b]? = some (mobj M') := by
  have hlt : b < w.heap.size := (Array.getElem?_eq_some_iff.1 h).1
  simp [setM, Array.getElem?_setIfInBounds, hlt]
theorem setM_block {w : World} {b : Nat} {M' : List (K3 × Int)} {k : Nat} (h : k ≠ b) : (setM w b M').heap[k]? = w.heap[k]? := by
  simp [setM, Array.getElem?_setIfInBounds, Ne.symm h]
theorem setM_cell {w : World} {b : Nat} {M' : List (K3 × Int)} {a : Addr} (h : a.block ≠ b) : (setM w b M').cell? a = w.cell? a :=
  World.cell?_of_block (setM_block h)
theorem setM_frozen {w : World} {b : Nat} {M' : List (K3 × Int)} {a : Addr} (h : a.block ≠ b) : (setM w b M').frozen? a = w.frozen? a :=
  World.frozen?_of_block (setM_block h)
theorem setM_size {w : World} {b : Nat} {M' : List (K3 × Int)} : (setM w b M').heap.size = w.heap.size := by simp [setM]

/-- What p++ makes of the map. -/
def bump (p : K3) (M : List (K3 × Int)) : List (K3 × Int) := putV (idx p M) (look p M + 1) (touch p M)

theorem idx_lt (p : K3) (M : List (K3 × Int)) : idx p M < (touch p M).length := by
  have hs := findP_spec p M 0
  unfold idx touch
  cases hf : findP p 0 M with
  | none => simp
  | some x =>
    rw [hf] at hs
    have := (List.getElem?_eq_some_iff.1 hs.2).1
    simpa using this
theorem findP_append (p : K3) (v : Int) : ∀ (M : List (K3 × Int)) (i : Nat), findP p i M = none → findP p i (M ++ [(p, v)]) = some (i + M.length, v)
  | [], i, _ => by simp [findP]
  | (q, u) :: r, i, h => by
    simp only [findP] at h
    by_cases e : p = q
    · simp [e] at h
    · rw [if_neg e] at h
      simp only [List.cons_append, findP, if_neg e, findP_append p v r (i + 1) h, List.length_cons]
      congr 2; omega
theorem look_touch (p : K3) (M : List (K3 × Int)) : look p (touch p M) = look p M := by
  unfold touch
  cases hf : findP p 0 M with
  | none => simp [look, hf, findP_append p 0 M 0 hf]
  | some x => simp
theorem findP_put (p : K3) (v : Int) : ∀ (M : List (K3 × Int)) (i j : Nat) (u : Int), findP p i M = some (i + j, u) → findP p i (M.modify j (fun x => (x.1, v))) = some (i + j, v)
  | [], i, j, u, h => by simp [findP] at h
  | (q, w) :: r, i, j, u, h => by
    simp only [findP] at h
    by_cases e : p = q
    · rw [if_pos e] at h
      obtain ⟨rfl, rfl⟩ : j = 0 ∧ w = u := by simp at h; exact ⟨by omega, h.2⟩
      simp [findP, e]
    · rw [if_neg e] at h
      cases j with
      | zero =>
        have := findP_spec p r (i + 1)
        rw [h] at this
        have := this.1
        omega
      | succ j =>
        have := findP_put p v r (i + 1) j u (by rw [h]; congr 2; omega)
        simp only [List.modify_succ_cons, findP, if_neg e, this]
        congr 2; omega
theorem look_bump (p : K3) (M : List (K3 × Int)) : look p (bump p M) = look p M + 1 := by
  have h : findP p 0 (touch p M) = some (idx p M, look p M) := by
    unfold touch idx look
    cases hf : findP p 0 M with
    | none => simp [findP_append p 0 M 0 hf]
    | some x => simp [hf]
  have := findP_put p (look p M + 1) (touch p M) 0 (idx p M) (look p M) (by simpa using h)
  rw [bump, putV, look, this]
  simp
theorem setM_setM (w : World) (b : Nat) (M M' : List (K3 × Int)) : setM (setM w b M) b M' = setM w b M' := by
  simp [setM]

theorem setM_but (w : World) (b : Nat) (M' : List (K3 × Int)) : But (· = b) w (setM w b M') :=
  ⟨rfl, rfl, rfl, by rw [setM_size]; exact Nat.le_refl _, fun k _ hk => setM_block hk⟩
abbrev val3 (p : K3) : Array Value := #[.int .i64 p.1, .int .i64 p.2.1, .int .i64 p.2.2]
def Bumped (bm pt : Nat) (M2 : List (K3 × Int)) (t2 : Int) (w : World) (e : Ending) (w' : World) : Prop :=
  e = .returned (.tuple #[]) ∧ w'.heap[bm]? = some (mobj M2) ∧ Blk w' pt 3 #[.int .i64 t2] ∧ But (fun k => k = bm ∨ k = pt) w w'

set_option maxRecDepth 100000 in
theorem t45 (bm pt b0 : Nat) (p0 p1 p2 t : Int) (M : List (K3 × Int)) (w : World) (hB0 : Blk w b0 64 #[.map (some bm)]) (hm : w.heap[bm]? = some (mobj M))
   (hPt : Blk w pt 3 #[.int .i64 t]) (l0 : 0 ≤ look (p0, p1, p2) M) (l1 : look (p0, p1, p2) M ≤ 1000000) (t0 : 0 ≤ t) (t1 : t ≤ 1000000) :
  Calls Tryd.prog 27 #[.agg #[.int .i64 p0, .int .i64 p1, .int .i64 p2], .pointer (some ⟨b0,0,none⟩), .pointer (some ⟨pt, 0, none⟩)] w (Bumped bm pt (bump (p0, p1, p2) M) (if look (p0, p1, p2) M = 0 then t + 1 else t) w) := by
  have hb : w.cell? ⟨b0, 0, none⟩ = some (.map (some bm)) := hB0.cell' rfl
  have ht : w.cell? ⟨pt, 0, none⟩ = some (.int .i64 t) := hPt.cell' rfl
  have hf := hPt.frozen 0
  have hne : b0 ≠ bm := by rintro rfl; simp [World.cell?, hm, mobj] at hb
  have hne2 : pt ≠ bm := by rintro rfl; simp [World.cell?, hm, mobj] at ht
  have hbs : bm < w.heap.size := (Array.getElem?_eq_some_iff.1 hm).1
  have n1 := cell_alloc hb (Obj.cells #[Value.int IntKind.i64 p0, Value.int IntKind.i64 p1, Value.int IntKind.i64 p2] 66)
  have n2 := cell_alloc ht (Obj.cells #[Value.int IntKind.i64 p0, Value.int IntKind.i64 p1, Value.int IntKind.i64 p2] 66)
  generalize hW : (w.alloc (Obj.cells #[Value.int IntKind.i64 p0, Value.int IntKind.i64 p1, Value.int IntKind.i64 p2] 66)).drew = W
  have hmW : W.heap[bm]? = some (mobj M) := by rw [← hW]; exact (Below.heap_alloc w _ bm hbs).trans hm
  have hWb : Safe w W := by rw [← hW]; exact ((But.refl _ _).alloc _).drew
  have h1 := run_look hmW (p0, p1, p2)
  have h2 := run_entry hmW (p0, p1, p2)
  have hmW1 := setM_same (M' := touch (p0, p1, p2) M) hmW
  have h3 := run_look hmW1 (p0, p1, p2)
  have h4 := run_entryStore hmW1 (idx (p0, p1, p2) M) (idx_lt _ _) (look (p0, p1, p2) M + 1)
  rw [look_touch] at h3
  rw [show putV (idx (p0, p1, p2) M) (look (p0, p1, p2) M + 1) (touch (p0, p1, p2) M) = bump (p0, p1, p2) M from rfl, setM_setM] at h4
  have h5 := run_look (setM_same (M' := bump (p0, p1, p2) M) hmW) (p0, p1, p2)
  rw [look_bump] at h5
  obtain ⟨W2, hW2⟩ : ∃ W2, W2 = setM W bm (bump (p0, p1, p2) M) := ⟨_, rfl⟩
  rw [← hW2] at h4 h5
  have q1 : W2.heap[bm]? = some (mobj (bump (p0, p1, p2) M)) := by rw [hW2]; exact setM_same hmW
  have q2 : But (· = bm) w W2 := by rw [hW2]; exact hWb.but.trans (setM_but _ _ _)
  have q3 : Blk W2 pt 3 #[.int .i64 t] := hPt.but q2 hne2
  have g0 : W2.cell? ⟨b0, 0, none⟩ = some (.map (some bm)) := (hB0.but q2 hne).cell' rfl
  have g1 : W2.cell? ⟨pt, 0, none⟩ = some (.int .i64 t) := q3.cell' rfl
  have g2 := q3.frozen 0
  have hne3 : w.heap.size ≠ bm := by omega
  have g3 : ∀ j u, (#[Value.int IntKind.i64 p0, Value.int IntKind.i64 p1, Value.int IntKind.i64 p2] : Array Value)[j]? = some u → W2.cell? ⟨w.heap.size, j, none⟩ = some u := by
    intro j u hu
    rw [hW2, setM_cell hne3, ← hW]
    show (w.alloc _).cell? _ = _
    rw [World.cell?, heap_alloc_new]
    simpa using hu
  have g30 : W2.cell? ⟨w.heap.size, 0, none⟩ = some (.int .i64 p0) := g3 0 _ rfl
  have g31 : W2.cell? ⟨w.heap.size, 1, none⟩ = some (.int .i64 p1) := g3 1 _ rfl
  have g32 : W2.cell? ⟨w.heap.size, 2, none⟩ = some (.int .i64 p2) := g3 2 _ rfl
  have Q1 := Lib.hid q1
  have Q2 := Lib.hid q2
  have Q3 := Lib.hid q3
  have N2 := Lib.hid hne2
  clear hW2 g3 hne hne2 hne3 hf q1 q2 q3 hWb
  subst hW
  clear hm hmW hmW1 hB0 hPt hb ht
  simp only [ky] at h1 h2 h3 h4 h5
  generalize bump (p0, p1, p2) M = M2 at *
  generalize look (p0, p1, p2) M = c at *
  generalize idx (p0, p1, p2) M = i at *
  generalize touch (p0, p1, p2) M = M1 at *
  by_cases hc : c = 0
  · subst hc
    rw [if_pos rfl]
    rw [Int.zero_add] at h4 h5
    go_enter Tryd.func27, Tryd.ntmps27
    go_wp2_with fail
    go_region
    go_wp2_with fail
    go_end0
    exact ⟨rfl, (Below.heap_setCell _ _ _ _ (Ne.symm N2.out)).trans Q1.out, Q3.out.set 0 _, (Q2.out.mono (fun _ _ e => .inl e)).setCell (.inl (.inr rfl)) _⟩
  · have hc1 : (c + 1 == 1) = false := by simp; omega
    rw [if_neg hc]
    go_enter Tryd.func27, Tryd.ntmps27
    go_wp2_with fail
    go_region
    go_wp2_with fail
    go_end0
    exact ⟨rfl, Q1.out, Q3.out, Q2.out.mono (fun _ _ e => .inl e)⟩
end Go.Proofs.YtodlapkmcnmmhaaDoor
