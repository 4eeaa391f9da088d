/- ptr.Cost: what its loop keeps. -/
import Derived.Test.YtodlapkmcnmmhaaDoorTc
namespace Go.Proofs.YtodlapkmcnmmhaaDoor
open Go.RowKit
set_option linter.unusedSimpArgs false
set_option linter.unusedVariables false

def keysOf (i : Int) : List K3 :=
  if i < 0 then [] else if i < 8 then [(0, 0, i)] else if i < 40 then [(1, 0, i - 8), (1, 0, -1)]
  else if i < 1064 then [(2, (i - 40) / 32, (i - 40) % 32), (2, (i - 40) / 32, -1), (2, -1, -1)] else []
def cstep (s : List (K3 × Int) × Int) (p : K3) : List (K3 × Int) × Int := (bump p s.1, if look p s.1 = 0 then s.2 + 1 else s.2)
def cst (l : List Int) : List (K3 × Int) × Int := (l.flatMap keysOf).foldl cstep ([], 1)
def costL (l : List Int) : Int := (cst l).2
theorem of_keys (i : Int) : ((ofF i).2 ≠ 0 ∧ keysOf i = []) ∨ ∃ a b c : Int, ofF i = ((a, b, c), 0) ∧
    ((a = 0 ∧ keysOf i = [(a, b, c)]) ∨ (a = 1 ∧ keysOf i = [(a, b, c), (a, b, -1)]) ∨ (a = 2 ∧ keysOf i = [(a, b, c), (a, b, -1), (a, -1, -1)])) := by
  unfold ofF keysOf
  by_cases h1 : i < 0
  · left; simp [h1]
  by_cases h2 : i < 8
  · right; exact ⟨0, 0, i, by simp [h1, h2], .inl ⟨rfl, by simp [h1, h2]⟩⟩
  by_cases h3 : i < 40
  · right; exact ⟨1, 0, i - 8, by simp [h1, h2, h3], .inr (.inl ⟨rfl, by simp [h1, h2, h3]⟩)⟩
  by_cases h4 : i < 1064
  · right; exact ⟨2, (i - 40) / 32, (i - 40) % 32, by simp [h1, h2, h3, h4], .inr (.inr ⟨rfl, by simp [h1, h2, h3, h4]⟩)⟩
  · left; simp [h1, h2, h3, h4]
structure Small (s : List (K3 × Int) × Int) (n : Nat) : Prop where
  l0 : ∀ q, 0 ≤ look q s.1
  l1 : ∀ q, look q s.1 ≤ n
  t0 : 1 ≤ s.2
  t1 : s.2 ≤ n + 1
theorem findP_other {p q : K3} (h : p ≠ q) (v : Int) : ∀ (M : List (K3 × Int)) (i j : Nat), (∀ u, M[j]? = some u → u.1 = q) → (findP p i (M.modify j (fun x => (x.1, v)))) = findP p i M
  | [], i, j, _ => by simp [findP]
  | (r, w) :: rs, i, j, hj => by
    cases j with
    | zero =>
      have := hj (r, w) rfl
      simp only at this
      subst this
      simp [findP, h]
    | succ j =>
      simp only [List.modify_succ_cons, findP]
      rw [findP_other h v rs (i + 1) j (fun u hu => hj u (by simpa using hu))]
theorem findP_snoc {p q : K3} (h : p ≠ q) (v : Int) : ∀ (M : List (K3 × Int)) (i : Nat), findP p i (M ++ [(q, v)]) = findP p i M
  | [], i => by simp [findP, h]
  | (r, w) :: rs, i => by simp only [List.cons_append, findP, findP_snoc h v rs (i + 1)]
theorem idx_atT (p : K3) (M : List (K3 × Int)) : ∀ u, (touch p M)[idx p M]? = some u → u.1 = p := by
  intro u hu
  have hs := findP_spec p M 0
  unfold idx touch at hu
  cases hf : findP p 0 M with
  | none => rw [hf] at hu; simp at hu; rw [← hu]
  | some x =>
    rw [hf] at hu hs
    simp at hu hs
    rw [hs] at hu
    cases hu
    rfl
theorem look_other {p q : K3} (h : p ≠ q) (M : List (K3 × Int)) : look p (bump q M) = look p M := by
  unfold look bump putV
  rw [findP_other h _ _ 0 _ (idx_atT q M)]
  unfold touch
  split
  · rfl
  · rw [findP_snoc h]
theorem Small.step {s : List (K3 × Int) × Int} {n : Nat} (h : Small s n) (p : K3) : Small (cstep s p) (n + 1) := by
  refine ⟨fun q => ?_, fun q => ?_, ?_, ?_⟩
  · unfold cstep
    by_cases e : q = p
    · subst e; rw [look_bump]; have := h.l0 q; omega
    · rw [look_other e]; exact h.l0 q
  · unfold cstep
    by_cases e : q = p
    · subst e; rw [look_bump]; have := h.l1 q; omega
    · rw [look_other e]; have := h.l1 q; omega
  · unfold cstep; have := h.t0; simp only; split <;> omega
  · unfold cstep; have := h.t1; simp only; split <;> omega
theorem Small.start : Small ([], 1) 0 := ⟨fun q => by simp [look, findP], fun q => by simp [look, findP], by simp, by simp⟩
theorem Small.fold (l : List K3) : ∀ {s : List (K3 × Int) × Int} {n : Nat}, Small s n → Small (l.foldl cstep s) (n + l.length) := by
  induction l with
  | nil => intro s n h; exact h
  | cons p r ih => intro s n h; have := ih (h.step p); simp only [List.foldl_cons, List.length_cons]; rwa [show n + (r.length + 1) = n + 1 + r.length from by omega]
theorem keys_len (i : Int) : (keysOf i).length ≤ 3 := by
  unfold keysOf; repeat' split
  all_goals simp
theorem small_cst (l : List Int) : Small (cst l) (3 * l.length) := by
  have h := Small.start.fold (l.flatMap keysOf)
  have hl : (l.flatMap keysOf).length ≤ 3 * l.length := by
    induction l with
    | nil => simp
    | cons x r ih => have := keys_len x; simp only [List.flatMap_cons, List.length_append, List.length_cons]; have := ih (Small.start.fold _); omega
  exact ⟨h.l0, fun q => by have := h.l1 q; unfold cst; omega, h.t0, by have := h.t1; unfold cst; omega⟩
theorem cst_snoc (l : List Int) (i : Int) : cst (l ++ [i]) = (keysOf i).foldl cstep (cst l) := by simp [cst, List.flatMap_append, List.foldl_append]
end Go.Proofs.YtodlapkmcnmmhaaDoor
