/- What the reference counts, in plain words: block by block, in order. -/
import Derived.Test.YtfokjmlkhaehgaaP1
namespace Go.Proofs.Ytfokjmlkhaehgaa
set_option linter.unusedSimpArgs false
set_option linter.unusedVariables false

/-- The blocks below i that are there. -/
def upTo (L : List Bool) (i : Nat) : List Int := ((List.range i).filter (fun j => L.getD j false)).map Int.ofNat
theorem upTo_no (L : List Bool) (i : Nat) (h : L.getD i false = false) : upTo L (i + 1) = upTo L i := by
  unfold upTo; rw [List.range_succ, List.filter_append, List.map_append, List.filter_cons_of_neg (by rw [h]; simp)]; simp
theorem upTo_yes (L : List Bool) (i : Nat) (h : L.getD i false = true) : upTo L (i + 1) = upTo L i ++ [(i : Int)] := by
  unfold upTo; rw [List.range_succ, List.filter_append, List.map_append, List.filter_cons_of_pos (by rw [h])]; simp
theorem upTo_mem (L : List Bool) (i : Nat) (x : Int) : x ∈ upTo L i ↔ ∃ j : Nat, j < i ∧ L.getD j false = true ∧ x = j := by
  unfold upTo
  simp only [List.mem_map, List.mem_filter, List.mem_range]
  constructor
  · rintro ⟨j, ⟨h1, h2⟩, rfl⟩; exact ⟨j, h1, h2, rfl⟩
  · rintro ⟨j, h1, h2, rfl⟩; exact ⟨j, ⟨h1, h2⟩, rfl⟩

theorem keys_in (x i : Int) (h0 : 0 ≤ i) (h1 : i < 1064) : ∀ p, (ofF i).1 = p → (p ∈ keysOf x ↔ x = i) := by
  intro p hp
  unfold ofF at hp
  unfold keysOf
  rw [if_neg (by omega)] at hp
  by_cases a1 : i < 8
  · rw [if_pos a1] at hp; subst hp
    repeat' split
    all_goals simp
    all_goals omega
  · rw [if_neg a1] at hp
    by_cases a2 : i < 40
    · rw [if_pos a2] at hp; subst hp
      repeat' split
      all_goals simp
      all_goals omega
    · rw [if_neg a2, if_pos h1] at hp; subst hp
      repeat' split
      all_goals simp
      all_goals omega
theorem key_single (x : Int) : ((1, 0, -1) : K3) ∈ keysOf x ↔ 8 ≤ x ∧ x < 40 := by
  unfold keysOf; repeat' split
  all_goals simp
  all_goals omega
theorem key_double (x : Int) : ((2, -1, -1) : K3) ∈ keysOf x ↔ 40 ≤ x ∧ x < 1064 := by
  unfold keysOf; repeat' split
  all_goals simp
  all_goals omega
theorem key_leaf (x l : Int) (h : 0 ≤ l) : ((2, l, -1) : K3) ∈ keysOf x ↔ 40 ≤ x ∧ x < 1064 ∧ (x - 40) / 32 = l := by
  unfold keysOf; repeat' split
  all_goals simp
  all_goals omega

structure RefC (L : List Bool) (i : Nat) (n : Int) (s d : Bool) (lf : Int) : Prop where
  n : n = costL (upTo L i)
  s : s = true ↔ ∃ x ∈ upTo L i, 8 ≤ x ∧ x < 40
  d : d = true ↔ ∃ x ∈ upTo L i, 40 ≤ x
  lf1 : ∀ x ∈ upTo L i, 40 ≤ x → (x - 40) / 32 ≤ lf
  lf2 : lf = -1 ∨ (0 ≤ lf ∧ ∃ x ∈ upTo L i, 40 ≤ x ∧ (x - 40) / 32 = lf)
  i : i ≤ 1064
theorem RefC.start (L : List Bool) : RefC L 0 1 false false (-1) :=
  ⟨rfl, by simp [upTo], by simp [upTo], by simp [upTo], .inl rfl, by omega⟩
theorem RefC.no {L : List Bool} {i : Nat} {n : Int} {s d : Bool} {lf : Int} (h : RefC L i n s d lf) (hi : i < 1064) (hL : L.getD i false = false) : RefC L (i + 1) n s d lf := by
  have e := upTo_no L i hL
  exact ⟨by rw [e]; exact h.n, by rw [e]; exact h.s, by rw [e]; exact h.d, by rw [e]; exact h.lf1, by rw [e]; exact h.lf2, hi⟩
theorem upTo_lt {L : List Bool} {i : Nat} {x : Int} (h : x ∈ upTo L i) : 0 ≤ x ∧ x < i := by
  obtain ⟨j, hj, _, rfl⟩ := (upTo_mem L i x).1 h
  omega
theorem mem_keys {l : List Int} {p : K3} : p ∈ l.flatMap keysOf ↔ ∃ x ∈ l, p ∈ keysOf x := by simp [List.mem_flatMap]
theorem place_new {L : List Bool} {i : Nat} (hi : i < 1064) {p : K3} (hp : (ofF i).1 = p) : p ∉ (upTo L i).flatMap keysOf := by
  rw [mem_keys]
  rintro ⟨x, hx, h⟩
  have := (keys_in x i (by omega) (by omega) p hp).1 h
  have := upTo_lt hx
  omega
theorem RefC.low {L : List Bool} {i : Nat} {n : Int} {s d : Bool} {lf : Int} (h : RefC L i n s d lf) (hi : i < 8) (hL : L.getD i false = true) : RefC L (i + 1) (n + 1) s d lf := by
  have e := upTo_yes L i hL
  have hk : keysOf i = [(0, 0, (i : Int))] := by unfold keysOf; rw [if_neg (by omega), if_pos (by omega)]
  have hp : (ofF i).1 = (0, 0, (i : Int)) := by unfold ofF; rw [if_neg (by omega), if_pos (by omega)]
  refine ⟨?_, ?_, ?_, ?_, ?_, by omega⟩
  · rw [e, costL_one _ _ _ hk, if_neg (place_new (by omega) hp), h.n]
  · rw [e, h.s]; constructor
    · rintro ⟨x, hx, h⟩; exact ⟨x, by simp [hx], h⟩
    · rintro ⟨x, hx, h⟩; rcases List.mem_append.1 hx with hx | hx
      · exact ⟨x, hx, h⟩
      · simp at hx; omega
  · rw [e, h.d]; constructor
    · rintro ⟨x, hx, h⟩; exact ⟨x, by simp [hx], h⟩
    · rintro ⟨x, hx, h⟩; rcases List.mem_append.1 hx with hx | hx
      · exact ⟨x, hx, h⟩
      · simp at hx; omega
  · rw [e]; intro x hx h40; rcases List.mem_append.1 hx with hx | hx
    · exact h.lf1 x hx h40
    · simp at hx; omega
  · rw [e]; rcases h.lf2 with h | ⟨h0, x, hx, h⟩
    · exact .inl h
    · exact .inr ⟨h0, x, by simp [hx], h⟩
theorem RefC.mid {L : List Bool} {i : Nat} {n : Int} {s d : Bool} {lf : Int} (h : RefC L i n s d lf) (h8 : 8 ≤ i) (hi : i < 40) (hL : L.getD i false = true) : RefC L (i + 1) (n + 1 + if s = true then 0 else 1) true d lf := by
  have e := upTo_yes L i hL
  have hk : keysOf i = [(1, 0, (i : Int) - 8), (1, 0, -1)] := by unfold keysOf; rw [if_neg (by omega), if_neg (by omega), if_pos (by omega)]
  have hp : (ofF i).1 = (1, 0, (i : Int) - 8) := by unfold ofF; rw [if_neg (by omega), if_neg (by omega), if_pos (by omega)]
  have hs : ((1, 0, -1) : K3) ∈ (upTo L i).flatMap keysOf ↔ s = true := by
    rw [mem_keys, h.s]; simp only [key_single]
  refine ⟨?_, ?_, ?_, ?_, ?_, by omega⟩
  · rw [e, costL_two _ _ _ _ hk (by simp; omega), if_neg (place_new (by omega) hp), h.n]
    simp only [hs]
  · rw [e]; simp only [true_iff]; exact ⟨i, by simp, by omega⟩
  · rw [e, h.d]; constructor
    · rintro ⟨x, hx, h⟩; exact ⟨x, by simp [hx], h⟩
    · rintro ⟨x, hx, h⟩; rcases List.mem_append.1 hx with hx | hx
      · exact ⟨x, hx, h⟩
      · simp at hx; omega
  · rw [e]; intro x hx h40; rcases List.mem_append.1 hx with hx | hx
    · exact h.lf1 x hx h40
    · simp at hx; omega
  · rw [e]; rcases h.lf2 with h | ⟨h0, x, hx, h⟩
    · exact .inl h
    · exact .inr ⟨h0, x, by simp [hx], h⟩
theorem RefC.high {L : List Bool} {i : Nat} {n : Int} {s d : Bool} {lf : Int} (h : RefC L i n s d lf) (h8 : 40 ≤ i) (hi : i < 1064) (hL : L.getD i false = true) :
    RefC L (i + 1) (n + 1 + (if ((i : Int) - 40) / 32 = lf then 0 else 1) + if d = true then 0 else 1) s true (((i : Int) - 40) / 32) := by
  have e := upTo_yes L i hL
  have hk : keysOf i = [(2, ((i : Int) - 40) / 32, ((i : Int) - 40) % 32), (2, ((i : Int) - 40) / 32, -1), (2, -1, -1)] := by unfold keysOf; rw [if_neg (by omega), if_neg (by omega), if_neg (by omega), if_pos (by omega)]
  have hp : (ofF i).1 = (2, ((i : Int) - 40) / 32, ((i : Int) - 40) % 32) := by unfold ofF; rw [if_neg (by omega), if_neg (by omega), if_neg (by omega), if_pos (by omega)]
  have hd : ((2, -1, -1) : K3) ∈ (upTo L i).flatMap keysOf ↔ d = true := by
    rw [mem_keys, h.d]; simp only [key_double]
    constructor
    · rintro ⟨x, hx, h⟩; exact ⟨x, hx, h.1⟩
    · rintro ⟨x, hx, h⟩; have := upTo_lt hx; exact ⟨x, hx, h, by omega⟩
  have hl : ((2, ((i : Int) - 40) / 32, -1) : K3) ∈ (upTo L i).flatMap keysOf ↔ ((i : Int) - 40) / 32 = lf := by
    rw [mem_keys]; simp only [key_leaf _ (((i : Int) - 40) / 32) (by omega)]
    constructor
    · rintro ⟨x, hx, h1, h2, h3⟩
      have := h.lf1 x hx h1
      rcases h.lf2 with h' | ⟨h0, y, hy, h4, h5⟩
      · omega
      · have := upTo_lt hy; omega
    · intro he
      rcases h.lf2 with h' | ⟨h0, y, hy, h4, h5⟩
      · omega
      · have := upTo_lt hy; exact ⟨y, hy, h4, by omega, by omega⟩
  refine ⟨?_, ?_, ?_, ?_, ?_, by omega⟩
  · rw [e, costL_three _ _ _ _ _ hk (by simp; omega) (by simp; omega) (by simp; omega), if_neg (place_new (by omega) hp), h.n]
    simp only [hd, hl]
  · rw [e, h.s]; constructor
    · rintro ⟨x, hx, h⟩; exact ⟨x, by simp [hx], h⟩
    · rintro ⟨x, hx, h⟩; rcases List.mem_append.1 hx with hx | hx
      · exact ⟨x, hx, h⟩
      · simp at hx; omega
  · rw [e]; simp only [true_iff]; exact ⟨i, by simp, by omega⟩
  · rw [e]; intro x hx h40; rcases List.mem_append.1 hx with hx | hx
    · have := upTo_lt hx; omega
    · simp at hx; omega
  · rw [e]; exact .inr ⟨by omega, i, by simp, by omega, rfl⟩

/-- Which blocks stand among some. -/
def hasL (l : List Int) : List Bool := (List.range 1064).map fun (i : Nat) => decide ((i : Int) ∈ l)
theorem hasL_get (l : List Int) (i : Nat) (h : i < 1064) : (hasL l).getD i false = decide ((i : Int) ∈ l) := by
  unfold hasL; rw [List.getD_eq_getElem?_getD, List.getElem?_map, List.getElem?_range h]; rfl
theorem keys_none (x : Int) (h : x < 0 ∨ 1064 ≤ x) : keysOf x = [] := by
  unfold keysOf; repeat' split
  all_goals first | rfl | omega
theorem cost_has (l : List Int) : costL (upTo (hasL l) 1064) = costL l := by
  apply costL_same
  intro q
  rw [mem_keys, mem_keys]
  constructor
  · rintro ⟨x, hx, h⟩
    obtain ⟨j, hj, hg, rfl⟩ := (upTo_mem _ _ _).1 hx
    rw [hasL_get l j hj] at hg
    exact ⟨_, by simpa using hg, h⟩
  · rintro ⟨x, hx, h⟩
    by_cases hr : x < 0 ∨ 1064 ≤ x
    · rw [keys_none x hr] at h; cases h
    · refine ⟨x, (upTo_mem _ _ _).2 ⟨x.toNat, by omega, ?_, by omega⟩, h⟩
      rw [hasL_get l _ (by omega)]
      simp only [decide_eq_true_eq, Int.ofNat_toNat]
      have : max x 0 = x := by omega
      rw [this]; exact hx
end Go.Proofs.Ytfokjmlkhaehgaa
