/- What blocks that stand in a row cost: plain. -/
import Derived.Test.YtodlapkmcnmmhaaDoorTi
namespace Go.Proofs.YtodlapkmcnmmhaaDoor
open Go.RowKit
set_option linter.unusedSimpArgs false
set_option linter.unusedVariables false

theorem keys_in (x i : Int) (h0 : 0 ≤ i) (h1 : i < 1064) : ∀ p, (ofF i).1 = p → (p ∈ keysOf x ↔ x = i) := by
  intro p hp
  unfold ofF at hp
  unfold keysOf
  rw [if_neg (by omega)] at hp
  by_cases a1 : i < 8
  · rw [if_pos a1] at hp; subst hp
    repeat' split
    all_goals simp
    all_goals omega
  · rw [if_neg a1] at hp
    by_cases a2 : i < 40
    · rw [if_pos a2] at hp; subst hp
      repeat' split
      all_goals simp
      all_goals omega
    · rw [if_neg a2, if_pos h1] at hp; subst hp
      repeat' split
      all_goals simp
      all_goals omega
theorem mem_keys {l : List Int} {p : K3} : p ∈ l.flatMap keysOf ↔ ∃ x ∈ l, p ∈ keysOf x := by simp [List.mem_flatMap]
def conL (a m : Nat) : List Int := (List.range m).map (fun (i : Nat) => ((a + i : Nat) : Int))
theorem conL_len (a m : Nat) : (conL a m).length = m := by simp [conL]
theorem conL_mem {a m : Nat} {x : Int} : x ∈ conL a m ↔ ∃ i : Nat, i < m ∧ x = ((a + i : Nat) : Int) := by
  unfold conL
  rw [List.mem_map]
  constructor
  · rintro ⟨i, h1, h2⟩; exact ⟨i, List.mem_range.1 h1, h2.symm⟩
  · rintro ⟨i, h1, h2⟩; exact ⟨i, List.mem_range.2 h1, h2.symm⟩
def plcs (a m : Nat) : List K3 := (List.range m).map (fun (i : Nat) => (ofF ((a + i : Nat) : Int)).1)
theorem plcs_nodup {a m : Nat} (h : a + m ≤ 1064) : (plcs a m).Nodup := by
  unfold plcs List.Nodup
  rw [List.pairwise_map]
  refine List.Pairwise.imp_of_mem ?_ List.pairwise_lt_range
  intro i j hi hj hlt e
  have hi := List.mem_range.1 hi
  have hj := List.mem_range.1 hj
  have h1 := (keys_in ((a + i : Nat) : Int) ((a + i : Nat) : Int) (by omega) (by omega) _ rfl).2 rfl
  rw [e] at h1
  have := (keys_in ((a + i : Nat) : Int) ((a + j : Nat) : Int) (by omega) (by omega) _ rfl).1 h1
  omega
theorem cost_low {a m : Nat} (h : a + m ≤ 1064) : (m : Int) + 1 ≤ costL (conL a m) := by
  obtain ⟨ds, hn, hm, hc⟩ := nodup_of ((conL a m).flatMap keysOf)
  have : (plcs a m).length ≤ ds.length := nodup_le (plcs_nodup h) (fun q hq => by
    rw [hm, mem_keys]
    unfold plcs at hq
    rw [List.mem_map] at hq
    obtain ⟨i, hi, rfl⟩ := hq
    have hi := List.mem_range.1 hi
    exact ⟨_, conL_mem.2 ⟨i, hi, rfl⟩, (keys_in _ _ (by omega) (by omega) _ rfl).2 rfl⟩)
  have hl : (plcs a m).length = m := by simp [plcs]
  rw [costL_K, hc]
  omega
def extras (a m : Nat) : List K3 :=
  if a + m ≤ 40 then [(1, 0, -1)] else
  (if a < 40 then [(1, 0, -1)] else []) ++ (2, -1, -1) :: (List.range ((a + m - 41) / 32 - (max a 40 - 40) / 32 + 1)).map (fun (l : Nat) => ((2, (((max a 40 - 40) / 32 + l : Nat) : Int), -1) : K3))
theorem key_in {a m i : Nat} (h : a + m ≤ 1064) (hi : i < m) {q : K3} (hq : q ∈ keysOf ((a + i : Nat) : Int)) : q = (ofF ((a + i : Nat) : Int)).1 ∨ q ∈ extras a m := by
  unfold keysOf at hq
  rw [if_neg (by omega)] at hq
  unfold ofF
  rw [if_neg (by omega)]
  by_cases h1 : ((a + i : Nat) : Int) < 8
  · rw [if_pos h1] at hq ⊢
    simp only [List.mem_singleton] at hq
    exact .inl hq
  rw [if_neg h1] at hq ⊢
  by_cases h2 : ((a + i : Nat) : Int) < 40
  · rw [if_pos h2] at hq ⊢
    simp only [List.mem_cons, List.not_mem_nil, or_false] at hq
    rcases hq with hq | hq
    · exact .inl hq
    · right
      rw [hq]
      unfold extras
      split
      · exact List.mem_cons_self ..
      · rw [if_pos (by omega)]; simp
  rw [if_neg h2] at hq ⊢
  rw [if_pos (by omega)] at hq ⊢
  simp only [List.mem_cons, List.not_mem_nil, or_false] at hq
  rcases hq with hq | hq | hq
  · exact .inl hq
  · right
    rw [hq]
    unfold extras
    rw [if_neg (by omega)]
    refine List.mem_append_right _ (List.mem_cons_of_mem _ (List.mem_map.2 ⟨(a + i - 40) / 32 - (max a 40 - 40) / 32, List.mem_range.2 ?_, ?_⟩))
    · have : max a 40 = a ∨ max a 40 = 40 := by omega
      rcases this with e | e <;> rw [e] <;> omega
    · congr 2
      have : max a 40 = a ∨ max a 40 = 40 := by omega
      rcases this with e | e <;> rw [e] <;> omega
  · right
    rw [hq]
    unfold extras
    rw [if_neg (by omega)]
    exact List.mem_append_right _ (List.mem_cons_self ..)
theorem extras_len (a m : Nat) (h0 : 0 < m) : (extras a m).length ≤ 3 + m / 32 := by
  unfold extras
  by_cases h : a + m ≤ 40
  · rw [if_pos h]; simp; omega
  · rw [if_neg h]
    by_cases h2 : a < 40
    · rw [if_pos h2]
      have : max a 40 = 40 := by omega
      rw [this]
      simp
      omega
    · rw [if_neg h2]
      have : max a 40 = a := by omega
      rw [this]
      simp
      omega
theorem cost_high {a m : Nat} (h : a + m ≤ 1064) : costL (conL a m) ≤ (m : Int) + 3 + (m : Int) / 32 + 1 := by
  by_cases h0 : m = 0
  · subst h0
    show costL [] ≤ _
    have : costL [] = 1 := rfl
    omega
  obtain ⟨ds, hn, hm, hc⟩ := nodup_of ((conL a m).flatMap keysOf)
  have : ds.length ≤ (plcs a m ++ extras a m).length := nodup_le hn (fun q hq => by
    rw [hm, mem_keys] at hq
    obtain ⟨x, hx, hq⟩ := hq
    obtain ⟨i, hi, rfl⟩ := conL_mem.1 hx
    rcases key_in h hi hq with e | e
    · exact List.mem_append_left _ (List.mem_map.2 ⟨i, List.mem_range.2 hi, e.symm⟩)
    · exact List.mem_append_right _ e)
  have hl : (plcs a m).length = m := by simp [plcs]
  have he := extras_len a m (by omega)
  rw [List.length_append, hl] at this
  rw [costL_K, hc]
  omega
end Go.Proofs.YtodlapkmcnmmhaaDoor
