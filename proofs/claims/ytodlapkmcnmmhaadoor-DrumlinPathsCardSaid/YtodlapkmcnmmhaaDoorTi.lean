/- What a file costs, in plain words: one, and one for each key that is there. -/
import Derived.Test.YtodlapkmcnmmhaaDoorTe
namespace Go.Proofs.YtodlapkmcnmmhaaDoor
set_option linter.unusedSimpArgs false
set_option linter.unusedVariables false

def foldK (ks : List K3) : List (K3 × Int) × Int := ks.foldl cstep ([], 1)
def costK (ks : List K3) : Int := (foldK ks).2
theorem foldK_snoc (ks : List K3) (p : K3) : foldK (ks ++ [p]) = cstep (foldK ks) p := by simp [foldK, List.foldl_append]
theorem costL_K (l : List Int) : costL l = costK (l.flatMap keysOf) := rfl

/-- Induction from the end. -/
theorem snocInd {α : Type} {P : List α → Prop} (h0 : P []) (hs : ∀ l x, P l → P (l ++ [x])) (l : List α) : P l := by
  have : ∀ (n : Nat) (l : List α), l.length = n → P l := by
    intro n
    induction n with
    | zero => intro l hl; rw [List.length_eq_zero_iff.1 hl]; exact h0
    | succ n ih =>
      intro l hl
      have hne : l ≠ [] := by rintro rfl; simp at hl
      rw [← List.dropLast_concat_getLast hne]
      exact hs _ _ (ih _ (by simp [hl]))
  exact this _ l rfl
theorem look_fold (ks : List K3) : ∀ q, look q (foldK ks).1 = (ks.count q : Int) := by
  refine snocInd (P := fun ks => ∀ q, look q (foldK ks).1 = (ks.count q : Int)) ?_ ?_ ks
  · intro q; rfl
  · intro ks p ih q
    rw [foldK_snoc, List.count_append]
    show look q (bump p (foldK ks).1) = _
    by_cases e : q = p
    · subst e
      rw [look_bump, ih]
      simp
    · rw [look_other e, ih]
      have : List.count q [p] = 0 := by rw [List.count_eq_zero]; simpa using e
      rw [this]; simp
theorem costK_snoc (ks : List K3) (p : K3) : costK (ks ++ [p]) = costK ks + if p ∈ ks then 0 else 1 := by
  unfold costK
  rw [foldK_snoc]
  show (if look p (foldK ks).1 = 0 then (foldK ks).2 + 1 else (foldK ks).2) = _
  rw [look_fold]
  by_cases h : p ∈ ks
  · have := List.count_pos_iff.2 h
    rw [if_pos h, if_neg (by omega)]; omega
  · have := List.count_eq_zero.2 h
    rw [if_neg h, if_pos (by omega)]
theorem costK_mem (ks : List K3) (p : K3) (h : p ∈ ks) : costK (ks ++ [p]) = costK ks := by rw [costK_snoc, if_pos h]; omega
theorem costK_new (ks : List K3) (p : K3) (h : p ∉ ks) : costK (ks ++ [p]) = costK ks + 1 := by rw [costK_snoc, if_neg h]
theorem costK_append_le (ks js : List K3) : costK ks ≤ costK (ks ++ js) ∧ costK (ks ++ js) ≤ costK ks + js.length := by
  refine snocInd (P := fun js => costK ks ≤ costK (ks ++ js) ∧ costK (ks ++ js) ≤ costK ks + js.length) ?_ ?_ js
  · simp
  · intro js p ih
    rw [← List.append_assoc, costK_snoc]
    simp only [List.length_append, List.length_cons, List.length_nil]
    split <;> omega
/-- A list of the same keys, each once. -/
theorem nodup_of (ks : List K3) : ∃ ds : List K3, ds.Nodup ∧ (∀ q, q ∈ ds ↔ q ∈ ks) ∧ costK ks = 1 + ds.length := by
  refine snocInd (P := fun ks => ∃ ds : List K3, ds.Nodup ∧ (∀ q, q ∈ ds ↔ q ∈ ks) ∧ costK ks = 1 + ds.length) ?_ ?_ ks
  · exact ⟨[], by simp, by simp, rfl⟩
  · rintro ks p ⟨ds, hn, hm, hc⟩
    by_cases h : p ∈ ks
    · exact ⟨ds, hn, fun q => by rw [hm]; simp; rintro rfl; exact h, by rw [costK_mem _ _ h, hc]⟩
    · refine ⟨p :: ds, List.nodup_cons.2 ⟨fun e => h ((hm p).1 e), hn⟩, fun q => ?_, by rw [costK_new _ _ h, hc]; simp; omega⟩
      simp [hm]; exact or_comm
theorem nodup_le {ds : List K3} : ∀ {es : List K3}, ds.Nodup → (∀ q, q ∈ ds → q ∈ es) → ds.length ≤ es.length := by
  induction ds with
  | nil => intro es _ _; simp
  | cons p r ih =>
    intro es hn hs
    obtain ⟨hp, hr⟩ := List.nodup_cons.1 hn
    have hmem := hs p (by simp)
    have := ih (es := es.erase p) hr (fun q hq => by
      rw [List.mem_erase_of_ne (fun e => hp (by rw [← e]; exact hq))]
      exact hs q (by simp [hq]))
    have hl := List.length_erase_of_mem hmem
    have : 0 < es.length := List.length_pos_of_mem hmem
    simp only [List.length_cons]
    omega
theorem costK_same {ks js : List K3} (h : ∀ q, q ∈ ks ↔ q ∈ js) : costK ks = costK js := by
  obtain ⟨ds, hn, hm, hc⟩ := nodup_of ks
  obtain ⟨es, hn', hm', hc'⟩ := nodup_of js
  have h1 := nodup_le hn (fun q hq => (hm' q).2 ((h q).1 ((hm q).1 hq)))
  have h2 := nodup_le hn' (fun q hq => (hm q).2 ((h q).2 ((hm' q).1 hq)))
  rw [hc, hc']; omega
theorem costL_same {l m : List Int} (h : ∀ q, q ∈ l.flatMap keysOf ↔ q ∈ m.flatMap keysOf) : costL l = costL m := costK_same h
theorem costL_append (l m : List Int) : costL l ≤ costL (l ++ m) := by
  rw [costL_K, costL_K, List.flatMap_append]; exact (costK_append_le _ _).1
theorem costL_snoc_le (l : List Int) (x : Int) : costL l ≤ costL (l ++ [x]) ∧ costL (l ++ [x]) ≤ costL l + 3 := by
  rw [costL_K, costL_K, List.flatMap_append]
  have h := costK_append_le (l.flatMap keysOf) (keysOf x)
  have := keys_len x
  simp only [List.flatMap_cons, List.flatMap_nil, List.append_nil]
  omega
theorem costL_twice (l : List Int) : costL (l ++ l) = costL l := costL_same (fun q => by simp [List.flatMap_append])
theorem costL_one (l : List Int) (x : Int) (p : K3) (h : keysOf x = [p]) : costL (l ++ [x]) = costL l + (if p ∈ l.flatMap keysOf then 0 else 1) := by
  rw [costL_K, costL_K, List.flatMap_append]
  simp only [List.flatMap_cons, List.flatMap_nil, List.append_nil, h]
  exact costK_snoc _ _
theorem costL_two (l : List Int) (x : Int) (p q : K3) (h : keysOf x = [p, q]) (hpq : p ≠ q) : costL (l ++ [x]) = costL l + (if p ∈ l.flatMap keysOf then 0 else 1) + (if q ∈ l.flatMap keysOf then 0 else 1) := by
  rw [costL_K, costL_K, List.flatMap_append]
  simp only [List.flatMap_cons, List.flatMap_nil, List.append_nil, h]
  rw [show ([p, q] : List K3) = [p] ++ [q] from rfl, ← List.append_assoc, costK_snoc, costK_snoc]
  have : (q ∈ l.flatMap keysOf ++ [p]) ↔ q ∈ l.flatMap keysOf := by simp [Ne.symm hpq]
  simp only [this]
theorem costL_three (l : List Int) (x : Int) (p q r : K3) (h : keysOf x = [p, q, r]) (hpq : p ≠ q) (hpr : p ≠ r) (hqr : q ≠ r) :
    costL (l ++ [x]) = costL l + (if p ∈ l.flatMap keysOf then 0 else 1) + (if q ∈ l.flatMap keysOf then 0 else 1) + (if r ∈ l.flatMap keysOf then 0 else 1) := by
  rw [costL_K, costL_K, List.flatMap_append]
  simp only [List.flatMap_cons, List.flatMap_nil, List.append_nil, h]
  rw [show ([p, q, r] : List K3) = [p] ++ [q] ++ [r] from rfl, ← List.append_assoc, ← List.append_assoc, costK_snoc, costK_snoc, costK_snoc]
  have h1 : (q ∈ l.flatMap keysOf ++ [p]) ↔ q ∈ l.flatMap keysOf := by simp [Ne.symm hpq]
  have h2 : (r ∈ l.flatMap keysOf ++ [p] ++ [q]) ↔ r ∈ l.flatMap keysOf := by simp [Ne.symm hpr, Ne.symm hqr]
  simp only [h1, h2]
end Go.Proofs.YtodlapkmcnmmhaaDoor
