/- Law 22, sleeps: who sleeps till when, as a map; what Fork, Sleep and Tick make of it. -/
import Derived.Test.YtlojadpbdbhmiaaXj
import Derived.Maps.RangeWalk
import Derived.Maps.OwnSet
namespace Go.Proofs.Ytlojadpbdbhmiaa
open Go.RowKit
open Go.Maps (Keyed)
set_option linter.unusedSimpArgs false
set_option linter.unusedVariables false

/-- Till when a process sleeps. -/
def sl (ps : List PR) (x : Int) : Option Int := (ps.find? (fun p => p.pid == x && p.state == 2)).map (·.until_)
def Asc (ps : List PR) : Prop := (ps.map (·.pid)).Pairwise (· < ·)
theorem Asc.inj {ps : List PR} (h : Asc ps) {i j : Nat} {p q : PR} (hi : ps[i]? = some p) (hj : ps[j]? = some q) (e : p.pid = q.pid) : i = j := by
  have hil := (List.getElem?_eq_some_iff.1 hi).1
  have hjl := (List.getElem?_eq_some_iff.1 hj).1
  have hie := (List.getElem?_eq_some_iff.1 hi).2
  have hje := (List.getElem?_eq_some_iff.1 hj).2
  have hp := List.pairwise_iff_getElem.1 h
  rcases Nat.lt_trichotomy i j with hlt | rfl | hlt
  · have := hp i j (by simpa using hil) (by simpa using hjl) hlt
    simp only [List.getElem_map, hie, hje, e] at this
    omega
  · rfl
  · have := hp j i (by simpa using hjl) (by simpa using hil) hlt
    simp only [List.getElem_map, hie, hje, e] at this
    omega
theorem oneP_at {ps : List PR} (h : Asc ps) {k : Nat} {p : PR} (hk : ps[k]? = some p) : oneP ps p.pid = some k := by
  unfold oneP
  refine findP_hit hk (by simp) (fun j q hj hq => ?_)
  by_cases e : q.pid = p.pid
  · have := h.inj hq hk e; omega
  · simpa using e
theorem sl_some {ps : List PR} {x u : Int} (h : sl ps x = some u) : ∃ p ∈ ps, p.pid = x ∧ p.state = 2 ∧ p.until_ = u := by
  unfold sl at h
  rw [Option.map_eq_some_iff] at h
  obtain ⟨p, hp, e⟩ := h
  have h1 := List.mem_of_find?_eq_some hp
  have h2 := List.find?_some hp
  simp only [Bool.and_eq_true, beq_iff_eq] at h2
  exact ⟨p, h1, h2.1, h2.2, e⟩
theorem sl_one {ps : List PR} (ha : Asc ps) {x u : Int} (h : sl ps x = some u) : ∃ k p, oneP ps x = some k ∧ ps[k]? = some p ∧ p.pid = x ∧ p.state = 2 ∧ p.until_ = u := by
  obtain ⟨p, hp, e, h2, h3⟩ := sl_some h
  obtain ⟨k, hk⟩ := List.getElem?_of_mem hp
  exact ⟨k, p, by rw [← e]; exact oneP_at ha hk, hk, e, h2, h3⟩
theorem sl_of {ps : List PR} (ha : Asc ps) {k : Nat} {p : PR} (hk : ps[k]? = some p) (h2 : p.state = 2) : sl ps p.pid = some p.until_ := by
  unfold sl
  cases hf : ps.find? (fun q => q.pid == p.pid && q.state == 2) with
  | none =>
    rw [List.find?_eq_none] at hf
    exact absurd (by simp [h2]) (hf p (List.mem_of_getElem? hk))
  | some q =>
    have h1 := List.mem_of_find?_eq_some hf
    have h3 := List.find?_some hf
    simp only [Bool.and_eq_true, beq_iff_eq] at h3
    obtain ⟨j, hj⟩ := List.getElem?_of_mem h1
    have := ha.inj hj hk h3.1
    subst this
    rw [hj] at hk
    injection hk with hk
    rw [hk]; rfl
theorem sl_none {ps : List PR} {x : Int} (h : sl ps x = none) : ∀ p ∈ ps, p.pid = x → p.state ≠ 2 := by
  intro p hp e h2
  unfold sl at h
  rw [Option.map_eq_none_iff, List.find?_eq_none] at h
  exact h p hp (by simp [e, h2])
theorem sl_iff {ps : List PR} (ha : Asc ps) (x u : Int) : sl ps x = some u ↔ ∃ (k : Nat) (p : PR), ps[k]? = some p ∧ p.pid = x ∧ p.state = 2 ∧ p.until_ = u := by
  constructor
  · intro h
    obtain ⟨k, p, _, h1, h2, h3, h4⟩ := sl_one ha h
    exact ⟨k, p, h1, h2, h3, h4⟩
  · rintro ⟨k, p, h1, rfl, h3, rfl⟩
    exact sl_of ha h1 h3
theorem wakeOne_asc {ps : List PR} (h : Asc ps) (x : Int) : Asc (wakeOne ps x) := by unfold Asc; rw [wakeOne_pids]; exact h
theorem wakeAll_asc {ps : List PR} (h : Asc ps) (out : List Int) : Asc (wakeAll ps out) := by unfold Asc; rw [wakeAll_pids]; exact h
theorem sl_wakeOne {ps : List PR} (ha : Asc ps) (y x : Int) : sl (wakeOne ps y) x = if x = y then none else sl ps x := by
  cases hk : oneP ps y with
  | none =>
    have e : wakeOne ps y = ps := by unfold wakeOne; rw [hk]
    rw [e]
    by_cases hxy : x = y
    · rw [if_pos hxy]
      cases hs : sl ps x with
      | none => rfl
      | some u =>
        obtain ⟨k, p, h1, _⟩ := sl_one ha hs
        rw [hxy, hk] at h1
        cases h1
    · rw [if_neg hxy]
  | some k =>
    obtain ⟨p, hp, hpid, hlt⟩ := oneP_get hk
    have hgd : ps.getD k zeroR = p := by rw [List.getD_eq_getElem?_getD, hp]; rfl
    have e : wakeOne ps y = ps.set k (wakeR p) := by unfold wakeOne; rw [hk]; simp only [hgd]
    have hA := wakeOne_asc ha y
    rw [e] at hA ⊢
    by_cases hxy : x = y
    · rw [if_pos hxy]
      cases hs : sl (ps.set k (wakeR p)) x with
      | none => rfl
      | some u =>
        obtain ⟨j, q, h1, h2, h3⟩ := (sl_iff hA x u).1 hs
        have hself : (ps.set k (wakeR p))[k]? = some (wakeR p) := List.getElem?_set_self hlt
        have := hA.inj h1 hself (by rw [h2, wakeR_pid, hpid, hxy])
        subst this
        rw [hself] at h1
        injection h1 with h1
        rw [← h1] at h3
        exfalso
        have := h3.1
        unfold wakeR at this
        split at this
        · simp at this
        · rename_i hn; exact hn this
    · rw [if_neg hxy]
      apply Option.ext
      intro u
      rw [sl_iff hA, sl_iff ha]
      constructor
      · rintro ⟨j, q, h1, h2, h3⟩
        refine ⟨j, q, ?_, h2, h3⟩
        by_cases hjk : j = k
        · subst hjk
          rw [List.getElem?_set_self hlt] at h1
          injection h1 with h1
          exfalso
          rw [← h1, wakeR_pid, hpid] at h2
          exact hxy h2.symm
        · rw [List.getElem?_set_ne (fun e => hjk e.symm)] at h1
          exact h1
      · rintro ⟨j, q, h1, h2, h3⟩
        refine ⟨j, q, ?_, h2, h3⟩
        have hjk : j ≠ k := by
          rintro rfl
          rw [hp] at h1
          injection h1 with h1
          rw [← h1, hpid] at h2
          exact hxy h2.symm
        rw [List.getElem?_set_ne (fun e => hjk e.symm)]
        exact h1
theorem sl_wakeAll (out : List Int) : ∀ {ps : List PR}, Asc ps → ∀ x : Int, sl (wakeAll ps out) x = if x ∈ out then none else sl ps x := by
  induction out with
  | nil => intro ps _ x; simp [wakeAll]
  | cons y r ih =>
    intro ps ha x
    show sl (wakeAll (wakeOne ps y) r) x = _
    rw [ih (wakeOne_asc ha y) x, sl_wakeOne ha y x]
    by_cases h1 : x ∈ r
    · rw [if_pos h1, if_pos (List.mem_cons_of_mem _ h1)]
    · rw [if_neg h1]
      by_cases h2 : x = y
      · rw [if_pos h2, if_pos (by rw [h2]; exact List.mem_cons_self ..)]
      · rw [if_neg h2, if_neg (by simp [h1, h2])]
theorem whichP_asc {ps : List PR} (h : Asc ps) (f : PR → Bool) : (whichP f ps).Pairwise (· < ·) := by
  unfold whichP
  exact h.sublist (List.Sublist.map _ List.filter_sublist)
theorem due_mem {ps : List PR} (ha : Asc ps) {T x : Int} : x ∈ whichP (due T) ps ↔ ∃ u, sl ps x = some u ∧ u ≤ T := by
  unfold whichP
  rw [List.mem_map]
  constructor
  · rintro ⟨p, hp, rfl⟩
    rw [List.mem_filter] at hp
    obtain ⟨h1, h2⟩ := hp
    unfold due at h2
    simp only [Bool.and_eq_true, beq_iff_eq, decide_eq_true_eq] at h2
    obtain ⟨k, hk⟩ := List.getElem?_of_mem h1
    exact ⟨_, sl_of ha hk h2.1, h2.2⟩
  · rintro ⟨u, h1, h2⟩
    obtain ⟨p, hp, e, h3, h4⟩ := sl_some h1
    refine ⟨p, List.mem_filter.2 ⟨hp, ?_⟩, e⟩
    unfold due
    simp [h3, h4, h2]
end Go.Proofs.Ytlojadpbdbhmiaa
