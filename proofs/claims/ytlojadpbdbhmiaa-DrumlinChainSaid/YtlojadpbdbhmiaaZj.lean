/- Law 22: what an act makes of a table, and what holds of it; plain. -/
import Derived.Test.YtlojadpbdbhmiaaZg
import Derived.Test.YtlojadpbdbhmiaaZh
import Derived.Test.YtlojadpbdbhmiaaZi
import Derived.Test.YtlojadpbdbhmiaaZd
namespace Go.Proofs.Ytlojadpbdbhmiaa
open Go.RowKit
set_option linter.unusedSimpArgs false
set_option linter.unusedVariables false

/-- What holds of a table: pids rise; each process but the first has a parent that is there, and lives; .. -/
structure PT (ps : List PR) (last : Int) (N : Nat) : Prop where
  asc : Asc ps
  st : ∀ p ∈ ps, (p.state = 1 ∨ p.state = 2 ∨ p.state = 3) ∧ (p.state ≠ 2 → p.until_ = 0)
  one : ∃ p ∈ ps, p.pid = 1
  lo : ∀ p ∈ ps, 1 ≤ p.pid ∧ p.pid ≤ last
  live1 : ∀ p ∈ ps, p.pid = 1 → p.state ≠ 3
  up : ∀ p ∈ ps, p.pid ≠ 1 → (∃ q ∈ ps, q.pid = p.parent ∧ q.state ≠ 3) ∧ p.parent < p.pid ∧ ¬ (p.state = 3 ∧ p.parent = 1)
  len : ps.length ≤ N
section
variable {ps ps' : List PR} {last : Int} {N : Nat}
theorem PT.start (N : Nat) (hN : 1 ≤ N) : PT [initR] 1 N := by
  refine ⟨by simp [Asc], ?_, ⟨initR, by simp, rfl⟩, ?_, ?_, ?_, by simpa using hN⟩
  all_goals
    intro p hp
    rw [List.mem_singleton] at hp
    subst hp
    simp [initR]
theorem PT.pos (h : PT ps last N) : 0 < ps.length := by
  obtain ⟨p, hp, _⟩ := h.one
  exact List.length_pos_of_mem hp
theorem PT.first (h : PT ps last N) : ∃ p, ps[0]? = some p ∧ p.pid = 1 := by
  obtain ⟨p, hp, h1⟩ := h.one
  obtain ⟨k, hk⟩ := List.getElem?_of_mem hp
  have hkl := (List.getElem?_eq_some_iff.1 hk).1
  have h0 : ps[0]? = some ps[0] := List.getElem?_eq_getElem h.pos
  refine ⟨_, h0, ?_⟩
  rcases Nat.eq_zero_or_pos k with e | e
  · subst e
    rw [h0] at hk
    injection hk with hk
    rw [hk]; exact h1
  · have := List.pairwise_iff_getElem.1 h.asc 0 k (by simpa using h.pos) (by simpa using hkl) e
    simp only [List.getElem_map] at this
    have e2 : ps[k] = p := (List.getElem?_eq_some_iff.1 hk).2
    rw [e2, h1] at this
    have := (h.lo ps[0] (List.getElem_mem h.pos)).1
    omega
/-- Pids and parents stay, and who is a Zombie. -/
theorem PT.same (h : PT ps last N) (hl : ps'.length = ps.length) (hr : ∀ (k : Nat) (p : PR), ps[k]? = some p → ∃ q, ps'[k]? = some q ∧ q.pid = p.pid ∧ q.parent = p.parent ∧ (q.state = 3 ↔ p.state = 3) ∧ (q.state = 1 ∨ q.state = 2 ∨ q.state = 3) ∧ (q.state ≠ 2 → q.until_ = 0)) : PT ps' last N := by
  have hback : ∀ q ∈ ps', ∃ p ∈ ps, q.pid = p.pid ∧ q.parent = p.parent ∧ (q.state = 3 ↔ p.state = 3) ∧ (q.state = 1 ∨ q.state = 2 ∨ q.state = 3) ∧ (q.state ≠ 2 → q.until_ = 0) := by
    intro q hq
    obtain ⟨k, hk⟩ := List.getElem?_of_mem hq
    have hkl := (List.getElem?_eq_some_iff.1 hk).1
    have hp : ps[k]? = some ps[k] := List.getElem?_eq_getElem (by omega)
    obtain ⟨q', hq', r⟩ := hr k _ hp
    rw [hk] at hq'
    injection hq' with hq'
    subst hq'
    exact ⟨_, List.getElem_mem _, r⟩
  have hforw : ∀ p ∈ ps, ∃ q ∈ ps', q.pid = p.pid ∧ (q.state = 3 ↔ p.state = 3) := by
    intro p hp
    obtain ⟨k, hk⟩ := List.getElem?_of_mem hp
    obtain ⟨q, hq, r1, _, r3, _⟩ := hr k p hk
    exact ⟨q, List.mem_of_getElem? hq, r1, r3⟩
  have hpids : ps'.map (·.pid) = ps.map (·.pid) := by
    apply List.ext_getElem?
    intro k
    rw [List.getElem?_map, List.getElem?_map]
    by_cases hk : k < ps.length
    · obtain ⟨q, hq, r1, _⟩ := hr k _ (List.getElem?_eq_getElem hk)
      rw [hq, List.getElem?_eq_getElem hk]
      simp [r1]
    · rw [List.getElem?_eq_none (by omega), List.getElem?_eq_none (by omega)]
  refine ⟨by unfold Asc; rw [hpids]; exact h.asc, fun q hq => ?_, ?_, fun q hq => ?_, fun q hq e => ?_, fun q hq e => ?_, by rw [hl]; exact h.len⟩
  · obtain ⟨p, _, _, _, _, r4, r5⟩ := hback q hq
    exact ⟨r4, r5⟩
  · obtain ⟨p, hp, h1⟩ := h.one
    obtain ⟨q, hq, r1, _⟩ := hforw p hp
    exact ⟨q, hq, by rw [r1]; exact h1⟩
  · obtain ⟨p, hp, r1, _⟩ := hback q hq
    rw [r1]; exact h.lo p hp
  · obtain ⟨p, hp, r1, _, r3, _⟩ := hback q hq
    rw [r1] at e
    rw [Ne, r3]; exact h.live1 p hp e
  · obtain ⟨p, hp, r1, r2, r3, _⟩ := hback q hq
    rw [r1] at e
    obtain ⟨⟨u, hu, u1, u2⟩, h2, h3⟩ := h.up p hp e
    obtain ⟨u', hu', s1, s2⟩ := hforw u hu
    refine ⟨⟨u', hu', by rw [s1, u1, r2], by rw [Ne, s2]; exact u2⟩, by rw [r1, r2]; exact h2, ?_⟩
    rintro ⟨e1, e2⟩
    exact h3 ⟨r3.1 e1, by rw [← r2]; exact e2⟩
theorem PT.set (h : PT ps last N) {k : Nat} {p q : PR} (hk : ps[k]? = some p) (h1 : q.pid = p.pid) (h2 : q.parent = p.parent) (h3 : q.state = 3 ↔ p.state = 3) (h4 : q.state = 1 ∨ q.state = 2 ∨ q.state = 3) (h5 : q.state ≠ 2 → q.until_ = 0) : PT (ps.set k q) last N := by
  have hlt := (List.getElem?_eq_some_iff.1 hk).1
  refine h.same (by simp) (fun j r hj => ?_)
  by_cases e : k = j
  · subst e
    rw [hk] at hj
    injection hj with hj
    subst hj
    exact ⟨q, List.getElem?_set_self hlt, h1, h2, h3, h4, h5⟩
  · have hr := h.st r (List.mem_of_getElem? hj)
    exact ⟨r, by rw [List.getElem?_set_ne e]; exact hj, rfl, rfl, Iff.rfl, hr.1, hr.2⟩
theorem live_of {ps : List PR} {pid : Int} (h : liveP ps pid = 0) : ∃ (k : Nat) (p : PR), oneP ps pid = some k ∧ ps[k]? = some p ∧ p.pid = pid ∧ p.state ≠ 3 := by
  unfold liveP at h
  cases hk : oneP ps pid with
  | none => rw [hk] at h; simp at h
  | some k =>
    obtain ⟨p, hp, hpid, _⟩ := oneP_get hk
    refine ⟨k, p, rfl, hp, hpid, fun e => ?_⟩
    rw [hk] at h
    simp only at h
    rw [List.getD_eq_getElem?_getD, hp] at h
    simp [e] at h
theorem live_mk {ps : List PR} (ha : Asc ps) {k : Nat} {p : PR} (hk : ps[k]? = some p) : liveP ps p.pid = if p.state = 3 then 18 else 0 := by
  unfold liveP
  rw [oneP_at ha hk]
  simp only
  rw [List.getD_eq_getElem?_getD, hk]
  rfl
theorem PT.fork (h : PT ps last N) {most pid : Int} (hm : most = N) : PT (forkM ps most last pid).1 (forkM ps most last pid).2.1 N := by
  unfold forkM
  by_cases hl : liveP ps pid ≠ 0
  · rw [if_pos hl]; exact h
  · rw [if_neg hl]
    by_cases hf : (ps.length : Int) = most
    · rw [if_pos hf]; exact h
    · rw [if_neg hf]
      obtain ⟨k, p, hk, hp, hpid, hst⟩ := live_of (by omega : liveP ps pid = 0)
      have hpm := List.mem_of_getElem? hp
      have hplo := h.lo p hpm
      have hlen := h.len
      refine ⟨?_, fun q hq => ?_, ?_, fun q hq => ?_, fun q hq e => ?_, fun q hq e => ?_, by simp; omega⟩
      · unfold Asc
        rw [List.map_append, List.pairwise_append]
        refine ⟨h.asc, by simp, fun a ha b hb => ?_⟩
        obtain ⟨r, hr, rfl⟩ := List.mem_map.1 ha
        have := h.lo r hr
        simp at hb
        omega
      · rw [List.mem_append, List.mem_singleton] at hq
        rcases hq with hq | rfl
        · exact h.st q hq
        · simp
      · obtain ⟨q, hq, h1⟩ := h.one
        exact ⟨q, List.mem_append_left _ hq, h1⟩
      · rw [List.mem_append, List.mem_singleton] at hq
        rcases hq with hq | rfl
        · have := h.lo q hq; show _ ∧ q.pid ≤ last + 1; omega
        · show 1 ≤ last + 1 ∧ last + 1 ≤ last + 1; omega
      · rw [List.mem_append, List.mem_singleton] at hq
        rcases hq with hq | rfl
        · exact h.live1 q hq e
        · show (1 : Int) ≠ 3; omega
      · rw [List.mem_append, List.mem_singleton] at hq
        rcases hq with hq | rfl
        · obtain ⟨⟨u, hu, u1, u2⟩, h2, h3⟩ := h.up q hq e
          exact ⟨⟨u, List.mem_append_left _ hu, u1, u2⟩, h2, h3⟩
        · refine ⟨⟨p, List.mem_append_left _ hpm, hpid, hst⟩, ?_, ?_⟩
          · show pid < last + 1; omega
          · rintro ⟨e1, _⟩
            exact absurd e1 (by show (1 : Int) ≠ 3; omega)
theorem exL_mem {pid code : Int} {ps : List PR} {q : PR} : q ∈ exL pid code ps ↔ ∃ p ∈ ps, exq pid code p = q ∧ bad1 q = false := by
  unfold exL
  rw [List.mem_filter, List.mem_map]
  constructor
  · rintro ⟨⟨p, hp, e⟩, hb⟩
    exact ⟨p, hp, e, by simpa using hb⟩
  · rintro ⟨p, hp, e, hb⟩
    exact ⟨⟨p, hp, e⟩, by simpa using hb⟩
theorem exq_pid (pid code : Int) (p : PR) : (exq pid code p).pid = p.pid := by
  unfold exq adopt
  by_cases h : p.pid = pid
  · rw [if_pos h]
    split <;> simp [deadR, h]
  · rw [if_neg h]
    split <;> rfl
theorem exq_other {pid code : Int} {p : PR} (h : p.pid ≠ pid) : exq pid code p = adopt pid p := by unfold exq; rw [if_neg h]
theorem exq_self {pid code : Int} {p : PR} (h : p.pid = pid) : exq pid code p = adopt pid (deadR pid code p) := by unfold exq; rw [if_pos h]
theorem adopt_state (pid : Int) (p : PR) : (adopt pid p).state = p.state := by unfold adopt; split <;> rfl
theorem adopt_until (pid : Int) (p : PR) : (adopt pid p).until_ = p.until_ := by unfold adopt; split <;> rfl
theorem adopt_parent (pid : Int) (p : PR) : (adopt pid p).parent = if p.parent = pid then 1 else p.parent := by unfold adopt; split <;> simp_all
theorem exL_pids_sub (pid code : Int) (ps : List PR) : ((exL pid code ps).map (·.pid)).Sublist (ps.map (·.pid)) := by
  unfold exL
  have h1 : ((ps.map (exq pid code)).filter (fun p => !bad1 p)).Sublist (ps.map (exq pid code)) := List.filter_sublist
  have h2 := h1.map (·.pid)
  rw [List.map_map] at h2
  have e : ps.map ((·.pid) ∘ exq pid code) = ps.map (·.pid) := by
    apply List.map_congr_left
    intro p _
    exact exq_pid pid code p
  rw [e] at h2
  exact h2
theorem PT.exL (h : PT ps last N) {pid code : Int} (h1 : pid ≠ 1) (hl : liveP ps pid = 0) : PT (exL pid code ps) last N := by
  have hsub := exL_pids_sub pid code ps
  -- the other one stays, if he lives
  have hstay : ∀ u ∈ ps, u.state ≠ 3 → u.pid ≠ pid → ∃ u' ∈ Go.Proofs.Ytlojadpbdbhmiaa.exL pid code ps, u'.pid = u.pid ∧ u'.state ≠ 3 := by
    intro u hu hs hne
    refine ⟨exq pid code u, exL_mem.2 ⟨u, hu, rfl, ?_⟩, exq_pid _ _ _, ?_⟩
    · rw [exq_other hne]
      unfold bad1
      rw [adopt_state]
      simp [hs]
    · rw [exq_other hne, adopt_state]; exact hs
  refine ⟨h.asc.sublist hsub, fun q hq => ?_, ?_, fun q hq => ?_, fun q hq e => ?_, fun q hq e => ?_, ?_⟩
  · obtain ⟨p, hp, rfl, _⟩ := exL_mem.1 hq
    by_cases hpp : p.pid = pid
    · rw [exq_self hpp, adopt_state, adopt_until]
      exact ⟨.inr (.inr rfl), fun _ => rfl⟩
    · rw [exq_other hpp, adopt_state, adopt_until]
      exact h.st p hp
  · obtain ⟨p, hp, e⟩ := h.one
    obtain ⟨u', hu', e1, _⟩ := hstay p hp (h.live1 p hp e) (by rw [e]; exact fun e => h1 e.symm)
    exact ⟨u', hu', by rw [e1]; exact e⟩
  · obtain ⟨p, hp, rfl, _⟩ := exL_mem.1 hq
    rw [exq_pid]; exact h.lo p hp
  · obtain ⟨p, hp, rfl, _⟩ := exL_mem.1 hq
    rw [exq_pid] at e
    have hpp : p.pid ≠ pid := by rw [e]; exact fun e => h1 e.symm
    rw [exq_other hpp, adopt_state]
    exact h.live1 p hp e
  · obtain ⟨p, hp, rfl, hb⟩ := exL_mem.1 hq
    rw [exq_pid] at e
    obtain ⟨⟨u, hu, u1, u2⟩, h2, h3⟩ := h.up p hp e
    have hbad : ¬ ((exq pid code p).state = 3 ∧ (exq pid code p).parent = 1) := by
      rintro ⟨e1, e2⟩
      unfold bad1 at hb
      simp [e1, e2] at hb
    refine ⟨?_, ?_, hbad⟩
    · -- the parent
      have hpar : (exq pid code p).parent = if p.parent = pid then 1 else p.parent := by
        by_cases hpp : p.pid = pid
        · rw [exq_self hpp, adopt_parent]; rfl
        · rw [exq_other hpp, adopt_parent]
      rw [hpar]
      by_cases hc : p.parent = pid
      · rw [if_pos hc]
        obtain ⟨o, ho, oe⟩ := h.one
        obtain ⟨u', hu', e1, e2⟩ := hstay o ho (h.live1 o ho oe) (by rw [oe]; exact fun e => h1 e.symm)
        exact ⟨u', hu', by rw [e1, oe], e2⟩
      · rw [if_neg hc]
        obtain ⟨u', hu', e1, e2⟩ := hstay u hu u2 (by rw [u1]; exact hc)
        exact ⟨u', hu', by rw [e1, u1], e2⟩
    · rw [exq_pid]
      have hpar : (exq pid code p).parent = if p.parent = pid then 1 else p.parent := by
        by_cases hpp : p.pid = pid
        · rw [exq_self hpp, adopt_parent]; rfl
        · rw [exq_other hpp, adopt_parent]
      rw [hpar]
      have := h.lo p hp
      split
      · omega
      · exact h2
  · have := hsub.length_le
    simp only [List.length_map] at this
    have := h.len
    omega
theorem PT.erase (h : PT ps last N) {k : Nat} {z : PR} (hk : ps[k]? = some z) (hz : z.state = 3) : PT (ps.eraseIdx k) last N := by
  have hsub : (ps.eraseIdx k).Sublist ps := List.eraseIdx_sublist ..
  have hstay : ∀ u ∈ ps, u.state ≠ 3 → u ∈ ps.eraseIdx k := by
    intro u hu hs
    obtain ⟨j, hj⟩ := List.getElem?_of_mem hu
    rw [List.mem_eraseIdx_iff_getElem?]
    refine ⟨j, ?_, hj⟩
    rintro rfl
    rw [hk] at hj
    injection hj with hj
    exact hs (hj ▸ hz)
  refine ⟨h.asc.sublist (hsub.map _), fun q hq => h.st q (hsub.subset hq), ?_, fun q hq => h.lo q (hsub.subset hq), fun q hq e => h.live1 q (hsub.subset hq) e, fun q hq e => ?_, Nat.le_trans hsub.length_le h.len⟩
  · obtain ⟨p, hp, e⟩ := h.one
    exact ⟨p, hstay p hp (h.live1 p hp e), e⟩
  · obtain ⟨⟨u, hu, u1, u2⟩, h2, h3⟩ := h.up q (hsub.subset hq) e
    exact ⟨⟨u, hstay u hu u2, u1, u2⟩, h2, h3⟩
theorem exit_is (ha : Asc ps) (pid code : Int) : exitR ps pid code = exitM ps pid code := by
  unfold exitR exitM
  by_cases hl : liveP ps pid ≠ 0
  · have e : otherP ps pid = liveP ps pid := by unfold otherP; rw [if_pos hl]
    rw [if_pos hl, e, if_pos hl]
  · rw [if_neg hl]
    by_cases h1 : pid = 1
    · have e : otherP ps pid = 1 := by unfold otherP; rw [if_neg hl, if_pos h1]
      rw [if_pos h1, e, if_pos (by omega)]
    · have e : otherP ps pid = 0 := by unfold otherP; rw [if_neg hl, if_neg h1]
      rw [if_neg h1, e, if_neg (by simp)]
      obtain ⟨k, p, hk, hp, hpid, hst⟩ := live_of (by omega : liveP ps pid = 0)
      have hlt := (List.getElem?_eq_some_iff.1 hp).1
      rw [hk]
      simp only
      rw [List.getD_eq_getElem?_getD, hp]
      unfold Go.Proofs.Ytlojadpbdbhmiaa.exL
      congr 2
      apply List.ext_getElem?
      intro j
      rw [List.getElem?_map, List.getElem?_map]
      by_cases e : k = j
      · subst e
        rw [hp, List.getElem?_set_self hlt]
        simp [exq_self hpid]
      · rw [List.getElem?_set_ne e]
        cases hj : ps[j]? with
        | none => rfl
        | some q =>
          have hne : q.pid ≠ pid := fun e2 => e (ha.inj hp hj (by rw [hpid, e2]))
          simp [exq_other hne]
theorem kill_is (h : PT ps last N) (pid : Int) : killR ps pid = killM ps pid := by
  unfold killR killM
  by_cases hl : liveP ps pid ≠ 0
  · have e : otherP ps pid = liveP ps pid := by unfold otherP; rw [if_pos hl]
    rw [if_pos hl, e, if_pos hl]
  · rw [if_neg hl]
    by_cases h1 : pid = 1
    · have e : otherP ps pid = 1 := by unfold otherP; rw [if_neg hl, if_pos h1]
      rw [if_pos h1, e, if_pos (by omega)]
    · have e : otherP ps pid = 0 := by unfold otherP; rw [if_neg hl, if_neg h1]
      rw [if_neg h1, e, if_neg (by simp)]
      obtain ⟨k, p, hk, hp, hpid, hst⟩ := live_of (by omega : liveP ps pid = 0)
      rw [hk]
      simp only
      rw [List.getD_eq_getElem?_getD, hp]
      have hs := h.st p (List.mem_of_getElem? hp)
      congr 2
      show ({ p with killed := true, state := 1, until_ := 0 } : PR) = wakeR { p with killed := true }
      unfold wakeR
      by_cases h2 : p.state = 2
      · rw [if_pos h2]
      · rw [if_neg h2]
        have hu := hs.2 h2
        have hs1 : p.state = 1 := by omega
        obtain ⟨a, b, c, d, e, f⟩ := p
        simp only at hu hs1
        rw [hu, hs1]
theorem PT.exit (h : PT ps last N) (pid code : Int) : PT (exitM ps pid code).1 last N := by
  rw [← exit_is h.asc]
  unfold exitR
  by_cases hl : liveP ps pid ≠ 0
  · rw [if_pos hl]; exact h
  · rw [if_neg hl]
    by_cases h1 : pid = 1
    · rw [if_pos h1]; exact h
    · rw [if_neg h1]; exact h.exL h1 (by omega)
theorem PT.kill (h : PT ps last N) (pid : Int) : PT (killM ps pid).1 last N := by
  rw [← kill_is h]
  unfold killR
  by_cases hl : liveP ps pid ≠ 0
  · rw [if_pos hl]; exact h
  · rw [if_neg hl]
    by_cases h1 : pid = 1
    · rw [if_pos h1]; exact h
    · rw [if_neg h1]
      obtain ⟨k, p, hk, hp, hpid, hst⟩ := live_of (by omega : liveP ps pid = 0)
      rw [hk]
      simp only
      rw [List.getD_eq_getElem?_getD, hp]
      exact h.set hp rfl rfl ⟨fun e => absurd e (by show (1 : Int) ≠ 3; omega), fun e => absurd e hst⟩ (.inl rfl) (fun _ => rfl)
theorem PT.sleep (h : PT ps last N) (now pid ticks : Int) : PT (sleepM ps now pid ticks).1 last N := by
  unfold sleepM
  by_cases hl : liveP ps pid ≠ 0
  · rw [if_pos hl]; exact h
  · rw [if_neg hl]
    obtain ⟨k, p, hk, hp, hpid, hst⟩ := live_of (by omega : liveP ps pid = 0)
    rw [hk]
    simp only
    rw [List.getD_eq_getElem?_getD, hp]
    simp only [Option.getD_some]
    split
    · exact h
    · split
      · exact h.set hp rfl rfl ⟨fun e => absurd e (by show (2 : Int) ≠ 3; omega), fun e => absurd e hst⟩ (.inr (.inl rfl)) (fun e => absurd rfl e)
      · exact h
theorem PT.tick (h : PT ps last N) (T : Int) : PT (wakeAll ps (whichP (due T) ps)) last N := by
  rw [wake_tk h.asc]
  refine h.same (by simp) (fun k p hk => ⟨tkR T p, by rw [List.getElem?_map, hk]; rfl, tkR_pid T p, ?_, ?_, ?_, ?_⟩)
  all_goals
    have hs := h.st p (List.mem_of_getElem? hk)
    unfold tkR
    by_cases hd : due T p = true
    · have h2 : p.state = 2 := by
        unfold due at hd
        simp only [Bool.and_eq_true, beq_iff_eq] at hd
        exact hd.1
      simp [hd, h2]
    · rw [if_neg hd] <;> first
        | exact Iff.rfl
        | exact hs.1
        | exact hs.2
theorem PT.wait (h : PT ps last N) (pid : Int) : PT (waitM ps pid).1 last N := by
  unfold waitM
  by_cases hl : liveP ps pid ≠ 0
  · rw [if_pos hl]; exact h
  · rw [if_neg hl]
    split
    · exact h
    · cases hf : ps.findIdx? (gone pid) with
      | none => exact h
      | some k =>
        obtain ⟨z, hz, hg, _⟩ := findP_get hf
        unfold gone at hg
        simp only [Bool.and_eq_true, beq_iff_eq] at hg
        exact h.erase hz hg.2
end
structure ActP where
  kind : Int
  pid : Int
  n : Int
/-- What an act makes of a table, and what it answers. -/
def doM (ps : List PR) (most last now : Int) (a : ActP) : (List PR × Int × Int) × List Int :=
  if a.kind = 0 then ((((forkM ps most last a.pid).1, (forkM ps most last a.pid).2.1, now)), [(forkM ps most last a.pid).2.2.1, (forkM ps most last a.pid).2.2.2])
  else if a.kind = 1 then (((exitM ps a.pid a.n).1, last, now), [(exitM ps a.pid a.n).2])
  else if a.kind = 2 then (((waitM ps a.pid).1, last, now), [(waitM ps a.pid).2.1, (waitM ps a.pid).2.2.1, (waitM ps a.pid).2.2.2])
  else if a.kind = 3 then (((killM ps a.pid).1, last, now), [(killM ps a.pid).2])
  else if a.kind = 4 then (((sleepM ps now a.pid a.n).1, last, now), [(sleepM ps now a.pid a.n).2])
  else ((wakeAll ps (whichP (due (tickN now a.n)) ps), last, tickN now a.n), whichP (due (tickN now a.n)) ps)
theorem doM_last {ps : List PR} {most last now : Int} {a : ActP} : last ≤ (doM ps most last now a).1.2.1 ∧ (doM ps most last now a).1.2.1 ≤ last + 1 := by
  unfold doM
  split
  · simp only
    unfold forkM
    split
    · simp only; omega
    · split <;> simp only <;> omega
  all_goals (repeat' split) <;> simp only <;> omega
theorem tickN_bd {now n : Int} (h0 : 0 ≤ now) (h1 : now ≤ longest) : 0 ≤ tickN now n ∧ tickN now n ≤ longest := by unfold tickN; unfold longest at *; omega
theorem doM_now {ps : List PR} {most last now : Int} {a : ActP} (h0 : 0 ≤ now) (h1 : now ≤ longest) : 0 ≤ (doM ps most last now a).1.2.2 ∧ (doM ps most last now a).1.2.2 ≤ longest := by
  unfold doM
  have := tickN_bd (n := a.n) h0 h1
  (repeat' split) <;> simp only <;> omega
theorem PT.act {ps : List PR} {last : Int} {N : Nat} (h : PT ps last N) {most now : Int} (hm : most = N) (a : ActP) : PT (doM ps most last now a).1.1 (doM ps most last now a).1.2.1 N := by
  unfold doM
  split
  · exact h.fork hm
  split
  · exact h.exit _ _
  split
  · exact h.wait _
  split
  · exact h.kill _
  split
  · exact h.sleep _ _ _
  · exact h.tick _
end Go.Proofs.Ytlojadpbdbhmiaa
