/- Paths, plain: the text of a path that was read is read as that path. -/
import Derived.Test.YtodlapkmcnmmhaaDoorMa
namespace Go.Proofs.YtodlapkmcnmmhaaDoor
set_option linter.unusedSimpArgs false
set_option linter.unusedVariables false

theorem parse_inv {l : Bs} {p : PathM} (h : parseM l = (p, 0)) : (0 : UInt8) ∉ l ∧ l ≠ [] ∧ l.length ≤ 255 ∧ ∃ st, steps (sp l) ⟨[], []⟩ = some st ∧
    p = ⟨decide (l.head? = some 47), decide (l.getLast? = some 47) || decide (st.last = [46]) || decide (st.last = [46, 46]), st.parts⟩ := by
  unfold parseM at h
  by_cases h0 : (0 : UInt8) ∈ l
  · rw [if_pos h0] at h; injection h with _ h; cases h
  by_cases h1 : l = []
  · rw [if_neg h0, if_pos h1] at h; injection h with _ h; cases h
  by_cases h2 : 255 < l.length
  · rw [if_neg h0, if_neg h1, if_pos h2] at h; injection h with _ h; cases h
  rw [if_neg h0, if_neg h1, if_neg h2] at h
  cases hs : steps (sp l) ⟨[], []⟩ with
  | none => rw [hs] at h; injection h with _ h; cases h
  | some st =>
    rw [hs] at h
    injection h with h _
    exact ⟨h0, h1, by omega, st, rfl, h.symm⟩
theorem parse_mk {l : Bs} {st : St} (h0 : (0 : UInt8) ∉ l) (h1 : l ≠ []) (h2 : l.length ≤ 255) (hs : steps (sp l) ⟨[], []⟩ = some st) :
    parseM l = (⟨decide (l.head? = some 47), decide (l.getLast? = some 47) || decide (st.last = [46]) || decide (st.last = [46, 46]), st.parts⟩, 0) := by
  unfold parseM
  rw [if_neg h0, if_neg h1, if_neg (by omega), hs]
/-- What is known of a path that was read. -/
structure OkP (p : PathM) : Prop where
  good : ∀ x ∈ p.parts, GoodPart x
  len : p.parts.length ≤ 32
  none : p.parts = [] → p.dir = true
  up : p.parts.getLast? = some [46, 46] → p.dir = true
  text : (textM p).length ≤ 255
theorem head_sp {l : Bs} (h : l ≠ []) : l.head? = some 47 ∨ ∃ x t, sp l = x :: t ∧ x ≠ [] := by
  cases l with
  | nil => exact absurd rfl h
  | cons b r =>
    by_cases hb : b = 47
    · exact .inl (by rw [hb]; rfl)
    · obtain ⟨y, t, e⟩ := List.exists_cons_of_ne_nil (sp_ne r)
      exact .inr ⟨b :: y, t, sp_other r hb e, by simp⟩
theorem sp_slash_iff {l : Bs} (h : l.head? = some 47) : ∃ r, l = 47 :: r ∧ sp l = [] :: sp r := by
  cases l with
  | nil => cases h
  | cons b r =>
    simp at h
    subst h
    exact ⟨r, rfl, sp_slash r⟩
theorem sp_end_iff {l : Bs} (h : l.getLast? = some 47) : ∃ r, l = r ++ [47] ∧ sp l = sp r ++ [[]] := by
  obtain ⟨r, e⟩ : ∃ r, l = r ++ [47] := by
    rw [List.getLast?_eq_some_iff] at h
    exact h
  exact ⟨r, e, by rw [e, sp_end]⟩
theorem all_nil_slash : ∀ (l : Bs), l ≠ [] → (∀ x ∈ sp l, x = []) → l.getLast? = some 47
  | [], h, _ => absurd rfl h
  | b :: r, _, h => by
    by_cases hb : b = 47
    · subst hb
      rw [sp_slash] at h
      cases r with
      | nil => rfl
      | cons c r =>
        rw [List.getLast?_cons_cons]
        exact all_nil_slash (c :: r) (by simp) (fun x hx => h x (List.mem_cons_of_mem _ hx))
    · obtain ⟨y, t, e⟩ := List.exists_cons_of_ne_nil (sp_ne r)
      rw [sp_other r hb e] at h
      have := h _ (List.mem_cons_self ..)
      cases this
theorem ex_cons (x : Bs) (X : List Bs) : exL (x :: X) = exL [x] + exL X := by
  unfold exL
  rw [List.countP_cons, List.countP_cons, List.countP_cons, List.countP_cons]
  simp
  omega
theorem ex_app (X Y : List Bs) : exL (X ++ Y) = exL X + exL Y := by
  unfold exL; rw [List.countP_append, List.countP_append]; omega
theorem ex_nil : exL [[]] = 1 := rfl
theorem ex_dot {X : List Bs} (h : [46] ∈ X) : 2 ≤ exL X := by
  unfold exL
  have : 0 < X.countP (· = [46]) := List.countP_pos_iff.2 ⟨[46], h, by simp⟩
  omega
theorem ok_of_parse {l : Bs} {p : PathM} (h : parseM l = (p, 0)) : OkP p := by
  obtain ⟨h0, h1, h2, st, hs, rfl⟩ := parse_inv h
  have L := steps_left _ _ _ hs
  have hg := L.good (by simp) (fun x hx => ⟨(sp_mem l x hx).1, fun hz => h0 ((sp_mem l x hx).2 _ hz)⟩)
  have hlast := L.last (.inr rfl)
  have hnone : st.parts = [] → l.getLast? = some 47 ∨ st.last = [46] := fun hn => by
    obtain ⟨_, hall, hl0⟩ := L.nil hn
    rcases hlast with h | h
    · exact .inr h
    · rw [hn] at h
      exact .inl (all_nil_slash l h1 (hl0 h).2)
  have hdir : ∀ b : Bool, (l.getLast? = some 47 ∨ st.last = [46] ∨ st.last = [46, 46]) → (decide (l.getLast? = some 47) || decide (st.last = [46]) || decide (st.last = [46, 46])) = true := fun _ h => by
    rcases h with h | h | h <;> simp [h]
  refine ⟨hg, L.len (by simp), fun hn => hdir true (by rcases hnone hn with h | h; exact .inl h; exact .inr (.inl h)), fun hu => hdir true ?_, ?_⟩
  · rcases hlast with h | h
    · exact .inr (.inl h)
    · rw [h, hu]; exact .inr (.inr rfl)
  · unfold textM
    by_cases hn : st.parts = []
    · simp only [hn]
      by_cases ha : l.head? = some 47
      · simp [ha, joinM]
      · simp [ha]
    · rw [if_neg (fun e => hn e.1)]
      have hj := join_sum st.parts hn
      have hsum := L.sum
      rw [sp_sum] at hsum
      have e0 : sumL ([] : List Bs) = 0 := rfl
      have hsum : l.length + 1 + sumL ([] : List Bs) = sumL st.parts + exL (sp l) := hsum
      rw [e0] at hsum
      simp only [List.length_append]
      obtain ⟨y, Y, hy⟩ := List.exists_cons_of_ne_nil hn
      have hsl : l.getLast? = some 47 → 1 ≤ exL (sp l) ∧ (l.head? = some 47 → 2 ≤ exL (sp l)) := fun he => by
        obtain ⟨r, e, er⟩ := sp_end_iff he
        refine ⟨by rw [er, ex_app, ex_nil]; omega, fun hh => ?_⟩
        obtain ⟨r2, e2, er2⟩ := sp_slash_iff hh
        cases r with
        | nil =>
          rw [List.nil_append] at e
          subst e
          have : steps (sp [47]) ⟨[], []⟩ = some ⟨[], []⟩ := by simp [sp, steps, step]
          rw [this] at hs
          injection hs with hs
          rw [← hs] at hn
          exact absurd rfl hn
        | cons b r =>
          rw [e] at hh
          simp at hh
          subst hh
          rw [er, sp_slash, List.cons_append, ex_cons, ex_app, ex_nil]
          omega
      have hhd : l.head? = some 47 → 1 ≤ exL (sp l) := fun hh => by
        obtain ⟨r2, e2, er2⟩ := sp_slash_iff hh
        rw [er2, ex_cons, ex_nil]; omega
      have hdot : st.last = [46] → 2 ≤ exL (sp l) := fun hd => by
        rcases L.dot hd with h | h
        · cases h
        · exact ex_dot h
      by_cases ha : l.head? = some 47
      · have a1 := hhd ha
        by_cases hd : st.parts ≠ [] ∧ (decide (l.getLast? = some 47) || decide (st.last = [46]) || decide (st.last = [46, 46])) = true ∧ st.parts.getLast? ≠ some [46, 46]
        · rw [if_pos hd]
          obtain ⟨_, hd1, hd2⟩ := hd
          simp only [Bool.or_eq_true, decide_eq_true_eq] at hd1
          have : 2 ≤ exL (sp l) := by
            rcases hd1 with (h | h) | h
            · exact (hsl h).2 ha
            · exact hdot h
            · rcases hlast with h3 | h3
              · exact hdot h3
              · exfalso
                apply hd2
                rw [h] at h3
                cases hq : st.parts.getLast? with
                | none => rw [hq] at h3; cases h3
                | some z => rw [hq] at h3; simp at h3; rw [← h3]
          simp [ha]
          omega
        · rw [if_neg hd]
          simp [ha]
          omega
      · by_cases hd : st.parts ≠ [] ∧ (decide (l.getLast? = some 47) || decide (st.last = [46]) || decide (st.last = [46, 46])) = true ∧ st.parts.getLast? ≠ some [46, 46]
        · rw [if_pos hd]
          obtain ⟨_, hd1, hd2⟩ := hd
          simp only [Bool.or_eq_true, decide_eq_true_eq] at hd1
          have : 1 ≤ exL (sp l) := by
            rcases hd1 with (h | h) | h
            · exact (hsl h).1
            · have := hdot h; omega
            · rcases hlast with h3 | h3
              · have := hdot h3; omega
              · exfalso
                apply hd2
                rw [h] at h3
                cases hq : st.parts.getLast? with
                | none => rw [hq] at h3; cases h3
                | some z => rw [hq] at h3; simp at h3; rw [← h3]
          simp [ha]
          omega
        · rw [if_neg hd]
          simp [ha]
          omega
theorem join_head : ∀ (X : List Bs), X ≠ [] → (∀ x ∈ X, GoodPart x) → (joinM X).head? ≠ some 47 ∧ joinM X ≠ []
  | [], h, _ => absurd rfl h
  | [x], _, h => by
    have g := h x (List.mem_cons_self ..)
    obtain ⟨b, y, e⟩ := List.exists_cons_of_ne_nil g.ne
    subst e
    exact ⟨fun e => g.sl (by simp [joinM] at e; rw [e]; exact List.mem_cons_self ..), by simp [joinM]⟩
  | x :: y :: r, _, h => by
    have g := h x (List.mem_cons_self ..)
    obtain ⟨b, z, e⟩ := List.exists_cons_of_ne_nil g.ne
    subst e
    exact ⟨fun e => g.sl (by simp [joinM] at e; rw [e]; exact List.mem_cons_self ..), by simp [joinM]⟩
theorem join_last : ∀ (X : List Bs), X ≠ [] → (∀ x ∈ X, GoodPart x) → (joinM X).getLast? ≠ some 47
  | [], h, _ => absurd rfl h
  | [x], _, h => fun e => (h x (List.mem_cons_self ..)).sl (by simp [joinM] at e; exact List.mem_of_getLast? e)
  | x :: y :: r, _, h => fun e => by
    rw [joinM] at e
    have g := join_last (y :: r) (by simp) (fun z hz => h z (List.mem_cons_of_mem _ hz))
    have hne := (join_head (y :: r) (by simp) (fun z hz => h z (List.mem_cons_of_mem _ hz))).2
    obtain ⟨b, t, e2⟩ := List.exists_cons_of_ne_nil hne
    rw [List.getLast?_append] at e
    rw [e2] at e g
    rw [List.getLast?_cons_cons] at e
    cases hq : (b :: t).getLast? with
    | none => simp at hq
    | some z => rw [hq] at e g; simp at e g; exact g e
theorem join_zero : ∀ (X : List Bs), (∀ x ∈ X, GoodPart x) → (0 : UInt8) ∉ joinM X
  | [], _ => by simp [joinM]
  | [x], h => by simpa [joinM] using (h x (List.mem_cons_self ..)).z
  | x :: y :: r, h => by
    have g := (h x (List.mem_cons_self ..)).z
    have g2 := join_zero (y :: r) (fun z hz => h z (List.mem_cons_of_mem _ hz))
    rw [joinM, List.mem_append, List.mem_cons]
    rintro (e | e | e)
    · exact g e
    · exact absurd e (by decide)
    · exact g2 e
/-- A text is read back. -/
theorem text_parse {p : PathM} (o : OkP p) : parseM (textM p) = (p, 0) := by
  obtain ⟨a, d, P⟩ := p
  have og := o.good
  have ol := o.len
  have on := o.none
  have ou := o.up
  have ot := o.text
  simp only at og ol on ou
  by_cases hP : P = []
  · subst hP
    have hd := on rfl
    subst hd
    cases a
    · rfl
    · rfl
  · have hj := join_head P hP og
    have hjl := join_last P hP og
    have hjz := join_zero P og
    have hsp := sp_join P hP (fun x hx => (og x hx).sl)
    have hst : ∀ X Y : List Bs, (X = [] ∨ X = [[]]) → (Y = [] ∨ Y = [[]]) → steps (X ++ P ++ Y) ⟨[], []⟩ = some ⟨P.getLast?.getD [], P⟩ := fun X Y hX hY => by
      have h1 : steps X ⟨[], []⟩ = some ⟨[], []⟩ := by rcases hX with rfl | rfl <;> simp [steps, step]
      have h2 : ∀ st : St, steps Y st = some st := fun st => by rcases hY with rfl | rfl <;> simp [steps, step]
      rw [List.append_assoc, steps_app, h1]
      show steps (P ++ Y) ⟨[], []⟩ = _
      rw [steps_app, steps_good P _ og (by simpa using ol)]
      show steps Y _ = _
      rw [h2]
      simp
    obtain ⟨y, hy⟩ : ∃ y, P.getLast? = some y := by
      cases hq : P.getLast? with
      | none => rw [List.getLast?_eq_none_iff] at hq; exact absurd hq hP
      | some y => exact ⟨y, rfl⟩
    have hyg := og y (List.mem_of_getLast? hy)
    rw [hy] at hst
    simp only [Option.getD_some] at hst
    have ht : textM ⟨a, d, P⟩ = (if a = true then [47] else []) ++ joinM P ++ (if d = true ∧ y ≠ [46, 46] then [47] else []) := by
      unfold textM
      rw [if_neg (fun e => hP e.1)]
      simp only [hy]
      congr 1
      by_cases hc : d = true ∧ y ≠ [46, 46]
      · rw [if_pos hc, if_pos ⟨hP, hc.1, fun e => hc.2 (by injection e)⟩]
      · rw [if_neg hc, if_neg (fun e => hc ⟨e.2.1, fun e2 => e.2.2 (by rw [e2])⟩)]
    rw [ht] at ot ⊢
    have hgl : ∀ X : Bs, (X ++ [47]).getLast? = some 47 := fun X => by simp
    have hdd : ¬ (d = true ∧ y ≠ [46, 46]) → d = decide (y = [46, 46]) := fun hc => by
      by_cases hyu : y = [46, 46]
      · subst hyu; rw [ou hy]; simp
      · cases d
        · simp [hyu]
        · exact absurd ⟨rfl, hyu⟩ hc
    by_cases hc : d = true ∧ y ≠ [46, 46]
    · rw [if_pos hc] at ot ⊢
      cases a
      · rw [if_neg (by simp)] at ot ⊢
        rw [List.nil_append] at ot ⊢
        rw [parse_mk (l := joinM P ++ [47]) (st := ⟨y, P⟩) (by simp [hjz]) (by simp) ot (by rw [sp_end, hsp]; exact hst [] [[]] (.inl rfl) (.inr rfl))]
        have hh : (joinM P ++ [47]).head? ≠ some 47 := by
          obtain ⟨b, t, e⟩ := List.exists_cons_of_ne_nil hj.2
          have h1 := hj.1
          rw [e] at h1 ⊢
          simpa using h1
        simp only [decide_eq_false hh, decide_eq_true (hgl (joinM P)), Bool.true_or]
        rw [hc.1]
      · rw [if_pos rfl] at ot ⊢
        rw [parse_mk (l := [47] ++ joinM P ++ [47]) (st := ⟨y, P⟩) (by simp [hjz]) (by simp) ot (by rw [sp_end, List.singleton_append, sp_slash, hsp]; exact hst [[]] [[]] (.inr rfl) (.inr rfl))]
        simp only [decide_eq_true (hgl ([47] ++ joinM P)), Bool.true_or]
        rw [hc.1]
        rfl
    · rw [if_neg hc] at ot ⊢
      rw [List.append_nil] at ot ⊢
      have hd := hdd hc
      cases a
      · rw [if_neg (by simp)] at ot ⊢
        rw [List.nil_append] at ot ⊢
        have := hst [] [] (.inl rfl) (.inl rfl)
        rw [List.append_nil, List.nil_append] at this
        rw [parse_mk (l := joinM P) (st := ⟨y, P⟩) hjz hj.2 ot (by rw [hsp]; exact this)]
        simp only [decide_eq_false hj.1, decide_eq_false hjl, decide_eq_false hyg.dot, Bool.false_or]
        rw [hd]
      · rw [if_pos rfl] at ot ⊢
        have := hst [[]] [] (.inr rfl) (.inl rfl)
        rw [List.append_nil] at this
        obtain ⟨b, t, e⟩ := List.exists_cons_of_ne_nil hj.2
        have hl2 : ([47] ++ joinM P).getLast? ≠ some 47 := by
          rw [e, List.singleton_append, List.getLast?_cons_cons, ← e]; exact hjl
        rw [parse_mk (l := [47] ++ joinM P) (st := ⟨y, P⟩) (by simp [hjz]) (by simp) ot (by rw [List.singleton_append, sp_slash, hsp]; exact this)]
        simp only [decide_eq_false hl2, decide_eq_false hyg.dot, Bool.false_or]
        rw [hd]
        rfl
end Go.Proofs.YtodlapkmcnmmhaaDoor
