/- Paths, plain: their parts, their texts; a text is read back. -/
import Derived.Test.YtodlapkmcnmmhaaDoorA
namespace Go.Proofs.YtodlapkmcnmmhaaDoor
set_option linter.unusedSimpArgs false
set_option linter.unusedVariables false

abbrev Bs := List UInt8
/-- Cut at each 47. -/
def sp : Bs → List Bs
  | [] => [[]]
  | x :: r => if x = 47 then [] :: sp r else (x :: (sp r).headD []) :: (sp r).tail
structure St where
  last : Bs
  parts : List Bs
def step (st : St) (x : Bs) : Option St :=
  if x = [] then some st else if x = [46] then some ⟨[46], st.parts⟩ else if 26 < x.length ∨ st.parts.length = 32 then none else some ⟨x, st.parts ++ [x]⟩
def steps : List Bs → St → Option St
  | [], st => some st
  | x :: r, st => match step st x with
    | none => none
    | some st' => steps r st'
structure PathM where
  abs : Bool
  dir : Bool
  parts : List Bs
def noPath : PathM := ⟨false, false, []⟩
def parseM (l : Bs) : PathM × Int :=
  if (0 : UInt8) ∈ l then (noPath, 1) else if l = [] then (noPath, 4) else if 255 < l.length then (noPath, 9) else
  match steps (sp l) ⟨[], []⟩ with
  | none => (noPath, 9)
  | some st => (⟨decide (l.head? = some 47), decide (l.getLast? = some 47) || decide (st.last = [46]) || decide (st.last = [46, 46]), st.parts⟩, 0)
def joinM : List Bs → Bs
  | [] => []
  | [x] => x
  | x :: y :: r => x ++ 47 :: joinM (y :: r)
def textM (p : PathM) : Bs :=
  if p.parts = [] ∧ p.abs = false then [46] else
  (if p.abs = true then [47] else []) ++ joinM p.parts ++ (if p.parts ≠ [] ∧ p.dir = true ∧ p.parts.getLast? ≠ some [46, 46] then [47] else [])
structure GoodPart (x : Bs) : Prop where
  ne : x ≠ []
  dot : x ≠ [46]
  len : x.length ≤ 26
  sl : (47 : UInt8) ∉ x
  z : (0 : UInt8) ∉ x

theorem sp_ne : ∀ l : Bs, sp l ≠ []
  | [] => by simp [sp]
  | x :: r => by unfold sp; split <;> simp
theorem sp_slash (r : Bs) : sp (47 :: r) = [] :: sp r := by simp [sp]
theorem sp_other {x : UInt8} (r : Bs) (h : x ≠ 47) {y : Bs} {t : List Bs} (hs : sp r = y :: t) : sp (x :: r) = (x :: y) :: t := by simp [sp, h, hs]
theorem sp_app : ∀ (x r : Bs), (47 : UInt8) ∉ x → sp (x ++ 47 :: r) = x :: sp r
  | [], r, _ => sp_slash r
  | b :: x, r, h => by
    have hb : b ≠ 47 := fun e => h (by rw [e]; exact List.mem_cons_self ..)
    rw [List.cons_append]
    exact sp_other _ hb (sp_app x r (fun e => h (List.mem_cons_of_mem _ e)))
theorem sp_one : ∀ (x : Bs), (47 : UInt8) ∉ x → sp x = [x]
  | [], _ => rfl
  | b :: x, h => by
    have hb : b ≠ 47 := fun e => h (by rw [e]; exact List.mem_cons_self ..)
    exact sp_other _ hb (sp_one x (fun e => h (List.mem_cons_of_mem _ e)))
theorem sp_end : ∀ (l : Bs), sp (l ++ [47]) = sp l ++ [[]]
  | [] => by simp [sp]
  | b :: l => by
    by_cases hb : b = 47
    · subst hb; rw [List.cons_append, sp_slash, sp_slash, sp_end l]; rfl
    · obtain ⟨y, t, e⟩ := List.exists_cons_of_ne_nil (sp_ne l)
      rw [List.cons_append, sp_other l hb e, sp_other (l ++ [47]) hb (y := y) (t := t ++ [[]]) (by rw [sp_end l, e]; rfl)]
      rfl
/-- A piece holds no slash, and what it holds stood in the text. -/
theorem sp_mem : ∀ (l : Bs), ∀ x ∈ sp l, (47 : UInt8) ∉ x ∧ ∀ b ∈ x, b ∈ l
  | [], x, h => by simp [sp] at h; subst h; simp
  | b :: l, x, h => by
    by_cases hb : b = 47
    · subst hb
      rw [sp_slash, List.mem_cons] at h
      rcases h with rfl | h
      · simp
      · have := sp_mem l x h
        exact ⟨this.1, fun c hc => List.mem_cons_of_mem _ (this.2 c hc)⟩
    · obtain ⟨y, t, e⟩ := List.exists_cons_of_ne_nil (sp_ne l)
      rw [sp_other l hb e, List.mem_cons] at h
      rcases h with rfl | h
      · have := sp_mem l y (by rw [e]; exact List.mem_cons_self ..)
        refine ⟨fun hm => ?_, fun c hc => ?_⟩
        · rw [List.mem_cons] at hm
          rcases hm with hm | hm
          · exact hb hm.symm
          · exact this.1 hm
        · rw [List.mem_cons] at hc
          rcases hc with rfl | hc
          · exact List.mem_cons_self ..
          · exact List.mem_cons_of_mem _ (this.2 c hc)
      · have := sp_mem l x (by rw [e]; exact List.mem_cons_of_mem _ h)
        exact ⟨this.1, fun c hc => List.mem_cons_of_mem _ (this.2 c hc)⟩
def sumL (X : List Bs) : Nat := (X.map (fun x => x.length + 1)).sum
theorem sumL_cons (x : Bs) (X : List Bs) : sumL (x :: X) = x.length + 1 + sumL X := by simp [sumL]
theorem sumL_app (X Y : List Bs) : sumL (X ++ Y) = sumL X + sumL Y := by simp [sumL]
theorem sp_sum : ∀ (l : Bs), sumL (sp l) = l.length + 1
  | [] => by simp [sp, sumL]
  | b :: l => by
    by_cases hb : b = 47
    · subst hb; rw [sp_slash, sumL_cons, sp_sum l]; simp; omega
    · obtain ⟨y, t, e⟩ := List.exists_cons_of_ne_nil (sp_ne l)
      have := sp_sum l
      rw [e, sumL_cons] at this
      rw [sp_other l hb e, sumL_cons]
      simp; omega
def exL (X : List Bs) : Nat := X.countP (· = []) + 2 * X.countP (· = [46])
theorem steps_app : ∀ (X Y : List Bs) (st : St), steps (X ++ Y) st = (match steps X st with | none => none | some st' => steps Y st')
  | [], Y, st => rfl
  | x :: X, Y, st => by
    rw [List.cons_append, steps, steps]
    cases step st x with
    | none => rfl
    | some st' => exact steps_app X Y st'
/-- What the steps leave. -/
structure Left (X : List Bs) (st st' : St) : Prop where
  sum : sumL X + sumL st.parts = sumL st'.parts + exL X
  good : (∀ x ∈ st.parts, GoodPart x) → (∀ x ∈ X, (47 : UInt8) ∉ x ∧ (0 : UInt8) ∉ x) → ∀ x ∈ st'.parts, GoodPart x
  len : st.parts.length ≤ 32 → st'.parts.length ≤ 32
  last : (st.last = [46] ∨ st.last = st.parts.getLast?.getD []) → (st'.last = [46] ∨ st'.last = st'.parts.getLast?.getD [])
  dot : st'.last = [46] → st.last = [46] ∨ [46] ∈ X
  nil : st'.parts = [] → st.parts = [] ∧ (∀ x ∈ X, x = [] ∨ x = [46]) ∧ (st'.last = [] → st.last = [] ∧ ∀ x ∈ X, x = []) 
theorem steps_left : ∀ (X : List Bs) (st st' : St), steps X st = some st' → Left X st st'
  | [], st, st', h => by
    rw [steps] at h; injection h with h; subst h
    exact ⟨by simp [sumL, exL], fun h _ => h, id, id, .inl, fun h => ⟨h, by simp, fun h2 => ⟨h2, by simp⟩⟩⟩
  | x :: X, st, st', h => by
    rw [steps] at h
    by_cases h0 : x = []
    · subst h0
      have e : step st [] = some st := by simp [step]
      rw [e] at h
      have L := steps_left X st st' h
      refine ⟨?_, fun g a => L.good g (fun y hy => a y (List.mem_cons_of_mem _ hy)), L.len, L.last, fun hd => ?_, fun hn => ?_⟩
      · have := L.sum; rw [sumL_cons]; simp [exL] at this ⊢; omega
      · rcases L.dot hd with h | h
        · exact .inl h
        · exact .inr (List.mem_cons_of_mem _ h)
      · obtain ⟨a, b, c⟩ := L.nil hn
        refine ⟨a, fun y hy => ?_, fun h2 => ⟨(c h2).1, fun y hy => ?_⟩⟩
        · rw [List.mem_cons] at hy
          rcases hy with rfl | hy
          · exact .inl rfl
          · exact b y hy
        · rw [List.mem_cons] at hy
          rcases hy with rfl | hy
          · rfl
          · exact (c h2).2 y hy
    · by_cases h1 : x = [46]
      · subst h1
        have e : step st [46] = some ⟨[46], st.parts⟩ := by simp [step]
        rw [e] at h
        have L := steps_left X _ st' h
        refine ⟨?_, fun g a => L.good g (fun y hy => a y (List.mem_cons_of_mem _ hy)), L.len, fun _ => L.last (.inl rfl), fun _ => .inr (List.mem_cons_self ..), fun hn => ?_⟩
        · have := L.sum; rw [sumL_cons]; simp [exL] at this ⊢; omega
        · obtain ⟨a, b, c⟩ := L.nil hn
          refine ⟨a, fun y hy => ?_, fun h2 => ?_⟩
          · rw [List.mem_cons] at hy
            rcases hy with rfl | hy
            · exact .inr rfl
            · exact b y hy
          · have := (c h2).1
            simp at this
      · by_cases h2 : 26 < x.length ∨ st.parts.length = 32
        · have e : step st x = none := by simp [step, h0, h1, h2]
          rw [e] at h; cases h
        · have e : step st x = some ⟨x, st.parts ++ [x]⟩ := by simp only [step, if_neg h0, if_neg h1, if_neg h2]
          rw [e] at h
          have L := steps_left X _ st' h
          refine ⟨?_, fun g a => L.good (fun y hy => ?_) (fun y hy => a y (List.mem_cons_of_mem _ hy)), fun hl => L.len (by simp; omega), fun _ => L.last (.inr (by simp)), fun hd => ?_, fun hn => ?_⟩
          · have := L.sum
            simp only [sumL_app, sumL_cons] at this ⊢
            have e1 : sumL [] = 0 := rfl
            have e2 : exL (x :: X) = exL X := by simp [exL, h0, h1]
            omega
          · rw [List.mem_append, List.mem_singleton] at hy
            rcases hy with hy | rfl
            · exact g y hy
            · have := a y (List.mem_cons_self ..)
              exact ⟨h0, h1, by omega, this.1, this.2⟩
          · rcases L.dot hd with h | h
            · exact absurd h h1
            · exact .inr (List.mem_cons_of_mem _ h)
          · have := (L.nil hn).1
            simp at this
/-- Good parts are taken as they are. -/
theorem steps_good : ∀ (X : List Bs) (st : St), (∀ x ∈ X, GoodPart x) → st.parts.length + X.length ≤ 32 → steps X st = some ⟨X.getLast?.getD st.last, st.parts ++ X⟩
  | [], st, _, _ => by simp [steps]
  | x :: X, st, h, hl => by
    have g := h x (List.mem_cons_self ..)
    have hn : ¬ (26 < x.length ∨ st.parts.length = 32) := by have := g.len; simp at hl; omega
    rw [steps, show step st x = some ⟨x, st.parts ++ [x]⟩ from by simp only [step, if_neg g.ne, if_neg g.dot, if_neg hn]]
    show steps X _ = _
    rw [steps_good X _ (fun y hy => h y (List.mem_cons_of_mem _ hy)) (by simp at hl ⊢; omega)]
    cases X with
    | nil => simp
    | cons y Y => simp [List.getLast?_cons]
theorem sp_join : ∀ (X : List Bs), X ≠ [] → (∀ x ∈ X, (47 : UInt8) ∉ x) → sp (joinM X) = X
  | [], h, _ => absurd rfl h
  | [x], _, h => sp_one x (h x (List.mem_cons_self ..))
  | x :: y :: r, _, h => by
    rw [joinM, sp_app x _ (h x (List.mem_cons_self ..)), sp_join (y :: r) (by simp) (fun z hz => h z (List.mem_cons_of_mem _ hz))]
theorem join_sum : ∀ (X : List Bs), X ≠ [] → (joinM X).length + 1 = sumL X
  | [], h => absurd rfl h
  | [x], _ => by simp [joinM, sumL]
  | x :: y :: r, _ => by
    have := join_sum (y :: r) (by simp)
    rw [joinM, List.length_append, List.length_cons, sumL_cons]; omega
end Go.Proofs.YtodlapkmcnmmhaaDoor
