/- FdShares, plain part: as often as a file is known it is open. -/
import Derived.Test.YtlojadpbdbhmiaaFm
import Derived.Test.YtlojadpbdbhmiaaFv
namespace Go.Proofs.Ytlojadpbdbhmiaa
open Go.RowKit
set_option linter.unusedSimpArgs false
set_option linter.unusedVariables false

/-- How often the sets know x. -/
def cntS (S : List (List Int)) (x : Int) : Nat := (S.map (fun ids => ids.count x)).sum
theorem cntS_nil (x : Int) : cntS [] x = 0 := rfl
theorem cntS_snoc (S : List (List Int)) (ids : List Int) (x : Int) : cntS (S ++ [ids]) x = cntS S x + ids.count x := by simp [cntS]
theorem cntS_set {S : List (List Int)} {i : Nat} {ids : List Int} (h : S[i]? = some ids) (ids' : List Int) (x : Int) : cntS (S.set i ids') x + ids.count x = cntS S x + ids'.count x := by
  induction S generalizing i with
  | nil => simp at h
  | cons a r ih =>
    cases i with
    | zero =>
      simp at h
      subst h
      simp [cntS]; omega
    | succ i =>
      have := ih (i := i) (by simpa using h)
      simp [cntS] at this ⊢; omega
theorem cntS_at {S : List (List Int)} {i : Nat} {ids : List Int} (h : S[i]? = some ids) (x : Int) : ids.count x ≤ cntS S x := by
  induction S generalizing i with
  | nil => simp at h
  | cons a r ih =>
    cases i with
    | zero => simp at h; subst h; simp [cntS]
    | succ i =>
      have := ih (i := i) (by simpa using h)
      simp [cntS] at this ⊢; omega
theorem cntS_le {S : List (List Int)} {b : Nat} (h : ∀ ids ∈ S, ids.length ≤ b) (x : Int) : cntS S x ≤ S.length * b := by
  induction S with
  | nil => simp [cntS]
  | cons a r ih =>
    have h1 := ih (fun ids hi => h ids (List.mem_cons_of_mem _ hi))
    have h2 := h a (List.mem_cons_self ..)
    have h3 := List.count_le_length (a := x) (l := a)
    simp only [cntS, List.map_cons, List.sum_cons, List.length_cons, Nat.add_mul] at h1 ⊢
    omega
theorem count_set {ids : List Int} {j : Nat} {y : Int} (h : ids[j]? = some y) (x k : Int) : (ids.set j x).count k + (if y = k then 1 else 0) = ids.count k + (if x = k then 1 else 0) := by
  induction ids generalizing j with
  | nil => simp at h
  | cons a r ih =>
    cases j with
    | zero =>
      simp at h
      subst h
      simp only [List.set_cons_zero, List.count_cons, beq_iff_eq]; omega
    | succ j =>
      have := ih (j := j) (by simpa using h)
      simp only [List.set_cons_succ, List.count_cons]; omega
/-- A set's ids are fit. -/
def Fit8 (ids : List Int) : Prop := ids.length = 8 ∧ ∀ x ∈ ids, x = -1 ∨ (0 ≤ x ∧ x < 20)
theorem Fit8.set {ids : List Int} (h : Fit8 ids) (j : Nat) {x : Int} (hx : x = -1 ∨ (0 ≤ x ∧ x < 20)) : Fit8 (ids.set j x) := by
  refine ⟨by rw [List.length_set]; exact h.1, fun y hy => ?_⟩
  rcases List.mem_or_eq_of_mem_set hy with h1 | h1
  · exact h.2 y h1
  · rw [h1]; exact hx
/-- The open files are those that the sets know, just as often. -/
structure Sh (os : List FO) (S : List (List Int)) (e : Int → Nat) : Prop where
  len : os.length = 20
  n1 : 1 ≤ S.length
  n6 : S.length ≤ 6
  fit : ∀ ids ∈ S, Fit8 ids
  refs : ∀ (k : Nat) (o : FO), os[k]? = some o → o.refs = ((cntS S k + e k : Nat) : Int)
  few : ∀ k, e k ≤ 8
abbrev noE : Int → Nat := fun _ => 0
section
variable {os : List FO} {S : List (List Int)} {e : Int → Nat}
theorem Sh.pos (h : Sh os S e) : PosF os 1000 := fun j o ho => by
  have h1 := h.refs j o ho
  have h2 := cntS_le (b := 8) (fun ids hi => by rw [(h.fit ids hi).1]; exact Nat.le_refl _) (j : Int)
  have h3 := h.few j
  have h4 : S.length * 8 ≤ 6 * 8 := Nat.mul_le_mul_right 8 h.n6
  omega
/-- A file that is known is open. -/
theorem Sh.has (h : Sh os S e) {x : Int} (h0 : 0 ≤ x) (h1 : x < 20) (hc : 0 < cntS S x + e x) : ∃ (k : Nat) (o : FO), x = k ∧ hasF os x = some (k, o) ∧ os[k]? = some o ∧ o.refs = ((cntS S x + e x : Nat) : Int) := by
  obtain ⟨k, rfl⟩ : ∃ k : Nat, x = k := ⟨x.toNat, by omega⟩
  have hk : k < os.length := by rw [h.len]; omega
  have ho := List.getElem?_eq_getElem hk
  have hr := h.refs k _ ho
  refine ⟨k, _, rfl, ?_, ho, hr⟩
  unfold hasF
  rw [if_pos h0, Int.toNat_natCast, ho]
  simp only
  rw [if_neg (by omega)]
theorem Sh.start : Sh (List.replicate 20 zeroF) [List.replicate 8 (-1)] noE := by
  refine ⟨by simp, by simp, by simp, fun ids hi => ?_, fun k o ho => ?_, fun _ => by simp⟩
  · rw [List.mem_singleton] at hi
    subst hi
    exact ⟨by simp, fun x hx => .inl (List.eq_of_mem_replicate hx)⟩
  · rw [List.getElem?_replicate] at ho
    split at ho
    · injection ho with ho
      rw [← ho]
      have : cntS [List.replicate 8 (-1)] (k : Int) = 0 := by
        simp only [cntS, List.map_cons, List.map_nil, List.sum_cons, List.sum_nil, Nat.add_zero]
        exact List.count_eq_zero.2 (fun hm => by have := List.eq_of_mem_replicate hm; omega)
      rw [this]; rfl
    · cases ho
theorem Sh.turn (h : Sh os S noE) {os' : List FO} {S' : List (List Int)} (hl : os'.length = os.length) (hS : S'.length = S.length) (hf : ∀ ids ∈ S', Fit8 ids) (hr : ∀ (k : Nat) (o : FO), os'[k]? = some o → o.refs = (cntS S' k : Int)) : Sh os' S' noE :=
  ⟨by rw [hl]; exact h.len, by rw [hS]; exact h.n1, by rw [hS]; exact h.n6, hf, fun k o ho => by rw [hr k o ho]; rfl, fun _ => by simp⟩
theorem Sh.fit_set (h : Sh os S e) (i : Nat) {ids' : List Int} (hf : Fit8 ids') : ∀ ids ∈ S.set i ids', Fit8 ids := fun ids hi => by
  rcases List.mem_or_eq_of_mem_set hi with h1 | h1
  · exact h.fit ids h1
  · rw [h1]; exact hf
theorem Sh.refs0 (h : Sh os S noE) {k : Nat} {o : FO} (ho : os[k]? = some o) : o.refs = (cntS S k : Int) := h.refs k o ho
theorem Sh.set_refs (h : Sh os S noE) {k : Nat} {o' : FO} {S' : List (List Int)} (hS : S'.length = S.length) (hf : ∀ ids ∈ S', Fit8 ids) (h1 : o'.refs = (cntS S' k : Int)) (h2 : ∀ j : Nat, j ≠ k → cntS S' (j : Int) = cntS S (j : Int)) : Sh (os.set k o') S' noE := by
  refine h.turn (by simp) hS hf (fun j o hj => ?_)
  rw [List.getElem?_set] at hj
  split at hj
  · split at hj
    · injection hj with hj
      rename_i e _
      rw [← hj, ← e]; exact h1
    · cases hj
  · rename_i hne
    rw [h2 j (fun e => hne e.symm)]; exact h.refs0 hj
/-- Open: none is free, or one is. -/
theorem Sh.open_ (h : Sh os S noE) : (opM os 1 1 1 = (os, 0, 14)) ∨ ∃ k : Nat, k < 20 ∧ opM os 1 1 1 = (os.set k (newO 1 1 1), (k : Int), 0) ∧ cntS S k = 0 ∧ PosF (os.set k (newO 1 1 1)) 1000 ∧ hasF (os.set k (newO 1 1 1)) k = some (k, newO 1 1 1) := by
  unfold opM
  rw [if_neg (by decide)]
  cases hf : freeF os with
  | none => exact .inl rfl
  | some k =>
    obtain ⟨o, ho, hr, hk⟩ := find_get hf
    have h1 := h.refs0 ho
    have h2 : o.refs = 0 := by simpa using hr
    have hp : PosF (os.set k (newO 1 1 1)) 1000 := h.pos.set (by omega) (show 0 ≤ (1 : Int) ∧ (1 : Int) ≤ 1000 from ⟨by omega, by omega⟩)
    refine .inr ⟨k, by rw [← h.len]; exact hk, rfl, by omega, hp, ?_⟩
    unfold hasF
    rw [if_pos (by omega), Int.toNat_natCast, List.getElem?_set_self hk]
    rfl
theorem Sh.put_yes (h : Sh os S noE) {k i : Nat} {ids : List Int} (hk : k < 20) (hc : cntS S k = 0) (hi : S[i]? = some ids) {j : Nat} (hj : freeS ids = some j) :
    ptM ids k = (ids.set j k, (j : Int), 0) ∧ Sh (os.set k (newO 1 1 1)) (S.set i (ids.set j k)) noE := by
  obtain ⟨hy, hjl⟩ := freeS_get hj
  refine ⟨by unfold ptM; rw [if_neg (by omega), hj], ?_⟩
  have hcs := fun x => cntS_set hi (ids.set j (k : Int)) x
  have hct := fun x => count_set hy (k : Int) x
  refine h.set_refs (by simp) (h.fit_set i ((h.fit ids (List.mem_of_getElem? hi)).set j (.inr ⟨by omega, by omega⟩))) ?_ (fun m hm => ?_)
  · have h1 := hcs k
    have h2 := hct k
    rw [if_neg (by omega), if_pos rfl] at h2
    show (1 : Int) = _
    omega
  · have h1 := hcs m
    have h2 := hct m
    rw [if_neg (by omega), if_neg (by omega)] at h2
    omega
theorem Sh.put_no (h : Sh os S noE) {k : Nat} {ids : List Int} (hk : k < 20) (hc : cntS S k = 0) (hh : hasF (os.set k (newO 1 1 1)) k = some (k, newO 1 1 1)) (hj : freeS ids = none) :
    ptM ids k = (ids, 0, 13) ∧ clM (os.set k (newO 1 1 1)) k = (os.set k zeroF, newO 1 1 1, true, 0) ∧ Sh (os.set k zeroF) S noE := by
  refine ⟨by unfold ptM; rw [if_neg (by omega), hj], ?_, h.set_refs rfl h.fit (by rw [hc]; rfl) (fun m hm => rfl)⟩
  unfold clM
  rw [hh]
  simp only
  rw [List.set_set]
  rfl
/-- Take and Close. -/
theorem Sh.take (h : Sh os S noE) {i : Nat} {ids : List Int} (hi : S[i]? = some ids) (fd : Int) : (tkM ids fd = (ids, 0, 2)) ∨ ∃ (x : Int) (ids' : List Int) (os' : List FO) (o : FO) (b : Bool), tkM ids fd = (ids', x, 0) ∧ clM os x = (os', o, b, 0) ∧ Sh os' (S.set i ids') noE := by
  unfold tkM
  rcases getS_cases ids fd with ⟨e, _⟩ | ⟨j, x, e, rfl, hjl, hx, hm⟩
  · rw [e]; exact .inl rfl
  · rw [e]
    right
    have hfit := h.fit ids (List.mem_of_getElem? hi)
    have hr := hfit.2 x (List.mem_of_getElem? hx)
    have hcp : 0 < ids.count x := List.count_pos_iff.2 (List.mem_of_getElem? hx)
    have hca := cntS_at hi x
    obtain ⟨k, o, rfl, hh, ho, hrf⟩ := h.has (x := x) (by omega) (by omega) (by show 0 < cntS S x + 0; omega)
    have hrf : o.refs = (cntS S k : Int) := hrf
    refine ⟨k, ids.set j (-1), os.set k (clF o), o, decide (o.refs = 1), rfl, by unfold clM; rw [hh], ?_⟩
    have hcs := fun x => cntS_set hi (ids.set j (-1)) x
    have hct := fun x => count_set hx (-1) x
    refine h.set_refs (by simp) (h.fit_set i (hfit.set j (.inl rfl))) ?_ (fun m hm => ?_)
    · have h1 := hcs k
      have h2 := hct k
      rw [if_pos rfl, if_neg (by omega)] at h2
      unfold clF
      split
      · show (0 : Int) = _
        omega
      · show o.refs - 1 = _
        omega
    · have h1 := hcs m
      have h2 := hct m
      rw [if_neg (by omega), if_neg (by omega)] at h2
      omega
theorem Sh.get (h : Sh os S noE) {i : Nat} {ids : List Int} (hi : S[i]? = some ids) (fd : Int) : (gtM ids fd = (0, 2)) ∨ ∃ (x : Int), gtM ids fd = (x, 0) ∧ ((ptM ids x = (ids, 0, 13)) ∨ ∃ (j : Nat) (ids' : List Int) (os' : List FO), ptM ids x = (ids', (j : Int), 0) ∧ rfM os x = (os', 0) ∧ Sh os' (S.set i ids') noE) := by
  unfold gtM
  rcases getS_cases ids fd with ⟨e, _⟩ | ⟨j, x, e, rfl, hjl, hx, hm⟩
  · rw [e]; exact .inl rfl
  · rw [e]
    right
    have hfit := h.fit ids (List.mem_of_getElem? hi)
    have hr := hfit.2 x (List.mem_of_getElem? hx)
    have hcp : 0 < ids.count x := List.count_pos_iff.2 (List.mem_of_getElem? hx)
    have hca := cntS_at hi x
    obtain ⟨k, o, rfl, hh, ho, hrf⟩ := h.has (x := x) (by omega) (by omega) (by show 0 < cntS S x + 0; omega)
    have hrf : o.refs = (cntS S k : Int) := hrf
    refine ⟨k, rfl, ?_⟩
    unfold ptM
    rw [if_neg (by omega)]
    cases hj : freeS ids with
    | none => exact .inl rfl
    | some q =>
      right
      obtain ⟨hy, hql⟩ := freeS_get hj
      refine ⟨q, ids.set q k, os.set k { o with refs := o.refs + 1 }, rfl, by unfold rfM; rw [hh], ?_⟩
      have hcs := fun x => cntS_set hi (ids.set q (k : Int)) x
      have hct := fun x => count_set hy (k : Int) x
      refine h.set_refs (by simp) (h.fit_set i (hfit.set q (.inr ⟨by omega, by omega⟩))) ?_ (fun m hm => ?_)
      · have h1 := hcs k
        have h2 := hct k
        rw [if_neg (by omega), if_pos rfl] at h2
        show o.refs + 1 = _
        omega
      · have h1 := hcs m
        have h2 := hct m
        rw [if_neg (by omega), if_neg (by omega)] at h2
        omega
/-- What a set knows, as a list: of the first q. -/
def eAt (l : List Int) (q : Nat) : Int → Nat := fun x => (l.take q).count x
theorem allS_mem {ids : List Int} {x : Int} (h : x ∈ allS ids) : x ∈ ids ∧ x ≠ -1 := by
  unfold allS at h
  rw [List.mem_filter] at h
  exact ⟨h.1, by simpa using h.2⟩
theorem allS_count {ids : List Int} {x : Int} (h : x ≠ -1) : (allS ids).count x = ids.count x := by
  unfold allS
  rw [List.count_filter]
  simpa using h
/-- Ref, once more each. -/
theorem Sh.ref1 {ids : List Int} (hf : ids ∈ S) {q : Nat} (h : Sh os S (eAt (allS ids) q)) {x : Int} (hx : (allS ids)[q]? = some x) : ∃ os', rfM os x = (os', 0) ∧ Sh os' S (eAt (allS ids) (q + 1)) := by
  have hxm := allS_mem (List.mem_of_getElem? hx)
  have hfit := h.fit ids hf
  have hr := hfit.2 x hxm.1
  have hcp : 0 < ids.count x := List.count_pos_iff.2 hxm.1
  obtain ⟨i, hi⟩ := List.getElem?_of_mem hf
  have hca := cntS_at hi x
  obtain ⟨k, o, rfl, hh, ho, hrf⟩ := h.has (x := x) (by omega) (by omega) (by omega)
  have hk : k < os.length := (List.getElem?_eq_some_iff.1 ho).1
  have he : ∀ y, eAt (allS ids) (q + 1) y = eAt (allS ids) q y + if (k : Int) = y then 1 else 0 := fun y => by
    unfold eAt
    rw [List.take_add_one, hx, List.count_append]
    simp [List.count_cons]
  refine ⟨os.set k { o with refs := o.refs + 1 }, by unfold rfM; rw [hh], by simpa using h.len, h.n1, h.n6, h.fit, fun j o2 hj => ?_, fun y => ?_⟩
  · rw [he]
    rw [List.getElem?_set] at hj
    by_cases e1 : k = j
    · rw [if_pos e1, if_pos hk] at hj
      injection hj with hj
      rw [← hj, ← e1, if_pos rfl]
      show o.refs + 1 = _
      omega
    · rw [if_neg e1] at hj
      rw [if_neg (by omega)]
      exact h.refs j o2 hj
  · unfold eAt
    have h1 := List.count_le_length (a := y) (l := (allS ids).take (q + 1))
    have h2 : (allS ids).length ≤ ids.length := List.length_filter_le _ _
    have h3 := hfit.1
    simp at h1
    omega
theorem Sh.ref0 (h : Sh os S noE) (l : List Int) : Sh os S (eAt l 0) := ⟨h.len, h.n1, h.n6, h.fit, fun k o ho => by rw [h.refs k o ho]; simp [eAt], fun _ => by simp [eAt]⟩
theorem Sh.cloned {ids : List Int} (hf : ids ∈ S) (h : Sh os S (eAt (allS ids) (allS ids).length)) (h5 : S.length < 6) : Sh os (S ++ [ids]) noE := by
  refine ⟨h.len, by simp, by simp; omega, fun l hl => ?_, fun k o ho => ?_, fun _ => by simp⟩
  · rw [List.mem_append, List.mem_singleton] at hl
    rcases hl with hl | rfl
    · exact h.fit l hl
    · exact h.fit _ hf
  · rw [h.refs k o ho, cntS_snoc]
    unfold eAt
    rw [List.take_length, allS_count (by omega)]
    rfl
end
end Go.Proofs.Ytlojadpbdbhmiaa
