/- name.Parse: a path's parts. -/
import Derived.Test.YtodlapkmcnmmhaaDoorMd
import Derived.IntWalk
namespace Go.Proofs.YtodlapkmcnmmhaaDoor
open Go.RowKit
set_option linter.unusedSimpArgs false
set_option linter.unusedVariables false

theorem slStrs : SlT Tryd.prog 23 9 (.string ⟨#[]⟩) 1 16 := ⟨Tryd.underlying23, by kernel_rfl, rfl, by omega⟩
def dirB (hs : Bool) (st : St) : Bool := hs || decide (st.last = [46]) || decide (st.last = [46, 46])
/-- What Parse answers. -/
def PRet (l : Bs) (w : World) (e : Ending) (w' : World) : Prop :=
  ∃ v, e = .returned (.tuple #[.agg #[.bool (parseM l).1.abs, .bool (parseM l).1.dir, v], I (parseM l).2]) ∧ w'.ownsRow w.heap.size 9 1 v (parseM l).1.parts.length ((parseM l).1.parts.map Sv) ∧ Safe w w'
theorem PRet.err {l : Bs} {w w' : World} {n : Int} (h : parseM l = (noPath, n)) (hs : Safe w w') : PRet l w (.returned (.tuple #[.agg #[.bool false, .bool false, .slice none 0 0], I n])) w' := by
  unfold PRet
  rw [h]
  exact ⟨_, rfl, World.ownsRow_nil _ _ _ _, hs⟩
theorem head_pre (l : Bs) : Lib.hasPrefix l [47] = decide (l.head? = some 47) := by
  cases l with
  | nil => rfl
  | cons b r =>
    by_cases hb : b = 47
    · subst hb; simp [Lib.hasPrefix, List.isPrefixOf]
    · have hb' : ¬ (47 : UInt8) = b := fun e => hb e.symm
      simp [Lib.hasPrefix, List.isPrefixOf, hb, hb']
theorem last_suf (l : Bs) : Lib.hasSuffix l [47] = decide (l.getLast? = some 47) := by
  rw [Bool.eq_iff_iff]
  simp only [Lib.hasSuffix, List.isSuffixOf_iff_suffix, decide_eq_true_eq]
  constructor
  · rintro ⟨t, e⟩
    rw [← e]; simp
  · intro h
    obtain ⟨r, e, _⟩ := sp_end_iff h
    exact ⟨r, e.symm⟩
theorem own_base {w : World} {b b' n size : Nat} {e : TypeId} {v : Value} {xs : List Value} (h : w.ownsRow b e size v n xs) (hb : b' ≤ b) : w.ownsRow b' e size v n xs := by
  obtain ⟨h1, h2⟩ := h
  refine ⟨h1, ?_⟩
  rcases h2 with h2 | ⟨g, cap, cur, rfl, h3, hr⟩
  · exact .inl h2
  · exact .inr ⟨g, cap, cur, rfl, Nat.le_trans hb h3, hr⟩
/-- What holds ahead of piece k. -/
structure PI (l : Bs) (hd hs : Bool) (w wr : World) (k : Nat) (st : St) (v : Value) : Prop where
  run : steps ((sp l).take k) ⟨[], []⟩ = some st
  b2 : Blk wr w.heap.size 25 #[.bool false, .bool false, .slice none 0 0]
  b4 : Blk wr (w.heap.size + 1) 25 #[.bool hd, .bool (dirB hs st), v]
  b27 : Blk wr (w.heap.size + 2) 9 ((sp l).map Sv).toArray
  own : wr.ownsRow (w.heap.size + 3) 9 1 v st.parts.length (st.parts.map Sv)
  len : st.parts.length ≤ 32
  safe : Safe w wr
  size : w.heap.size + 3 ≤ wr.heap.size
theorem steps_next {X : List Bs} {k : Nat} {x : Bs} {a st : St} (hx : X[k]? = some x) (h : steps (X.take k) a = some st) : steps (X.take (k + 1)) a = step st x := by
  rw [List.take_add_one, hx, steps_app, h]
  show steps [x] st = _
  rw [steps]
  cases step st x <;> rfl
theorem steps_stop {X : List Bs} {k : Nat} {x : Bs} {a st : St} (hx : X[k]? = some x) (h : steps (X.take k) a = some st) (hn : step st x = none) : steps X a = none := by
  have hk := (List.getElem?_eq_some_iff.1 hx).1
  have e : X = X.take (k + 1) ++ X.drop (k + 1) := (List.take_append_drop ..).symm
  rw [e, steps_app, steps_next hx h, hn]
theorem PI.push {l : Bs} {hd hs : Bool} {w wo W1 w2 : World} {k : Nat} {st : St} {v v2 : Value} {x : Bs} (h : PI l hd hs w wo k st v) (hx : (sp l)[k]? = some x) (hst : step st x = some ⟨x, st.parts ++ [x]⟩) (hl : ¬ st.parts.length = 32)
    (hb1 : But (· = w.heap.size + 1) wo W1) (h4 : Blk W1 (w.heap.size + 1) 25 #[.bool hd, .bool (dirB hs ⟨x, st.parts ++ [x]⟩), v]) (hb2 : But (fun k => some k = v.ownBlock) W1 w2)
    (ho2 : w2.ownsRow (w.heap.size + 3) 9 1 v2 (st.parts.length + 1) (st.parts.map Sv ++ [Sv x])) : PI l hd hs w (w2.setCell ⟨w.heap.size + 1, 2, none⟩ v2) (k + 1) ⟨x, st.parts ++ [x]⟩ v2 := by
  have hn : ∀ g, g < w.heap.size + 3 → ¬ (fun k => some k = v.ownBlock) g := fun g hg e => by have := (h.own.lt g e.symm).1; omega
  have h2 := (h.b2.but hb1 (fun e => by have : w.heap.size = w.heap.size + 1 := e; omega)).but hb2 (hn _ (by omega))
  have h27 := (h.b27.but hb1 (fun e => by have : w.heap.size + 2 = w.heap.size + 1 := e; omega)).but hb2 (hn _ (by omega))
  have h44 := (h4.but hb2 (hn _ (by omega))).set 2 v2
  have hs1 : Safe w W1 := h.safe.step hb1 (fun j hj => .inr (by have : j = w.heap.size + 1 := hj; omega))
  have hs2 : Safe w w2 := hs1.step hb2 (fun j hj => .inr (by have := (h.own.lt j hj.symm).1; omega))
  refine ⟨by rw [steps_next hx h.run, hst], h2.far (by show _ ≠ w.heap.size + 1; omega) _, h44, h27.far (by show _ ≠ w.heap.size + 1; omega) _, ?_, ?_, hs2.setCell (p := ⟨w.heap.size + 1, 2, none⟩) (.inr (by show _ ≤ w.heap.size + 1; omega)) _, ?_⟩
  · have := own_but_kept ho2 ((But.refl (· = w.heap.size + 1) w2).setCell (p := ⟨w.heap.size + 1, 2, none⟩) (.inl rfl) v2) (fun j hj e => by have := (ho2.lt j hj).1; have : j = w.heap.size + 1 := e; omega)
    simpa using this
  · have := h.len; simp; omega
  · have := Nat.le_trans h.size (Nat.le_trans hb1.size hb2.size)
    simpa [World.setCell] using this
theorem len_sum : ∀ X : List Bs, X.length ≤ sumL X
  | [] => by simp
  | x :: X => by have := len_sum X; rw [sumL_cons, List.length_cons]; omega
theorem parse_stop {l : Bs} (h0 : (0 : UInt8) ∉ l) (h1 : l ≠ []) (h2 : l.length ≤ 255) (h : steps (sp l) ⟨[], []⟩ = none) : parseM l = (noPath, 9) := by
  unfold parseM
  rw [if_neg h0, if_neg h1, if_neg (by omega), h]
set_option maxRecDepth 100000 in
set_option maxHeartbeats 8000000 in
theorem parse_any (l : Bs) (w : World) (hl : l.length < 100000) (hm : ∃ m, w.cell? ⟨0, 0, none⟩ = some (.int .i64 m)) :
    Calls Tryd.prog 10 #[Sv l] w (PRet l w) := by
  have h0 : ∀ w, Calls Tryd.prog 29 #[Sv l, .int .u8 0] w fun e w' => e = .returned (I (Lib.indexByte l 0)) ∧ w' = w := fun w => Tryd.strings_IndexByte ⟨l.toArray⟩ 0 w
  obtain ⟨p0, q0⟩ := index_pos 0 l
  obtain ⟨i0, e0⟩ : ∃ i, i = Lib.indexByte l 0 := ⟨_, rfl⟩
  rw [← e0] at h0 p0 q0
  have H0 := Lib.hid h0
  clear h0 e0
  have hll : (⟨l.toArray⟩ : ByteArray).size = l.length := rfl
  by_cases c0 : (0 : UInt8) ∈ l
  · have HE := Lib.hid (fun w' hs => PRet.err (w := w) (w' := w') (show parseM l = (noPath, 1) from by unfold parseM; rw [if_pos c0]) hs)
    have hp := p0.2 c0
    clear p0 c0
    generalize hQ : PRet l w = Q at *
    go_enter Tryd.func10, Tryd.ntmps10
    go_wp2_with fail
    refine (H0.out _).mono ?_
    rintro _ _ ⟨rfl, rfl⟩
    go_wp2
    exact bodyPost_ret (v := .tuple #[.agg #[.bool false, .bool false, .slice none 0 0], I 1]) (by simp [results, Tryd.results10, go_sem]) rfl (HE.out _ ((But.refl _ w).alloc _))
  have n0 : i0 < 0 := by have := p0.1; rcases Int.lt_or_le i0 0 with h | h; exact h; exact absurd (this h) c0
  by_cases c1 : l = []
  · have HE := Lib.hid (fun w' hs => PRet.err (w := w) (w' := w') (show parseM l = (noPath, 4) from by unfold parseM; rw [if_neg c0, if_pos c1]) hs)
    have hb : l.isEmpty = true := by rw [c1]; rfl
    clear p0 c0 c1
    generalize hQ : PRet l w = Q at *
    go_enter Tryd.func10, Tryd.ntmps10
    go_wp2_with fail
    refine (H0.out _).mono ?_
    rintro _ _ ⟨rfl, rfl⟩
    go_wp2
    exact bodyPost_ret (v := .tuple #[.agg #[.bool false, .bool false, .slice none 0 0], I 4]) (by simp [results, Tryd.results10, go_sem]) rfl (HE.out _ ((But.refl _ w).alloc _))
  have hb : l.isEmpty = false := by simpa using c1
  by_cases c2 : 255 < l.length
  · have HE := Lib.hid (fun w' hs => PRet.err (w := w) (w' := w') (show parseM l = (noPath, 9) from by unfold parseM; rw [if_neg c0, if_neg c1, if_pos c2]) hs)
    have hi : (255 : Int) < l.length := by omega
    clear p0 c0 c1
    generalize hQ : PRet l w = Q at *
    go_enter Tryd.func10, Tryd.ntmps10
    go_wp2_with fail
    refine (H0.out _).mono ?_
    rintro _ _ ⟨rfl, rfl⟩
    go_wp2
    exact bodyPost_ret (v := .tuple #[.agg #[.bool false, .bool false, .slice none 0 0], I 9]) (by simp [results, Tryd.results10, go_sem]) rfl (HE.out _ ((But.refl _ w).alloc _))
  have hi : (l.length : Int) ≤ 255 := by omega
  obtain ⟨hd, ehd⟩ : ∃ b, b = decide (l.head? = some 47) := ⟨_, rfl⟩
  obtain ⟨hs, ehs⟩ : ∃ b, b = decide (l.getLast? = some 47) := ⟨_, rfl⟩
  have hP : ∀ w, Calls Tryd.prog 30 #[Sv l, Sv [47]] w fun e w' => e = .returned (.bool hd) ∧ w' = w := fun w => by
    have := Tryd.strings_HasPrefix ⟨l.toArray⟩ ⟨#[47]⟩ w
    rw [show Lib.hasPrefix (⟨l.toArray⟩ : ByteArray).data.toList (⟨#[47]⟩ : ByteArray).data.toList = hd from (head_pre l).trans ehd.symm] at this
    exact this
  have hS : ∀ w, Calls Tryd.prog 31 #[Sv l, Sv [47]] w fun e w' => e = .returned (.bool hs) ∧ w' = w := fun w => by
    have := Tryd.strings_HasSuffix ⟨l.toArray⟩ ⟨#[47]⟩ w (show l.length ≤ _ by omega)
    rw [show Lib.hasSuffix (⟨l.toArray⟩ : ByteArray).data.toList (⟨#[47]⟩ : ByteArray).data.toList = hs from (last_suf l).trans ehs.symm] at this
    exact this
  have hSp := fun (w' : World) (hs : Safe w w') => split_any l w' (by omega) (hm.elim fun m h => ⟨m, hs.cell h id⟩)
  have HP := Lib.hid hP
  have HS := Lib.hid hS
  have HSP := Lib.hid hSp
  have HERR := Lib.hid (fun (hn : steps (sp l) ⟨[], []⟩ = none) w' hs => PRet.err (w := w) (w' := w') (parse_stop c0 c1 (by omega) hn) hs)
  have HOK := Lib.hid (fun (st : St) (hn : steps (sp l) ⟨[], []⟩ = some st) => (parse_mk c0 c1 (by omega) hn : parseM l = _))
  have HHD := Lib.hid ehd
  have HHS := Lib.hid ehs
  have HZ := Lib.hid (fun x (hx : x ∈ sp l) => (show (47 : UInt8) ∉ x ∧ (0 : UInt8) ∉ x from ⟨(sp_mem l x hx).1, fun hz => c0 ((sp_mem l x hx).2 _ hz)⟩))
  have hI0 : ∀ hd hs : Bool, Blk (((w.alloc (.cells #[.bool false, .bool false, .slice none 0 0] 25)).alloc (.cells #[.bool hd, .bool hs, .slice none 0 0] 25)).alloc (.cells ((sp l).map Sv).toArray 9)) (w.heap.size + 1) 25 #[.bool hd, .bool hs, .slice none 0 0] := fun hd hs => (Blk.new' _ _ (by simp)).alloc _
  have HI0 := Lib.hid (show PI l hd hs w _ 0 ⟨[], []⟩ (.slice none 0 0) from ⟨rfl, ((Blk.new w _ _).alloc _).alloc _, by rw [show dirB hs ⟨[], []⟩ = hs from by simp [dirB]]; exact hI0 hd hs, Blk.new' _ _ (by simp), World.ownsRow_nil _ _ _ _, by simp, (((But.refl _ w).alloc _).alloc _).alloc _, by simp⟩)
  clear p0 c0 c1 c2 hm hP hS hSp hI0 q0 hl ehd ehs
  go_enter Tryd.func10, Tryd.ntmps10
  go_wp2_with fail
  refine (H0.out _).mono ?_
  rintro _ _ ⟨rfl, rfl⟩
  go_wp2_with fail
  refine (HP.out _).mono ?_
  rintro _ _ ⟨rfl, rfl⟩
  go_wp2_with fail
  refine (HS.out _).mono ?_
  rintro _ _ ⟨rfl, rfl⟩
  go_wp2_with fail
  refine (HSP.out _ (((But.refl _ w).alloc _).alloc _)).mono ?_
  rintro _ w3 ⟨rfl, hw3⟩
  have hI0 := HI0.out
  rw [← hw3] at hI0
  have HI0 := Lib.hid hI0
  rw [show ((w.alloc (.cells #[.bool false, .bool false, .slice none 0 0] 25)).alloc (.cells #[.bool hd, .bool hs, .slice none 0 0] 25)).heap.size = w.heap.size + 2 from by simp]
  clear hw3 hI0
  have hnl : 1 ≤ (sp l).length := List.length_pos_iff.2 (sp_ne l)
  have hnl2 : (sp l).length ≤ 256 := by have h1 := len_sum (sp l); have h2 := sp_sum l; omega
  go_wp2_with fail
  go_loopw [29] (fun x wr => ∃ (k : Nat) (st : St) (v : Value), k ≤ (sp l).length ∧ x = .int .i64 k ∧ PI l hd hs w wr k st v) (fun x _ => (sp l).length - (intOf x).toNat)
  case atStart => exact ⟨0, ⟨[], []⟩, _, by omega, rfl, HI0.out⟩
  case round =>
    obtain ⟨k, st, v, hk, rfl, hI⟩ := hrel
    obtain ⟨wo, rfl⟩ : ∃ wo : World, wo = wr := ⟨_, rfl⟩
    have HI := Lib.hid hI
    clear hI
    by_cases hlt : k < (sp l).length
    · obtain ⟨x, hx⟩ : ∃ x, (sp l)[k]? = some x := ⟨_, List.getElem?_eq_getElem hlt⟩
      have hlt2 : (k : Int) < (sp l).length := by omega
      have hcx : wo.cell? ⟨w.heap.size + 2, k, none⟩ = some (Sv x) := HI.out.b27.cell' (by rw [List.getElem?_toArray, List.getElem?_map, hx]; rfl)
      have HX := Lib.hid hx
      clear hx
      by_cases hx0 : x = []
      · subst hx0
        have hI2 : PI l hd hs w wo (k + 1) st v := ⟨by rw [steps_next HX.out HI.out.run]; simp [step], HI.out.b2, HI.out.b4, HI.out.b27, HI.out.own, HI.out.len, HI.out.safe, HI.out.size⟩
        have HI2 := Lib.hid hI2
        clear hI2
        go_wp2_with fail
        go_roundw
        case rel => exact ⟨k + 1, st, v, by omega, by go_num, HI2.out⟩
        case measure => simp [intOf]; omega
      · have hxe : x.isEmpty = false := by simpa using hx0
        have d1 : wo.cell? ⟨w.heap.size + 1, 1, none⟩ = some (.bool (dirB hs st)) := HI.out.b4.cell' (i := 1) rfl
        have d2 : wo.cell? ⟨w.heap.size + 1, 2, none⟩ = some v := HI.out.b4.cell' (i := 2) rfl
        have f1 := HI.out.b4.frozen 1
        have f2 := HI.out.b4.frozen 2
        by_cases hx1 : x = [46]
        · subst hx1
          have hst : step st [46] = some ⟨[46], st.parts⟩ := by simp [step]
          have hb4 := HI.out.b4.set 1 (.bool true)
          have hs4 := HI.out.safe.step ((But.refl (· = w.heap.size + 1) wo).setCell (p := ⟨w.heap.size + 1, 1, none⟩) (.inl rfl) (.bool true)) (fun j hj => .inr (by have : j = w.heap.size + 1 := hj; omega))
          have hI2 : PI l hd hs w (wo.setCell ⟨w.heap.size + 1, 1, none⟩ (.bool true)) (k + 1) ⟨[46], st.parts⟩ v := ⟨by rw [steps_next HX.out HI.out.run, hst], HI.out.b2.far (by show _ ≠ w.heap.size + 1; omega) _, by
            rw [show dirB hs ⟨[46], st.parts⟩ = true from by simp [dirB]]; exact hb4, HI.out.b27.far (by show _ ≠ w.heap.size + 1; omega) _, own_but_kept HI.out.own ((But.refl (· = w.heap.size + 1) wo).setCell (p := ⟨w.heap.size + 1, 1, none⟩) (.inl rfl) _) (fun j hj e => by have := (HI.out.own.lt j hj).1; have : j = w.heap.size + 1 := e; omega), HI.out.len, hs4, by simpa [World.setCell] using HI.out.size⟩
          have HI2 := Lib.hid hI2
          clear hI2 hb4 hs4 hst hx0
          cases hs
          all_goals
            go_wp2_with fail
            refine (HS.out _).mono ?_
            rintro _ _ ⟨rfl, rfl⟩
            go_wp2_with fail
            go_roundw
            case rel => exact ⟨k + 1, ⟨[46], st.parts⟩, v, by omega, by go_num, HI2.out⟩
            case measure => simp [intOf]; omega
        · have hzx := HZ.out x (List.mem_of_getElem? HX.out)
          have hgd := good_any x
          have hg0 : goodM x = if 26 < x.length then 9 else 0 := by simp only [goodM]; rw [if_neg (fun h => by rcases h with h | h; exact hzx.2 h; exact hzx.1 h), if_neg hx0]
          have b1 : (x == [46]) = false := by simpa using hx1
          have hstep : step st x = if 26 < x.length ∨ st.parts.length = 32 then none else some ⟨x, st.parts ++ [x]⟩ := by simp only [step, if_neg hx0, if_neg hx1]
          have hcs : (hs = true ∧ dirB hs ⟨x, st.parts ++ [x]⟩ = true) ∨ (hs = false ∧ dirB hs ⟨x, st.parts ++ [x]⟩ = true ∧ x = [46, 46] ∧ (x == [46, 46]) = true) ∨ (hs = false ∧ dirB hs ⟨x, st.parts ++ [x]⟩ = false ∧ ¬ x = [46, 46] ∧ (x == [46, 46]) = false) := by
            cases hs
            · by_cases hx2 : x = [46, 46]
              · exact .inr (.inl ⟨rfl, by simp [dirB, hx2], hx2, by simp [hx2]⟩)
              · exact .inr (.inr ⟨rfl, by simp [dirB, hx1, hx2], hx2, by simpa using hx2⟩)
            · exact .inl ⟨rfl, by simp [dirB]⟩
          obtain ⟨dv, hdv⟩ : ∃ b, b = dirB hs ⟨x, st.parts ++ [x]⟩ := ⟨_, rfl⟩
          rw [← hdv] at hcs
          obtain ⟨W1, hW1⟩ : ∃ W1, W1 = wo.setCell ⟨w.heap.size + 1, 1, none⟩ (.bool dv) := ⟨_, rfl⟩
          have hb1 : But (· = w.heap.size + 1) wo W1 := by rw [hW1]; exact (But.refl (· = w.heap.size + 1) wo).setCell (p := ⟨w.heap.size + 1, 1, none⟩) (.inl rfl) _
          have h2 := HI.out.b2.but hb1 (fun e => by have : w.heap.size = w.heap.size + 1 := e; omega)
          have h27 := HI.out.b27.but hb1 (fun e => by have : w.heap.size + 2 = w.heap.size + 1 := e; omega)
          have h4 : Blk W1 (w.heap.size + 1) 25 #[.bool hd, .bool dv, v] := by rw [hW1]; exact HI.out.b4.set 1 (.bool dv)
          have ho := own_but_kept HI.out.own hb1 (fun j hj e => by have := (HI.out.own.lt j hj).1; have : j = w.heap.size + 1 := e; omega)
          have hs1 : Safe w W1 := HI.out.safe.step hb1 (fun j hj => .inr (by have : j = w.heap.size + 1 := hj; omega))
          have hz1 : w.heap.size + 3 ≤ W1.heap.size := Nat.le_trans HI.out.size hb1.size
          have HDV := Lib.hid hdv
          have HW1 := Lib.hid hW1
          have HB2 := Lib.hid h2
          have HB27 := Lib.hid h27
          have HB4 := Lib.hid h4
          have HO := Lib.hid ho
          have HS1 := Lib.hid hs1
          have HBW := Lib.hid hb1
          have hnb : ¬ (fun j => some j = v.ownBlock) (w.heap.size + 1) := fun e => by have := (HI.out.own.lt _ e.symm).1; omega
          have HNB := Lib.hid hnb
          clear hnb
          have hlt4 := h4.lt
          have k42 := h4.frozen 2
          have hpl := HI.out.len
          obtain ⟨g, hg⟩ : ∃ g, g = goodM x := ⟨_, rfl⟩
          rw [← hg] at hgd hg0
          have HGD := Lib.hid hgd
          have HST := Lib.hid hstep
          have e2 : W1.cell? ⟨w.heap.size + 1, 2, none⟩ = some v := h4.cell' (i := 2) rfl
          have e20 : W1.cell? ⟨w.heap.size, 0, none⟩ = some (.bool false) := h2.cell' (i := 0) rfl
          have e21 : W1.cell? ⟨w.heap.size, 1, none⟩ = some (.bool false) := h2.cell' (i := 1) rfl
          have e22 : W1.cell? ⟨w.heap.size, 2, none⟩ = some (.slice none 0 0) := h2.cell' (i := 2) rfl
          have k20 := h2.frozen 0
          have k21 := h2.frozen 1
          have k22 := h2.frozen 2
          obtain ⟨A, cv, hv, hcv⟩ := own_form ho
          subst hv
          have hbad : (26 < x.length ∧ g = 9) ∨ (g = 0 ∧ (st.parts.length : Int) = 32 ∧ st.parts.length = 32) ∨ (g = 0 ∧ x.length ≤ 26 ∧ ¬ (st.parts.length : Int) = 32) := by
            by_cases h26 : 26 < x.length
            · exact .inl ⟨h26, by rw [hg0, if_pos h26]⟩
            · by_cases h32 : st.parts.length = 32
              · exact .inr (.inl ⟨by rw [hg0, if_neg h26], by omega, h32⟩)
              · exact .inr (.inr ⟨by rw [hg0, if_neg h26], by omega, by omega⟩)
          clear hdv hW1 h2 h27 h4 ho hs1 hgd hstep hg hg0 hzx hb1
          rcases hcs with ⟨rfl, rfl⟩ | ⟨rfl, rfl, rfl, b2⟩ | ⟨rfl, rfl, hx2, b2⟩
          · rcases hbad with ⟨h26, rfl⟩ | ⟨rfl, h32, h32n⟩ | ⟨rfl, h26, h32⟩
            · go_wp2_with fail
              refine (HS.out _).mono ?_
              rintro _ _ ⟨rfl, rfl⟩
              go_wp2_with fail
              rw [← HW1.out]
              refine (HGD.out _).mono ?_
              rintro _ _ ⟨rfl, rfl⟩
              go_wp2_with fail
              refine bodyPost_ret (v := .tuple #[.agg #[.bool false, .bool false, .slice none 0 0], I 9]) (by simp [results, Tryd.results10, go_sem, e20, e21, e22, k20, k21, k22]) rfl (HERR.out (steps_stop HX.out HI.out.run (by rw [HST.out, if_pos (.inl h26)])) _ ?_)
              exact ((HS1.out.setCell (p := ⟨w.heap.size, 0, none⟩) (.inr (Nat.le_refl _)) _).setCell (p := ⟨w.heap.size, 1, none⟩) (.inr (Nat.le_refl _)) _).setCell (p := ⟨w.heap.size, 2, none⟩) (.inr (Nat.le_refl _)) _
            · go_wp2_with fail
              refine (HS.out _).mono ?_
              rintro _ _ ⟨rfl, rfl⟩
              go_wp2_with fail
              rw [← HW1.out]
              refine (HGD.out _).mono ?_
              rintro _ _ ⟨rfl, rfl⟩
              go_wp2_with fail
              refine bodyPost_ret (v := .tuple #[.agg #[.bool false, .bool false, .slice none 0 0], I 9]) (by simp [results, Tryd.results10, go_sem, e20, e21, e22, k20, k21, k22]) rfl (HERR.out (steps_stop HX.out HI.out.run (by rw [HST.out, if_pos (.inr h32n)])) _ ?_)
              exact ((HS1.out.setCell (p := ⟨w.heap.size, 0, none⟩) (.inr (Nat.le_refl _)) _).setCell (p := ⟨w.heap.size, 1, none⟩) (.inr (Nat.le_refl _)) _).setCell (p := ⟨w.heap.size, 2, none⟩) (.inr (Nat.le_refl _)) _
            · go_wp2_with fail
              refine (HS.out _).mono ?_
              rintro _ _ ⟨rfl, rfl⟩
              go_wp2_with fail
              rw [← HW1.out]
              refine (HGD.out _).mono ?_
              rintro _ _ ⟨rfl, rfl⟩
              have h63 : st.parts.length + 1 ≤ maxLen := by simp [maxLen]; omega
              have hby : (st.parts.length + 1) * 16 ≤ 140737488355328 := by omega
              have hone : ∀ u ∈ (#[Sv x] : Array Value).toList, u.oneCell' = true := by simp [Value.oneCell']
              have HONE := Lib.hid hone
              clear hone
              go_wp2_with (at_builtin; go_loud (refine wpList_push slStrs rfl (.tmp 59) (.tmp 61) rfl (w.heap.size + 3) (.slice A st.parts.length cv) st.parts.length (st.parts.map Sv) rfl (own_safe HO.out ((But.refl _ W1).alloc _)) W1.heap.size 9 #[Sv x] rfl (Blk.new _ _ _) rfl HONE.out h63 hby (Nat.le_trans hz1 ((But.refl (fun _ => False) W1).alloc _).size) ?_; intro v2 w2 ho2 hg2 hd2; obtain ⟨A2, c2, rfl, -⟩ := own_form ho2; have hb2 := ((But.refl (fun j => some j = (Value.slice A st.parts.length cv).ownBlock) W1).alloc (.cells #[Sv x] 9)).trans (But.of_grown hg2); have e4 : w2.cell? ⟨w.heap.size + 1, 2, none⟩ = some (.slice A st.parts.length cv) := hb2.cell e2 HNB.out; have f4 := (hb2.frozen (a := ⟨w.heap.size + 1, 2, none⟩) hlt4 HNB.out).trans k42; have HB2' := Lib.hid hb2; have HO2 := Lib.hid ho2; clear hb2 ho2 hg2 hd2))
              have hI2 := HI.out.push HX.out (by rw [HST.out, if_neg (by omega)]) (by omega) HBW.out (by rw [← HDV.out]; exact HB4.out) HB2'.out HO2.out
              have HI2 := Lib.hid hI2
              clear hI2
              go_roundw
              case rel => exact ⟨k + 1, _, _, by omega, by go_num, HI2.out⟩
              case measure => simp [intOf]; omega
          · rcases hbad with ⟨h26, rfl⟩ | ⟨rfl, h32, h32n⟩ | ⟨rfl, h26, h32⟩
            · exact absurd h26 (by decide)
            · go_wp2_with fail
              refine (HS.out _).mono ?_
              rintro _ _ ⟨rfl, rfl⟩
              go_wp2_with fail
              rw [← HW1.out]
              refine (HGD.out _).mono ?_
              rintro _ _ ⟨rfl, rfl⟩
              go_wp2_with fail
              refine bodyPost_ret (v := .tuple #[.agg #[.bool false, .bool false, .slice none 0 0], I 9]) (by simp [results, Tryd.results10, go_sem, e20, e21, e22, k20, k21, k22]) rfl (HERR.out (steps_stop HX.out HI.out.run (by rw [HST.out, if_pos (.inr h32n)])) _ ?_)
              exact ((HS1.out.setCell (p := ⟨w.heap.size, 0, none⟩) (.inr (Nat.le_refl _)) _).setCell (p := ⟨w.heap.size, 1, none⟩) (.inr (Nat.le_refl _)) _).setCell (p := ⟨w.heap.size, 2, none⟩) (.inr (Nat.le_refl _)) _
            · go_wp2_with fail
              refine (HS.out _).mono ?_
              rintro _ _ ⟨rfl, rfl⟩
              go_wp2_with fail
              rw [← HW1.out]
              refine (HGD.out _).mono ?_
              rintro _ _ ⟨rfl, rfl⟩
              have h63 : st.parts.length + 1 ≤ maxLen := by simp [maxLen]; omega
              have hby : (st.parts.length + 1) * 16 ≤ 140737488355328 := by omega
              have hone : ∀ u ∈ (#[Sv [46, 46]] : Array Value).toList, u.oneCell' = true := by simp [Value.oneCell']
              have HONE := Lib.hid hone
              clear hone
              go_wp2_with (at_builtin; go_loud (refine wpList_push slStrs rfl (.tmp 59) (.tmp 61) rfl (w.heap.size + 3) (.slice A st.parts.length cv) st.parts.length (st.parts.map Sv) rfl (own_safe HO.out ((But.refl _ W1).alloc _)) W1.heap.size 9 #[Sv [46, 46]] rfl (Blk.new _ _ _) rfl HONE.out h63 hby (Nat.le_trans hz1 ((But.refl (fun _ => False) W1).alloc _).size) ?_; intro v2 w2 ho2 hg2 hd2; obtain ⟨A2, c2, rfl, -⟩ := own_form ho2; have hb2 := ((But.refl (fun j => some j = (Value.slice A st.parts.length cv).ownBlock) W1).alloc (.cells #[Sv [46, 46]] 9)).trans (But.of_grown hg2); have e4 : w2.cell? ⟨w.heap.size + 1, 2, none⟩ = some (.slice A st.parts.length cv) := hb2.cell e2 HNB.out; have f4 := (hb2.frozen (a := ⟨w.heap.size + 1, 2, none⟩) hlt4 HNB.out).trans k42; have HB2' := Lib.hid hb2; have HO2 := Lib.hid ho2; clear hb2 ho2 hg2 hd2))
              have hI2 := HI.out.push HX.out (by rw [HST.out, if_neg (by omega)]) (by omega) HBW.out (by rw [← HDV.out]; exact HB4.out) HB2'.out HO2.out
              have HI2 := Lib.hid hI2
              clear hI2
              go_roundw
              case rel => exact ⟨k + 1, _, _, by omega, by go_num, HI2.out⟩
              case measure => simp [intOf]; omega
          · rcases hbad with ⟨h26, rfl⟩ | ⟨rfl, h32, h32n⟩ | ⟨rfl, h26, h32⟩
            · go_wp2_with fail
              refine (HS.out _).mono ?_
              rintro _ _ ⟨rfl, rfl⟩
              go_wp2_with fail
              rw [← HW1.out]
              refine (HGD.out _).mono ?_
              rintro _ _ ⟨rfl, rfl⟩
              go_wp2_with fail
              refine bodyPost_ret (v := .tuple #[.agg #[.bool false, .bool false, .slice none 0 0], I 9]) (by simp [results, Tryd.results10, go_sem, e20, e21, e22, k20, k21, k22]) rfl (HERR.out (steps_stop HX.out HI.out.run (by rw [HST.out, if_pos (.inl h26)])) _ ?_)
              exact ((HS1.out.setCell (p := ⟨w.heap.size, 0, none⟩) (.inr (Nat.le_refl _)) _).setCell (p := ⟨w.heap.size, 1, none⟩) (.inr (Nat.le_refl _)) _).setCell (p := ⟨w.heap.size, 2, none⟩) (.inr (Nat.le_refl _)) _
            · go_wp2_with fail
              refine (HS.out _).mono ?_
              rintro _ _ ⟨rfl, rfl⟩
              go_wp2_with fail
              rw [← HW1.out]
              refine (HGD.out _).mono ?_
              rintro _ _ ⟨rfl, rfl⟩
              go_wp2_with fail
              refine bodyPost_ret (v := .tuple #[.agg #[.bool false, .bool false, .slice none 0 0], I 9]) (by simp [results, Tryd.results10, go_sem, e20, e21, e22, k20, k21, k22]) rfl (HERR.out (steps_stop HX.out HI.out.run (by rw [HST.out, if_pos (.inr h32n)])) _ ?_)
              exact ((HS1.out.setCell (p := ⟨w.heap.size, 0, none⟩) (.inr (Nat.le_refl _)) _).setCell (p := ⟨w.heap.size, 1, none⟩) (.inr (Nat.le_refl _)) _).setCell (p := ⟨w.heap.size, 2, none⟩) (.inr (Nat.le_refl _)) _
            · go_wp2_with fail
              refine (HS.out _).mono ?_
              rintro _ _ ⟨rfl, rfl⟩
              go_wp2_with fail
              rw [← HW1.out]
              refine (HGD.out _).mono ?_
              rintro _ _ ⟨rfl, rfl⟩
              have h63 : st.parts.length + 1 ≤ maxLen := by simp [maxLen]; omega
              have hby : (st.parts.length + 1) * 16 ≤ 140737488355328 := by omega
              have hone : ∀ u ∈ (#[Sv x] : Array Value).toList, u.oneCell' = true := by simp [Value.oneCell']
              have HONE := Lib.hid hone
              clear hone
              go_wp2_with (at_builtin; go_loud (refine wpList_push slStrs rfl (.tmp 59) (.tmp 61) rfl (w.heap.size + 3) (.slice A st.parts.length cv) st.parts.length (st.parts.map Sv) rfl (own_safe HO.out ((But.refl _ W1).alloc _)) W1.heap.size 9 #[Sv x] rfl (Blk.new _ _ _) rfl HONE.out h63 hby (Nat.le_trans hz1 ((But.refl (fun _ => False) W1).alloc _).size) ?_; intro v2 w2 ho2 hg2 hd2; obtain ⟨A2, c2, rfl, -⟩ := own_form ho2; have hb2 := ((But.refl (fun j => some j = (Value.slice A st.parts.length cv).ownBlock) W1).alloc (.cells #[Sv x] 9)).trans (But.of_grown hg2); have e4 : w2.cell? ⟨w.heap.size + 1, 2, none⟩ = some (.slice A st.parts.length cv) := hb2.cell e2 HNB.out; have f4 := (hb2.frozen (a := ⟨w.heap.size + 1, 2, none⟩) hlt4 HNB.out).trans k42; have HB2' := Lib.hid hb2; have HO2 := Lib.hid ho2; clear hb2 ho2 hg2 hd2))
              have hI2 := HI.out.push HX.out (by rw [HST.out, if_neg (by omega)]) (by omega) HBW.out (by rw [← HDV.out]; exact HB4.out) HB2'.out HO2.out
              have HI2 := Lib.hid hI2
              clear hI2
              go_roundw
              case rel => exact ⟨k + 1, _, _, by omega, by go_num, HI2.out⟩
              case measure => simp [intOf]; omega
    · obtain rfl : k = (sp l).length := by omega
      have hrun := HI.out.run
      rw [List.take_length] at hrun
      have hp := HOK.out st hrun
      rw [← HHD.out, ← HHS.out] at hp
      have hp : parseM l = (⟨hd, dirB hs st, st.parts⟩, 0) := hp
      have d0 : wo.cell? ⟨w.heap.size + 1, 0, none⟩ = some (.bool hd) := HI.out.b4.cell' (i := 0) rfl
      have d1 : wo.cell? ⟨w.heap.size + 1, 1, none⟩ = some (.bool (dirB hs st)) := HI.out.b4.cell' (i := 1) rfl
      have d2 : wo.cell? ⟨w.heap.size + 1, 2, none⟩ = some v := HI.out.b4.cell' (i := 2) rfl
      have e20 : wo.cell? ⟨w.heap.size, 0, none⟩ = some (.bool false) := HI.out.b2.cell' (i := 0) rfl
      have e21 : wo.cell? ⟨w.heap.size, 1, none⟩ = some (.bool false) := HI.out.b2.cell' (i := 1) rfl
      have e22 : wo.cell? ⟨w.heap.size, 2, none⟩ = some (.slice none 0 0) := HI.out.b2.cell' (i := 2) rfl
      have k20 := HI.out.b2.frozen 0
      have k21 := HI.out.b2.frozen 1
      have k22 := HI.out.b2.frozen 2
      have HOW := Lib.hid HI.out.own
      obtain ⟨A, cv, hv, hcv⟩ := own_form HI.out.own
      subst hv
      have hbe : But (· = w.heap.size) wo (((wo.setCell ⟨w.heap.size, 0, none⟩ (.bool hd)).setCell ⟨w.heap.size, 1, none⟩ (.bool (dirB hs st))).setCell ⟨w.heap.size, 2, none⟩ (.slice A st.parts.length cv)) := (((But.refl (· = w.heap.size) wo).setCell (p := ⟨w.heap.size, 0, none⟩) (.inl rfl) _).setCell (p := ⟨w.heap.size, 1, none⟩) (.inl rfl) _).setCell (p := ⟨w.heap.size, 2, none⟩) (.inl rfl) _
      have how := own_base (own_but_kept HOW.out hbe (fun j hj e => by have := (HOW.out.lt j hj).1; have : j = w.heap.size := e; omega)) (show w.heap.size ≤ w.heap.size + 3 by omega)
      have hse : Safe w _ := HI.out.safe.step hbe (fun j hj => .inr (by have : j = w.heap.size := hj; omega))
      have HP0 := Lib.hid (show PRet l w (.returned (.tuple #[.agg #[.bool hd, .bool (dirB hs st), .slice A st.parts.length cv], I 0])) _ from by unfold PRet; rw [hp]; exact ⟨_, rfl, how, hse⟩)
      generalize dirB hs st = dv at *
      clear hrun hp how hse hbe HOW
      go_wp2_with fail
      exact bodyPost_ret (v := .tuple #[.agg #[.bool hd, .bool dv, .slice A st.parts.length cv], I 0]) (by simp [results, Tryd.results10, go_sem, e20, e21, e22, k20, k21, k22]) rfl HP0.out
end Go.Proofs.YtodlapkmcnmmhaaDoor
