/- The reference's Parse answers as name.Parse does. -/
import Derived.Test.YtodlapkmcnmmhaaDoorMj
namespace Go.Proofs.YtodlapkmcnmmhaaDoor
open Go.RowKit
set_option linter.unusedSimpArgs false
set_option linter.unusedVariables false

theorem drop_at {l : Bs} {f i : Nat} (hf : f ≤ i) (hi : l[i]? = some 47) : l.drop f = (l.drop f).take (i - f) ++ 47 :: l.drop (i + 1) := by
  have h1 : (l.drop f).drop (i - f) = l.drop i := by rw [List.drop_drop]; congr 1; omega
  have hlt := (List.getElem?_eq_some_iff.1 hi).1
  have h2 : l.drop i = 47 :: l.drop (i + 1) := by
    rw [List.drop_eq_getElem_cons hlt]
    congr 1
    exact (List.getElem?_eq_some_iff.1 hi).2
  conv => lhs; rw [← List.take_append_drop (i - f) (l.drop f), h1, h2]
theorem sp_at {l : Bs} {f i : Nat} (hf : f ≤ i) (hi : l[i]? = some 47) (hn : (47 : UInt8) ∉ (l.drop f).take (i - f)) : sp (l.drop f) = (l.drop f).take (i - f) :: sp (l.drop (i + 1)) := by
  have := drop_at hf hi
  conv => lhs; rw [this]
  exact sp_app _ _ hn
theorem take_more {l : Bs} {f i : Nat} {x : UInt8} (hf : f ≤ i) (hi : l[i]? = some x) : (l.drop f).take (i + 1 - f) = (l.drop f).take (i - f) ++ [x] := by
  have hlt := (List.getElem?_eq_some_iff.1 hi).1
  rw [show i + 1 - f = i - f + 1 by omega, List.take_add_one, List.getElem?_drop, show f + (i - f) = i by omega, hi]
  rfl
/-- What is left to do at index i: the pieces from f on. -/
structure RJ (l : Bs) (i f : Nat) (st : St) : Prop where
  run : steps (sp l) ⟨[], []⟩ = steps (sp (l.drop f)) st
  le : f ≤ i
  top : i ≤ l.length + 1
  fin : i = l.length + 1 → f = l.length + 1
  no : (47 : UInt8) ∉ (l.drop f).take (i - f)
theorem RJ.start (l : Bs) : RJ l 0 0 ⟨[], []⟩ := ⟨rfl, by omega, by omega, fun h => by omega, by simp⟩
theorem RJ.on {l : Bs} {i f : Nat} {st : St} {x : UInt8} (h : RJ l i f st) (hi : l[i]? = some x) (hx : x ≠ 47) : RJ l (i + 1) f st := by
  have hlt := (List.getElem?_eq_some_iff.1 hi).1
  have := h.le
  refine ⟨h.run, by omega, by omega, fun e => by omega, ?_⟩
  rw [take_more h.le hi, List.mem_append, List.mem_singleton]
  rintro (e | e)
  · exact h.no e
  · exact hx e.symm
/-- At the end of a piece. -/
def pieceOf (l : Bs) (f i : Nat) : Bs := (l.drop f).take (i - f)
theorem RJ.cut {l : Bs} {i f : Nat} {st : St} (h : RJ l i f st) (hi : l[i]? = some 47 ∨ i = l.length) : steps (sp l) ⟨[], []⟩ = (match step st (pieceOf l f i) with | none => none | some st' => steps (sp (l.drop (i + 1))) st') := by
  rw [h.run]
  rcases hi with hi | hi
  · rw [sp_at h.le hi h.no, steps]; rfl
  · subst hi
    have e : (l.drop f).take (l.length - f) = l.drop f := List.take_of_length_le (by simp)
    have hn := h.no
    rw [e] at hn
    rw [sp_one _ hn, show l.drop (l.length + 1) = [] from List.drop_eq_nil_of_le (by omega), pieceOf, e, steps]
    cases step st (l.drop f) with
    | none => rfl
    | some st' => simp [sp, steps, step]
theorem RJ.next {l : Bs} {i f : Nat} {st st' : St} (h : RJ l i f st) (hi : l[i]? = some 47 ∨ i = l.length) (hs : step st (pieceOf l f i) = some st') : RJ l (i + 1) (i + 1) st' := by
  have hlt : i ≤ l.length := by
    rcases hi with hi | hi
    · exact Nat.le_of_lt (List.getElem?_eq_some_iff.1 hi).1
    · omega
  refine ⟨?_, by omega, by omega, fun e => e, by simp⟩
  rw [h.cut hi, hs]
theorem RJ.stop {l : Bs} {i f : Nat} {st : St} (h : RJ l i f st) (hi : l[i]? = some 47 ∨ i = l.length) (hs : step st (pieceOf l f i) = none) : steps (sp l) ⟨[], []⟩ = none := by
  rw [h.cut hi, hs]
theorem RJ.done {l : Bs} {f : Nat} {st : St} (h : RJ l (l.length + 1) f st) : steps (sp l) ⟨[], []⟩ = some st := by
  rw [h.run, h.fin rfl, List.drop_eq_nil_of_le (by omega)]
  simp [sp, steps, step]
theorem piece_ext (l : Bs) (f i : Nat) : (⟨l.toArray⟩ : ByteArray).extract f i = ⟨(pieceOf l f i).toArray⟩ := by
  apply ByteArray.ext
  rw [ByteArray.data_extract]
  apply Array.ext'
  simp [pieceOf, List.extract_eq_take_drop]
theorem idx_at {l : Bs} {k : Nat} {x : UInt8} (h : l[k]? = some x) (w : World) : (Instr.index 9 (Sv l) (I k)).run Tryd.prog w = .ok (.int .u8 x.toNat) w := by
  have hlt := (List.getElem?_eq_some_iff.1 h).1
  have hsz : (⟨l.toArray⟩ : ByteArray).size = l.length := rfl
  rw [run_index_string w 9 _ .i64 k (by kernel_rfl), dif_pos ⟨by omega, by rw [hsz]; omega⟩]
  have := (List.getElem?_eq_some_iff.1 h).2
  congr 2
  show ((l.toArray[(k : Int).toNat]'_).toNat : Int) = _
  simp [this]
/-- A byte as a number. -/
theorem byte_int (x : UInt8) (n : Nat) (hn : n < 256) : ((x.toNat : Int) = n) ↔ x = UInt8.ofNat n := by
  constructor
  · intro h
    have : x.toNat = n := by omega
    rw [← this]; simp
  · rintro rfl
    simp [UInt8.toNat_ofNat, Nat.mod_eq_of_lt hn]
theorem PRet.fine {l : Bs} {w w' : World} {st : St} {v : Value} {hd dv : Bool} {b : Nat} (c0 : (0 : UInt8) ∉ l) (c1 : l ≠ []) (c2 : l.length ≤ 255) (hs : steps (sp l) ⟨[], []⟩ = some st) (e1 : hd = decide (l.head? = some 47))
    (e2 : dv = dirB (decide (l.getLast? = some 47)) st) (ho : w'.ownsRow b 9 1 v st.parts.length (st.parts.map Sv)) (hb : w.heap.size ≤ b) (hw : Safe w w') : PRet l w (.returned (.tuple #[.agg #[.bool hd, .bool dv, v], I 0])) w' := by
  unfold PRet
  rw [parse_mk c0 c1 c2 hs, e1, e2]
  exact ⟨v, rfl, own_base ho hb, hw⟩
/-- What holds at index i of the reference's loop. -/
structure RI (l : Bs) (hd : Bool) (w wr : World) (i f : Nat) (st : St) (v : Value) : Prop where
  j : RJ l i f st
  b2 : Blk wr w.heap.size 49 #[.bool false, .bool false, .slice none 0 0]
  b5 : Blk wr (w.heap.size + 1) 49 #[.bool hd, .bool false, v]
  own : wr.ownsRow (w.heap.size + 2) 9 1 v st.parts.length (st.parts.map Sv)
  len : st.parts.length ≤ 32
  safe : Safe w wr
  size : w.heap.size + 2 ≤ wr.heap.size
theorem RI.to {l : Bs} {hd : Bool} {w wr : World} {i f i2 f2 : Nat} {st st2 : St} {v : Value} (h : RI l hd w wr i f st v) (hj : RJ l i2 f2 st2) (hp : st2.parts = st.parts) : RI l hd w wr i2 f2 st2 v :=
  ⟨hj, h.b2, h.b5, by rw [hp]; exact h.own, by rw [hp]; exact h.len, h.safe, h.size⟩
theorem RI.push {l : Bs} {hd : Bool} {w wo w2 : World} {i f : Nat} {st : St} {v v2 : Value} {x : Bs} (h : RI l hd w wo i f st v) (hj : RJ l (i + 1) (i + 1) ⟨x, st.parts ++ [x]⟩) (hl : ¬ st.parts.length = 32) (hb2 : But (fun k => some k = v.ownBlock) wo w2)
    (ho2 : w2.ownsRow (w.heap.size + 2) 9 1 v2 (st.parts.length + 1) (st.parts.map Sv ++ [Sv x])) : RI l hd w (w2.setCell ⟨w.heap.size + 1, 2, none⟩ v2) (i + 1) (i + 1) ⟨x, st.parts ++ [x]⟩ v2 := by
  have hn : ∀ g, g < w.heap.size + 2 → ¬ (fun k => some k = v.ownBlock) g := fun g hg e => by have := (h.own.lt g e.symm).1; omega
  have h2 := h.b2.but hb2 (hn _ (by omega))
  have h44 := (h.b5.but hb2 (hn _ (by omega))).set 2 v2
  have hs2 : Safe w w2 := h.safe.step hb2 (fun j hj => .inr (by have := (h.own.lt j hj.symm).1; omega))
  refine ⟨hj, h2.far (by show _ ≠ w.heap.size + 1; omega) _, h44, ?_, ?_, hs2.setCell (p := ⟨w.heap.size + 1, 2, none⟩) (.inr (by show _ ≤ w.heap.size + 1; omega)) _, ?_⟩
  · have := own_but_kept ho2 ((But.refl (· = w.heap.size + 1) w2).setCell (p := ⟨w.heap.size + 1, 2, none⟩) (.inl rfl) v2) (fun j hj e => by have := (ho2.lt j hj).1; have : j = w.heap.size + 1 := e; omega)
    simpa using this
  · have := h.len; simp; omega
  · have := Nat.le_trans h.size hb2.size
    simpa [World.setCell] using this
theorem RI.fin {l : Bs} {hd dv : Bool} {w wo : World} {i f : Nat} {st : St} {v : Value} (h : RI l hd w wo i f st v) :
    ((((wo.setCell ⟨w.heap.size + 1, 1, none⟩ (.bool dv)).setCell ⟨w.heap.size, 0, none⟩ (.bool hd)).setCell ⟨w.heap.size, 1, none⟩ (.bool dv)).setCell ⟨w.heap.size, 2, none⟩ v).ownsRow (w.heap.size + 2) 9 1 v st.parts.length (st.parts.map Sv) ∧
    Safe w ((((wo.setCell ⟨w.heap.size + 1, 1, none⟩ (.bool dv)).setCell ⟨w.heap.size, 0, none⟩ (.bool hd)).setCell ⟨w.heap.size, 1, none⟩ (.bool dv)).setCell ⟨w.heap.size, 2, none⟩ v) := by
  have hb : But (fun j => j < w.heap.size + 2) wo _ := ((((But.refl (fun j => j < w.heap.size + 2) wo).setCell (p := ⟨w.heap.size + 1, 1, none⟩) (.inl (by show w.heap.size + 1 < _; omega)) (.bool dv)).setCell (p := ⟨w.heap.size, 0, none⟩) (.inl (by show w.heap.size < _; omega)) (.bool hd)).setCell (p := ⟨w.heap.size, 1, none⟩) (.inl (by show w.heap.size < _; omega)) (.bool dv)).setCell (p := ⟨w.heap.size, 2, none⟩) (.inl (by show w.heap.size < _; omega)) v
  refine ⟨own_but_kept h.own hb (fun j hj e => by have := (h.own.lt j hj).1; omega), ?_⟩
  exact (((h.safe.setCell (p := ⟨w.heap.size + 1, 1, none⟩) (.inr (Nat.le_succ _)) _).setCell (p := ⟨w.heap.size, 0, none⟩) (.inr (Nat.le_refl _)) _).setCell (p := ⟨w.heap.size, 1, none⟩) (.inr (Nat.le_refl _)) _).setCell (p := ⟨w.heap.size, 2, none⟩) (.inr (Nat.le_refl _)) _
set_option maxRecDepth 100000 in
set_option maxHeartbeats 8000000 in
theorem rparse_any (l : Bs) (w : World) (hl : l.length < 100000) : Calls Tryd.prog 18 #[Sv l] w (PRet l w) := by
  have hll : (⟨l.toArray⟩ : ByteArray).size = l.length := rfl
  have HE := Lib.hid (fun n (hp : parseM l = (noPath, n)) w' hs => PRet.err (w := w) (w' := w') hp hs)
  have HF := Lib.hid (fun w' st v hd dv b => PRet.fine (l := l) (w := w) (w' := w') (st := st) (v := v) (hd := hd) (dv := dv) (b := b))
  generalize PRet l w = Q at *
  obtain ⟨w0, hw0⟩ : ∃ w0, w0 = w.alloc (.cells #[.bool false, .bool false, .slice none 0 0] 49) := ⟨_, rfl⟩
  have hb0 : Blk w0 w.heap.size 49 #[.bool false, .bool false, .slice none 0 0] := by rw [hw0]; exact Blk.new _ _ _
  have hs0 : Safe w w0 := by rw [hw0]; exact (But.refl _ w).alloc _
  have c0 : w0.cell? ⟨w.heap.size, 0, none⟩ = some (.bool false) := hb0.cell' (i := 0) rfl
  have c1 : w0.cell? ⟨w.heap.size, 1, none⟩ = some (.bool false) := hb0.cell' (i := 1) rfl
  have c2 : w0.cell? ⟨w.heap.size, 2, none⟩ = some (.slice none 0 0) := hb0.cell' (i := 2) rfl
  have k0 := hb0.frozen 0
  have k1 := hb0.frozen 1
  have k2 := hb0.frozen 2
  have HS0 := Lib.hid hs0
  have HB0 := Lib.hid hb0
  have hsz : w0.heap.size = w.heap.size + 1 := by rw [hw0]; simp
  clear hs0 hb0
  go_enter Tryd.func18, Tryd.ntmps18
  go_wp2_with fail
  rw [← hw0]
  clear hw0
  go_loopw [4] (fun x wr => ∃ k : Nat, k ≤ l.length ∧ x = .int .i64 k ∧ (0 : UInt8) ∉ l.take k ∧ wr = w0) (fun x _ => l.length - (intOf x).toNat)
  case atStart => exact ⟨0, by omega, rfl, by simp, rfl⟩
  case round =>
    obtain ⟨k, hk, rfl, hz, rfl⟩ := hrel
    have HZ := Lib.hid hz
    clear hz
    by_cases hlt : k < l.length
    · obtain ⟨x, hx⟩ : ∃ x, l[k]? = some x := ⟨_, List.getElem?_eq_getElem hlt⟩
      have hlt2 : (k : Int) < l.length := by omega
      have hid := idx_at hx
      have HX := Lib.hid hx
      clear hx
      by_cases hx0 : x = 0
      · subst hx0
        have hq := HE.out 1 (by unfold parseM; rw [if_pos (List.mem_of_getElem? HX.out)])
        have HQ := Lib.hid hq
        clear hq
        go_wp2_with fail
        refine bodyPost_ret (v := .tuple #[.agg #[.bool false, .bool false, .slice none 0 0], I 1]) (by simp [results, Tryd.results18, go_sem, c0, c1, c2, k0, k1, k2]) rfl (HQ.out _ ?_)
        exact (((HS0.out.setCell (p := ⟨w.heap.size, 0, none⟩) (.inr (Nat.le_refl _)) _).setCell (p := ⟨w.heap.size, 1, none⟩) (.inr (Nat.le_refl _)) _).setCell (p := ⟨w.heap.size, 2, none⟩) (.inr (Nat.le_refl _)) _)
      · have hxn : ¬ ((x.toNat : Int) = 0) := fun e => hx0 ((byte_int x 0 (by omega)).1 e)
        go_wp2_with fail
        refine ⟨⟨k + 1, by omega, by go_num, ?_, trivial⟩, by simp [intOf]; omega⟩
        rw [List.take_add_one, HX.out, Option.toList_some, List.mem_append, List.mem_singleton]
        rintro (e | e)
        · exact HZ.out e
        · exact hx0 e.symm
    · obtain rfl : k = l.length := by omega
      have hz : (0 : UInt8) ∉ l := by have := HZ.out; rwa [List.take_length] at this
      have HZL := Lib.hid hz
      clear hz HZ hlt hk
      by_cases hn : l.length = 0
      · have hq := HE.out 4 (by unfold parseM; rw [if_neg HZL.out, if_pos (List.eq_nil_of_length_eq_zero hn)])
        have HQ := Lib.hid hq
        clear hq
        have hn2 : (l.length : Int) = 0 := by omega
        go_wp2_with fail
        refine bodyPost_ret (v := .tuple #[.agg #[.bool false, .bool false, .slice none 0 0], I 4]) (by simp [results, Tryd.results18, go_sem, c0, c1, c2, k0, k1, k2]) rfl (HQ.out _ ?_)
        exact (((HS0.out.setCell (p := ⟨w.heap.size, 0, none⟩) (.inr (Nat.le_refl _)) _).setCell (p := ⟨w.heap.size, 1, none⟩) (.inr (Nat.le_refl _)) _).setCell (p := ⟨w.heap.size, 2, none⟩) (.inr (Nat.le_refl _)) _)
      have hne : ¬ (l.length : Int) = 0 := by omega
      have hnil : l ≠ [] := fun e => hn (by rw [e]; rfl)
      by_cases h255 : 255 < l.length
      · have hq := HE.out 9 (by unfold parseM; rw [if_neg HZL.out, if_neg hnil, if_pos h255])
        have HQ := Lib.hid hq
        clear hq
        have hn2 : (255 : Int) < l.length := by omega
        go_wp2_with fail
        refine bodyPost_ret (v := .tuple #[.agg #[.bool false, .bool false, .slice none 0 0], I 9]) (by simp [results, Tryd.results18, go_sem, c0, c1, c2, k0, k1, k2]) rfl (HQ.out _ ?_)
        exact (((HS0.out.setCell (p := ⟨w.heap.size, 0, none⟩) (.inr (Nat.le_refl _)) _).setCell (p := ⟨w.heap.size, 1, none⟩) (.inr (Nat.le_refl _)) _).setCell (p := ⟨w.heap.size, 2, none⟩) (.inr (Nat.le_refl _)) _)
      have hle : (l.length : Int) ≤ 255 := by omega
      have hpos : (0 : Int) < l.length := by omega
      obtain ⟨x0, hx0⟩ : ∃ x, l[0]? = some x := ⟨_, List.getElem?_eq_getElem (by omega)⟩
      obtain ⟨z, hz⟩ : ∃ x, l[l.length - 1]? = some x := ⟨_, List.getElem?_eq_getElem (by omega)⟩
      have hid0 : ∀ w, (Instr.index 9 (Sv l) (I 0)).run Tryd.prog w = .ok (.int .u8 x0.toNat) w := idx_at hx0
      have hidz := idx_at hz
      rw [show ((l.length - 1 : Nat) : Int) = (l.length : Int) - 1 from by omega] at hidz
      have hHE := HE.out 9
      obtain ⟨hd, ehd⟩ : ∃ b, b = decide (l.head? = some 47) := ⟨_, rfl⟩
      have HHD := Lib.hid ehd
      have hdc : (x0 = 47 ∧ hd = true) ∨ (x0 ≠ 47 ∧ hd = false) := by
        rw [ehd, List.head?_eq_getElem?, hx0]
        by_cases h : x0 = 47
        · exact .inl ⟨h, by simp [h]⟩
        · exact .inr ⟨h, by simp [h]⟩
      have HZ := Lib.hid hz
      have HNIL := Lib.hid hnil
      have HI0 := Lib.hid (show ∀ b, b = hd → RI l hd w (wr.alloc (.cells #[.bool b, .bool false, .slice none 0 0] 49)) 0 0 ⟨[], []⟩ (.slice none 0 0) from fun b e => ⟨RJ.start l, HB0.out.alloc _, by rw [e]; exact Blk.new' _ _ (by rw [hsz]), World.ownsRow_nil _ _ _ _, by simp, HS0.out.alloc _, by simp; omega⟩)
      clear hx0 hz ehd hnil hn h255 hHE HB0 HS0 c0 c1 c2 k0 k1 k2
      as_aux_lemma =>
      have hdq : decide ((x0.toNat : Int) = 47) = hd := by
        rcases hdc with ⟨rfl, rfl⟩ | ⟨hx0, rfl⟩
        · rfl
        · exact decide_eq_false fun e => hx0 ((byte_int x0 47 (by omega)).1 e)
      have hdq2 : ((x0.toNat : Int) == 47) = hd := by rw [← hdq]; rfl
      clear hdc
      go_wp2_with fail
      go_loopw [6, 7, 8] (fun x y z wr => ∃ (i f : Nat) (st : St) (v : Value), x = .int .i64 f ∧ y = Sv st.last ∧ z = .int .i64 i ∧ RI l hd w wr i f st v) (fun _ _ z _ => l.length + 1 - (intOf z).toNat)
      case atStart => exact ⟨0, 0, ⟨[], []⟩, _, rfl, rfl, rfl, HI0.out _ rfl⟩
      case round =>
        obtain ⟨i, f, st, v, rfl, rfl, rfl, hI⟩ := hrel
        have hfi0 := hI.j.le
        have htop := hI.j.top
        have HI := Lib.hid hI
        clear hI
        obtain ⟨wo, rfl⟩ : ∃ wo : World, wo = wr := ⟨_, rfl⟩
        have hfi : (f : Int) ≤ i := by omega
        obtain ⟨lst, hlst⟩ : ∃ y, y = st.last := ⟨_, rfl⟩
        have hll2 : (⟨lst.toArray⟩ : ByteArray).size = lst.length := rfl
        rw [← hlst]
        have HLST := Lib.hid hlst
        clear hlst
        by_cases hil0 : i ≤ l.length
        · have hil : (i : Int) ≤ l.length := by omega
          have hcs : (∃ x, l[i]? = some x ∧ x ≠ 47) ∨ (l[i]? = some 47) ∨ i = l.length := by
            by_cases e : i = l.length
            · exact .inr (.inr e)
            · obtain ⟨x, hx⟩ : ∃ x, l[i]? = some x := ⟨_, List.getElem?_eq_getElem (by omega)⟩
              by_cases h : x = 47
              · exact .inr (.inl (by rw [hx, h]))
              · exact .inl ⟨x, hx, h⟩
          rcases hcs with ⟨x, hx, hx47⟩ | hcs
          · have hlt := (List.getElem?_eq_some_iff.1 hx).1
            have hlt2 : (i : Int) < l.length := by omega
            have hid := idx_at hx
            have hxn : ¬ ((x.toNat : Int) = 47) := fun e => hx47 ((byte_int x 47 (by omega)).1 e)
            have hI2 := Lib.hid (HI.out.to (HI.out.j.on hx hx47) rfl)
            clear hx
            go_wp2_with fail
            refine ⟨⟨i + 1, f, st, v, by go_num, by rw [HLST.out], by go_num, hI2.out⟩, by simp [intOf]; omega⟩
          · have HC := Lib.hid hcs
            obtain ⟨x, hx⟩ : ∃ x, x = pieceOf l f i := ⟨_, rfl⟩
            have hex : (⟨l.toArray⟩ : ByteArray).extract f i = ⟨x.toArray⟩ := by rw [hx]; exact piece_ext l f i
            have hxl : (⟨x.toArray⟩ : ByteArray).size = x.length := rfl
            have HX := Lib.hid hx
            clear hx
            rcases hcs with hcs | hcs
            · have hlt := (List.getElem?_eq_some_iff.1 hcs).1
              have hlt2 : (i : Int) < l.length := by omega
              have hid : ∀ w, (Instr.index 9 (Sv l) (I i)).run Tryd.prog w = .ok (.int .u8 47) w := idx_at hcs
              clear hcs
              as_aux_lemma =>
              by_cases hx0 : x = []
              · subst hx0
                have hI2 := Lib.hid (HI.out.to (HI.out.j.next HC.out (st' := st) (by rw [← HX.out]; simp [step])) rfl)
                go_wp2_with fail
                refine ⟨⟨i + 1, i + 1, st, v, by go_num, by rw [HLST.out], by go_num, hI2.out⟩, by simp [intOf]; omega⟩
              have hxe : x.isEmpty = false := by simpa using hx0
              by_cases hx1 : x = [46]
              · subst hx1
                have hI2 := Lib.hid (HI.out.to (HI.out.j.next HC.out (st' := ⟨[46], st.parts⟩) (by rw [← HX.out]; simp [step])) rfl)
                go_wp2_with fail
                refine ⟨⟨i + 1, i + 1, ⟨[46], st.parts⟩, v, by go_num, rfl, by go_num, hI2.out⟩, by simp [intOf]; omega⟩
              have b1 : (x == [46]) = false := by simpa using hx1
              have hstep : step st x = if 26 < x.length ∨ st.parts.length = 32 then none else some ⟨x, st.parts ++ [x]⟩ := by simp only [step, if_neg hx0, if_neg hx1]
              have hpl := HI.out.len
              obtain ⟨A, cv, hv, hcv⟩ := own_form HI.out.own
              subst hv
              have hbad : (26 < x.length) ∨ (x.length ≤ 26 ∧ (st.parts.length : Int) = 32 ∧ st.parts.length = 32) ∨ (x.length ≤ 26 ∧ ¬ (st.parts.length : Int) = 32) := by omega
              have d1 : wo.cell? ⟨w.heap.size + 1, 2, none⟩ = some (.slice A st.parts.length cv) := HI.out.b5.cell' (i := 2) rfl
              have k52 := HI.out.b5.frozen 2
              have hlt5 := HI.out.b5.lt
              have c0 : wo.cell? ⟨w.heap.size, 0, none⟩ = some (.bool false) := HI.out.b2.cell' (i := 0) rfl
              have c1 : wo.cell? ⟨w.heap.size, 1, none⟩ = some (.bool false) := HI.out.b2.cell' (i := 1) rfl
              have c2 : wo.cell? ⟨w.heap.size, 2, none⟩ = some (.slice none 0 0) := HI.out.b2.cell' (i := 2) rfl
              have k0 := HI.out.b2.frozen 0
              have k1 := HI.out.b2.frozen 1
              have k2 := HI.out.b2.frozen 2
              have HST := Lib.hid hstep
              clear hstep hx1
              rcases hbad with h26 | ⟨h26, h32, h32n⟩ | ⟨h26, h32⟩
              · have h26i : (26 : Int) < x.length := by omega
                have hq := HE.out 9 (parse_stop HZL.out HNIL.out (by omega) (HI.out.j.stop HC.out (by rw [← HX.out, HST.out, if_pos (.inl h26)])))
                have HQ := Lib.hid hq
                clear hq
                go_wp2_with fail
                refine bodyPost_ret (v := .tuple #[.agg #[.bool false, .bool false, .slice none 0 0], I 9]) (by simp [results, Tryd.results18, go_sem, c0, c1, c2, k0, k1, k2]) rfl (HQ.out _ ?_)
                exact ((HI.out.safe.setCell (p := ⟨w.heap.size, 0, none⟩) (.inr (Nat.le_refl _)) _).setCell (p := ⟨w.heap.size, 1, none⟩) (.inr (Nat.le_refl _)) _).setCell (p := ⟨w.heap.size, 2, none⟩) (.inr (Nat.le_refl _)) _
              · have h26i : (x.length : Int) ≤ 26 := by omega
                have hq := HE.out 9 (parse_stop HZL.out HNIL.out (by omega) (HI.out.j.stop HC.out (by rw [← HX.out, HST.out, if_pos (.inr h32n)])))
                have HQ := Lib.hid hq
                clear hq
                go_wp2_with fail
                refine bodyPost_ret (v := .tuple #[.agg #[.bool false, .bool false, .slice none 0 0], I 9]) (by simp [results, Tryd.results18, go_sem, c0, c1, c2, k0, k1, k2]) rfl (HQ.out _ ?_)
                exact ((HI.out.safe.setCell (p := ⟨w.heap.size, 0, none⟩) (.inr (Nat.le_refl _)) _).setCell (p := ⟨w.heap.size, 1, none⟩) (.inr (Nat.le_refl _)) _).setCell (p := ⟨w.heap.size, 2, none⟩) (.inr (Nat.le_refl _)) _
              · have h26i : (x.length : Int) ≤ 26 := by omega
                have hj := Lib.hid (HI.out.j.next HC.out (st' := ⟨x, st.parts ++ [x]⟩) (by rw [← HX.out, HST.out, if_neg (by omega)]))
                have hb32 : ((st.parts.length : Int) == 32) = false := by simpa using h32
                have hnb : ¬ (fun j => some j = (Value.slice A st.parts.length cv).ownBlock) (w.heap.size + 1) := fun e => by have := (HI.out.own.lt _ e.symm).1; omega
                have HNB := Lib.hid hnb
                have hz1 := Lib.hid HI.out.size
                have h63 : st.parts.length + 1 ≤ maxLen := by simp [maxLen]; omega
                have hby : (st.parts.length + 1) * 16 ≤ 140737488355328 := by omega
                have hone : ∀ u ∈ (#[Sv x] : Array Value).toList, u.oneCell' = true := by simp [Value.oneCell']
                have HONE := Lib.hid hone
                clear hone hnb c0 c1 c2 k0 k1 k2
                go_wp2_with (at_builtin; go_loud (refine wpList_push slStrs rfl (.tmp 71) (.tmp 73) rfl (w.heap.size + 2) (.slice A st.parts.length cv) st.parts.length (st.parts.map Sv) rfl (own_safe HI.out.own ((But.refl _ wo).alloc _)) wo.heap.size 9 #[Sv x] rfl (Blk.new _ _ _) rfl HONE.out h63 hby (Nat.le_trans hz1.out ((But.refl (fun _ => False) wo).alloc _).size) ?_; intro v2 w2 ho2 hg2 hd2; obtain ⟨A2, c2, rfl, -⟩ := own_form ho2; have hb2 := ((But.refl (fun j => some j = (Value.slice A st.parts.length cv).ownBlock) wo).alloc (.cells #[Sv x] 9)).trans (But.of_grown hg2); have e4 : w2.cell? ⟨w.heap.size + 1, 2, none⟩ = some (.slice A st.parts.length cv) := hb2.cell d1 HNB.out; have f4 := (hb2.frozen (a := ⟨w.heap.size + 1, 2, none⟩) hlt5 HNB.out).trans k52; have HB2' := Lib.hid hb2; have HO2 := Lib.hid ho2; clear hb2 ho2 hg2 hd2))
                have hI2 := Lib.hid (HI.out.push hj.out (by omega) HB2'.out HO2.out)
                go_roundw
                case rel => exact ⟨_, .int .i64 ((i : Int) + 1), Sv x, .int .i64 ((i : Int) + 1), ⟨i + 1, i + 1, by go_num, ⟨x, st.parts ++ [x]⟩, rfl, by go_num, _, hI2.out⟩, rfl, rfl, rfl, rfl⟩
                case measure => simp [intOf]; omega
            · have hlt2 : ¬ (i : Int) < l.length := by omega
              clear hcs
              as_aux_lemma =>
              by_cases hx0 : x = []
              · subst hx0
                have hI2 := Lib.hid (HI.out.to (HI.out.j.next HC.out (st' := st) (by rw [← HX.out]; simp [step])) rfl)
                go_wp2_with fail
                refine ⟨⟨i + 1, i + 1, st, v, by go_num, by rw [HLST.out], by go_num, hI2.out⟩, by simp [intOf]; omega⟩
              have hxe : x.isEmpty = false := by simpa using hx0
              by_cases hx1 : x = [46]
              · subst hx1
                have hI2 := Lib.hid (HI.out.to (HI.out.j.next HC.out (st' := ⟨[46], st.parts⟩) (by rw [← HX.out]; simp [step])) rfl)
                go_wp2_with fail
                refine ⟨⟨i + 1, i + 1, ⟨[46], st.parts⟩, v, by go_num, rfl, by go_num, hI2.out⟩, by simp [intOf]; omega⟩
              have b1 : (x == [46]) = false := by simpa using hx1
              have hstep : step st x = if 26 < x.length ∨ st.parts.length = 32 then none else some ⟨x, st.parts ++ [x]⟩ := by simp only [step, if_neg hx0, if_neg hx1]
              have hpl := HI.out.len
              obtain ⟨A, cv, hv, hcv⟩ := own_form HI.out.own
              subst hv
              have hbad : (26 < x.length) ∨ (x.length ≤ 26 ∧ (st.parts.length : Int) = 32 ∧ st.parts.length = 32) ∨ (x.length ≤ 26 ∧ ¬ (st.parts.length : Int) = 32) := by omega
              have d1 : wo.cell? ⟨w.heap.size + 1, 2, none⟩ = some (.slice A st.parts.length cv) := HI.out.b5.cell' (i := 2) rfl
              have k52 := HI.out.b5.frozen 2
              have hlt5 := HI.out.b5.lt
              have c0 : wo.cell? ⟨w.heap.size, 0, none⟩ = some (.bool false) := HI.out.b2.cell' (i := 0) rfl
              have c1 : wo.cell? ⟨w.heap.size, 1, none⟩ = some (.bool false) := HI.out.b2.cell' (i := 1) rfl
              have c2 : wo.cell? ⟨w.heap.size, 2, none⟩ = some (.slice none 0 0) := HI.out.b2.cell' (i := 2) rfl
              have k0 := HI.out.b2.frozen 0
              have k1 := HI.out.b2.frozen 1
              have k2 := HI.out.b2.frozen 2
              have HST := Lib.hid hstep
              clear hstep hx1
              rcases hbad with h26 | ⟨h26, h32, h32n⟩ | ⟨h26, h32⟩
              · have h26i : (26 : Int) < x.length := by omega
                have hq := HE.out 9 (parse_stop HZL.out HNIL.out (by omega) (HI.out.j.stop HC.out (by rw [← HX.out, HST.out, if_pos (.inl h26)])))
                have HQ := Lib.hid hq
                clear hq
                go_wp2_with fail
                refine bodyPost_ret (v := .tuple #[.agg #[.bool false, .bool false, .slice none 0 0], I 9]) (by simp [results, Tryd.results18, go_sem, c0, c1, c2, k0, k1, k2]) rfl (HQ.out _ ?_)
                exact ((HI.out.safe.setCell (p := ⟨w.heap.size, 0, none⟩) (.inr (Nat.le_refl _)) _).setCell (p := ⟨w.heap.size, 1, none⟩) (.inr (Nat.le_refl _)) _).setCell (p := ⟨w.heap.size, 2, none⟩) (.inr (Nat.le_refl _)) _
              · have h26i : (x.length : Int) ≤ 26 := by omega
                have hq := HE.out 9 (parse_stop HZL.out HNIL.out (by omega) (HI.out.j.stop HC.out (by rw [← HX.out, HST.out, if_pos (.inr h32n)])))
                have HQ := Lib.hid hq
                clear hq
                go_wp2_with fail
                refine bodyPost_ret (v := .tuple #[.agg #[.bool false, .bool false, .slice none 0 0], I 9]) (by simp [results, Tryd.results18, go_sem, c0, c1, c2, k0, k1, k2]) rfl (HQ.out _ ?_)
                exact ((HI.out.safe.setCell (p := ⟨w.heap.size, 0, none⟩) (.inr (Nat.le_refl _)) _).setCell (p := ⟨w.heap.size, 1, none⟩) (.inr (Nat.le_refl _)) _).setCell (p := ⟨w.heap.size, 2, none⟩) (.inr (Nat.le_refl _)) _
              · have h26i : (x.length : Int) ≤ 26 := by omega
                have hj := Lib.hid (HI.out.j.next HC.out (st' := ⟨x, st.parts ++ [x]⟩) (by rw [← HX.out, HST.out, if_neg (by omega)]))
                have hb32 : ((st.parts.length : Int) == 32) = false := by simpa using h32
                have hnb : ¬ (fun j => some j = (Value.slice A st.parts.length cv).ownBlock) (w.heap.size + 1) := fun e => by have := (HI.out.own.lt _ e.symm).1; omega
                have HNB := Lib.hid hnb
                have hz1 := Lib.hid HI.out.size
                have h63 : st.parts.length + 1 ≤ maxLen := by simp [maxLen]; omega
                have hby : (st.parts.length + 1) * 16 ≤ 140737488355328 := by omega
                have hone : ∀ u ∈ (#[Sv x] : Array Value).toList, u.oneCell' = true := by simp [Value.oneCell']
                have HONE := Lib.hid hone
                clear hone hnb c0 c1 c2 k0 k1 k2
                go_wp2_with (at_builtin; go_loud (refine wpList_push slStrs rfl (.tmp 71) (.tmp 73) rfl (w.heap.size + 2) (.slice A st.parts.length cv) st.parts.length (st.parts.map Sv) rfl (own_safe HI.out.own ((But.refl _ wo).alloc _)) wo.heap.size 9 #[Sv x] rfl (Blk.new _ _ _) rfl HONE.out h63 hby (Nat.le_trans hz1.out ((But.refl (fun _ => False) wo).alloc _).size) ?_; intro v2 w2 ho2 hg2 hd2; obtain ⟨A2, c2, rfl, -⟩ := own_form ho2; have hb2 := ((But.refl (fun j => some j = (Value.slice A st.parts.length cv).ownBlock) wo).alloc (.cells #[Sv x] 9)).trans (But.of_grown hg2); have e4 : w2.cell? ⟨w.heap.size + 1, 2, none⟩ = some (.slice A st.parts.length cv) := hb2.cell d1 HNB.out; have f4 := (hb2.frozen (a := ⟨w.heap.size + 1, 2, none⟩) hlt5 HNB.out).trans k52; have HB2' := Lib.hid hb2; have HO2 := Lib.hid ho2; clear hb2 ho2 hg2 hd2))
                have hI2 := Lib.hid (HI.out.push hj.out (by omega) HB2'.out HO2.out)
                go_roundw
                case rel => exact ⟨_, .int .i64 ((i : Int) + 1), Sv x, .int .i64 ((i : Int) + 1), ⟨i + 1, i + 1, by go_num, ⟨x, st.parts ++ [x]⟩, rfl, by go_num, _, hI2.out⟩, rfl, rfl, rfl, rfl⟩
                case measure => simp [intOf]; omega
        · obtain rfl : i = l.length + 1 := by omega
          have hgt : ¬ (((l.length + 1 : Nat) : Int) ≤ l.length) := by omega
          have hdone := HI.out.j.done
          have e0 : wo.cell? ⟨w.heap.size + 1, 0, none⟩ = some (.bool hd) := HI.out.b5.cell' (i := 0) rfl
          have e1 : wo.cell? ⟨w.heap.size + 1, 1, none⟩ = some (.bool false) := HI.out.b5.cell' (i := 1) rfl
          have e2 : wo.cell? ⟨w.heap.size + 1, 2, none⟩ = some v := HI.out.b5.cell' (i := 2) rfl
          have f0 := HI.out.b5.frozen 0
          have f1 := HI.out.b5.frozen 1
          have f2 := HI.out.b5.frozen 2
          have c0 : wo.cell? ⟨w.heap.size, 0, none⟩ = some (.bool false) := HI.out.b2.cell' (i := 0) rfl
          have c1 : wo.cell? ⟨w.heap.size, 1, none⟩ = some (.bool false) := HI.out.b2.cell' (i := 1) rfl
          have c2 : wo.cell? ⟨w.heap.size, 2, none⟩ = some (.slice none 0 0) := HI.out.b2.cell' (i := 2) rfl
          have k0 := HI.out.b2.frozen 0
          have k1 := HI.out.b2.frozen 1
          have k2 := HI.out.b2.frozen 2
          have hlz : decide (l.getLast? = some 47) = decide (z = 47) := by rw [List.getLast?_eq_getElem?, HZ.out]; simp
          have HDN := Lib.hid hdone
          have HLZ := Lib.hid hlz
          clear hdone hlz
          obtain ⟨A, cv, hv, hcv⟩ := own_form HI.out.own
          subst hv
          have HFT := Lib.hid (HI.out.fin (dv := true))
          by_cases hz : z = 47
          · subst hz
            have HFN := HFT
            go_wp2_with fail
            refine bodyPost_ret (v := .tuple #[.agg #[.bool hd, .bool true, .slice A st.parts.length cv], I 0]) (by simp [results, Tryd.results18, go_sem, c0, c1, c2, k0, k1, k2]) rfl (HF.out _ st _ hd true _ HZL.out HNIL.out (by omega) HDN.out HHD.out ?_ HFN.out.1 (by omega) HFN.out.2)
            rw [HLZ.out]; simp [dirB]
          · have hzn : ((z.toNat : Int) == 47) = false := by simpa using fun e => hz ((byte_int z 47 (by omega)).1 e)
            by_cases hl1 : lst = [46]
            · subst hl1
              have HFN := HFT
              go_wp2_with fail
              refine bodyPost_ret (v := .tuple #[.agg #[.bool hd, .bool true, .slice A st.parts.length cv], I 0]) (by simp [results, Tryd.results18, go_sem, c0, c1, c2, k0, k1, k2]) rfl (HF.out _ st _ hd true _ HZL.out HNIL.out (by omega) HDN.out HHD.out ?_ HFN.out.1 (by omega) HFN.out.2)
              rw [HLZ.out]; simp [dirB, ← HLST.out]
            · have hl1b : (lst == [46]) = false := by simpa using hl1
              by_cases hl2 : lst = [46, 46]
              · subst hl2
                have HFN := HFT
                go_wp2_with fail
                refine bodyPost_ret (v := .tuple #[.agg #[.bool hd, .bool true, .slice A st.parts.length cv], I 0]) (by simp [results, Tryd.results18, go_sem, c0, c1, c2, k0, k1, k2]) rfl (HF.out _ st _ hd true _ HZL.out HNIL.out (by omega) HDN.out HHD.out ?_ HFN.out.1 (by omega) HFN.out.2)
                rw [HLZ.out]; simp [dirB, ← HLST.out]
              · have hl2b : (lst == [46, 46]) = false := by simpa using hl2
                have HFN := Lib.hid (HI.out.fin (dv := false))
                go_wp2_with fail
                refine bodyPost_ret (v := .tuple #[.agg #[.bool hd, .bool false, .slice A st.parts.length cv], I 0]) (by simp [results, Tryd.results18, go_sem, c0, c1, c2, k0, k1, k2]) rfl (HF.out _ st _ hd false _ HZL.out HNIL.out (by omega) HDN.out HHD.out ?_ HFN.out.1 (by omega) HFN.out.2)
                rw [HLZ.out]; simp [dirB, ← HLST.out, hz, hl1, hl2]
end Go.Proofs.YtodlapkmcnmmhaaDoor
