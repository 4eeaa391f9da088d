/- num: Writer, as far as there is room. -/
import Derived.Test.YtodlapkmcnmmhaaDoorNc
namespace Go.Proofs.YtodlapkmcnmmhaaDoor
open Go.RowKit
set_option linter.unusedSimpArgs false
set_option linter.unusedVariables false

/-- A sector that begins with these bytes. -/
def padL (B : List Int) : List Int := B ++ List.replicate (128 - B.length) 0
theorem padL_len {B : List Int} (h : B.length ≤ 128) : (padL B).length = 128 := by unfold padL; simp; omega
theorem padL_wr {B ys : List Int} (h : B.length + ys.length ≤ 128) : wrL (padL B) B.length ys = padL (B ++ ys) := by
  unfold wrL padL
  simp
  omega
theorem padL_u8 {B : List Int} (h : ∀ x ∈ B, 0 ≤ x ∧ x < 256) : ∀ x ∈ padL B, 0 ≤ x ∧ x < 256 := by
  intro x hx
  unfold padL at hx
  rw [List.mem_append, List.mem_replicate] at hx
  rcases hx with hx | ⟨_, rfl⟩
  · exact h x hx
  · omega
/-- A Writer at block g that has written these bytes, and met no error. -/
structure WS (w : World) (g : Nat) (B : List Int) : Prop where
  hb : Blk w g 73 (encS (padL B) [I B.length, I 0])
  len : B.length ≤ 128
theorem WS.but {S : Nat → Prop} {w w' : World} {g : Nat} {B : List Int} (h : WS w g B) (hb : But S w w') (hn : ¬ S g) : WS w' g B := ⟨h.hb.but hb hn, h.len⟩
theorem WS.safe {w w' : World} {g : Nat} {B : List Int} (h : WS w g B) (hb : Safe w w') : WS w' g B := h.but hb id
theorem WS.c {w : World} {g : Nat} {B : List Int} (h : WS w g B) : w.cell? ⟨g, 128, none⟩ = some (I B.length) ∧ w.cell? ⟨g, 129, none⟩ = some (I 0) ∧ w.frozen? ⟨g, 128, none⟩ = false ∧ w.frozen? ⟨g, 129, none⟩ = false :=
  ⟨h.hb.cell' (encS_rest (j := 0) (by rw [padL_len h.len])), h.hb.cell' (encS_rest (j := 1) (by rw [padL_len h.len])), h.hb.frozen _, h.hb.frozen _⟩
set_option maxRecDepth 100000 in
set_option maxHeartbeats 2000000 in
theorem wnum_yes (g : Nat) (B : List Int) (wd n : Nat) (w : World) (h : WS w g B) (h1 : 1 ≤ wd) (h2 : wd ≤ 8) (h3 : B.length + wd ≤ 128) (hn : n < 256 ^ wd) :
    Calls Tryd.prog 34 #[.pointer (some ⟨g, 0, none⟩), I wd, .int .u64 n] w fun e w' => e = .returned (.tuple #[]) ∧ WS w' g (B ++ lowL wd n) ∧ But (· = g) w w' := by
  obtain ⟨c0, c1, f0, f1⟩ := h.c
  have hlen := padL_len h.len
  have hP := fun N => put_yes g 73 (padL B) [I B.length, I 0] B.length wd n 128 (w.drewN N) (h.hb.drewN N) h1 h2 (by omega) (by omega) hn
  rw [padL_wr (by rw [lowL_len]; omega), hlen] at hP
  have HP := Lib.hid hP
  have HW := Lib.hid h
  have HN := Lib.hid hn
  have hB1 : ((B.length : Nat) : Int) ≤ 128 := by omega
  clear hP h hn hlen
  go_enter Tryd.func34, Tryd.ntmps34
  go_wp2_with fail
  go_region_with ((go_at_call 47; refine (HP.out 1).mono ?_; rintro e w2 ⟨rfl, hb2, hs2⟩; have c2 := hb2.cell' (encS_rest (j := 1) (k := 129) (by rw [padL_len (by rw [List.length_append, lowL_len]; omega)])); have f2 := hb2.frozen 129; have HB2 := Lib.hid hb2; have HS2 := Lib.hid hs2; clear hb2 hs2))
  all_goals
    have hl2 : (B ++ lowL wd n).length = B.length + wd := by rw [List.length_append, lowL_len]
    have hb3 := HB2.out.set 129 (I 0)
    rw [encS_set_rest (j := 1) (by rw [padL_len (by omega)])] at hb3
    have hb3 : Blk (w2.setCell ⟨g, 129, none⟩ (I 0)) g 73 (encS (padL (B ++ lowL wd n)) [I B.length, I 0]) := hb3
    have hs3 : But (· = g) w (w2.setCell ⟨g, 129, none⟩ (I 0)) := ((But.refl (· = g) w).drewN 1).trans (HS2.out.setCell (p := ⟨g, 129, none⟩) (.inl rfl) _)
    generalize w2.setCell ⟨g, 129, none⟩ (I 0) = w3 at *
    have d0 := hb3.cell' (encS_rest (j := 0) (k := 128) (by rw [padL_len (by omega)]))
    have d1 := hb3.cell' (encS_rest (j := 1) (k := 129) (by rw [padL_len (by omega)]))
    have g0 := hb3.frozen 128
    have hb4 := hb3.set 128 (I (B.length + wd : Nat))
    rw [encS_set_rest (j := 0) (by rw [padL_len (by omega)])] at hb4
    have hs4 := hs3.setCell (p := ⟨g, 128, none⟩) (.inl rfl) (I (B.length + wd : Nat))
    rw [show ((B.length + wd : Nat) : Int) = (B.length : Int) + wd from by omega] at hb4 hs4
    have HB4 := Lib.hid hb4
    have HS4 := Lib.hid hs4
    have HL2 := Lib.hid hl2
    clear hb3 hs3 hb4 hs4 hl2 HB2 HS2 c0 c1 f0 f1 c2 f2
    go_wp2
    go_end0
    exact ⟨rfl, ⟨by rw [HL2.out, show ((B.length + wd : Nat) : Int) = (B.length : Int) + wd from by omega]; exact HB4.out, by rw [HL2.out]; exact h3⟩, HS4.out⟩
end Go.Proofs.YtodlapkmcnmmhaaDoor
