/- num: Reader, as far as there are bytes. -/
import Derived.Test.YtodlapkmcnmmhaaDoorNe
import Derived.Test.YtodlapkmcnmmhaaDoorSu
import Derived.Deep.RegionLaw
import Derived.IntWalk
namespace Go.Proofs.YtodlapkmcnmmhaaDoor
open Go.RowKit
set_option linter.unusedSimpArgs false
set_option linter.unusedVariables false

/-- A Reader at block g, of these bytes, at a place, that has met no error. -/
structure RS (w : World) (g : Nat) (S : List Int) (at' : Nat) : Prop where
  hb : Blk w g 88 (encS S [I at', I 0])
  len : S.length = 128
  u8 : ∀ x ∈ S, 0 ≤ x ∧ x < 256
  lt : at' ≤ 128
section
variable {w w' : World} {g : Nat} {S : List Int} {at' : Nat}
theorem RS.but {T : Nat → Prop} (h : RS w g S at') (hb : But T w w') (hn : ¬ T g) : RS w' g S at' := ⟨h.hb.but hb hn, h.len, h.u8, h.lt⟩
theorem RS.safe (h : RS w g S at') (hb : Safe w w') : RS w' g S at' := h.but hb id
theorem RS.c (h : RS w g S at') : w.cell? ⟨g, 128, none⟩ = some (I at') ∧ w.cell? ⟨g, 129, none⟩ = some (I 0) ∧ w.frozen? ⟨g, 128, none⟩ = false ∧ w.frozen? ⟨g, 129, none⟩ = false :=
  ⟨h.hb.cell' (encS_rest (j := 0) (by rw [h.len])), h.hb.cell' (encS_rest (j := 1) (by rw [h.len])), h.hb.frozen _, h.hb.frozen _⟩
theorem RS.to (h : RS w g S at') {a : Nat} (ha : a ≤ 128) : RS (w.setCell ⟨g, 128, none⟩ (I a)) g S a := by
  refine ⟨?_, h.len, h.u8, ha⟩
  have := h.hb.set 128 (I a)
  rw [encS_set_rest (j := 0) (by rw [h.len])] at this
  exact this
theorem RS.err (h : RS w g S at') : RS (w.setCell ⟨g, 129, none⟩ (I 0)) g S at' := by
  refine ⟨?_, h.len, h.u8, h.lt⟩
  have := h.hb.set 129 (I 0)
  rw [encS_set_rest (j := 1) (by rw [h.len])] at this
  exact this
theorem RS.rd (h : RS w g S at') : Rd U w (some ⟨g, 0, none⟩) S := fun _ => ⟨_, rfl, fun k x hk => by
  rw [add_plain, Nat.zero_add]
  exact h.hb.cell' (encS_byte hk)⟩
end
set_option maxRecDepth 100000 in
set_option maxHeartbeats 2000000 in
theorem rnum_yes (g : Nat) (S : List Int) (at' wd : Nat) (w : World) (h : RS w g S at') (h1 : 1 ≤ wd) (h2 : wd ≤ 8) (h3 : at' + wd ≤ 128) :
    Calls Tryd.prog 38 #[.pointer (some ⟨g, 0, none⟩), I wd] w fun e w' => e = .returned (.int .u64 (leN (segL S at' wd))) ∧ RS w' g S (at' + wd) ∧ But (· = g) w w' := by
  obtain ⟨c0, c1, f0, f1⟩ := h.c
  have hG := fun N => (get_yes (some ⟨g, 0, none⟩) S h.u8 at' wd 128 (w.drewN N) (h.rd.safe ((But.refl _ w).drewN N)) h1 h2 (by rw [h.len]; exact h3) (by rw [h.len]; omega))
  rw [h.len] at hG
  have HG := Lib.hid hG
  have HW := Lib.hid h
  clear hG h
  have hB1 : (at' : Int) ≤ 128 := by omega
  go_enter Tryd.func38, Tryd.ntmps38
  go_wp2_with fail
  go_quiet ((go_at_call 48; exact Calls.quiet_of_same ((HG.out _).mono fun _ _ hh => ⟨hh.1, hh.2.symm⟩)))
  have hR := HW.out.safe ((But.refl _ w).drewN nq)
  obtain ⟨d0, d1, g0, g1⟩ := hR.c
  have hR2 := hR.err
  have hs2 : But (· = g) w ((w.drewN nq).setCell ⟨g, 129, none⟩ (I 0)) := ((But.refl (· = g) w).drewN nq).setCell (p := ⟨g, 129, none⟩) (.inl rfl) _
  obtain ⟨e0, e1, i0, i1⟩ := hR2.c
  have hR3 := hR2.to (a := at' + wd) h3
  have hs3 := hs2.setCell (p := ⟨g, 128, none⟩) (.inl rfl) (I (at' + wd : Nat))
  rw [show ((at' + wd : Nat) : Int) = (at' : Int) + wd from by omega] at hR3 hs3
  have HR3 := Lib.hid hR3
  have HS3 := Lib.hid hs3
  clear hR hR2 hs2 hR3 hs3 c0 c1 f0 f1
  go_wp2
  go_ret
  exact ⟨rfl, HR3.out, HS3.out⟩
set_option maxRecDepth 100000 in
theorem rleft_any (g : Nat) (S : List Int) (at' : Nat) (w : World) (h : RS w g S at') :
    Calls Tryd.prog 49 #[.pointer (some ⟨g, 0, none⟩)] w fun e w' => e = .returned (I (128 - (at' : Int))) ∧ w = w' := by
  obtain ⟨c0, c1, f0, f1⟩ := h.c
  have hB1 := h.lt
  go_enter Tryd.func49, Tryd.ntmps49
  go_wp2
  go_ret
  exact ⟨rfl, rfl⟩
theorem slBytes : SlT Tryd.prog 77 5 (U 0) 1 1 := ⟨Tryd.underlying77, by kernel_rfl, rfl, by omega⟩
set_option maxRecDepth 100000 in
set_option maxHeartbeats 2000000 in
theorem rbytes_yes (g : Nat) (S : List Int) (at' sz : Nat) (w : World) (h : RS w g S at') (h3 : at' + sz ≤ 128) (h4 : at' < 128) :
    Calls Tryd.prog 39 #[.pointer (some ⟨g, 0, none⟩), I sz] w fun e w' => ∃ A c, e = .returned (.slice A sz c) ∧ sz ≤ c ∧ w'.ownsRow w.heap.size 5 1 (.slice A sz c) sz ((segL S at' sz).map U) ∧ RS w' g S (at' + sz) ∧ But (· = g) w w' := by
  obtain ⟨c0, c1, f0, f1⟩ := h.c
  have hLf := Lib.hid (rleft_any g S at' w h)
  have hR1 := h.to (a := at' + sz) h3
  have hs1 := (But.refl (· = g) w).setCell (p := ⟨g, 128, none⟩) (.inl rfl) (I (at' + sz : Nat))
  rw [show ((at' + sz : Nat) : Int) = (at' : Int) + sz from by omega] at hR1 hs1
  have hB1 : (at' : Int) + sz ≤ 128 := by omega
  have hB2 : (0 : Int) ≤ sz := by omega
  have hB3 : (sz : Int) ≤ 128 - (at' : Int) := by omega
  have hgw := h.hb.lt
  clear h
  go_enter Tryd.func39, Tryd.ntmps39
  go_wp2_with fail
  refine (hLf.out).mono ?_
  rintro _ _ ⟨rfl, rfl⟩
  go_wp2_with fail
  generalize w.setCell ⟨g, 128, none⟩ (I ((at' : Int) + sz)) = w1 at *
  have hl0 := hR1.c.1
  have hsl := sl_mid g at' (at' + sz) (by omega) (by omega) h4
  rw [show ((at' + sz : Nat) : Int) = (at' : Int) + sz from by omega, show at' + sz - at' = sz from by omega] at hsl
  have hl := segL_len (bs := S) (at' := at') (wd := sz) (by rw [hR1.len]; exact h3)
  have HRD := Lib.hid hR1
  have HS1 := Lib.hid hs1
  have hll : ((segL S at' sz).map U).length = sz * 1 := by rw [List.length_map, hl, Nat.mul_one]
  have hcells : 0 < sz → ∃ ad, some (⟨g, at', none⟩ : Addr) = some ad ∧ ∀ j u, ((segL S at' sz).map U)[j]? = some u → (w1.drew).cell? (ad.add j) = some u := fun _ => ⟨_, rfl, fun j u hu => by
    rw [List.getElem?_map] at hu
    cases hq : (segL S at' sz)[j]? with
    | none => rw [hq] at hu; cases hu
    | some x =>
      rw [hq] at hu
      simp at hu
      unfold segL at hq
      rw [List.getElem?_take] at hq
      split at hq
      · rw [List.getElem?_drop] at hq
        rw [← hu, add_plain]
        exact hR1.hb.drew.cell' (encS_byte hq)
      · cases hq⟩
  have hone : ∀ u ∈ (segL S at' sz).map U, u.oneCell' = true := by simp [Value.oneCell']
  have h63 : 0 + sz ≤ maxLen := by simp [maxLen]; omega
  have hby : (0 + sz) * 1 ≤ 140737488355328 := by omega
  have hba : w.heap.size ≤ w1.drew.heap.size := hs1.size
  have HLL := Lib.hid hll
  have HC := Lib.hid hcells
  have HN := Lib.hid hone
  have hwr : IntKind.i64.wrap (at' : Int) = at' := IntWalk.i64_in _ (by omega)
  have d0 : w1.cell? ⟨g, 128, none⟩ = some (I ((at' : Int) + sz)) := by rw [hl0, show ((at' + sz : Nat) : Int) = (at' : Int) + sz from by omega]
  clear hll hcells hone hR1 hs1 hl hl0 c0 c1 f0 f1
  go_region_law ((refine step_pushAll slBytes (by rfl) (.const (.slice none 0 0)) (.tmp 49) (by rfl) w.heap.size (.slice none 0 0) 0 [] (by rfl) (World.ownsRow_nil _ _ _ _) (some ⟨g, at', none⟩) sz (128 - at') ((segL S at' sz).map U) (by rfl) HLL.out HC.out HN.out h63 hby hba ?_; intro v1 w5 ho hg hd; rw [Nat.zero_add, List.nil_append] at ho; obtain ⟨A1, c1', rfl, hc1'⟩ := own_form ho))
  all_goals
    have hb5 : But (fun _ => False) w1.drew w5 := (But.of_grown hg).mono (fun k _ hk => by cases hk)
    have hR5 := (HRD.out.safe ((But.refl _ w1).drew)).safe hb5
    have hs5 : But (· = g) w w5 := (HS1.out.drew).trans (Safe.but hb5)
    have HO := Lib.hid ho
    have HR5 := Lib.hid hR5
    have HS5 := Lib.hid hs5
    clear ho hg hd hb5 hR5 hs5 hsl d0 hwr
    go_wp2
    go_ret
    exact ⟨A1, c1', rfl, hc1', HO.out, HR5.out, HS5.out⟩
theorem foldl_zip (vs : List Value) : ∀ (k : Nat) (cs : Array Value), List.foldl (fun (cs : Array Value) (x : Value × Nat) => cs.setIfInBounds x.snd x.fst) cs (vs.zipIdx k) = setAt cs k vs := by
  induction vs with
  | nil => intro k cs; rfl
  | cons v r ih => intro k cs; rw [List.zipIdx_cons, List.foldl_cons, ih]; rfl
theorem infoReader : (Tryd.prog.info? 88).map (fun i => (i.zero, i.size, i.bytes)) = some (some (.agg (encS (padL []) [I 0, I 0])), 130, 144) := by kernel_rfl
theorem zero_reader (w : World) : (zeroValue 88).run Tryd.prog w = .ok (.agg (encS (padL []) [I 0, I 0])) w := by
  obtain ⟨i, hi, hz0, _, _⟩ := info_parts infoReader
  simp [zeroValue, typeInfo, hi, hz0]
set_option maxRecDepth 100000 in
set_option maxHeartbeats 2000000 in
theorem read_any (S : List Int) (hl : S.length = 128) (hu : ∀ x ∈ S, 0 ≤ x ∧ x < 256) (w : World) :
    Calls Tryd.prog 37 #[.agg (sectA S)] w fun e w' => e = .returned (.pointer (some ⟨w.heap.size + 1, 0, none⟩)) ∧ RS w' (w.heap.size + 1) S 0 ∧ Safe w w' := by
  have hb := Blk.new w 34 (sectA S)
  have hr : (w.alloc (.cells (sectA S) 34)).rangeAt w.heap.size 0 (S.map U) := encS_range (rest := []) (by rw [← sectA_enc]; exact hb)
  have HR := Lib.hid hr
  have HI : Hid ((Tryd.prog.info? 34).map (·.size) = some (S.map U).length) := by rw [sizeSect, List.length_map, hl]; trivial
  have hf := foldl_zip (S.map U) 0 (encS (padL []) [I 0, I 0])
  have he : setAt (encS (padL []) [I 0, I 0]) 0 (S.map U) = encS S [I 0, I 0] := by
    apply Array.ext'
    rw [setAt_list _ _ _ (by rw [encS_size, List.length_map, padL_len (by simp)]; simp; omega)]
    unfold encS
    rw [List.length_map, hl]
    simp
    rw [List.drop_append_of_le_length (by rw [List.length_map, padL_len (by simp)]; omega), List.drop_of_length_le (by rw [List.length_map, padL_len (by simp)]; omega)]
    rfl
  rw [he] at hf
  have hsz : ¬ (encS (padL []) [I 0, I 0]).size < 128 := by rw [encS_size, padL_len (by simp)]; simp
  have hzr := fun W => zero_reader W
  clear hb hr he
  generalize encS (padL []) [I 0, I 0] = Y at *
  generalize hS : sectA S = Z at *
  go_enter Tryd.func37, Tryd.ntmps37
  go_wp2_with (refine wpList_load_mid rfl 34 (.tmp 1) rfl w.heap.size 0 rfl _ _ HR.out Tryd.underlying34 rfl HI.out ?_)
  have hb2 : Blk ((w.alloc (.cells Z 34)).alloc (.cells (encS S [I 0, I 0]) 88)) (w.heap.size + 1) 88 (encS S [I 0, I 0]) := Blk.new' _ _ (by simp)
  have hs2 : Safe w ((w.alloc (.cells Z 34)).alloc (.cells (encS S [I 0, I 0]) 88)) := ((But.refl _ w).alloc _).alloc _
  go_ret
  exact ⟨rfl, ⟨hb2, hl, hu, by omega⟩, hs2⟩
end Go.Proofs.YtodlapkmcnmmhaaDoor
