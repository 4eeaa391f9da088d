/- The reference's open files: Is, Ref, Close, Move, NewFiles, OpenOne. -/
import Derived.Test.YtlojadpbdbhmiaaFq
namespace Go.Proofs.Ytlojadpbdbhmiaa
open Go.RowKit
set_option linter.unusedSimpArgs false
set_option linter.unusedVariables false

set_option maxRecDepth 100000 in
set_option maxHeartbeats 1000000 in
theorem ris_no (base : Nat) (v : Value) (os : List FO) (id : Int) (w : World) (h : LO w base v os) (hn : NoF os id) :
    Calls Try.prog 66 #[v, .int .i64 id] w fun e w' => e = .returned (.bool false) ∧ w = w' := by
  obtain ⟨A, c, rfl, hc, hcm, hrd, -⟩ := h
  have hcs : id < 0 ∨ (¬ id < 0 ∧ (os.length : Int) ≤ id) ∨ ∃ (k : Nat) (o : FO), id = k ∧ k < os.length ∧ os[k]? = some o ∧ o.refs = 0 := by
    rcases hn with hn | hn | ⟨k, o, e, hk, hr⟩
    · exact .inl hn
    · by_cases h0 : id < 0
      · exact .inl h0
      · exact .inr (.inl ⟨h0, hn⟩)
    · exact .inr (.inr ⟨k, o, e, (List.getElem?_eq_some_iff.1 hk).1, hk, hr⟩)
  clear hn
  rcases hcs with h1 | ⟨h1, h2⟩ | ⟨k, o, rfl, hlt, hk, hr⟩
  · clear hrd
    go_enter Try.func66, Try.ntmps66
    go_wp2
    go_ret
    exact ⟨rfl, rfl⟩
  · clear hrd
    go_enter Try.func66, Try.ntmps66
    go_wp2
    go_ret
    exact ⟨rfl, rfl⟩
  · obtain ⟨ad, rfl, _, _, _, _, c4⟩ := LO.at hrd hk
    rw [hr] at c4
    have hki : (k : Int) < os.length := by omega
    clear hrd hk hr
    go_enter Try.func66, Try.ntmps66
    go_wp2
    go_ret
    exact ⟨rfl, rfl⟩
set_option maxRecDepth 100000 in
set_option maxHeartbeats 1000000 in
theorem ris_yes (base : Nat) (v : Value) (os : List FO) (k : Nat) (o : FO) (w : World) (h : LO w base v os) (hk : os[k]? = some o) (hr : 0 < o.refs) :
    Calls Try.prog 66 #[v, .int .i64 k] w fun e w' => e = .returned (.bool true) ∧ w = w' := by
  obtain ⟨A, c, rfl, hc, hcm, hrd, -⟩ := h
  have hlt := (List.getElem?_eq_some_iff.1 hk).1
  obtain ⟨ad, rfl, _, _, _, _, c4⟩ := LO.at hrd hk
  have hki : (k : Int) < os.length := by omega
  clear hrd hk
  go_enter Try.func66, Try.ntmps66
  go_wp2
  go_ret
  exact ⟨rfl, rfl⟩
abbrev u1 (a : Int) (v : Value) : Value := .tuple #[v, I a]
abbrev u2 (a b : Int) (v : Value) : Value := .tuple #[v, I a, I b]
abbrev u3 (o : FO) (b : Bool) (a : Int) (v : Value) : Value := .tuple #[v, aggF o, .bool b, I a]
set_option maxRecDepth 100000 in
set_option maxHeartbeats 1000000 in
theorem rref_no (base : Nat) (v : Value) (os : List FO) (id : Int) (w : World) (h : LO w base v os) (hn : NoF os id) :
    Calls Try.prog 23 #[v, .int .i64 id] w fun e w' => ORet w w' base e (u1 2) os := by
  have HI := Lib.hid (ris_no base v os id w h hn)
  have H := Lib.hid h
  obtain ⟨A, c, rfl, -⟩ := h
  clear hn
  go_enter Try.func23, Try.ntmps23
  go_wp2_with fail
  refine (HI.out).mono ?_
  rintro _ _ ⟨rfl, rfl⟩
  go_wp2
  go_ret2
  exact ⟨_, rfl, H.out, But.refl _ _⟩
set_option maxRecDepth 100000 in
set_option maxHeartbeats 1000000 in
theorem rref_yes (base : Nat) (v : Value) (os : List FO) (k : Nat) (o : FO) (w : World) (h : LO w base v os) (hk : os[k]? = some o) (h64 : os.length ≤ 64) (hr : 0 < o.refs) (hr2 : o.refs < 1000000) (hb : base ≤ w.heap.size) :
    Calls Try.prog 23 #[v, .int .i64 k] w fun e w' => ORet w w' base e (u1 0) (os.set k { o with refs := o.refs + 1 }) := by
  have hlt := (List.getElem?_eq_some_iff.1 hk).1
  have HI := Lib.hid (ris_yes base v os k o w h hk hr)
  have hw := fun W (hs : Safe w W) => rputf_any base v os k { o with refs := o.refs + 1 } W (h.safe hs) hlt h64
  generalize hos2 : os.set k { o with refs := o.refs + 1 } = os2 at *
  have HW := Lib.hid hw
  obtain ⟨A, c, rfl, hc, hcm, hrd, -⟩ := h
  obtain ⟨ad, rfl, c0, c1, c2, c3, c4⟩ := LO.at hrd hk
  have hki : (k : Int) < os.length := by omega
  clear hrd hk hw hos2
  go_enter Try.func23, Try.ntmps23
  go_wp2_with fail
  refine (HI.out).mono ?_
  rintro _ _ ⟨rfl, rfl⟩
  go_wp2_with fail
  refine (HW.out _ ((But.refl _ _).alloc _)).mono ?_
  rintro e w2 ⟨v2, rfl, hv2, hs2⟩
  have hS2 : Safe w w2 := ((But.refl _ w).alloc _).trans hs2
  have HV := Lib.hid (hv2.lower (show base ≤ _ by show _ ≤ (w.heap.push _).size; rw [Array.size_push]; omega))
  have HS := Lib.hid hS2
  obtain ⟨A2, c2', rfl, -⟩ := hv2
  clear hs2 hS2
  go_wp2
  go_ret2
  exact ⟨_, rfl, HV.out, HS.out⟩
set_option maxRecDepth 100000 in
set_option maxHeartbeats 1000000 in
theorem rmove_no (base : Nat) (v : Value) (os : List FO) (id p : Int) (w : World) (h : LO w base v os) (hn : NoF os id) :
    Calls Try.prog 27 #[v, .int .i64 id, .int .i64 p] w fun e w' => ORet w w' base e (u1 2) os := by
  have HI := Lib.hid (ris_no base v os id w h hn)
  have H := Lib.hid h
  obtain ⟨A, c, rfl, -⟩ := h
  clear hn
  go_enter Try.func27, Try.ntmps27
  go_wp2_with fail
  refine (HI.out).mono ?_
  rintro _ _ ⟨rfl, rfl⟩
  go_wp2
  go_ret2
  exact ⟨_, rfl, H.out, But.refl _ _⟩
set_option maxRecDepth 100000 in
set_option maxHeartbeats 1000000 in
theorem rmove_inval (base : Nat) (v : Value) (os : List FO) (k : Nat) (o : FO) (p : Int) (w : World) (h : LO w base v os) (hk : os[k]? = some o) (hr : 0 < o.refs) (hp : p < 0) :
    Calls Try.prog 27 #[v, .int .i64 k, .int .i64 p] w fun e w' => ORet w w' base e (u1 1) os := by
  have HI := Lib.hid (ris_yes base v os k o w h hk hr)
  have H := Lib.hid h
  obtain ⟨A, c, rfl, -⟩ := h
  clear hk
  go_enter Try.func27, Try.ntmps27
  go_wp2_with fail
  refine (HI.out).mono ?_
  rintro _ _ ⟨rfl, rfl⟩
  go_wp2
  go_ret2
  exact ⟨_, rfl, H.out, But.refl _ _⟩
set_option maxRecDepth 100000 in
set_option maxHeartbeats 1000000 in
theorem rmove_yes (base : Nat) (v : Value) (os : List FO) (k : Nat) (o : FO) (p : Int) (w : World) (h : LO w base v os) (hk : os[k]? = some o) (h64 : os.length ≤ 64) (hr : 0 < o.refs) (hp : 0 ≤ p) (hb : base ≤ w.heap.size) :
    Calls Try.prog 27 #[v, .int .i64 k, .int .i64 p] w fun e w' => ORet w w' base e (u1 0) (os.set k { o with pos := p }) := by
  have hlt := (List.getElem?_eq_some_iff.1 hk).1
  have HI := Lib.hid (ris_yes base v os k o w h hk hr)
  have hw := fun W (hs : Safe w W) => rputf_any base v os k { o with pos := p } W (h.safe hs) hlt h64
  generalize hos2 : os.set k { o with pos := p } = os2 at *
  have HW := Lib.hid hw
  obtain ⟨A, c, rfl, hc, hcm, hrd, -⟩ := h
  obtain ⟨ad, rfl, c0, c1, c2, c3, c4⟩ := LO.at hrd hk
  have hki : (k : Int) < os.length := by omega
  clear hrd hk hw hos2
  go_enter Try.func27, Try.ntmps27
  go_wp2_with fail
  refine (HI.out).mono ?_
  rintro _ _ ⟨rfl, rfl⟩
  go_wp2_with fail
  refine (HW.out _ ((But.refl _ _).alloc _)).mono ?_
  rintro e w2 ⟨v2, rfl, hv2, hs2⟩
  have hS2 : Safe w w2 := ((But.refl _ w).alloc _).trans hs2
  have HV := Lib.hid (hv2.lower (show base ≤ _ by show _ ≤ (w.heap.push _).size; rw [Array.size_push]; omega))
  have HS := Lib.hid hS2
  obtain ⟨A2, c2', rfl, -⟩ := hv2
  clear hs2 hS2
  go_wp2
  go_ret2
  exact ⟨_, rfl, HV.out, HS.out⟩
set_option maxRecDepth 100000 in
set_option maxHeartbeats 1000000 in
theorem rclose_no (base : Nat) (v : Value) (os : List FO) (id : Int) (w : World) (h : LO w base v os) (hn : NoF os id) :
    Calls Try.prog 25 #[v, .int .i64 id] w fun e w' => ORet w w' base e (u3 zeroF false 2) os := by
  have HI := Lib.hid (ris_no base v os id _ (h.safe ((But.refl _ w).alloc (.cells #[I 0, I 0, I 0, I 0, I 0] 55))) hn)
  have H := Lib.hid h
  obtain ⟨A, c, rfl, -⟩ := h
  clear hn
  go_enter Try.func25, Try.ntmps25
  go_wp2_with fail
  refine (HI.out).mono ?_
  rintro _ _ ⟨rfl, rfl⟩
  go_wp2
  exact bodyPost_ret (v := .tuple #[.slice A os.length c, aggF zeroF, .bool false, I 2]) (by simp [results, Try.results25, go_sem, zeroF]) rfl ⟨_, rfl, H.out.safe ((But.refl _ _).alloc _), (But.refl _ _).alloc _⟩
theorem cells5 {W : World} {t : TypeId} {g : Nat} {o : FO} (h : Blk W g t (encF o).toArray) :
    W.cell? ⟨g, 0, none⟩ = some (I o.kind) ∧ W.cell? ⟨g, 1, none⟩ = some (I o.num) ∧ W.cell? ⟨g, 2, none⟩ = some (I o.pos) ∧ W.cell? ⟨g, 3, none⟩ = some (I o.flags) ∧ W.cell? ⟨g, 4, none⟩ = some (I o.refs) :=
  ⟨h.cell' rfl, h.cell' rfl, h.cell' rfl, h.cell' rfl, h.cell' rfl⟩
theorem frozen5 {W : World} {t : TypeId} {g : Nat} {cs : Array Value} (h : Blk W g t cs) :
    W.frozen? ⟨g, 0, none⟩ = false ∧ W.frozen? ⟨g, 1, none⟩ = false ∧ W.frozen? ⟨g, 2, none⟩ = false ∧ W.frozen? ⟨g, 3, none⟩ = false ∧ W.frozen? ⟨g, 4, none⟩ = false :=
  ⟨h.frozen _, h.frozen _, h.frozen _, h.frozen _, h.frozen _⟩
theorem o_fin {w W w2 : World} {base : Nat} {v2 : Value} {os2 : List FO} {o : FO} {t : TypeId} {cs : Array Value} (hb : base ≤ w.heap.size) (hs : Safe w W) (h5 : Blk W w.heap.size t cs) (h2 : Safe W.drew w2) (hv : LO w2 W.drew.heap.size v2 os2) :
    LO (w2.setCells w.heap.size 0 (encF o)) base v2 os2 ∧ Safe w (w2.setCells w.heap.size 0 (encF o)) := by
  have hlt : w.heap.size < W.drew.heap.size := h5.lt
  refine ⟨?_, (hs.drew.trans h2).setCells _ _ (.inr (Nat.le_refl _))⟩
  refine (hv.but (S := (· = w.heap.size)) ((But.refl _ w2).setCells _ _ (.inl rfl)) (fun k hk e => ?_)).lower (by omega)
  obtain ⟨A, c, rfl, _, _, _, h4⟩ := hv
  rcases A with _ | ad
  · simp [Value.ownBlock] at hk
  · have := (h4 ad rfl).1
    simp [Value.ownBlock] at hk
    omega
set_option maxRecDepth 100000 in
set_option maxHeartbeats 2000000 in
theorem rclose_last (base : Nat) (v : Value) (os : List FO) (k : Nat) (o : FO) (w : World) (h : LO w base v os) (hk : os[k]? = some o) (h64 : os.length ≤ 64) (hr : o.refs = 1) (hb : base ≤ w.heap.size) :
    Calls Try.prog 25 #[v, .int .i64 k] w fun e w' => ORet w w' base e (u3 o true 0) (os.set k zeroF) := by
  have hlt := (List.getElem?_eq_some_iff.1 hk).1
  have hs1 : Safe w (w.alloc (.cells #[I 0, I 0, I 0, I 0, I 0] 55)) := (But.refl _ w).alloc _
  have HI := Lib.hid (ris_yes base v os k o _ (h.safe hs1) hk (by omega))
  have hw := fun W (hs : Safe w W) => rputf_any base v os k zeroF W (h.safe hs) hlt h64
  generalize hos2 : os.set k zeroF = os2 at *
  have HW := Lib.hid hw
  obtain ⟨A, c, rfl, hc, hcm, hrd, hbd⟩ := h
  obtain ⟨ad, rfl, c0, c1, c2, c3, c4⟩ := LO.at hrd hk
  have hbl : (ad.add (k * 5)).block < w.heap.size := by rw [block_add]; exact (hbd ad rfl).2.1
  have hki : (k : Int) < os.length := by omega
  have hb1 : (o.refs == 1) = true := by simpa using hr
  have hk0 : (0 : Int) ≤ (k : Int) := by omega
  clear hrd hk hw hos2 hbd hr
  obtain ⟨W, hW⟩ : ∃ W, W = (w.alloc (.cells #[I 0, I 0, I 0, I 0, I 0] 55)).alloc (.cells #[I o.kind, I o.num, I o.pos, I o.flags, I o.refs] 55) := ⟨_, rfl⟩
  have b5 : Blk W w.heap.size 55 #[I 0, I 0, I 0, I 0, I 0] := by rw [hW]; exact (Blk.new _ _ _).alloc _
  have b8 : Blk W (w.heap.size + 1) 55 (encF o).toArray := by
    rw [hW]
    exact Blk.new' _ _ (by simp)
  have hsW : Safe w W := by rw [hW]; exact hs1.alloc _
  have HW0 := Lib.hid hW
  have HB5 := Lib.hid b5
  have HB8 := Lib.hid b8
  have HSW := Lib.hid hsW
  clear hW b5 b8 hsW hs1
  go_enter Try.func25, Try.ntmps25
  go_wp2_with fail
  refine (HI.out).mono ?_
  rintro _ _ ⟨rfl, rfl⟩
  go_wp2_with fail
  rw [← HW0.out]
  obtain ⟨d0, d1, d2, d3, d4⟩ := cells5 HB8.out
  go_region_with ((go_at_call 64; refine (HW.out _ (HSW.out.drew)).mono ?_; rintro e w2 ⟨v2, rfl, hv2, hs2⟩; have HV2 := Lib.hid hv2; have HS2 := Lib.hid hs2; clear hv2 hs2; obtain ⟨p0, p1, p2, p3, p4⟩ := box5 HB8.out.drew HS2.out id; obtain ⟨r0, r1, r2, r3, r4⟩ := box5 (o := zeroF) HB5.out.drew HS2.out id; obtain ⟨f0, f1, f2, f3, f4⟩ := frozen5 (HB5.out.drew.but HS2.out id)))
  all_goals
    have HF := Lib.hid (o_fin (o := o) hb HSW.out HB5.out HS2.out HV2.out)
    go_wp2
    exact bodyPost_ret (v := .tuple #[v2, aggF o, .bool true, I 0]) (by simp [results, Try.results25, go_sem, r0, r1, r2, r3, r4]) rfl ⟨v2, rfl, HF.out⟩
set_option maxRecDepth 100000 in
set_option maxHeartbeats 2000000 in
theorem rclose_more (base : Nat) (v : Value) (os : List FO) (k : Nat) (o : FO) (w : World) (h : LO w base v os) (hk : os[k]? = some o) (h64 : os.length ≤ 64) (hr : 0 < o.refs) (hr2 : o.refs < 1000000) (hr1 : o.refs ≠ 1) (hb : base ≤ w.heap.size) :
    Calls Try.prog 25 #[v, .int .i64 k] w fun e w' => ORet w w' base e (u3 o false 0) (os.set k { o with refs := o.refs - 1 }) := by
  have hlt := (List.getElem?_eq_some_iff.1 hk).1
  have hs1 : Safe w (w.alloc (.cells #[I 0, I 0, I 0, I 0, I 0] 55)) := (But.refl _ w).alloc _
  have HI := Lib.hid (ris_yes base v os k o _ (h.safe hs1) hk (by omega))
  have hw := fun W (hs : Safe w W) => rputf_any base v os k { o with refs := o.refs - 1 } W (h.safe hs) hlt h64
  generalize hos2 : os.set k { o with refs := o.refs - 1 } = os2 at *
  have HW := Lib.hid hw
  obtain ⟨A, c, rfl, hc, hcm, hrd, hbd⟩ := h
  obtain ⟨ad, rfl, c0, c1, c2, c3, c4⟩ := LO.at hrd hk
  have hbl : (ad.add (k * 5)).block < w.heap.size := by rw [block_add]; exact (hbd ad rfl).2.1
  have hki : (k : Int) < os.length := by omega
  have hb1 : (o.refs == 1) = false := by simpa using hr1
  have hk0 : (0 : Int) ≤ (k : Int) := by omega
  clear hrd hk hw hos2 hbd hr1
  obtain ⟨W, hW⟩ : ∃ W, W = ((w.alloc (.cells #[I 0, I 0, I 0, I 0, I 0] 55)).alloc (.cells #[I o.kind, I o.num, I o.pos, I o.flags, I o.refs] 55)).alloc (.cells #[I o.kind, I o.num, I o.pos, I o.flags, I (o.refs - 1)] 55) := ⟨_, rfl⟩
  have b5 : Blk W w.heap.size 55 #[I 0, I 0, I 0, I 0, I 0] := by rw [hW]; exact ((Blk.new _ _ _).alloc _).alloc _
  have b8 : Blk W (w.heap.size + 1) 55 (encF o).toArray := by
    rw [hW]
    exact (Blk.new' _ _ (by simp)).alloc _
  have b9 : Blk W (w.heap.size + 1 + 1) 55 (encF { o with refs := o.refs - 1 }).toArray := by
    rw [hW]
    exact Blk.new' _ _ (by simp)
  have HB9 := Lib.hid b9
  have hsW : Safe w W := by rw [hW]; exact (hs1.alloc _).alloc _
  have HW0 := Lib.hid hW
  have HB5 := Lib.hid b5
  have HB8 := Lib.hid b8
  have HSW := Lib.hid hsW
  clear hW b5 b8 b9 hsW hs1
  go_enter Try.func25, Try.ntmps25
  go_wp2_with fail
  refine (HI.out).mono ?_
  rintro _ _ ⟨rfl, rfl⟩
  go_wp2_with fail
  rw [← HW0.out]
  obtain ⟨g0, g1, g2, g3, g4⟩ := cells5 HB9.out
  obtain ⟨d0, d1, d2, d3, d4⟩ := cells5 HB8.out
  go_region_with ((go_at_call 64; refine (HW.out _ (HSW.out.drew)).mono ?_; rintro e w2 ⟨v2, rfl, hv2, hs2⟩; have HV2 := Lib.hid hv2; have HS2 := Lib.hid hs2; clear hv2 hs2; obtain ⟨p0, p1, p2, p3, p4⟩ := box5 HB8.out.drew HS2.out id; obtain ⟨r0, r1, r2, r3, r4⟩ := box5 (o := zeroF) HB5.out.drew HS2.out id; obtain ⟨f0, f1, f2, f3, f4⟩ := frozen5 (HB5.out.drew.but HS2.out id)))
  all_goals
    have HF := Lib.hid (o_fin (o := o) hb HSW.out HB5.out HS2.out HV2.out)
    go_wp2
    exact bodyPost_ret (v := .tuple #[v2, aggF o, .bool false, I 0]) (by simp [results, Try.results25, go_sem, r0, r1, r2, r3, r4]) rfl ⟨v2, rfl, HF.out⟩
end Go.Proofs.Ytlojadpbdbhmiaa
