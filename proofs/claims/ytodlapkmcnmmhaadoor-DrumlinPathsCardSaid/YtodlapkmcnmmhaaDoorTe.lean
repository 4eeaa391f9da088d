/- ptr.Cost: the walk. -/
import Derived.Test.YtodlapkmcnmmhaaDoorTd
namespace Go.Proofs.YtodlapkmcnmmhaaDoor
open Go.RowKit
set_option linter.unusedSimpArgs false
set_option linter.unusedVariables false

/-- What Cost's own blocks hold: the map behind its variable, the sum; the numbers are small. -/
structure Cst (w : World) (s : List (K3 × Int) × Int) (n : Nat) (wr : World) : Prop where
  b0 : Blk wr (w.heap.size + 1) 64 #[.map (some w.heap.size)]
  bm : wr.heap[w.heap.size]? = some (mobj s.1)
  pt : Blk wr (w.heap.size + 1 + 1) 3 #[.int .i64 s.2]
  safe : Safe w wr
  small : Small s n
theorem Cst.step {w : World} {s : List (K3 × Int) × Int} {n : Nat} {W W' : World} (h : Cst w s n W) (hs : Safe W W') : Cst w s n W' :=
  ⟨h.b0.but hs id, hs.heap h.bm id, h.pt.but hs id, h.safe.trans hs, h.small⟩
theorem Cst.bumped {w : World} {s : List (K3 × Int) × Int} {n : Nat} {W W' : World} {p : K3} {e : Ending} (h : Cst w s n W)
    (hb : Bumped w.heap.size (w.heap.size + 1 + 1) (bump p s.1) (if look p s.1 = 0 then s.2 + 1 else s.2) W e W') : Cst w (cstep s p) (n + 1) W' :=
  ⟨h.b0.but hb.2.2.2 (by omega), hb.2.1, hb.2.2.1, h.safe.step hb.2.2.2 (by intro i hi; right; omega), h.small.step p⟩
theorem Cst.call {w : World} {s : List (K3 × Int) × Int} {n : Nat} {W : World} (h : Cst w s n W) (hn : n ≤ 900000) (a b c : Int) :
    Calls Tryd.prog 27 #[.agg #[.int .i64 a, .int .i64 b, .int .i64 c], .pointer (some ⟨w.heap.size + 1, 0, none⟩), .pointer (some ⟨w.heap.size + 1 + 1, 0, none⟩)] W
      fun e W' => e = .returned (.tuple #[]) ∧ Cst w (cstep s (a, b, c)) (n + 1) W' ∧ But (fun k => k = w.heap.size ∨ k = w.heap.size + 1 + 1) W W' :=
  (t45 w.heap.size (w.heap.size + 1 + 1) (w.heap.size + 1) a b c s.2 s.1 W h.b0 h.bm h.pt (h.small.l0 _) (by have := h.small.l1 (a, b, c); omega) (by have := h.small.t0; omega) (by have := h.small.t1; omega)).mono
    fun e W' hb => ⟨hb.1, h.bumped hb, hb.2.2.2⟩

set_option maxRecDepth 100000 in
set_option maxHeartbeats 1000000 in
theorem cost_any (A : Option Addr) (c : Nat) (xs : List Int) (w : World) (hr : Rd I w A xs) (hn : xs.length ≤ 100000) :
    Calls Tryd.prog 9 #[.slice A xs.length c] w fun e w' => e = .returned (.int .i64 (costL xs)) ∧ Safe w w' := by
  have hmm := @run_makeMap Tryd.prog
  go_enter Tryd.func9, Tryd.ntmps9
  go_wp2_with fail
  go_loopw [14] (fun i wr => ∃ k : Nat, k ≤ xs.length ∧ i = .int .i64 k ∧ Cst w (cst (xs.take k)) (3 * k) wr) (fun i _ => xs.length - (intOf i).toNat)
  case atStart => 
    refine ⟨0, Nat.zero_le _, rfl, ?_⟩
    have h1 : (w.alloc (Obj.map #[] 0)).heap[w.heap.size]? = some (mobj []) := heap_alloc_new w _
    exact ⟨by have := (Blk.new (w.alloc (Obj.map #[] 0)) 64 #[.map (some w.heap.size)]).alloc (.cells #[.int .i64 1] 3); simpa using this,
      by refine (Below.heap_alloc _ _ _ ?_).trans ((Below.heap_alloc _ _ _ ?_).trans h1) <;> simp <;> omega,
      by have := Blk.new ((w.alloc (Obj.map #[] 0)).alloc (Obj.cells #[Value.map (some w.heap.size)] 64)) 3 #[.int .i64 1]; simpa [cst] using this,
      (((But.refl _ _).alloc _).alloc _).alloc _, Small.start⟩
  case round =>
    obtain ⟨k, hk, rfl, hC⟩ := hrel
    by_cases hlt : k < xs.length
    · obtain ⟨ad, rfl, hcell⟩ := hr.at hlt
      have hcell := hC.safe.cell hcell id
      have hsn : xs.take (k + 1) = xs.take k ++ [xs[k]] := by rw [List.take_succ_eq_append_getElem hlt]
      have hcs := cst_snoc (xs.take k) xs[k]
      rw [← hsn] at hcs
      generalize xs[k] = x at *
      have Hr := Lib.hid hr
      clear hr hsn
      have hCs := hC.small
      generalize hs : cst (xs.take k) = s at *
      clear hs
      rcases of_keys x with ⟨hne, hkeys⟩ | ⟨a, b, cc, hof, hk3⟩
      · obtain ⟨⟨⟨a, b, cc⟩, d⟩, hof⟩ : ∃ p, ofF x = p := ⟨_, rfl⟩
        have hd : (d != 0) = true := by rw [hof] at hne; simpa using hne
        have hcall : ∀ w, Calls Tryd.prog 28 #[.int .i64 x] w fun e w' => e = .returned (.tuple #[.agg #[.int .i64 a, .int .i64 b, .int .i64 cc], .int .i64 d]) ∧ Safe w w' := fun w => by have := of_any x w; rw [hof] at this; exact this
        have HC := Lib.hid hcall
        rw [hkeys] at hcs
        have HCS := Lib.hid hcs
        have HK := Lib.hid hkeys
        clear hcall hof hne hcs hkeys
        go_wp2_with fail
        refine (HC.out _).mono ?_
        rintro e w1 ⟨rfl, hs1⟩
        go_wp2_with fail
        go_roundw
        case rel => exact ⟨k + 1, by omega, by go_num, by rw [HCS.out]; exact ⟨(hC.step hs1).b0.alloc _, ((hC.step hs1).step ((But.refl _ _).alloc _)).bm, (hC.step hs1).pt.alloc _, (hC.step hs1).safe.alloc _, ⟨hCs.l0, fun q => by have := hCs.l1 q; simp only [List.foldl_nil]; omega, hCs.t0, by have := hCs.t1; simp only [List.foldl_nil]; omega⟩⟩⟩
        case measure => simp [intOf]; omega
      · have hcall : ∀ w, Calls Tryd.prog 28 #[.int .i64 x] w fun e w' => e = .returned (.tuple #[.agg #[.int .i64 a, .int .i64 b, .int .i64 cc], .int .i64 0]) ∧ Safe w w' := fun w => by have := of_any x w; rw [hof] at this; exact this
        have HC := Lib.hid hcall
        rcases hk3 with ⟨rfl, hkeys⟩ | ⟨rfl, hkeys⟩ | ⟨rfl, hkeys⟩
        · rw [hkeys] at hcs
          have HCS := Lib.hid hcs
          clear hcall hof hcs hkeys
          go_wp2_with fail
          refine (HC.out _).mono ?_
          rintro e w1 ⟨rfl, hs1⟩
          have hC1 := hC.step hs1
          clear hC
          go_wp2_with fail
          have hC2 := hC1.step ((But.refl _ w1).alloc (Obj.cells #[.int .i64 0, .int .i64 b, .int .i64 cc] 66))
          have hB2 := Blk.new w1 66 #[.int .i64 0, .int .i64 b, .int .i64 cc]
          refine (hC2.call (by omega) 0 b cc).mono ?_
          rintro e w2 ⟨rfl, hC3, hs3⟩
          have hB3 := hB2.but hs3 (by have := hC1.pt.lt; omega)
          have c0 := hB3.cell' (i := 0) rfl
          have c1 := hB3.cell' (i := 1) rfl
          go_wp2_with fail
          go_roundw
          case rel => exact ⟨k + 1, by omega, by go_num, by rw [HCS.out]; exact ⟨hC3.b0, hC3.bm, hC3.pt, hC3.safe, ⟨hC3.small.l0, fun q => by have := hC3.small.l1 q; simp only [List.foldl_cons, List.foldl_nil]; omega, hC3.small.t0, by have := hC3.small.t1; simp only [List.foldl_cons, List.foldl_nil]; omega⟩⟩⟩
          case measure => simp [intOf]; omega
        · rw [hkeys] at hcs
          have HCS := Lib.hid hcs
          clear hcall hof hcs hkeys
          go_wp2_with fail
          refine (HC.out _).mono ?_
          rintro e w1 ⟨rfl, hs1⟩
          have hC1 := hC.step hs1
          clear hC
          go_wp2_with fail
          have hC2 := hC1.step ((But.refl _ w1).alloc (Obj.cells #[.int .i64 1, .int .i64 b, .int .i64 cc] 66))
          have hB2 := Blk.new w1 66 #[.int .i64 1, .int .i64 b, .int .i64 cc]
          refine (hC2.call (by omega) 1 b cc).mono ?_
          rintro e w2 ⟨rfl, hC3, hs3⟩
          have hB3 := hB2.but hs3 (by have := hC1.pt.lt; omega)
          have c0 := hB3.cell' (i := 0) rfl
          have c1 := hB3.cell' (i := 1) rfl
          go_wp2_with fail
          refine (hC3.call (by omega) 1 b (-1)).mono ?_
          rintro e w3 ⟨rfl, hC4, hs4⟩
          have hB4 := hB3.but hs4 (by have := hC1.pt.lt; omega)
          have d3 := hB4.cell' (i := 0) rfl
          have e3 := hB4.cell' (i := 1) rfl
          go_wp2_with fail
          go_roundw
          case rel => exact ⟨k + 1, by omega, by go_num, by rw [HCS.out]; exact ⟨hC4.b0, hC4.bm, hC4.pt, hC4.safe, ⟨hC4.small.l0, fun q => by have := hC4.small.l1 q; simp only [List.foldl_cons, List.foldl_nil]; omega, hC4.small.t0, by have := hC4.small.t1; simp only [List.foldl_cons, List.foldl_nil]; omega⟩⟩⟩
          case measure => simp [intOf]; omega
        · rw [hkeys] at hcs
          have HCS := Lib.hid hcs
          clear hcall hof hcs hkeys
          go_wp2_with fail
          refine (HC.out _).mono ?_
          rintro e w1 ⟨rfl, hs1⟩
          have hC1 := hC.step hs1
          clear hC
          go_wp2_with fail
          have hC2 := hC1.step ((But.refl _ w1).alloc (Obj.cells #[.int .i64 2, .int .i64 b, .int .i64 cc] 66))
          have hB2 := Blk.new w1 66 #[.int .i64 2, .int .i64 b, .int .i64 cc]
          refine (hC2.call (by omega) 2 b cc).mono ?_
          rintro e w2 ⟨rfl, hC3, hs3⟩
          have hB3 := hB2.but hs3 (by have := hC1.pt.lt; omega)
          have c0 := hB3.cell' (i := 0) rfl
          have c1 := hB3.cell' (i := 1) rfl
          go_wp2_with fail
          refine (hC3.call (by omega) 2 b (-1)).mono ?_
          rintro e w3 ⟨rfl, hC4, hs4⟩
          have hB4 := hB3.but hs4 (by have := hC1.pt.lt; omega)
          have d3 := hB4.cell' (i := 0) rfl
          have e3 := hB4.cell' (i := 1) rfl
          go_wp2_with fail
          refine (hC4.call (by omega) 2 (-1) (-1)).mono ?_
          rintro e w4 ⟨rfl, hC5, hs5⟩
          have hB5 := hB4.but hs5 (by have := hC1.pt.lt; omega)
          have d4 := hB5.cell' (i := 0) rfl
          have e4 := hB5.cell' (i := 1) rfl
          go_wp2_with fail
          go_roundw
          case rel => exact ⟨k + 1, by omega, by go_num, by rw [HCS.out]; exact ⟨hC5.b0, hC5.bm, hC5.pt, hC5.safe, ⟨hC5.small.l0, fun q => by have := hC5.small.l1 q; simp only [List.foldl_cons, List.foldl_nil]; omega, hC5.small.t0, by have := hC5.small.t1; simp only [List.foldl_cons, List.foldl_nil]; omega⟩⟩⟩
          case measure => simp [intOf]; omega
    · obtain rfl : k = xs.length := by omega
      have c0 := hC.pt.cell' (i := 0) rfl
      go_wp2
      go_ret
      exact ⟨rfl, hC.safe⟩
end Go.Proofs.YtodlapkmcnmmhaaDoor
