/- What a process knows: NewSet. -/
import Derived.Test.YtlojadpbdbhmiaaFt
namespace Go.Proofs.Ytlojadpbdbhmiaa
open Go.RowKit
set_option linter.unusedSimpArgs false
set_option linter.unusedVariables false

theorem infoInt : (Try.prog.info? 3).map (fun i => (i.zero, i.size, i.bytes)) = some (some (I 0), 1, 8) := by kernel_rfl
theorem sizeInt : (Try.prog.info? 3).map (·.size) = some 1 := by kernel_rfl
theorem made_ints (w : World) (m : Nat) (hm : m ≤ 64) : (Instr.makeSlice 22 (.int .i64 m) (.int .i64 m)).run Try.prog w = .ok (.slice (some ⟨w.heap.size, 0, none⟩) m m) (w.alloc (.cells (Array.replicate m (I 0)) 3)) := by
  obtain ⟨i, hi, hz0, hz1, hz2⟩ := info_parts infoInt
  have := run_make (P := Try.prog) w 22 3 i (I 0) Try.underlying22 hi hz0 .i64 .i64 m m (by omega) (by omega) (by rw [hz2]; omega) (by omega)
  rw [this, hz1, show madeCells (I 0).cells ((m : Int).toNat * 1) = Array.replicate m (I 0) from ?_]
  · rfl
  · apply Array.ext'
    apply List.ext_getElem?
    intro i
    simp only [madeCells, Nat.mul_one, Int.toNat_natCast]
    by_cases h : i < m
    · simp [h, Nat.mod_one, Value.cells]
    · simp [h]
/-- m times -1, then noughts. -/
def rp (n m : Nat) : List Value := List.replicate m (I (-1)) ++ List.replicate (n - m) (I 0)
theorem rp_splice (n m k : Nat) (h : m + k ≤ n) : splice (rp n m) m (List.replicate k (I (-1))) = rp n (m + k) := by
  unfold splice rp
  rw [List.take_append_of_le_length (by simp), List.take_of_length_le (by simp), List.length_replicate, List.drop_append, List.drop_of_length_le (by simp <;> omega), List.length_replicate, List.drop_replicate, List.nil_append,
    ← List.append_assoc, List.replicate_append_replicate, show n - m - (m + k - m) = n - (m + k) from by omega]
theorem rp_len (n m : Nat) (h : m ≤ n) : (rp n m).length = n := by simp [rp]; omega
theorem rp_get {n m j : Nat} (h : j < m) : (rp n m)[j]? = some (I (-1)) := by
  unfold rp
  rw [List.getElem?_append_left (by simpa using h), List.getElem?_replicate, if_pos h]
set_option maxRecDepth 100000 in
set_option maxHeartbeats 600000 in
theorem srepeat_any (gx n : Nat) (h1 : 1 ≤ n) (h2 : n ≤ 16) (w : World) (hx : Blk w gx 3 #[I (-1)]) :
    Calls Try.prog 67 #[.slice (some ⟨gx, 0, none⟩) 1 1, .int .i64 n] w fun e w' => OwnI w w' e (List.replicate n (-1)) := by
  have hmul := mul_one' n (by omega) (by omega) w
  have hmk := made_ints w n (by omega)
  have hgx := hx.lt
  have hcx : ∀ j v, [I (-1)][j]? = some v → (w.alloc (.cells (Array.replicate n (I 0)) 3)).cell? ((⟨gx, 0, none⟩ : Addr).add j) = some v := fun j v hv => by
    rw [add_plain, Nat.zero_add]
    exact (hx.alloc _).cell' (by simpa using hv)
  have hb0 : Below w.heap.size w (w.alloc (.cells (Array.replicate n (I 0)) 3)) := (Below.refl _ _).alloc (Nat.le_refl _) _
  have hg0 : (w.alloc (.cells (Array.replicate n (I 0)) 3)).heap[w.heap.size]? = some (.cells (rp n 0).toArray 3 (0, 0)) := by
    rw [show (rp n 0).toArray = Array.replicate n (I 0) from by simp [rp]]
    exact Blk.new _ _ _
  obtain ⟨w1, hcp, hg1, hb1⟩ : ∃ w1, (Builtin.copy_ #[22, 22] 3 #[.slice (some ⟨w.heap.size, 0, none⟩) n n, .slice (some ⟨gx, 0, none⟩) 1 1]).run Try.prog (w.alloc (.cells (Array.replicate n (I 0)) 3)) = .ok (I 1) w1 ∧
      w1.heap[w.heap.size]? = some (.cells (splice (rp n 0) 0 [I (-1)]).toArray 3 (0, 0)) ∧ Below w.heap.size w w1 := by
    refine ⟨_, run_copy_row (P := Try.prog) _ 22 22 3 3 w.heap.size 0 n n ⟨gx, 0, none⟩ 1 1 (rp n 0).toArray 3 [I (-1)] Try.underlying22 sizeInt hg0 (by show 1 = min 1 n; omega) hcx (by rw [List.size_toArray, rp_len n 0 (by omega)]; exact h1) (fun v hv => by simp only [List.mem_singleton] at hv; rw [hv]; rfl), ?_, below_setRow hb0 (Nat.le_refl _) _⟩
    simpa [splice] using setRow_heap _ _ _ _ _ _ hg0
  have HG1' := Lib.hid hg1
  have HB1 := Lib.hid hb1
  have HMU := Lib.hid hmul
  have HCX := Lib.hid hcx
  have HB0 := Lib.hid hb0
  have HG0 := Lib.hid hg0
  have HL : Hid ((rp n 0).length = n) := Lib.hid (rp_len n 0 (by omega))
  clear hmul hcx hb0 hg0 hx hg1 hb1
  go_enter Try.func67, Try.ntmps67
  go_wp2_with fail
  refine (HMU.out).mono ?_
  rintro _ _ ⟨rfl, rfl⟩
  go_wp2
  have hg1 : w1.heap[w.heap.size]? = some (.cells (rp n 1).toArray 3 (0, 0)) := by
    rw [← rp_splice n 0 1 (by omega)]; exact HG1'.out
  have HG1 := Lib.hid hg1
  clear hg1
  go_loopw [8] (fun v wr => ∃ m : Nat, 1 ≤ m ∧ m ≤ n ∧ v = .int .i64 m ∧ wr.heap[w.heap.size]? = some (.cells (rp n m).toArray 3 (0, 0)) ∧ Below w.heap.size w wr) (fun v _ => n - (intOf v).toNat)
  case atStart => exact ⟨1, by omega, by omega, rfl, HG1.out, HB1.out⟩
  case round =>
    obtain ⟨m, hm1, hmn, rfl, hg, hb⟩ := hrel
    obtain ⟨wo, rfl⟩ : ∃ wo : World, wo = wr := ⟨_, rfl⟩
    have HG := Lib.hid hg
    have HB := Lib.hid hb
    clear hg hb
    by_cases hlt : m < n
    · have hne : ¬ n = m := by omega
      have hne2 : ¬ (n : Int) = m := by omega
      have hm0 : (0 : Int) ≤ (m : Int) := by omega
      have hmi : (m : Int) ≤ n := by omega
      obtain ⟨k, hk⟩ : ∃ k, k = min m (n - m) := ⟨_, rfl⟩
      have hks : Hid (k = min m (n - m)) := Lib.hid hk
      have hk16 : k ≤ 16 := by omega
      have hmk : m + k ≤ n := by omega
      have hkp : 1 ≤ k := by omega
      have hcs : ∀ j v, (List.replicate k (I (-1)))[j]? = some v → wo.drew.cell? ((⟨w.heap.size, 0, none⟩ : Addr).add j) = some v := fun j v hv => by
        have hj := (List.getElem?_eq_some_iff.1 hv).1
        rw [List.length_replicate] at hj
        rw [List.getElem?_replicate, if_pos hj] at hv
        rw [add_plain, Nat.zero_add]
        have hb : Blk wo w.heap.size 3 (rp n m).toArray := HG.out
        rw [← hv]
        exact hb.cell' (by rw [List.getElem?_toArray]; exact rp_get (by omega))
      have HCS := Lib.hid hcs
      have HGD : Hid (wo.drew.heap[w.heap.size]? = some (.cells (rp n m).toArray 3 (0, 0))) := Lib.hid HG.out
      have HBD : Hid (Below w.heap.size w wo.drew) := Lib.hid (by have := HB.out; exact ⟨this.os, this.tape, this.output, this.size, this.block⟩)
      have HRL : Hid ((rp n m).length = n) := Lib.hid (rp_len n m hmn)
      obtain ⟨w2, hcp2, hg2, hb2⟩ : ∃ w2, (Builtin.copy_ #[22, 22] 3 #[.slice (some ⟨w.heap.size, m, none⟩) (n - m) (n - m), .slice (some ⟨w.heap.size, 0, none⟩) m n]).run Try.prog wo.drew = .ok (I k) w2 ∧
          w2.heap[w.heap.size]? = some (.cells (splice (rp n m) m (List.replicate k (I (-1)))).toArray 3 (0, 0)) ∧ Below w.heap.size w w2 := by
        have hr := run_copy_row (P := Try.prog) _ 22 22 3 3 w.heap.size m (n - m) (n - m) ⟨w.heap.size, 0, none⟩ m n (rp n m).toArray 3 (List.replicate k (I (-1))) Try.underlying22 sizeInt HGD.out (by rw [List.length_replicate]; exact hk) hcs
          (by rw [List.length_replicate, List.size_toArray, HRL.out]; exact hmk) (fun v hv => by rw [List.mem_replicate] at hv; rw [hv.2]; rfl)
        rw [List.length_replicate] at hr
        refine ⟨_, hr, ?_, below_setRow HBD.out (Nat.le_refl _) _⟩
        simpa [splice] using setRow_heap _ _ _ _ _ _ HGD.out
      rw [rp_splice n m k hmk] at hg2
      have HG2 := Lib.hid hg2
      have HB2 := Lib.hid hb2
      clear hk hcs hg2 hb2
      go_wp2_with fail
      go_region
      go_wp2
      go_roundw
      case rel => exact ⟨m + k, by omega, by omega, by go_num, HG2.out, HB2.out⟩
      case measure => simp [intOf]; omega
    · obtain rfl : m = n := by omega
      go_wp2
      go_ret
      refine ⟨_, rfl, ?_, Safe.of_below HB.out⟩
      refine ⟨by simp, .inr ⟨w.heap.size, m, (rp m m).toArray, by simp, Nat.le_refl _, HG.out, by simp, by simp [maxLen]; omega, by simp [rp], by simp [rp]⟩⟩
theorem own_lower {w : World} {base base' n size : Nat} {e : TypeId} {v : Value} {xs : List Value} (h : w.ownsRow base e size v n xs) (hb : base' ≤ base) : w.ownsRow base' e size v n xs := by
  obtain ⟨h1, h2⟩ := h
  refine ⟨h1, ?_⟩
  rcases h2 with h2 | ⟨g, cap, cur, a, b, r⟩
  · exact .inl h2
  · exact .inr ⟨g, cap, cur, a, Nat.le_trans hb b, r⟩
def mostS (m : Int) : Nat := (max 1 (min m 16)).toNat
set_option maxRecDepth 100000 in
theorem news_any (m : Int) (w : World) :
    Calls Try.prog 29 #[.int .i64 m] w fun e w' => NewS w w' e (List.replicate (mostS m) (-1)) := by
  obtain ⟨n, hn⟩ : ∃ n, n = mostS m := ⟨_, rfl⟩
  rw [← hn]
  have hn1 : 1 ≤ n ∧ n ≤ 16 := by unfold mostS at hn; omega
  have hcs : (¬ m ≤ 16 ∧ n = 16) ∨ (m ≤ 16 ∧ ¬ 1 < m ∧ m ≤ 1 ∧ n = 1) ∨ (m ≤ 16 ∧ ¬ m ≤ 1 ∧ 1 < m ∧ m = n) := by unfold mostS at hn; omega
  clear hn
  have hrp := srepeat_any w.heap.size n hn1.1 hn1.2 (w.alloc (.cells #[I (-1)] 3)) (Blk.new _ _ _)
  have hlr : (List.replicate n (-1 : Int)).length = n := List.length_replicate
  have h0 : Safe w (w.alloc (.cells #[I (-1)] 3)) := (But.refl _ w).alloc _
  have H0 := Lib.hid h0
  have HL := Lib.hid hlr
  clear h0 hlr
  rcases hcs with ⟨h1, rfl⟩ | ⟨h1, h2, h3, rfl⟩ | ⟨h1, h2, h3, rfl⟩
  all_goals
    try rw [show ((16 : Nat) : Int) = 16 from rfl] at hrp
    try rw [show ((1 : Nat) : Int) = 1 from rfl] at hrp
    have HR := Lib.hid hrp
    clear hrp
    go_enter Try.func29, Try.ntmps29
    go_wp2_with fail
    refine (HR.out).mono ?_
    rintro e w1 ⟨v, rfl, ho, hs⟩
    have hN : NewS w (w1.alloc (.cells #[v] 122)) _ _ := news_of (own_lower ho H0.out.size) (by rw [HL.out]; exact hn1.1) (by rw [HL.out]; exact hn1.2) (H0.out.trans hs)
    have HN := Lib.hid hN
    obtain ⟨A, c, rfl, hc⟩ := own_form ho
    clear hN ho hs
    go_wp2
    go_ret
    first | exact HN.out | (have h := HN.out; rw [HL.out] at h; exact h)
end Go.Proofs.Ytlojadpbdbhmiaa
