/- Open files: Close, Count, NewFiles, Open. -/
import Derived.Test.YtlojadpbdbhmiaaFa
namespace Go.Proofs.Ytlojadpbdbhmiaa
open Go.RowKit
set_option linter.unusedSimpArgs false
set_option linter.unusedVariables false

def clF (o : FO) : FO := if o.refs = 1 then zeroF else { o with refs := o.refs - 1 }
set_option maxRecDepth 100000 in
set_option maxHeartbeats 1000000 in
theorem fclose_yes (gf gl : Nat) (os : List FO) (k : Nat) (o : FO) (w : World) (h : FW w gf gl os) (hk : os[k]? = some o) (hr : o.refs ≠ 0) (h1 : -9223372036854775808 < o.refs) (h2 : o.refs ≤ 9223372036854775807) :
    Calls Try.prog 24 #[.pointer (some ⟨gf, 0, none⟩), .int .i64 k] w fun e w' => e = .returned (.tuple #[aggF o, .bool (decide (o.refs = 1)), I 0]) ∧ FW w' gf gl (os.set k (clF o)) ∧ But (· = gl) w w' := by
  have hop := fopen_yes gf gl os k o _ (h.safe ((But.refl _ w).alloc (.cells #[I 0, I 0, I 0, I 0, I 0] 52))) hk hr
  obtain ⟨c0, c1, c2, c3, c4⟩ := h.cells hk
  have f0 := h.hl.frozen (k * 5)
  have f1 := h.hl.frozen (k * 5 + 1)
  have f2 := h.hl.frozen (k * 5 + 2)
  have f3 := h.hl.frozen (k * 5 + 3)
  have f4 := h.hl.frozen (k * 5 + 4)
  have hlt := h.hl.lt
  have HO := Lib.hid hop
  have HH := Lib.hid h
  have HK := Lib.hid hk
  clear hop hk hr h
  by_cases h3 : o.refs = 1
  · have e1 : clF o = zeroF := by unfold clF; rw [if_pos h3]
    rw [decide_eq_true h3, e1]
    have h3b : (o.refs == 1) = true := by simpa using h3
    have h4b : (o.refs - 1 == 0) = true := by simp; omega
    have H3 := Lib.hid h3
    clear h3 e1
    go_enter Try.func24, Try.ntmps24
    go_wp2_with fail
    refine (HO.out).mono ?_
    rintro _ _ ⟨rfl, rfl⟩
    go_wp2_with fail
    go_region
    go_wp2
    have hA := HH.out.set (j := 4) (o' := { o with refs := o.refs - 1 }) (v := I (o.refs - 1)) HK.out (by omega) rfl
    have hB := (hA.put (k := k) (by simpa using (List.getElem?_eq_some_iff.1 HK.out).1) zeroF).2
    rw [List.set_set] at hB
    have hS : But (· = gl) w (((w.setCell ⟨gl, k * 5 + 4, none⟩ (I (o.refs - 1))).setCells gl (k * 5) (encF zeroF).toArray.toList)) := ((But.refl (· = gl) w).setCell (p := ⟨gl, k * 5 + 4, none⟩) (.inl rfl) _).setCells _ _ (.inl rfl)
    refine bodyPost_ret (v := .tuple #[aggF o, .bool true, I 0]) (by simp [results, Try.results24, go_sem]) rfl ⟨rfl, hB.safe (((But.refl _ _).alloc _).alloc _).drew, ((hS.alloc _).alloc _).drew⟩
  · have e1 : clF o = { o with refs := o.refs - 1 } := by unfold clF; rw [if_neg h3]
    rw [decide_eq_false h3, e1]
    have h3b : (o.refs == 1) = false := by simpa using h3
    have h4b : (o.refs - 1 == 0) = false := by simp; omega
    clear h3 e1
    go_enter Try.func24, Try.ntmps24
    go_wp2_with fail
    refine (HO.out).mono ?_
    rintro _ _ ⟨rfl, rfl⟩
    go_wp2_with fail
    go_region
    go_wp2
    have hA := HH.out.set (j := 4) (o' := { o with refs := o.refs - 1 }) (v := I (o.refs - 1)) HK.out (by omega) rfl
    have hS : But (· = gl) w ((w.setCell ⟨gl, k * 5 + 4, none⟩ (I (o.refs - 1)))) := ((But.refl (· = gl) w).setCell (p := ⟨gl, k * 5 + 4, none⟩) (.inl rfl) _)
    refine bodyPost_ret (v := .tuple #[aggF o, .bool false, I 0]) (by simp [results, Try.results24, go_sem]) rfl ⟨rfl, hA.safe (((But.refl _ _).alloc _).alloc _).drew, ((hS.alloc _).alloc _).drew⟩
set_option maxRecDepth 100000 in
theorem fclose_no (gf gl : Nat) (os : List FO) (id : Int) (w : World) (h : FW w gf gl os) (hn : NoF os id) :
    Calls Try.prog 24 #[.pointer (some ⟨gf, 0, none⟩), .int .i64 id] w fun e w' => e = .returned (.tuple #[aggF zeroF, .bool false, I 2]) ∧ Safe w w' := by
  have HO := Lib.hid (fopen_no gf gl os id _ (h.safe ((But.refl _ w).alloc (.cells #[I 0, I 0, I 0, I 0, I 0] 52))) hn)
  clear hn h
  go_enter Try.func24, Try.ntmps24
  go_wp2_with fail
  refine (HO.out).mono ?_
  rintro _ _ ⟨rfl, rfl⟩
  go_wp2
  exact bodyPost_ret (v := .tuple #[aggF zeroF, .bool false, I 2]) (by simp [results, Try.results24, go_sem, zeroF]) rfl ⟨rfl, (But.refl _ _).alloc _⟩
set_option maxRecDepth 100000 in
set_option maxHeartbeats 1000000 in
theorem fcount_any (gf gl : Nat) (os : List FO) (w : World) (h : FW w gf gl os) :
    Calls Try.prog 51 #[.pointer (some ⟨gf, 0, none⟩)] w fun e w' => e = .returned (I (os.countP (fun o => decide (0 < o.refs)))) ∧ Safe w w' := by
  have hlen := h.len
  have c0 := h.hp.cell' (i := 0) rfl
  go_enter Try.func51, Try.ntmps51
  go_wp2
  go_loopw [3, 11] (fun c i wr => ∃ k : Nat, k ≤ os.length ∧ i = .int .i64 k ∧ c = .int .i64 ((os.take k).countP (fun o => decide (0 < o.refs))) ∧ Safe w wr) (fun _ i _ => os.length - (intOf i).toNat)
  case atStart => exact ⟨0, by omega, rfl, rfl, But.refl _ _⟩
  case round =>
    obtain ⟨k, hk, rfl, rfl, hS⟩ := hrel
    have hcl : (os.take k).countP (fun o => decide (0 < o.refs)) ≤ 64 := Nat.le_trans List.countP_le_length (by simp; omega)
    generalize hc : (os.take k).countP (fun o => decide (0 < o.refs)) = c at *
    by_cases hlt : k < os.length
    · obtain ⟨o, ho⟩ : ∃ o, os[k]? = some o := ⟨_, List.getElem?_eq_getElem hlt⟩
      have hP := h.safe hS
      obtain ⟨c0', c1, c2, c3, c4⟩ := hP.cells ho
      have hsn : ((os.take (k + 1)).countP (fun o => decide (0 < o.refs)) : Nat) = c + (if 0 < o.refs then 1 else 0) := by
        rw [List.take_add_one, ho, List.countP_append, hc]; simp
      have HN := Lib.hid hsn
      have HS := Lib.hid hS
      clear hsn hS hP ho hc h
      by_cases hr : 0 < o.refs
      · go_wp2
        go_roundw
        case rel => exact ⟨k + 1, by omega, by go_num, by rw [HN.out, if_pos hr]; rfl, HS.out.alloc _⟩
        case measure => simp [intOf]; omega
      · go_wp2
        go_roundw
        case rel => exact ⟨k + 1, by omega, by go_num, by rw [HN.out, if_neg hr]; rfl, HS.out.alloc _⟩
        case measure => simp [intOf]; omega
    · obtain rfl : k = os.length := by omega
      clear hcl
      go_wp2
      go_ret
      rw [List.take_length] at hc
      exact ⟨by rw [hc]; rfl, hS⟩
theorem infoOpen : (Try.prog.info? 52).map (fun i => (i.zero, i.size, i.bytes)) = some (some (.agg (encF zeroF).toArray), 5, 40) := by kernel_rfl
theorem made_open (w : World) (m : Nat) (hm : m ≤ 64) : (Instr.makeSlice 109 (.int .i64 m) (.int .i64 m)).run Try.prog w = .ok (.slice (some ⟨w.heap.size, 0, none⟩) m m) (w.alloc (.cells (flat encF (List.replicate m zeroF)) 52)) := by
  obtain ⟨i, hi, hz0, hz1, hz2⟩ := info_parts infoOpen
  have := run_make (P := Try.prog) w 109 52 i (.agg (encF zeroF).toArray) Try.underlying109 hi hz0 .i64 .i64 m m (by omega) (by omega) (by rw [hz2]; omega) (by omega)
  rw [this, hz1, show madeCells (Value.agg (encF zeroF).toArray).cells ((m : Int).toNat * 5) = flat encF (List.replicate m zeroF) from ?_]
  · rfl
  · exact flat_made (s := 5) encF_len zeroF (by omega) m
def mostF (m : Int) : Nat := (max 1 (min m 64)).toNat
set_option maxRecDepth 100000 in
set_option maxHeartbeats 1000000 in
theorem newf_any (m : Int) (w : World) :
    Calls Try.prog 18 #[.int .i64 m] w fun e w' => e = .returned (.pointer (some ⟨w.heap.size + 1, 0, none⟩)) ∧ FW w' (w.heap.size + 1) w.heap.size (List.replicate (mostF m) zeroF) ∧ Safe w w' := by
  obtain ⟨n, hn⟩ : ∃ n, n = mostF m := ⟨_, rfl⟩
  rw [← hn]
  have hn1 : 1 ≤ n ∧ n ≤ 64 := by unfold mostF at hn; omega
  have hcs : (¬ m ≤ 64 ∧ n = 64) ∨ (m ≤ 64 ∧ ¬ 1 < m ∧ m ≤ 1 ∧ n = 1) ∨ (m ≤ 64 ∧ ¬ m ≤ 1 ∧ 1 < m ∧ m = n) := by unfold mostF at hn; omega
  clear hn
  have hmk := made_open w n hn1.2
  have hfin : FW ((w.alloc (.cells (flat encF (List.replicate n zeroF)) 52)).alloc (.cells #[.slice (some ⟨w.heap.size, 0, none⟩) n n] 111)) (w.heap.size + 1) w.heap.size (List.replicate n zeroF) ∧
      Safe w ((w.alloc (.cells (flat encF (List.replicate n zeroF)) 52)).alloc (.cells #[.slice (some ⟨w.heap.size, 0, none⟩) n n] 111)) := by
    refine ⟨⟨?_, (Blk.new _ _ _).alloc _, by simp; omega⟩, ((But.refl _ _).alloc _).alloc _⟩
    have := Blk.new (w.alloc (.cells (flat encF (List.replicate n zeroF)) 52)) 111 #[.slice (some ⟨w.heap.size, 0, none⟩) n n]
    simpa using this
  have HF := Lib.hid hfin
  clear hfin
  rcases hcs with ⟨h1, rfl⟩ | ⟨h1, h2, h3, rfl⟩ | ⟨h1, h2, h3, rfl⟩
  all_goals
    try rw [show ((64 : Nat) : Int) = 64 from rfl] at hmk
    try rw [show ((1 : Nat) : Int) = 1 from rfl] at hmk
    go_enter Try.func18, Try.ntmps18
    go_wp2
    go_ret
    exact ⟨rfl, HF.out⟩
end Go.Proofs.Ytlojadpbdbhmiaa
