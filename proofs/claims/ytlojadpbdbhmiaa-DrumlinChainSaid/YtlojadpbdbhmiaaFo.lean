/- The reference's open files: NewFiles, OpenOne. -/
import Derived.Test.YtlojadpbdbhmiaaFp
namespace Go.Proofs.Ytlojadpbdbhmiaa
open Go.RowKit
set_option linter.unusedSimpArgs false
set_option linter.unusedVariables false
set_option maxRecDepth 100000 in
theorem among_any (m a b r : Int) (h : r = if m < a then a else if b < m then b else m) (w : World) :
    Calls Try.prog 61 #[.int .i64 m, .int .i64 a, .int .i64 b] w fun e w' => e = .returned (I r) ∧ w = w' := by
  by_cases h1 : m < a
  · rw [if_pos h1] at h
    subst h
    go_enter Try.func61, Try.ntmps61
    go_wp2
    go_ret
    exact ⟨rfl, rfl⟩
  · rw [if_neg h1] at h
    by_cases h2 : b < m
    · rw [if_pos h2] at h
      subst h
      go_enter Try.func61, Try.ntmps61
      go_wp2
      go_ret
      exact ⟨rfl, rfl⟩
    · rw [if_neg h2] at h
      subst h
      go_enter Try.func61, Try.ntmps61
      go_wp2
      go_ret
      exact ⟨rfl, rfl⟩
theorem infoRO : (Try.prog.info? 55).map (fun i => (i.zero, i.size, i.bytes)) = some (some (.agg (encF zeroF).toArray), 5, 40) := by kernel_rfl
theorem made_ro (w : World) (m : Nat) (hm : m ≤ 64) : (Instr.makeSlice 41 (.int .i64 m) (.int .i64 m)).run Try.prog w = .ok (.slice (some ⟨w.heap.size, 0, none⟩) m m) (w.alloc (.cells (flat encF (List.replicate m zeroF)) 55)) := by
  obtain ⟨i, hi, hz0, hz1, hz2⟩ := info_parts infoRO
  have := run_make (P := Try.prog) w 41 55 i (.agg (encF zeroF).toArray) Try.underlying41 hi hz0 .i64 .i64 m m (by omega) (by omega) (by rw [hz2]; omega) (by omega)
  rw [this, hz1, show madeCells (Value.agg (encF zeroF).toArray).cells ((m : Int).toNat * 5) = flat encF (List.replicate m zeroF) from ?_]
  · rfl
  · exact flat_made (s := 5) encF_len zeroF (by omega) m
set_option maxRecDepth 100000 in
set_option maxHeartbeats 1000000 in
theorem rnewf_any (m : Int) (w : World) : Calls Try.prog 19 #[.int .i64 m] w fun e w' => ORet w w' w.heap.size e (fun v => v) (List.replicate (mostF m) zeroF) := by
  obtain ⟨n, hn⟩ : ∃ n, n = mostF m := ⟨_, rfl⟩
  rw [← hn]
  have ha := among_any m 1 64 n (by unfold mostF at hn; split <;> (try split) <;> omega) w
  have hn64 : n ≤ 64 := by unfold mostF at hn; omega
  have hmk := made_ro w n hn64
  have hO : LO (w.alloc (.cells (flat encF (List.replicate n zeroF)) 55)) w.heap.size (.slice (some ⟨w.heap.size, 0, none⟩) n n) (List.replicate n zeroF) := by
    refine ⟨some ⟨w.heap.size, 0, none⟩, n, by rw [List.length_replicate], by simp, by omega, fun _ => ⟨_, rfl, fun j v hv => ?_⟩, fun ad e => ?_⟩
    · rw [add_plain, Nat.zero_add]
      exact (Blk.new _ _ _).cell' (by rw [← Array.getElem?_toList]; exact hv)
    · injection e with e
      rw [← e]
      exact ⟨Nat.le_refl _, by simp, _, Blk.new _ _ _⟩
  have HA := Lib.hid ha
  have HO := Lib.hid hO
  clear ha hO hn
  go_enter Try.func19, Try.ntmps19
  go_wp2_with fail
  refine (HA.out).mono ?_
  rintro _ _ ⟨rfl, rfl⟩
  go_wp2
  go_ret
  exact ⟨_, rfl, HO.out, (But.refl _ _).alloc _⟩
set_option maxRecDepth 100000 in
set_option maxHeartbeats 1000000 in
theorem ropen_bad (base : Nat) (v : Value) (os : List FO) (a b c : Int) (w : World) (h : LO w base v os) (hb : badO a b c = true) :
    Calls Try.prog 21 #[v, .int .i64 a, .int .i64 b, .int .i64 c] w fun e w' => ORet w w' base e (u2 0 1) os := by
  have hc : a < 1 ∨ (¬ a < 1 ∧ 3 < a) ∨ (¬ a < 1 ∧ ¬ 3 < a ∧ b < 1) ∨ (¬ a < 1 ∧ ¬ 3 < a ∧ ¬ b < 1 ∧ c < 1) ∨ (¬ a < 1 ∧ ¬ 3 < a ∧ ¬ b < 1 ∧ ¬ c < 1 ∧ 7 < c) := by
    unfold badO at hb
    simp only [Bool.or_eq_true, decide_eq_true_eq] at hb
    omega
  have H := Lib.hid h
  obtain ⟨A, cc, rfl, -⟩ := h
  clear hb
  rcases hc with h1 | ⟨h1, h2⟩ | ⟨h1, h2, h3⟩ | ⟨h1, h2, h3, h4⟩ | ⟨h1, h2, h3, h4, h5⟩
  all_goals
    go_enter Try.func21, Try.ntmps21
    go_wp2
    go_ret3
    exact ⟨_, rfl, H.out, But.refl _ _⟩
/-- What OpenOne answers where the arguments are good. -/
def OpRet (w w' : World) (base : Nat) (e : Ending) (os : List FO) (a b c : Int) : Prop :=
  match freeF os with
  | some m => ORet w w' base e (u2 m 0) (os.set m (newO a b c))
  | none => ORet w w' base e (u2 0 14) os
set_option maxRecDepth 100000 in
set_option maxHeartbeats 1000000 in
theorem ropen_good (base : Nat) (v : Value) (os : List FO) (a b c : Int) (w : World) (h : LO w base v os) (h64 : os.length ≤ 64) (hb : badO a b c = false) (hbase : base ≤ w.heap.size) :
    Calls Try.prog 21 #[v, .int .i64 a, .int .i64 b, .int .i64 c] w fun e w' => OpRet w w' base e os a b c := by
  obtain ⟨h1, h2, h3, h4, h5⟩ := badO_false hb
  have H := Lib.hid h
  obtain ⟨A, cc, rfl, hc, hcm, hrd, -⟩ := h
  have HR := Lib.hid hrd
  clear hb hrd
  go_enter Try.func21, Try.ntmps21
  go_wp2
  go_loop [11] (fun i => ∃ k : Nat, k ≤ os.length ∧ i = .int .i64 k ∧ (∀ j (q : FO), j < k → os[j]? = some q → (q.refs == 0) = false)) (fun i => os.length - (intOf i).toNat)
  case atStart => exact ⟨0, by omega, rfl, fun j q hj => absurd hj (by omega)⟩
  case round =>
    obtain ⟨k, hk, rfl, hall⟩ := hrel
    have HA := Lib.hid hall
    clear hall
    by_cases hlt : k < os.length
    · obtain ⟨o, ho⟩ : ∃ o, os[k]? = some o := ⟨_, List.getElem?_eq_getElem hlt⟩
      obtain ⟨ad, rfl, c0, c1, c2, c3, c4⟩ := LO.at HR.out ho
      have HO := Lib.hid ho
      clear ho
      have hki : (k : Int) < os.length := by omega
      cases hr : (o.refs == 0)
      · go_wp2
        go_round
        case rel =>
          refine ⟨k + 1, by omega, by go_num, fun j q hj hq => ?_⟩
          by_cases e : j = k
          · subst e
            have := hq.symm.trans HO.out
            injection this with this
            rw [this]; exact hr
          · exact HA.out j q (by omega) hq
        case measure => simp [intOf]; omega
      · have hf : freeF os = some k := find_hit HO.out hr HA.out
        have hw := rputf_any base _ os k (newO a b c) w H.out hlt h64
        generalize hos2 : os.set k (newO a b c) = os2 at *
        have HW := Lib.hid hw
        have HF := Lib.hid hf
        have HO2 := Lib.hid hos2
        clear hw hf hos2
        go_wp2_with fail
        refine (HW.out).mono ?_
        rintro e w2 ⟨v2, rfl, hv2, hs2⟩
        have HV := Lib.hid (hv2.lower hbase)
        have HS := Lib.hid hs2
        obtain ⟨A2, c2', rfl, -⟩ := hv2
        clear hs2
        go_wp2
        go_ret3
        unfold OpRet
        rw [HF.out]
        show ORet _ _ _ _ _ (os.set k (newO a b c))
        rw [HO2.out]
        exact ⟨_, rfl, HV.out, HS.out⟩
    · obtain rfl : k = os.length := by omega
      go_wp2
      go_ret3
      unfold OpRet
      rw [freeF, find_miss HA.out]
      exact ⟨_, rfl, H.out, But.refl _ _⟩
end Go.Proofs.Ytlojadpbdbhmiaa
