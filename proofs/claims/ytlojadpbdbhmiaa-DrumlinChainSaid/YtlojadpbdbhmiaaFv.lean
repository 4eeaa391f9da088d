/- Sets: the reference's NewSet; each call, of the program and of the reference, answers one and the same plain function. -/
import Derived.Test.YtlojadpbdbhmiaaFr
import Derived.Test.YtlojadpbdbhmiaaFo
namespace Go.Proofs.Ytlojadpbdbhmiaa
open Go.RowKit
set_option linter.unusedSimpArgs false
set_option linter.unusedVariables false

theorem rp_set (n k : Nat) (h : k < n) : (rp n k).set k (I (-1)) = rp n (k + 1) := by
  unfold rp
  rw [List.set_append_right _ _ (by simp), List.length_replicate, Nat.sub_self, show n - k = (n - (k + 1)) + 1 from by omega, List.replicate_succ, List.set_cons_zero, List.replicate_succ', List.append_assoc]
  rfl
set_option maxRecDepth 100000 in
set_option maxHeartbeats 1000000 in
theorem rnews_any (m : Int) (w : World) : Calls Try.prog 30 #[.int .i64 m] w fun e w' => ∃ v, e = .returned v ∧ LV w' w.heap.size v (List.replicate (mostS m) (-1)) ∧ Safe w w' := by
  obtain ⟨n, hn⟩ : ∃ n, n = mostS m := ⟨_, rfl⟩
  rw [← hn]
  have ha := among_any m 1 16 n (by unfold mostS at hn; split <;> (try split) <;> omega) w
  have hn16 : n ≤ 16 := by unfold mostS at hn; omega
  have hmk := made_ints w n (by omega)
  have h0 : Blk (w.alloc (.cells (Array.replicate n (I 0)) 3)) w.heap.size 3 (rp n 0).toArray := by
    rw [show (rp n 0).toArray = Array.replicate n (I 0) from by simp [rp]]
    exact Blk.new _ _ _
  have HA := Lib.hid ha
  have H0 := Lib.hid h0
  clear ha h0 hn
  go_enter Try.func30, Try.ntmps30
  go_wp2_with fail
  refine (HA.out).mono ?_
  rintro _ _ ⟨rfl, rfl⟩
  go_wp2
  go_loopw [4] (fun i wr => ∃ k : Nat, k ≤ n ∧ i = .int .i64 k ∧ Blk wr w.heap.size 3 (rp n k).toArray ∧ Safe w wr) (fun i _ => n - (intOf i).toNat)
  case atStart => exact ⟨0, by omega, rfl, H0.out, (But.refl _ _).alloc _⟩
  case round =>
    obtain ⟨k, hk, rfl, hB, hS⟩ := hrel
    obtain ⟨wo, rfl⟩ : ∃ wo : World, wo = wr := ⟨_, rfl⟩
    by_cases hlt : k < n
    · have hki : (k : Int) < n := by omega
      have ck : wo.cell? ⟨w.heap.size, k, none⟩ = some (I 0) := hB.cell' (by
        rw [List.getElem?_toArray]
        unfold rp
        rw [List.getElem?_append_right (by simp), List.length_replicate, Nat.sub_self, List.getElem?_replicate, if_pos (by omega)])
      have fk := hB.frozen k
      have hB2 := hB.set k (I (-1))
      rw [List.setIfInBounds_toArray, rp_set n k hlt] at hB2
      have hS2 : Safe w (wo.setCell ⟨w.heap.size, k, none⟩ (I (-1))) := hS.setCell (p := ⟨w.heap.size, k, none⟩) (.inr (Nat.le_refl _)) _
      have HB := Lib.hid hB2
      have HS := Lib.hid hS2
      clear hB hS hB2 hS2
      go_wp2
      go_roundw
      case rel => exact ⟨k + 1, by omega, by go_num, HB.out, HS.out⟩
      case measure => simp [intOf]; omega
    · obtain rfl : k = n := by omega
      have HB := Lib.hid hB
      have HS := Lib.hid hS
      clear hB hS
      go_wp2
      go_ret
      refine ⟨_, rfl, LV.of_own ?_, HS.out⟩
      exact ⟨by simp, .inr ⟨w.heap.size, k, (rp k k).toArray, by simp, Nat.le_refl _, HB.out, by simp, by simp [maxLen]; omega, by simp [rp], by simp [rp]⟩⟩
def getS (ids : List Int) (fd : Int) : Option (Nat × Int) := if 0 ≤ fd then (match ids[fd.toNat]? with | some x => if x = -1 then none else some (fd.toNat, x) | none => none) else none
theorem getS_cases (ids : List Int) (fd : Int) : (getS ids fd = none ∧ NoS ids fd) ∨ ∃ (k : Nat) (x : Int), getS ids fd = some (k, x) ∧ fd = k ∧ k < ids.length ∧ ids[k]? = some x ∧ x ≠ -1 := by
  rcases s_cases ids fd with h | ⟨k, x, rfl, hk, hx, hm⟩
  · refine .inl ⟨?_, h⟩
    unfold getS
    rcases h.cases with h | ⟨h0, h⟩ | ⟨k, rfl, hk, hx⟩
    · rw [if_neg (by omega)]
    · rw [if_pos (by omega), List.getElem?_eq_none (by omega)]
    · rw [if_pos (by omega), Int.toNat_natCast, hx]
      simp
  · refine .inr ⟨k, x, ?_, rfl, hk, hx, hm⟩
    unfold getS
    rw [if_pos (by omega), Int.toNat_natCast, hx]
    simp [hm]
def gtM (ids : List Int) (fd : Int) : Int × Int := match getS ids fd with
  | some (k, x) => (x, 0)
  | none => (0, 2)
def tkM (ids : List Int) (fd : Int) : List Int × Int × Int := match getS ids fd with
  | some (k, x) => (ids.set k (-1), x, 0)
  | none => (ids, 0, 2)
def ptM (ids : List Int) (id : Int) : List Int × Int × Int := if id < 0 then (ids, 0, 1) else match freeS ids with
  | some k => (ids.set k id, k, 0)
  | none => (ids, 0, 13)
def atM (ids : List Int) (fd id : Int) : List Int × Int × Int := if hasS ids fd = false then (ids, 0, 2) else if id < 0 then (ids, 0, 1) else (ids.set fd.toNat id, ids.getD fd.toNat 0, 0)
theorem VS.set {ids : List Int} (h : VS ids) (k : Nat) {x : Int} (hx : -1 ≤ x) : VS (ids.set k x) := fun j y hj => by
  rw [List.getElem?_set] at hj
  split at hj
  · split at hj
    · injection hj with hj; omega
    · cases hj
  · exact h j y hj
theorem tkM_ok {ids : List Int} (h : VS ids) (fd : Int) : VS (tkM ids fd).1 ∧ (tkM ids fd).1.length = ids.length := by
  unfold tkM
  rcases getS_cases ids fd with ⟨e, _⟩ | ⟨k, x, e, _⟩
  · rw [e]; exact ⟨h, rfl⟩
  · rw [e]; exact ⟨h.set k (by omega), by simp⟩
theorem ptM_ok {ids : List Int} (h : VS ids) (id : Int) : VS (ptM ids id).1 ∧ (ptM ids id).1.length = ids.length := by
  unfold ptM
  split
  · exact ⟨h, rfl⟩
  · split
    · exact ⟨h.set _ (by omega), by simp⟩
    · exact ⟨h, rfl⟩
theorem atM_ok {ids : List Int} (h : VS ids) (fd id : Int) : VS (atM ids fd id).1 ∧ (atM ids fd id).1.length = ids.length := by
  unfold atM
  split
  · exact ⟨h, rfl⟩
  · split
    · exact ⟨h, rfl⟩
    · exact ⟨h.set _ (by omega), by simp⟩
section
variable (gs gl : Nat) (sp : List Value) (ids : List Int) (w : World)
theorem sgetM (fd : Int) (h : SW w gs gl sp ids) : Calls Try.prog 47 #[.pointer (some ⟨gs, 0, none⟩), .int .i64 fd] w fun e w' => e = .returned (.tuple #[I (gtM ids fd).1, I (gtM ids fd).2]) ∧ w = w' := by
  unfold gtM
  rcases getS_cases ids fd with ⟨e, hn⟩ | ⟨k, x, e, rfl, hk, hx, hm⟩
  · rw [e]; exact sget_no gs gl sp ids fd w h hn
  · rw [e]; exact sget_yes gs gl sp ids k x w h hx hm
theorem stakeM (fd : Int) (h : SW w gs gl sp ids) : Calls Try.prog 33 #[.pointer (some ⟨gs, 0, none⟩), .int .i64 fd] w fun e w' => e = .returned (.tuple #[I (tkM ids fd).2.1, I (tkM ids fd).2.2]) ∧ SW w' gs gl sp (tkM ids fd).1 ∧ But (· = gl) w w' := by
  unfold tkM
  rcases getS_cases ids fd with ⟨e, hn⟩ | ⟨k, x, e, rfl, hk, hx, hm⟩
  · rw [e]
    refine (stake_no gs gl sp ids fd w h hn).mono ?_
    rintro _ w' ⟨rfl, rfl⟩
    exact ⟨rfl, h, But.refl _ _⟩
  · rw [e]; exact stake_yes gs gl sp ids k x w h hx hm
theorem sputM (id : Int) (h : SW w gs gl sp ids) : Calls Try.prog 31 #[.pointer (some ⟨gs, 0, none⟩), .int .i64 id] w fun e w' => e = .returned (.tuple #[I (ptM ids id).2.1, I (ptM ids id).2.2]) ∧ SW w' gs gl sp (ptM ids id).1 ∧ But (· = gl) w w' := by
  unfold ptM
  by_cases hi : id < 0
  · rw [if_pos hi]
    refine (sput_inval gs gl sp ids id w h hi).mono ?_
    rintro _ w' ⟨rfl, rfl⟩
    exact ⟨rfl, h, But.refl _ _⟩
  · rw [if_neg hi]
    cases hf : freeS ids with
    | some k => exact sput_yes gs gl sp ids k id w h (by omega) hf
    | none =>
      refine (sput_full gs gl sp ids id w h (by omega) hf).mono ?_
      rintro _ w' ⟨rfl, rfl⟩
      exact ⟨rfl, h, But.refl _ _⟩
theorem satM (fd id : Int) (h : SW w gs gl sp ids) : Calls Try.prog 35 #[.pointer (some ⟨gs, 0, none⟩), .int .i64 fd, .int .i64 id] w fun e w' => e = .returned (.tuple #[I (atM ids fd id).2.1, I (atM ids fd id).2.2]) ∧ SW w' gs gl sp (atM ids fd id).1 ∧ But (· = gl) w w' := by
  unfold atM
  cases hh : hasS ids fd with
  | false =>
    refine (sat_no gs gl sp ids fd id w h hh).mono ?_
    rintro _ w' ⟨rfl, rfl⟩
    exact ⟨rfl, h, But.refl _ _⟩
  | true =>
    rw [if_neg (by decide)]
    by_cases hi : id < 0
    · rw [if_pos hi]
      refine (sat_inval gs gl sp ids fd id w h hh hi).mono ?_
      rintro _ w' ⟨rfl, rfl⟩
      exact ⟨rfl, h, But.refl _ _⟩
    · rw [if_neg hi]
      obtain ⟨k, x, rfl, hk, hx⟩ := hasS_true hh
      rw [Int.toNat_natCast, List.getD_eq_getElem?_getD, hx]
      exact sat_yes gs gl sp ids k x id w h hx (by omega)
variable (base : Nat) (v : Value)
theorem rgetM (fd : Int) (h : LV w base v ids) (hV : VS ids) : Calls Try.prog 70 #[v, .int .i64 fd] w fun e w' => e = .returned (.tuple #[I (gtM ids fd).1, I (gtM ids fd).2]) ∧ Safe w w' := by
  unfold gtM
  rcases getS_cases ids fd with ⟨e, hn⟩ | ⟨k, x, e, rfl, hk, hx, hm⟩
  · rw [e]; exact rget_no base v ids fd w h hn
  · rw [e]; exact rget_yes base v ids k x w h hx (by have := hV k x hx; omega)
theorem rtakeM (fd : Int) (h : LV w base v ids) (hV : VS ids) (h16 : ids.length ≤ 16) (hb : base ≤ w.heap.size) : Calls Try.prog 34 #[v, .int .i64 fd] w fun e w' => LRet w w' base v e (t3 (tkM ids fd).2.1 (tkM ids fd).2.2) (tkM ids fd).1 := by
  unfold tkM
  rcases getS_cases ids fd with ⟨e, hn⟩ | ⟨k, x, e, rfl, hk, hx, hm⟩
  · rw [e]; exact rtake_no base v ids fd w h hn
  · rw [e]; exact rtake_yes base v ids k x w h hx (by have := hV k x hx; omega) h16 hb
theorem rputM (id : Int) (h : LV w base v ids) (hV : VS ids) (h16 : ids.length ≤ 16) (hb : base ≤ w.heap.size) : Calls Try.prog 32 #[v, .int .i64 id] w fun e w' => LRet w w' base v e (t3 (ptM ids id).2.1 (ptM ids id).2.2) (ptM ids id).1 := by
  unfold ptM
  by_cases hi : id < 0
  · rw [if_pos hi]; exact rput_inval base v ids id w h hi
  · rw [if_neg hi]
    refine (rput_good base v ids id w h h16 (by omega) hV hb).mono ?_
    intro e w' hr
    unfold PutRet at hr
    cases hf : freeS ids with
    | some k => rw [hf] at hr; exact hr
    | none => rw [hf] at hr; exact hr
theorem ratM (fd id : Int) (h : LV w base v ids) (h16 : ids.length ≤ 16) (hb : base ≤ w.heap.size) : Calls Try.prog 36 #[v, .int .i64 fd, .int .i64 id] w fun e w' => LRet w w' base v e (t3 (atM ids fd id).2.1 (atM ids fd id).2.2) (atM ids fd id).1 := by
  unfold atM
  cases hh : hasS ids fd with
  | false => exact rat_no base v ids fd id w h hh
  | true =>
    rw [if_neg (by decide)]
    obtain ⟨k, x, rfl, hk, hx⟩ := hasS_true hh
    by_cases hi : id < 0
    · rw [if_pos hi]; exact rat_inval base v ids k id w h hk hi
    · rw [if_neg hi, Int.toNat_natCast, List.getD_eq_getElem?_getD, hx]
      exact rat_yes base v ids k x id w h hx (by omega) h16 hb
end
end Go.Proofs.Ytlojadpbdbhmiaa
