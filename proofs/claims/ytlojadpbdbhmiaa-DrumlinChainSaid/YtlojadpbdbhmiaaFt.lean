/- What a process knows: All, Known, NewSet, Clone. -/
import Derived.Test.YtlojadpbdbhmiaaFs
import Derived.Deep.DeepMust
import Derived.Laws.CopyOwn
import Derived.Deep.RegionLaw
namespace Go.Proofs.Ytlojadpbdbhmiaa
open Go.RowKit
set_option linter.unusedSimpArgs false
set_option linter.unusedVariables false

theorem slInts : SlT Try.prog 22 3 (I 0) 1 8 := ⟨Try.underlying22, by kernel_rfl, rfl, by omega⟩
def allS (ids : List Int) : List Int := ids.filter (fun x => x != -1)
def knownS (ids : List Int) : List Int := ((ids.zipIdx).filter (fun p => p.1 != -1)).map (fun p => (p.2 : Int))
theorem allS_snoc {ids : List Int} {k : Nat} {x : Int} (h : ids[k]? = some x) : allS (ids.take (k + 1)) = if x = -1 then allS (ids.take k) else allS (ids.take k) ++ [x] := by
  unfold allS
  rw [List.take_add_one, h, List.filter_append]
  by_cases e : x = -1 <;> simp [e]
theorem knownS_snoc {ids : List Int} {k : Nat} {x : Int} (h : ids[k]? = some x) : knownS (ids.take (k + 1)) = if x = -1 then knownS (ids.take k) else knownS (ids.take k) ++ [(k : Int)] := by
  have hlt := (List.getElem?_eq_some_iff.1 h).1
  unfold knownS
  rw [List.take_add_one, h, Option.toList_some, List.zipIdx_append, List.filter_append, List.map_append, List.length_take, Nat.min_eq_left (Nat.le_of_lt hlt)]
  by_cases e : x = -1 <;> simp [e]
theorem allS_len (ids : List Int) (k : Nat) : (allS (ids.take k)).length ≤ k := Nat.le_trans (List.length_filter_le _ _) (List.length_take_le _ _)
theorem knownS_len (ids : List Int) (k : Nat) : (knownS (ids.take k)).length ≤ k := by
  unfold knownS
  rw [List.length_map]
  exact Nat.le_trans (List.length_filter_le _ _) (by rw [List.length_zipIdx]; exact List.length_take_le _ _)
/-- A slice of the call's own that reads so. -/
def OwnI (w w' : World) (e : Ending) (l : List Int) : Prop := ∃ v, e = .returned v ∧ w'.ownsRow w.heap.size 3 1 v l.length (l.map I) ∧ Safe w w'
set_option maxRecDepth 100000 in
set_option maxHeartbeats 1000000 in
theorem sall_any (gs gl : Nat) (sp : List Value) (ids : List Int) (w : World) (h : SW w gs gl sp ids) :
    Calls Try.prog 45 #[.pointer (some ⟨gs, 0, none⟩)] w fun e w' => OwnI w w' e (allS ids) := by
  have c0 := h.hp.cell' (i := 0) rfl
  have hlen := h.len
  have H := Lib.hid h
  clear h
  go_enter Try.func45, Try.ntmps45
  go_wp2
  go_loopw [3, 11] (fun v i wr => ∃ k : Nat, k ≤ ids.length ∧ i = .int .i64 k ∧ wr.ownsRow w.heap.size 3 1 v (allS (ids.take k)).length ((allS (ids.take k)).map I) ∧ Safe w wr) (fun _ i _ => ids.length - (intOf i).toNat)
  case atStart => exact ⟨0, by omega, rfl, World.ownsRow_nil _ _ _ _, But.refl _ _⟩
  case round =>
    obtain ⟨k, hk, rfl, hown, hS⟩ := hrel
    obtain ⟨wo, rfl⟩ : ∃ wo : World, wo = wr := ⟨_, rfl⟩
    by_cases hlt : k < ids.length
    · obtain ⟨x, hx⟩ : ∃ x, ids[k]? = some x := ⟨_, List.getElem?_eq_getElem hlt⟩
      have ck := (H.out.safe hS).at hx
      have hl := allS_len ids k
      have hsn := allS_snoc hx
      have HO := Lib.hid hown
      have HS := Lib.hid hS
      have HX := Lib.hid hx
      by_cases e : x = -1
      · rw [if_pos e] at hsn
        have hb : (x != -1) = false := by simp [e]
        have HN := Lib.hid hsn
        clear hown hS hx hsn e
        go_wp2
        go_roundw
        case rel => exact ⟨k + 1, by omega, by go_num, by rw [HN.out]; exact HO.out, HS.out⟩
        case measure => simp [intOf]; omega
      · rw [if_neg e] at hsn
        have hb : (x != -1) = true := by simp [e]
        have HN := Lib.hid hsn
        have hsz := hS.size
        have h63 : (allS (ids.take k)).length + 1 ≤ maxLen := by simp [maxLen]; omega
        have hby : ((allS (ids.take k)).length + 1) * 8 ≤ 140737488355328 := by omega
        have hba : w.heap.size ≤ (wo.alloc (.cells #[I x] 3)).heap.size := by
          show _ ≤ (wo.heap.push _).size
          rw [Array.size_push]; omega
        have hone : ∀ u ∈ (#[I x] : Array Value).toList, u.oneCell' = true := by simp [Value.oneCell']
        clear hown hS hx hsn e
        go_wp2_with (at_builtin; go_must (refine wpList_push slInts rfl (.tmp 17) (.tmp 19) rfl w.heap.size u3 (allS (ids.take k)).length _ rfl (own_safe HO.out ((But.refl _ _).alloc _)) wo.heap.size 3 #[I x] rfl (Blk.new _ _ _) rfl hone h63 hby hba ?_); intro v1 w1 ho hg hd)
        have hs1 : Safe w w1 := safe_own (HS.out.alloc _) (own_safe HO.out ((But.refl _ _).alloc _)) hg (Nat.le_refl _)
        have HO1 := Lib.hid ho
        clear ho hg hd
        go_wp2
        go_roundw
        case rel => exact ⟨k + 1, by omega, by go_num, by rw [HN.out, List.length_append, List.map_append]; exact HO1.out, hs1⟩
        case measure => simp [intOf]; omega
    · obtain rfl : k = ids.length := by omega
      rw [List.take_length] at hown
      have HO := Lib.hid hown
      clear hown
      go_wp2
      go_ret
      exact ⟨_, rfl, HO.out, hS⟩
set_option maxRecDepth 100000 in
set_option maxHeartbeats 1000000 in
theorem sknown_any (gs gl : Nat) (sp : List Value) (ids : List Int) (w : World) (h : SW w gs gl sp ids) :
    Calls Try.prog 73 #[.pointer (some ⟨gs, 0, none⟩)] w fun e w' => OwnI w w' e (knownS ids) := by
  have c0 := h.hp.cell' (i := 0) rfl
  have hlen := h.len
  have H := Lib.hid h
  clear h
  go_enter Try.func73, Try.ntmps73
  go_wp2
  go_loopw [3, 11] (fun v i wr => ∃ k : Nat, k ≤ ids.length ∧ i = .int .i64 k ∧ wr.ownsRow w.heap.size 3 1 v (knownS (ids.take k)).length ((knownS (ids.take k)).map I) ∧ Safe w wr) (fun _ i _ => ids.length - (intOf i).toNat)
  case atStart => exact ⟨0, by omega, rfl, World.ownsRow_nil _ _ _ _, But.refl _ _⟩
  case round =>
    obtain ⟨k, hk, rfl, hown, hS⟩ := hrel
    obtain ⟨wo, rfl⟩ : ∃ wo : World, wo = wr := ⟨_, rfl⟩
    by_cases hlt : k < ids.length
    · obtain ⟨x, hx⟩ : ∃ x, ids[k]? = some x := ⟨_, List.getElem?_eq_getElem hlt⟩
      have ck := (H.out.safe hS).at hx
      have hl := knownS_len ids k
      have hsn := knownS_snoc hx
      have HO := Lib.hid hown
      have HS := Lib.hid hS
      have HX := Lib.hid hx
      by_cases e : x = -1
      · rw [if_pos e] at hsn
        have hb : (x != -1) = false := by simp [e]
        have HN := Lib.hid hsn
        clear hown hS hx hsn e
        go_wp2
        go_roundw
        case rel => exact ⟨k + 1, by omega, by go_num, by rw [HN.out]; exact HO.out, HS.out⟩
        case measure => simp [intOf]; omega
      · rw [if_neg e] at hsn
        have hb : (x != -1) = true := by simp [e]
        have HN := Lib.hid hsn
        have hsz := hS.size
        have h63 : (knownS (ids.take k)).length + 1 ≤ maxLen := by simp [maxLen]; omega
        have hby : ((knownS (ids.take k)).length + 1) * 8 ≤ 140737488355328 := by omega
        have hba : w.heap.size ≤ (wo.alloc (.cells #[I k] 3)).heap.size := by
          show _ ≤ (wo.heap.push _).size
          rw [Array.size_push]; omega
        have hone : ∀ u ∈ (#[I k] : Array Value).toList, u.oneCell' = true := by simp [Value.oneCell']
        clear hown hS hx hsn e
        go_wp2_with (at_builtin; go_must (refine wpList_push slInts rfl (.tmp 18) (.tmp 20) rfl w.heap.size u3 (knownS (ids.take k)).length _ rfl (own_safe HO.out ((But.refl _ _).alloc _)) wo.heap.size 3 #[I k] rfl (Blk.new _ _ _) rfl hone h63 hby hba ?_); intro v1 w1 ho hg hd)
        have hs1 : Safe w w1 := safe_own (HS.out.alloc _) (own_safe HO.out ((But.refl _ _).alloc _)) hg (Nat.le_refl _)
        have HO1 := Lib.hid ho
        clear ho hg hd
        go_wp2
        go_roundw
        case rel => exact ⟨k + 1, by omega, by go_num, by rw [HN.out, List.length_append, List.map_append]; exact HO1.out, hs1⟩
        case measure => simp [intOf]; omega
    · obtain rfl : k = ids.length := by omega
      rw [List.take_length] at hown
      have HO := Lib.hid hown
      clear hown
      go_wp2
      go_ret
      exact ⟨_, rfl, HO.out, hS⟩
theorem SW.of_own {w : World} {gs base : Nat} {A : Option Addr} {c : Nat} {ids : List Int} (ho : w.ownsRow base 3 1 (.slice A ids.length c) ids.length (ids.map I)) (h1 : 0 < ids.length) (h2 : ids.length ≤ 16)
    (hp : Blk w gs 122 #[.slice A ids.length c]) : ∃ gl sp, A = some ⟨gl, 0, none⟩ ∧ base ≤ gl ∧ SW w gs gl sp ids := by
  rcases ho.2 with ⟨_, h0⟩ | ⟨g, cap, cur, hv, hb, hh, hn, hm, hs, ht⟩
  · omega
  · injection hv with e1 e2 e3
    subst e1 e3
    rw [Nat.mul_one] at hs ht
    have hcl : cur.toList.length = c := by simpa using hs
    refine ⟨g, cur.toList.drop ids.length, rfl, hb, ?_, ?_, h2, ?_⟩
    · rw [List.length_drop, hcl, show ids.length + (c - ids.length) = c from by omega]; exact hp
    · have : (ids.map I ++ cur.toList.drop ids.length).toArray = cur := by
        rw [← ht, List.take_append_drop]
      rw [this]; exact hh
    · rw [List.length_drop, hcl]; unfold maxLen at hm; omega
set_option maxRecDepth 100000 in
set_option maxHeartbeats 1000000 in
theorem sclone0_any (gl : Nat) (sp : List Value) (ids : List Int) (w : World) (hl : Blk w gl 3 (ids.map I ++ sp).toArray) (h16 : ids.length ≤ 16) (hc : ids.length + sp.length ≤ 9223372036854775807) :
    Calls Try.prog 72 #[.slice (some ⟨gl, 0, none⟩) ids.length (ids.length + sp.length)] w fun e w' => OwnI w w' e ids := by
  have hneq := Lib.run_eql_slice_nil (P := Try.prog) w 22 3 (some ⟨gl, 0, none⟩) ids.length (ids.length + sp.length) 0 0 Try.underlying22
  have hrd : Rd I w (some ⟨gl, 0, none⟩) ids := Rd.of_blk hl (by simp)
  have hcells := Rd.cells (hrd.but (But.alloc (But.refl (fun _ => False) w) (.cells #[] 3)) (fun _ _ => id))
  have ho0 : (w.alloc (.cells #[] 3)).ownsRow w.heap.size 3 1 (.slice (some ⟨w.heap.size, 0, none⟩) 0 0) 0 [] := World.ownsRow_lit w #[] 0 (Nat.le_refl _) (by simp [maxLen]) rfl
  have hml : (ids.map I).length = ids.length * 1 := by simp
  have hone : ∀ u ∈ ids.map I, u.oneCell' = true := by intro u hu; rw [List.mem_map] at hu; obtain ⟨x, _, rfl⟩ := hu; rfl
  have h63 : 0 + ids.length ≤ maxLen := by simp [maxLen]; omega
  have hby : (0 + ids.length) * 8 ≤ 140737488355328 := by omega
  have hba : w.heap.size ≤ (w.alloc (.cells #[] 3)).heap.size := by
    show _ ≤ (w.heap.push _).size
    rw [Array.size_push]; omega
  have HC := Lib.hid hcells
  have HO := Lib.hid ho0
  have HM := Lib.hid hml
  have HN := Lib.hid hone
  clear hcells ho0 hml hone hrd hl
  go_enter Try.func72, Try.ntmps72
  go_wp2_with (at_builtin; go_must (refine wpList_pushAll slInts rfl (.tmp 5) (.tmp 6) rfl w.heap.size (.slice (some ⟨w.heap.size, 0, none⟩) 0 0) 0 [] rfl HO.out (some ⟨gl, 0, none⟩) ids.length (ids.length + sp.length) (ids.map I) rfl HM.out HC.out HN.out h63 hby hba ?_); intro v1 w1 ho hg hd)
  have hs1 : Safe w w1 := safe_own ((But.refl _ w).alloc _) HO.out hg (Nat.le_refl _)
  rw [Nat.zero_add, List.nil_append] at ho
  have HO1 := Lib.hid ho
  clear ho hg hd
  go_wp2
  go_ret
  exact ⟨_, rfl, HO1.out, hs1⟩
/-- A new *Set. -/
def NewS (w w' : World) (e : Ending) (ids : List Int) : Prop := ∃ gs gl sp, e = .returned (.pointer (some ⟨gs, 0, none⟩)) ∧ SW w' gs gl sp ids ∧ w.heap.size ≤ gs ∧ w.heap.size ≤ gl ∧ Safe w w'
theorem news_of {w w1 : World} {v : Value} {ids : List Int} (ho : w1.ownsRow w.heap.size 3 1 v ids.length (ids.map I)) (h1 : 0 < ids.length) (h2 : ids.length ≤ 16) (hs : Safe w w1) :
    NewS w (w1.alloc (.cells #[v] 122)) (.returned (.pointer (some ⟨w1.heap.size, 0, none⟩))) ids := by
  obtain ⟨A, c, rfl, hc⟩ := own_form ho
  obtain ⟨gl, sp, rfl, hb, hS⟩ := SW.of_own (own_safe ho ((But.refl _ w1).alloc (.cells #[.slice A ids.length c] 122))) h1 h2 (Blk.new _ _ _)
  exact ⟨_, gl, sp, rfl, hS, hs.size, hb, hs.alloc _⟩
set_option maxRecDepth 100000 in
theorem sclone_any (gs gl : Nat) (sp : List Value) (ids : List Int) (w : World) (h : SW w gs gl sp ids) (h1 : 0 < ids.length) :
    Calls Try.prog 37 #[.pointer (some ⟨gs, 0, none⟩)] w fun e w' => NewS w w' e ids := by
  have c0 := h.hp.cell' (i := 0) rfl
  have hcl := sclone0_any gl sp ids w h.hl h.len h.cap
  have hlen := h.len
  have HC := Lib.hid hcl
  clear hcl h
  go_enter Try.func37, Try.ntmps37
  go_wp2_with fail
  refine (HC.out).mono ?_
  rintro e w1 ⟨v, rfl, ho, hs⟩
  have hn := news_of ho h1 hlen hs
  have HN := Lib.hid hn
  obtain ⟨A, c, rfl, hc⟩ := own_form ho
  clear hn ho hs
  go_wp2
  go_ret
  exact HN.out
set_option maxRecDepth 100000 in
set_option maxHeartbeats 2000000 in
theorem mul64_one (n : Int) (h0 : 1 ≤ n) (h1 : n ≤ 16) (w : World) :
    Calls Try.prog 103 #[.int .u64 1, .int .u64 n] w fun e w' => e = .returned (.tuple #[.int .u64 0, .int .u64 n]) ∧ w = w' := by
  have hc : n = 1 ∨ n = 2 ∨ n = 3 ∨ n = 4 ∨ n = 5 ∨ n = 6 ∨ n = 7 ∨ n = 8 ∨ n = 9 ∨ n = 10 ∨ n = 11 ∨ n = 12 ∨ n = 13 ∨ n = 14 ∨ n = 15 ∨ n = 16 := by omega
  clear h0 h1
  rcases hc with rfl | rfl | rfl | rfl | rfl | rfl | rfl | rfl | rfl | rfl | rfl | rfl | rfl | rfl | rfl | rfl
  all_goals
    go_enter Try.func103, Try.ntmps103
    go_wp2
    go_ret2
    exact ⟨rfl, rfl⟩
set_option maxRecDepth 100000 in
theorem mul_one' (n : Int) (h0 : 1 ≤ n) (h1 : n ≤ 16) (w : World) :
    Calls Try.prog 97 #[.int .u64 1, .int .u64 n] w fun e w' => e = .returned (.tuple #[.int .u64 0, .int .u64 n]) ∧ w = w' := by
  have H := Lib.hid (mul64_one n h0 h1 w)
  go_enter Try.func97, Try.ntmps97
  go_wp2_with fail
  refine (H.out).mono ?_
  rintro _ _ ⟨rfl, rfl⟩
  go_wp2
  go_ret2
  exact ⟨rfl, rfl⟩
end Go.Proofs.Ytlojadpbdbhmiaa
