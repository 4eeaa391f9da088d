/- Processes: which, Pids, Children, wake, Sleep, Now. -/
import Derived.Test.YtlojadpbdbhmiaaXb
namespace Go.Proofs.Ytlojadpbdbhmiaa
open Go.RowKit
set_option linter.unusedSimpArgs false
set_option linter.unusedVariables false

theorem slIntsP : SlT Try.prog 22 3 (I 0) 1 8 := ⟨Try.underlying22, by kernel_rfl, rfl, by omega⟩
/-- A slice of the call's own that reads so. -/
def OwnP (w w' : World) (e : Ending) (l : List Int) : Prop := ∃ v, e = .returned v ∧ w'.ownsRow w.heap.size 3 1 v l.length (l.map I) ∧ Safe w w'
def whichP (f : PR → Bool) (ps : List PR) : List Int := (ps.filter f).map (·.pid)
theorem whichP_snoc (f : PR → Bool) {ps : List PR} {k : Nat} {p : PR} (h : ps[k]? = some p) : whichP f (ps.take (k + 1)) = if f p then whichP f (ps.take k) ++ [p.pid] else whichP f (ps.take k) := by
  unfold whichP
  rw [List.take_add_one, h, List.filter_append]
  cases hf : f p <;> simp [hf]
theorem whichP_len (f : PR → Bool) (ps : List PR) (k : Nat) : (whichP f (ps.take k)).length ≤ k := by
  unfold whichP
  rw [List.length_map]
  exact Nat.le_trans (List.length_filter_le _ _) (List.length_take_le _ _)
set_option maxRecDepth 100000 in
set_option maxHeartbeats 1000000 in
theorem pwhich_any (F : FuncId) (q : Value) (f : PR → Bool) (gt B g c : Nat) (ps : List PR) (most last now : Int) (w : World) (h : TW w gt B (.slice (some ⟨g, 0, none⟩) ps.length c) ps most last now)
    (hE : ∀ (args : Array Value) (W : World), (callFunc F args).run Try.prog W = .ok (.enter F args) W)
    (hF : ∀ p W, Safe w W → Calls Try.prog F #[aggR p, q] W fun e w' => e = .returned (.bool (f p)) ∧ Safe W w') :
    Calls Try.prog 58 #[.pointer (some ⟨gt, 0, none⟩), .func (.func F) #[] #[q]] w fun e w' => OwnP w w' e (whichP f ps) := by
  have c0 := h.hp.cell' (i := 0) rfl
  have hlen := h.len
  have HF := Lib.hid hF
  have HO := Lib.hid h.ho
  clear hF h
  go_enter Try.func58, Try.ntmps58
  go_wp2
  go_loopw [5, 13] (fun v i wr => ∃ k : Nat, k ≤ ps.length ∧ i = .int .i64 k ∧ wr.ownsRow w.heap.size 3 1 v (whichP f (ps.take k)).length ((whichP f (ps.take k)).map I) ∧ Safe w wr) (fun _ i _ => ps.length - (intOf i).toNat)
  case atStart => exact ⟨0, by omega, rfl, World.ownsRow_nil _ _ _ _, But.refl _ _⟩
  case round =>
    obtain ⟨k, hk, rfl, hown, hS⟩ := hrel
    obtain ⟨wo, rfl⟩ : ∃ wo : World, wo = wr := ⟨_, rfl⟩
    by_cases hlt : k < ps.length
    · obtain ⟨p, hp⟩ : ∃ p, ps[k]? = some p := ⟨_, List.getElem?_eq_getElem hlt⟩
      obtain ⟨d0, d1, d2, d3, d4, d5⟩ := own6 (own_safe HO.out hS) hp
      have hl := whichP_len f ps k
      have hsn := whichP_snoc f hp
      have hs1 : Safe w (wo.alloc (.cells #[I p.pid, I p.parent, I p.state, I p.code, I p.until_, .bool p.killed] 33)) := hS.alloc _
      have hcl := HF.out p _ hs1
      have HCL := Lib.hid hcl
      have HS := Lib.hid hS
      have HOW := Lib.hid hown
      have HN := Lib.hid hsn
      clear hp hcl hs1 hS hown hsn
      go_wp2_with fail
      refine (HCL.out).mono ?_
      rintro _ w1 ⟨rfl, hs2⟩
      have e0 : w1.cell? ⟨wo.heap.size, 0, none⟩ = some (I p.pid) := hs2.cell ((Blk.new wo 33 (encR p).toArray).cell' (i := 0) rfl) id
      have hS1 : Safe wo w1 := ((But.refl _ wo).alloc (.cells (encR p).toArray 33)).trans hs2
      have HS1 := Lib.hid hS1
      clear hs2 hS1
      cases hf : f p
      · rw [hf] at HN
        go_wp2_with fail
        go_roundw
        case rel => exact ⟨k + 1, by omega, by go_num, by rw [HN.out]; exact own_safe HOW.out HS1.out, HS.out.trans HS1.out⟩
        case measure => simp [intOf]; omega
      · rw [hf, if_pos rfl] at HN
        have hsz := HS.out.size
        have hsz1 := HS1.out.size
        have h63 : (whichP f (ps.take k)).length + 1 ≤ maxLen := by simp [maxLen]; omega
        have hby : ((whichP f (ps.take k)).length + 1) * 8 ≤ 140737488355328 := by omega
        have hba : w.heap.size ≤ (w1.alloc (.cells #[I p.pid] 3)).heap.size := by
          show _ ≤ (w1.heap.push _).size
          rw [Array.size_push]; omega
        have hone : ∀ u ∈ (#[I p.pid] : Array Value).toList, u.oneCell' = true := by simp [Value.oneCell']
        go_wp2_with (at_builtin; go_must (refine wpList_push slIntsP rfl (.tmp 20) (.tmp 23) rfl w.heap.size u5 (whichP f (ps.take k)).length _ rfl (own_safe HOW.out (HS1.out.alloc _)) w1.heap.size 3 #[I p.pid] rfl (Blk.new _ _ _) rfl hone h63 hby hba ?_); intro v1 w5 ho hg hd; have hs5 := safe_own (((HS.out.trans HS1.out).alloc (.cells #[I p.pid] 3))) (own_safe HOW.out (HS1.out.alloc _)) hg (Nat.le_refl _); have HO1 := Lib.hid ho; have HS5 := Lib.hid hs5; clear ho hg hd hs5)
        go_roundw
        case rel => exact ⟨k + 1, by omega, by go_num, by rw [HN.out, List.length_append, List.map_append]; exact HO1.out, HS5.out⟩
        case measure => simp [intOf]; omega
    · obtain rfl : k = ps.length := by omega
      rw [List.take_length] at hown
      have HOW := Lib.hid hown
      clear hown
      go_wp2
      go_ret
      exact ⟨_, rfl, HOW.out, hS⟩
set_option maxRecDepth 100000 in
set_option maxHeartbeats 1000000 in
theorem pwhich0_any (F : FuncId) (f : PR → Bool) (gt B g c : Nat) (ps : List PR) (most last now : Int) (w : World) (h : TW w gt B (.slice (some ⟨g, 0, none⟩) ps.length c) ps most last now)
    (hE : ∀ (args : Array Value) (W : World), (callFunc F args).run Try.prog W = .ok (.enter F args) W)
    (hF : ∀ p W, Safe w W → Calls Try.prog F #[aggR p] W fun e w' => e = .returned (.bool (f p)) ∧ Safe W w') :
    Calls Try.prog 58 #[.pointer (some ⟨gt, 0, none⟩), .func (.func F) #[] #[]] w fun e w' => OwnP w w' e (whichP f ps) := by
  have c0 := h.hp.cell' (i := 0) rfl
  have hlen := h.len
  have HF := Lib.hid hF
  have HO := Lib.hid h.ho
  clear hF h
  go_enter Try.func58, Try.ntmps58
  go_wp2
  go_loopw [5, 13] (fun v i wr => ∃ k : Nat, k ≤ ps.length ∧ i = .int .i64 k ∧ wr.ownsRow w.heap.size 3 1 v (whichP f (ps.take k)).length ((whichP f (ps.take k)).map I) ∧ Safe w wr) (fun _ i _ => ps.length - (intOf i).toNat)
  case atStart => exact ⟨0, by omega, rfl, World.ownsRow_nil _ _ _ _, But.refl _ _⟩
  case round =>
    obtain ⟨k, hk, rfl, hown, hS⟩ := hrel
    obtain ⟨wo, rfl⟩ : ∃ wo : World, wo = wr := ⟨_, rfl⟩
    by_cases hlt : k < ps.length
    · obtain ⟨p, hp⟩ : ∃ p, ps[k]? = some p := ⟨_, List.getElem?_eq_getElem hlt⟩
      obtain ⟨d0, d1, d2, d3, d4, d5⟩ := own6 (own_safe HO.out hS) hp
      have hl := whichP_len f ps k
      have hsn := whichP_snoc f hp
      have hs1 : Safe w (wo.alloc (.cells #[I p.pid, I p.parent, I p.state, I p.code, I p.until_, .bool p.killed] 33)) := hS.alloc _
      have hcl := HF.out p _ hs1
      have HCL := Lib.hid hcl
      have HS := Lib.hid hS
      have HOW := Lib.hid hown
      have HN := Lib.hid hsn
      clear hp hcl hs1 hS hown hsn
      go_wp2_with fail
      refine (HCL.out).mono ?_
      rintro _ w1 ⟨rfl, hs2⟩
      have e0 : w1.cell? ⟨wo.heap.size, 0, none⟩ = some (I p.pid) := hs2.cell ((Blk.new wo 33 (encR p).toArray).cell' (i := 0) rfl) id
      have hS1 : Safe wo w1 := ((But.refl _ wo).alloc (.cells (encR p).toArray 33)).trans hs2
      have HS1 := Lib.hid hS1
      clear hs2 hS1
      cases hf : f p
      · rw [hf] at HN
        go_wp2_with fail
        go_roundw
        case rel => exact ⟨k + 1, by omega, by go_num, by rw [HN.out]; exact own_safe HOW.out HS1.out, HS.out.trans HS1.out⟩
        case measure => simp [intOf]; omega
      · rw [hf, if_pos rfl] at HN
        have hsz := HS.out.size
        have hsz1 := HS1.out.size
        have h63 : (whichP f (ps.take k)).length + 1 ≤ maxLen := by simp [maxLen]; omega
        have hby : ((whichP f (ps.take k)).length + 1) * 8 ≤ 140737488355328 := by omega
        have hba : w.heap.size ≤ (w1.alloc (.cells #[I p.pid] 3)).heap.size := by
          show _ ≤ (w1.heap.push _).size
          rw [Array.size_push]; omega
        have hone : ∀ u ∈ (#[I p.pid] : Array Value).toList, u.oneCell' = true := by simp [Value.oneCell']
        go_wp2_with (at_builtin; go_must (refine wpList_push slIntsP rfl (.tmp 20) (.tmp 23) rfl w.heap.size u5 (whichP f (ps.take k)).length _ rfl (own_safe HOW.out (HS1.out.alloc _)) w1.heap.size 3 #[I p.pid] rfl (Blk.new _ _ _) rfl hone h63 hby hba ?_); intro v1 w5 ho hg hd; have hs5 := safe_own (((HS.out.trans HS1.out).alloc (.cells #[I p.pid] 3))) (own_safe HOW.out (HS1.out.alloc _)) hg (Nat.le_refl _); have HO1 := Lib.hid ho; have HS5 := Lib.hid hs5; clear ho hg hd hs5)
        go_roundw
        case rel => exact ⟨k + 1, by omega, by go_num, by rw [HN.out, List.length_append, List.map_append]; exact HO1.out, HS5.out⟩
        case measure => simp [intOf]; omega
    · obtain rfl : k = ps.length := by omega
      rw [List.take_length] at hown
      have HOW := Lib.hid hown
      clear hown
      go_wp2
      go_ret
      exact ⟨_, rfl, HOW.out, hS⟩
set_option maxRecDepth 100000 in
theorem pids1_any (p : PR) (w : World) : Calls Try.prog 78 #[aggR p] w fun e w' => e = .returned (.bool true) ∧ Safe w w' := by
  go_enter Try.func78, Try.ntmps78
  go_wp2
  go_ret
  exact ⟨rfl, (But.refl _ _).alloc _⟩
set_option maxRecDepth 100000 in
theorem children1_any (a : Nat) (pid : Int) (p : PR) (w : World) (hc : Blk w a 3 #[I pid]) :
    Calls Try.prog 92 #[aggR p, .pointer (some ⟨a, 0, none⟩)] w fun e w' => e = .returned (.bool (p.parent == pid)) ∧ Safe w w' := by
  have c0 := hc.cell' (i := 0) rfl
  have hlt := hc.lt
  clear hc
  cases hr : (p.parent == pid)
  all_goals
    go_enter Try.func92, Try.ntmps92
    go_wp2
    go_ret
    exact ⟨rfl, (But.refl _ _).alloc _⟩
set_option maxRecDepth 100000 in
theorem ppids_any (gt B g c : Nat) (ps : List PR) (most last now : Int) (w : World) (h : TW w gt B (.slice (some ⟨g, 0, none⟩) ps.length c) ps most last now) :
    Calls Try.prog 43 #[.pointer (some ⟨gt, 0, none⟩)] w fun e w' => OwnP w w' e (ps.map (·.pid)) := by
  have hw := pwhich0_any 78 (fun _ => true) gt B g c ps most last now w h (fun args W => by go_simp) (fun p W _ => pids1_any p W)
  rw [show whichP (fun _ => true) ps = ps.map (·.pid) from by unfold whichP; rw [List.filter_eq_self.2 (fun _ _ => rfl)]] at hw
  generalize ps.map (·.pid) = L at *
  have HW := Lib.hid hw
  clear hw h
  go_enter Try.func43, Try.ntmps43
  go_wp2_with fail
  refine (HW.out).mono ?_
  rintro e w1 ⟨v, rfl, ho, hs⟩
  have HO := Lib.hid ho
  obtain ⟨A, c1, rfl, _⟩ := own_form ho
  clear ho
  go_wp2
  go_ret
  exact ⟨_, rfl, HO.out, hs⟩
set_option maxRecDepth 100000 in
theorem pchildren_any (gt B g c : Nat) (ps : List PR) (most last now pid : Int) (w : World) (h : TW w gt B (.slice (some ⟨g, 0, none⟩) ps.length c) ps most last now) :
    Calls Try.prog 54 #[.pointer (some ⟨gt, 0, none⟩), .int .i64 pid] w fun e w' => OwnP w w' e (whichP (fun p => p.parent == pid) ps) := by
  have hs0 : Safe w (w.alloc (.cells #[I pid] 3)) := (But.refl _ w).alloc _
  have hw := pwhich_any 92 (.pointer (some ⟨w.heap.size, 0, none⟩)) (fun p => p.parent == pid) gt B g c ps most last now _ (h.safe hs0) (fun args W => by go_simp) (fun p W hW => children1_any w.heap.size pid p W ((Blk.new _ _ _).but hW id))
  have HW := Lib.hid hw
  have HS := Lib.hid hs0
  clear hw h hs0
  go_enter Try.func54, Try.ntmps54
  go_wp2_with fail
  refine (HW.out).mono ?_
  rintro e w1 ⟨v, rfl, ho, hs⟩
  have HO := Lib.hid (own_low ho (show w.heap.size ≤ _ from HS.out.size))
  have HS1 := Lib.hid (HS.out.trans hs)
  obtain ⟨A, c1, rfl, _⟩ := own_form ho
  clear ho hs
  go_wp2
  go_ret
  exact ⟨_, rfl, HO.out, HS1.out⟩
set_option maxRecDepth 100000 in
theorem pnow_any (gt B : Nat) (v : Value) (ps : List PR) (most last now : Int) (w : World) (h : TW w gt B v ps most last now) :
    Calls Try.prog 16 #[.pointer (some ⟨gt, 0, none⟩)] w fun e w' => e = .returned (I now) ∧ w = w' := by
  have c3 : w.cell? ⟨gt, 3, none⟩ = some (I now) := h.hp.cell' (i := 3) rfl
  clear h
  go_enter Try.func16, Try.ntmps16
  go_wp2
  go_ret
  exact ⟨rfl, rfl⟩
def wakeR (p : PR) : PR := if p.state = 2 then { p with state := 1, until_ := 0 } else p
theorem TW.setc {w : World} {gt B g c : Nat} {ps : List PR} {most last now : Int} (h : TW w gt B (.slice (some ⟨g, 0, none⟩) ps.length c) ps most last now) {k j : Nat} {p p' : PR} {u : Value} (hk : ps[k]? = some p) (hj : j < 6) (hp : encR p' = (encR p).set j u) :
    TW (w.setCell ⟨g, k * 6 + j, none⟩ u) gt B (.slice (some ⟨g, 0, none⟩) (ps.set k p').length c) (ps.set k p') most last now := by
  have hne := h.ne (k := g) rfl
  refine ⟨?_, ?_, by simpa using h.len⟩
  · rw [List.length_set]; exact h.hp.far (fun e => hne e.symm) _
  · rw [List.length_set]; exact ownf_set encR_len h.ho hk hj hp
theorem TRet.mk {w w' : World} {gt B g c n : Nat} {A : Option Addr} {ps : List PR} {most last now : Int} (h : TW w' gt B (.slice (some ⟨g, 0, none⟩) ps.length c) ps most last now) (hb : But (· = g) w w') : TRet w w' gt B (.slice (some ⟨g, 0, none⟩) n c) ps most last now :=
  ⟨_, h, hb.mono (fun k _ e => .inr (by rw [show k = g from e]; rfl)), fun k hk => .inl hk⟩
set_option maxRecDepth 100000 in
set_option maxHeartbeats 1000000 in
theorem pwake_any (gt B g c : Nat) (ps : List PR) (most last now : Int) (k : Nat) (p : PR) (w : World) (h : TW w gt B (.slice (some ⟨g, 0, none⟩) ps.length c) ps most last now) (hk : ps[k]? = some p) :
    Calls Try.prog 60 #[.pointer (some ⟨g, k * 6, none⟩)] w fun e w' => e = .returned (.tuple #[]) ∧ TW w' gt B (.slice (some ⟨g, 0, none⟩) (ps.set k (wakeR p)).length c) (ps.set k (wakeR p)) most last now ∧ But (· = g) w w' := by
  obtain ⟨c0, c1, c2, c3, c4, c5⟩ := h.cells hk
  have f2 := h.frz hk (k * 6 + 2)
  have f4 := h.frz hk (k * 6 + 4)
  by_cases h2 : p.state = 2
  · have hb : (p.state == 2) = true := by simpa using h2
    have e : wakeR p = { p with state := 1, until_ := 0 } := by unfold wakeR; rw [if_pos h2]
    rw [e]
    have hlt := (List.getElem?_eq_some_iff.1 hk).1
    have t1 := h.setc (p' := { p with state := 1 }) (u := I 1) hk (j := 2) (by omega) rfl
    have t2 := t1.setc (k := k) (p := { p with state := 1 }) (p' := { p with state := 1, until_ := 0 }) (u := I 0) (by rw [List.getElem?_set_self hlt]) (j := 4) (by omega) rfl
    rw [List.set_set] at t2
    have hs : But (· = g) w ((w.setCell ⟨g, k * 6 + 2, none⟩ (I 1)).setCell ⟨g, k * 6 + 4, none⟩ (I 0)) := ((But.refl (· = g) w).setCell (p := ⟨g, k * 6 + 2, none⟩) (.inl rfl) _).setCell (p := ⟨g, k * 6 + 4, none⟩) (.inl rfl) _
    have HT := Lib.hid t2
    have HS := Lib.hid hs
    clear t1 t2 hs e h2 h hk
    go_enter Try.func60, Try.ntmps60
    go_wp2
    go_end0
    exact ⟨rfl, HT.out, HS.out⟩
  · have hb : (p.state == 2) = false := by simpa using h2
    have e : wakeR p = p := by unfold wakeR; rw [if_neg h2]
    rw [e, set_same' hk]
    have H := Lib.hid h
    clear e h2 h hk
    go_enter Try.func60, Try.ntmps60
    go_wp2
    go_end0
    exact ⟨rfl, H.out, But.refl _ _⟩
def longest : Int := 1099511627776
def sleepM (ps : List PR) (now pid ticks : Int) : List PR × Int :=
  if liveP ps pid ≠ 0 then (ps, liveP ps pid) else match oneP ps pid with
  | some k => let p := ps.getD k zeroR; if p.state = 2 then (ps, 22) else if 1 ≤ ticks then (ps.set k { p with state := 2, until_ := now + min ticks (longest - now) }, 0) else (ps, 0)
  | none => (ps, 18)
set_option maxRecDepth 100000 in
set_option maxHeartbeats 2000000 in
theorem psleep_any (gt B : Nat) (v : Value) (ps : List PR) (most last now pid ticks : Int) (w : World) (h : TW w gt B v ps most last now) (hn : 0 < ps.length) (h0 : 0 ≤ now) (h1 : now ≤ longest) :
    Calls Try.prog 13 #[.pointer (some ⟨gt, 0, none⟩), .int .i64 pid, .int .i64 ticks] w fun e w' => e = .returned (I (sleepM ps now pid ticks).2) ∧ TRet w w' gt B v (sleepM ps now pid ticks).1 most last now := by
  obtain ⟨g, c, rfl, hgl, hBg⟩ := h.form hn
  have hlive := plive_any gt B g c ps most last now pid w h
  by_cases hl : liveP ps pid ≠ 0
  · have e : sleepM ps now pid ticks = (ps, liveP ps pid) := by unfold sleepM; rw [if_pos hl]
    rw [e]
    have hb : (liveP ps pid != 0) = true := by simpa using hl
    have H := Lib.hid h
    generalize liveP ps pid = L at *
    have HL := Lib.hid hlive
    clear e hl h hlive
    go_enter Try.func13, Try.ntmps13
    go_wp2_with fail
    refine (HL.out).mono ?_
    rintro _ w1 ⟨rfl, hs1⟩
    go_wp2
    go_ret
    exact ⟨rfl, TRet.same H.out hs1⟩
  · have hl0 : liveP ps pid = 0 := by omega
    rw [hl0] at hlive
    obtain ⟨k, hk⟩ : ∃ k, oneP ps pid = some k := by
      cases hk : oneP ps pid with
      | some k => exact ⟨k, rfl⟩
      | none => unfold liveP at hl0; rw [hk] at hl0; simp at hl0
    obtain ⟨p, hp, hpid, hlt⟩ := oneP_get hk
    have hgd : ps.getD k zeroR = p := by rw [List.getD_eq_getElem?_getD, hp]; rfl
    have hone := fun W (hW : Safe w W) => one_yes gt B g c ps most last now pid k W (h.safe hW) hk
    have hcs := fun W (hW : Safe w W) => (h.safe hW).cells hp
    have hfr := fun W (hW : Safe w W) i => (h.safe hW).frz hp i
    have hc3 := fun W (hW : Safe w W) => (h.safe hW).hp
    have HL := Lib.hid hlive
    have HO := Lib.hid hone
    have HCS := Lib.hid hcs
    have HFR := Lib.hid hfr
    have HC3 := Lib.hid hc3
    have H := Lib.hid h
    have HP := Lib.hid hp
    by_cases h2 : p.state = 2
    · have e : sleepM ps now pid ticks = (ps, 22) := by unfold sleepM; rw [if_neg hl, hk]; simp only [hgd]; rw [if_pos h2]
      rw [e]
      have hb : (p.state == 2) = true := by simpa using h2
      clear e hl h hlive hl0 hk hp hpid hgd hone hcs hfr hc3 h2
      go_enter Try.func13, Try.ntmps13
      go_wp2_with fail
      refine (HL.out).mono ?_
      rintro _ w1 ⟨rfl, hs1⟩
      go_wp2_with fail
      refine (HO.out _ hs1).mono ?_
      rintro _ w2 ⟨rfl, hs2⟩
      obtain ⟨d0, d1, d2, d3, d4, d5⟩ := HCS.out _ (hs1.trans hs2)
      have HS := Lib.hid (hs1.trans hs2)
      clear hs1 hs2
      go_wp2
      go_ret
      exact ⟨rfl, TRet.same H.out HS.out⟩
    · have hb : (p.state == 2) = false := by simpa using h2
      by_cases ht : 1 ≤ ticks
      · obtain ⟨T, hT⟩ : ∃ T, T = now + min ticks (longest - now) := ⟨_, rfl⟩
        have e : sleepM ps now pid ticks = (ps.set k { p with state := 2, until_ := T }, 0) := by unfold sleepM; rw [if_neg hl, hk]; simp only [hgd]; rw [if_neg h2, if_pos ht, hT]
        rw [e]
        have hmc : (ticks ≤ 1099511627776 - now ∧ T = now + ticks) ∨ (¬ ticks ≤ 1099511627776 - now ∧ T = now + (1099511627776 - now)) := by unfold longest at hT; omega
        unfold longest at h1
        clear e hl h hlive hl0 hk hp hpid hgd hone hcs hfr hc3 h2 hT
        rcases hmc with ⟨hm1, hm2⟩ | ⟨hm1, hm2⟩
        all_goals
          have HT := Lib.hid hm2
          clear hm2
          go_enter Try.func13, Try.ntmps13
          go_wp2_with fail
          refine (HL.out).mono ?_
          rintro _ w1 ⟨rfl, hs1⟩
          go_wp2_with fail
          refine (HO.out _ hs1).mono ?_
          rintro _ w2 ⟨rfl, hs2⟩
          have hs3 := hs1.trans hs2
          obtain ⟨d0, d1, d2, d3, d4, d5⟩ := HCS.out _ hs3
          have f2 := HFR.out _ hs3 (k * 6 + 2)
          have f4 := HFR.out _ hs3 (k * 6 + 4)
          have n3 : w2.cell? ⟨gt, 3, none⟩ = some (I now) := (HC3.out _ hs3).cell' (i := 3) rfl
          have HS3 := Lib.hid hs3
          clear hs1 hs2 hs3
          go_wp2_with fail
          go_region
          have h3 := H.out.safe HS3.out.drew
          have t1 := h3.setc (p' := { p with state := 2 }) (u := I 2) HP.out (j := 2) (by omega) rfl
          have t2 := t1.setc (k := k) (p := { p with state := 2 }) (p' := { p with state := 2, until_ := T }) (u := I T) (by rw [List.getElem?_set_self hlt]) (j := 4) (by omega) rfl
          rw [List.set_set] at t2
          have hs : But (· = g) w ((w2.drew.setCell ⟨g, k * 6 + 2, none⟩ (I 2)).setCell ⟨g, k * 6 + 4, none⟩ (I T)) := ((Safe.but (S := (· = g)) HS3.out.drew).setCell (p := ⟨g, k * 6 + 2, none⟩) (.inl rfl) _).setCell (p := ⟨g, k * 6 + 4, none⟩) (.inl rfl) _
          have hf := TRet.mk (n := ps.length) (A := none) t2 hs
          have HF := Lib.hid hf
          clear t1 t2 hs h3 hf
          go_wp2
          go_ret
          exact ⟨rfl, by have h9 := HF.out; rw [HT.out] at h9 ⊢; exact h9⟩
      · have e : sleepM ps now pid ticks = (ps, 0) := by unfold sleepM; rw [if_neg hl, hk]; simp only [hgd]; rw [if_neg h2, if_neg ht]
        rw [e]
        clear e hl h hlive hl0 hk hp hpid hgd hone hcs hfr hc3 h2
        go_enter Try.func13, Try.ntmps13
        go_wp2_with fail
        refine (HL.out).mono ?_
        rintro _ w1 ⟨rfl, hs1⟩
        go_wp2_with fail
        refine (HO.out _ hs1).mono ?_
        rintro _ w2 ⟨rfl, hs2⟩
        obtain ⟨d0, d1, d2, d3, d4, d5⟩ := HCS.out _ (hs1.trans hs2)
        have HS := Lib.hid (hs1.trans hs2)
        clear hs1 hs2
        go_wp2
        go_ret
        exact ⟨rfl, TRet.same H.out HS.out⟩
end Go.Proofs.Ytlojadpbdbhmiaa
