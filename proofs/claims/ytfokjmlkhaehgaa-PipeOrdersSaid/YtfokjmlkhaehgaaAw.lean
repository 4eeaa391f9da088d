/- Pipes: awake. -/
import Derived.Test.YtfokjmlkhaehgaaPs
import Derived.Test.YtfokjmlkhaehgaaPy
import Derived.Lib.SlBytesConst
import Derived.Laws.BytesArg
namespace Go.Proofs.Ytfokjmlkhaehgaa
open Go.RowKit
set_option linter.unusedSimpArgs false
set_option linter.unusedVariables false

theorem cell_new (w : World) (cs : Array Value) (t : TypeId) (fr : Nat × Nat) (i : Nat) : (w.alloc (.cells cs t fr)).cell? ⟨w.heap.size, i, none⟩ = cs[i]? := by
  have := heap_alloc_new w (.cells cs t fr)
  unfold World.cell?
  rw [this]
  rfl
theorem abcP : wrN newP [97, 98, 99] = 3 ∧ wrE newP [97, 98, 99] = 0 ∧ rdE (putAll newP [97, 98, 99]) 2 = 0 ∧ rdN (putAll newP [97, 98, 99]) 2 = 2 ∧ headN (putAll newP [97, 98, 99]) 2 = [97, 98] ∧ (putAll newP [97, 98, 99]).there = true := by decide
set_option maxRecDepth 100000 in
set_option maxHeartbeats 2000000 in
theorem awake21 (w : World) : Calls Try.prog 24 #[] w fun e w' => e = .returned (.bool true) ∧ Safe w w' := by
  go_enter Try.func24, Try.ntmps24
  go_wp2_with fail
  refine (new_any 2 (by omega) (by omega) _).mono ?_
  rintro _ w1 ⟨rfl, hp1, hs1⟩
  go_wp2_with fail
  refine (make_yes _ _ _ 0 _ hp1 rfl (by simp)).mono ?_
  rintro _ w2 ⟨rfl, hp2, hs2⟩
  have hS2 : Safe w w2 := hs1.step hs2 (fun k hk => by subst hk; exact .inr (Nat.le_refl _))
  have hk2 : ((List.replicate 2 zeroP).set 0 newP)[0]? = some newP := rfl
  generalize hps : (List.replicate 2 zeroP).set 0 newP = ps at *
  have hcv := Lib.run_convert_bytes_const (P := Try.prog) w2 57 5 #[U 97, U 98, U 99] 3 3 Try.underlying57 Try.underlying5
  have hp2 := hp2.safe ((But.refl _ w2).alloc (.cells #[U 97, U 98, U 99] 5 (3, 4)))
  have hr : Rd U (w2.alloc (.cells #[U 97, U 98, U 99] 5 (3, 4))) (some ⟨w2.heap.size, 0, none⟩) [97, 98, 99] := fun _ => ⟨_, rfl, fun k x hk => by
    rw [add_plain, Nat.zero_add, cell_new]
    have hlt := (List.getElem?_eq_some_iff.1 hk).1
    rcases k with _ | _ | _ | k
    · injection hk with hk; rw [← hk]; rfl
    · injection hk with hk; rw [← hk]; rfl
    · injection hk with hk; rw [← hk]; rfl
    · exact absurd hlt (by simp)⟩
  have hgl := hs2.size
  have hwr := Lib.hid (write_yes _ _ _ 0 newP _ hp2 hk2 rfl (some ⟨w2.heap.size, 0, none⟩) 3 [97, 98, 99] hr (fun _ ad he => by
    injection he with he
    rw [← he]
    show w2.heap.size ≠ w.heap.size
    have := hs1.size
    have := hp2.hl.lt
    have := cell_lt (hp1.hl.cell' (i := 0) (by rw [← Array.getElem?_toList]; rfl))
    simp at this
    omega) (by decide) (by decide) (by decide))
  have HP2 := Lib.hid hp2
  have HP1 := Lib.hid hp1
  have HS1 := Lib.hid hs1
  have HS2 := Lib.hid hs2
  have HK := Lib.hid hk2
  have HPS := Lib.hid hps
  clear hp1 hp2 hs1 hs2 hr hk2 hps
  go_wp2_with fail
  refine (hwr.out).mono ?_
  rintro _ w3 ⟨rfl, hp3, hs3⟩
  obtain ⟨a1, a2, a3, a4, a5, a6⟩ := abcP
  rw [a1, a2]
  rw [a1, show ([97, 98, 99] : List Int).take 3 = [97, 98, 99] from rfl] at hp3
  have hk3 : (ps.set 0 (putAll newP [97, 98, 99]))[0]? = some (putAll newP [97, 98, 99]) := by rw [List.getElem?_set_self (List.getElem?_eq_some_iff.1 HK.out).1]
  generalize hP : putAll newP [97, 98, 99] = P at *
  have hrd := Lib.hid (read_yes _ _ _ 0 P _ hp3 hk3 a6 2 (by decide))
  have HP3 := Lib.hid hp3
  have HS3 := Lib.hid hs3
  have HHP := Lib.hid hP
  have HK3 := Lib.hid hk3
  clear hp3 hs3 hP hk3 hcv
  go_wp2_with fail
  refine (hrd.out).mono ?_
  rintro _ w4 ⟨m, hm, A, c, rfl, h5, h6, h7, h8, h9⟩
  rw [a4] at hm
  subst hm
  rw [a5] at h7
  rw [a3]
  obtain ⟨g, rfl⟩ := own_hd h7 (by omega)
  have hcs := run_convert_bytes_arg (P := Try.prog) w4 57 5 Try.underlying57 Try.underlying5 g 0 2 c [97, 98] rfl (fun i hi => by
    rw [← add_plain]
    refine h7.cells rfl i _ ?_
    rcases i with _ | _ | i
    · rfl
    · rfl
    · omega) 9 Try.underlying9
  rw [show strOfNums [97, 98] = ({ data := #[97, 98] } : ByteArray) from rfl] at hcs
  have hfin : Safe w w4 := HS1.out.step (((HS2.out.alloc (.cells #[U 97, U 98, U 99] 5 (3, 4))).trans HS3.out).trans h9) (fun k hk => .inr (by rw [show k = w.heap.size from hk]; exact Nat.le_refl _))
  have HF := Lib.hid hfin
  clear hfin h7 h8 h9 h6 a1 a2 a3 a4 a5 a6
  go_wp2
  go_ret
  exact ⟨rfl, HF.out⟩
end Go.Proofs.Ytfokjmlkhaehgaa
