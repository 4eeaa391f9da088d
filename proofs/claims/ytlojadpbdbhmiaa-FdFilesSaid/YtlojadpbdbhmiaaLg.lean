/- Law 20: are open files the document's? -/
import Derived.Test.YtlojadpbdbhmiaaFo
namespace Go.Proofs.Ytlojadpbdbhmiaa
open Go.RowKit
set_option linter.unusedSimpArgs false
set_option linter.unusedVariables false

def cntF (os : List FO) (k : Nat) : Nat := (os.take k).countP (fun o => decide (0 < o.refs))
theorem cntF_le (os : List FO) (k : Nat) : cntF os k ≤ os.length := Nat.le_trans List.countP_le_length (by simp; omega)
theorem cntF_yes {os : List FO} {k : Nat} {o : FO} (hk : os[k]? = some o) (hr : 0 < o.refs) : cntF os (k + 1) = cntF os k + 1 := by
  unfold cntF
  rw [List.take_add_one, hk, List.countP_append]
  simp [hr]
theorem cntF_no {os : List FO} {k : Nat} (h : NoF os ((k : Int) - 1)) : cntF os (k - 1) = cntF os k := by
  unfold cntF
  rcases h with h | h | ⟨j, o, e, hj, hr⟩
  · rw [show k = 0 from by omega]
  · rw [List.take_of_length_le (by omega), List.take_of_length_le (by omega)]
  · obtain rfl : k = j + 1 := by omega
    rw [Nat.add_sub_cancel, List.take_add_one, hj, List.countP_append]
    simp [hr]
theorem cntF_all (os : List FO) (k : Nat) (h : os.length ≤ k) : cntF os k = os.countP (fun o => decide (0 < o.refs)) := by
  unfold cntF
  rw [List.take_of_length_le h]
theorem cells_at {w W : World} {a : Addr} {x0 x1 x2 x3 x4 : Int} (hs : Safe w W) (c0 : w.cell? a = some (I x0)) (c1 : w.cell? ⟨a.block, a.off + 1, none⟩ = some (I x1)) (c2 : w.cell? ⟨a.block, a.off + 2, none⟩ = some (I x2)) (c3 : w.cell? ⟨a.block, a.off + 3, none⟩ = some (I x3)) (c4 : w.cell? ⟨a.block, a.off + 4, none⟩ = some (I x4)) :
    W.cell? a = some (I x0) ∧ W.cell? ⟨a.block, a.off + 1, none⟩ = some (I x1) ∧ W.cell? ⟨a.block, a.off + 2, none⟩ = some (I x2) ∧ W.cell? ⟨a.block, a.off + 3, none⟩ = some (I x3) ∧ W.cell? ⟨a.block, a.off + 4, none⟩ = some (I x4) :=
  ⟨hs.cell c0 id, hs.cell c1 id, hs.cell c2 id, hs.cell c3 id, hs.cell c4 id⟩
set_option maxRecDepth 100000 in
set_option maxHeartbeats 2000000 in
theorem files_any (gf gl base : Nat) (os : List FO) (v : Value) (w : World) (h : FW w gf gl os) (hr : LO w base v os) (hp : ∀ (j : Nat) (o : FO), os[j]? = some o → 0 ≤ o.refs) :
    Calls Try.prog 28 #[.pointer (some ⟨gf, 0, none⟩), v] w fun e w' => e = .returned (.bool true) ∧ Safe w w' := by
  have hlen := h.len
  have H := Lib.hid h
  have HR := Lib.hid hr
  have HP := Lib.hid hp
  obtain ⟨A, c, rfl, hc, hcm, hrd, hbd⟩ := hr
  have HRD := Lib.hid hrd
  have HBD := Lib.hid hbd
  clear h hp hrd hbd
  go_enter Try.func28, Try.ntmps28
  go_wp2
  go_loopw [5, 6] (fun cnt i wr => ∃ k : Nat, k ≤ os.length + 2 ∧ i = .int .i64 ((k : Int) - 1) ∧ cnt = .int .i64 (cntF os (k - 1)) ∧ Safe w wr) (fun _ i _ => ((os.length : Int) + 1 - intOf i).toNat)
  case atStart => exact ⟨0, by omega, rfl, rfl, But.refl _ _⟩
  case round =>
    obtain ⟨k, hk, rfl, rfl, hS⟩ := hrel
    obtain ⟨wo, rfl⟩ : ∃ wo : World, wo = wr := ⟨_, rfl⟩
    have hcl := cntF_le os (k - 1)
    by_cases hlt : k ≤ os.length + 1
    · have hlt' : (k : Int) - 1 ≤ os.length := by omega
      rcases f_cases os ((k : Int) - 1) with hn | ⟨j, o, e, hj, ho, hro⟩
      · have hcn := cntF_no hn
        rw [hcn] at hcl ⊢
        have hfg : Calls Try.prog 55 #[.pointer (some ⟨gf, 0, none⟩), .int .i64 ((k : Int) - 1)] wo fun e w' => e = .returned (.tuple #[.agg #[I 0, I 0, I 0, I 0, I 0], I 2]) ∧ Safe wo w' := fget_no gf gl os _ wo (H.out.safe hS) hn
        have hisn := fun W (hs : Safe w W) => ris_no base _ os _ W (HR.out.safe hs) hn
        have HI := Lib.hid hisn
        have HG := Lib.hid hfg
        have HS := Lib.hid hS
        have HC := Lib.hid hcn
        clear hfg hS hn hisn hcn
        generalize hcc : cntF os k = cc at *
        go_wp2_with fail
        refine (HG.out).mono ?_
        rintro _ w1 ⟨rfl, hs1⟩
        have hs2 := HS.out.trans hs1
        have HS2 := Lib.hid hs2
        clear hs2 hs1
        go_wp2_with fail
        refine (HI.out _ (HS2.out.alloc _)).mono ?_
        rintro _ _ ⟨rfl, rfl⟩
        go_wp2_with fail
        go_roundw
        case rel => exact ⟨k + 1, by omega, by go_num, by rw [Nat.add_sub_cancel, ← hcc], HS2.out.alloc _⟩
        case measure => simp [intOf]; omega
      · obtain rfl : k = j + 1 := by omega
        rw [Nat.add_sub_cancel] at hcl ⊢
        have ej : ((j + 1 : Nat) : Int) - 1 = (j : Int) := by omega
        rw [ej] at hlt' ⊢
        have hr0 := HP.out j o ho
        have hcn := cntF_yes (os := os) ho (by omega)
        have hfg := fget_yes gf gl os j o wo (H.out.safe hS) ho hro
        have hisn := fun W (hs : Safe w W) => ris_yes base _ os j o W (HR.out.safe hs) ho (by omega)
        obtain ⟨ad, rfl, c0, c1, c2, c3, c4⟩ := LO.at HRD.out ho
        have hbl : (ad.add (j * 5)).block < w.heap.size := by rw [block_add]; exact (HBD.out ad rfl).2.1
        have hcs := fun W (hs : Safe w W) => cells_at hs c0 c1 c2 c3 c4
        have HCS := Lib.hid hcs
        have hji : (j : Int) < os.length := by omega
        have HI := Lib.hid hisn
        have HG := Lib.hid hfg
        have HS := Lib.hid hS
        have HC := Lib.hid hcn
        have HEJ := Lib.hid ej
        clear hfg hS hisn hcn ho c0 c1 c2 c3 c4 hcs hbl ej
        generalize hcc : cntF os j = cc at *
        go_wp2_with fail
        refine (HG.out).mono ?_
        rintro _ w1 ⟨rfl, hs1⟩
        have hs2 := HS.out.trans hs1
        have hlt1 : (ad.add (j * 5)).block < w1.heap.size := by
          have := cell_lt (HCS.out _ hs2).1
          exact this
        obtain ⟨c0, c1, c2, c3, c4⟩ := HCS.out _ hs2
        have HS2 := Lib.hid hs2
        clear hs2 hs1
        go_wp2_with fail
        refine (HI.out _ (HS2.out.alloc _)).mono ?_
        rintro _ _ ⟨rfl, rfl⟩
        go_wp2_with fail
        go_roundw
        case rel => exact ⟨j + 1 + 1, by omega, by go_num, by rw [Nat.add_sub_cancel, HC.out]; go_num, (HS2.out.alloc _).alloc _⟩
        case measure => simp [intOf]; omega
    · obtain rfl : k = os.length + 2 := by omega
      have hcn := cntF_all os (os.length + 2 - 1) (by omega)
      rw [hcn] at hcl ⊢
      have hfc := fcount_any gf gl os wo (H.out.safe hS)
      generalize os.countP (fun o => decide (0 < o.refs)) = cc at *
      have HF := Lib.hid hfc
      have HS := Lib.hid hS
      clear hfc hS hcn
      go_wp2_with fail
      refine (HF.out).mono ?_
      rintro _ w1 ⟨rfl, hs1⟩
      go_wp2
      go_ret
      exact ⟨rfl, HS.out.trans hs1⟩
end Go.Proofs.Ytlojadpbdbhmiaa
