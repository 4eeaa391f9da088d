/- num: the words of a block of bytes, and where there is room. -/
import Derived.Test.YtodlapkmcnmmhaaDoorNa
import Derived.Test.YtodlapkmcnmmhaaDoorRm
import Derived.Test.YtodlapkmcnmmhaaDoorProg
import Derived.Deep.RegionHeld3
import Derived.Deep.QuietTactic
import Derived.BigQuiet
namespace Go.Proofs.YtodlapkmcnmmhaaDoor
open Go.RowKit
set_option linter.unusedSimpArgs false
set_option linter.unusedVariables false

abbrev U (x : Int) : Value := .int .u8 x
/-- Bytes at a place are others. -/
def wrL (bs : List Int) (at' : Nat) (ys : List Int) : List Int := bs.take at' ++ ys ++ bs.drop (at' + ys.length)
theorem wrL_len {bs ys : List Int} {at' : Nat} (h : at' + ys.length ≤ bs.length) : (wrL bs at' ys).length = bs.length := by
  unfold wrL; simp; omega
theorem wrL_nil {bs : List Int} {at' : Nat} : wrL bs at' [] = bs := by
  unfold wrL; simp
theorem wrL_snoc {bs ys : List Int} {at' : Nat} {x : Int} (h : at' + ys.length < bs.length) : wrL bs at' (ys ++ [x]) = (wrL bs at' ys).set (at' + ys.length) x := by
  unfold wrL
  rw [List.set_append_right _ _ (by simp; omega)]
  have e : at' + ys.length - (List.take at' bs ++ ys).length = 0 := by simp; omega
  rw [e, List.drop_eq_getElem_cons h, List.set_cons_zero]
  simp [Nat.add_assoc]
/-- Bytes, and what lies behind them, in one block. -/
def encS (bs : List Int) (rest : List Value) : Array Value := (bs.map U ++ rest).toArray
theorem encS_size (bs : List Int) (rest : List Value) : (encS bs rest).size = bs.length + rest.length := by simp [encS]
theorem encS_byte {bs : List Int} {rest : List Value} {k : Nat} {x : Int} (h : bs[k]? = some x) : (encS bs rest)[k]? = some (U x) := by
  have hk := (List.getElem?_eq_some_iff.1 h).1
  unfold encS
  rw [List.getElem?_toArray, List.getElem?_append_left (by simpa using hk), List.getElem?_map, h]
  rfl
theorem encS_rest {bs : List Int} {rest : List Value} {k j : Nat} (h : k = bs.length + j) : (encS bs rest)[k]? = rest[j]? := by
  unfold encS
  rw [List.getElem?_toArray, List.getElem?_append_right (by simp; omega)]
  congr 1; simp; omega
theorem encS_set {bs : List Int} {rest : List Value} {k : Nat} {x : Int} (h : k < bs.length) : (encS bs rest).setIfInBounds k (U x) = encS (bs.set k x) rest := by
  unfold encS
  rw [List.setIfInBounds_toArray, List.set_append_left _ _ (by simpa using h), List.map_set]
theorem encS_set_rest {bs : List Int} {rest : List Value} {k j : Nat} {v : Value} (h : k = bs.length + j) : (encS bs rest).setIfInBounds k v = encS bs (rest.set j v) := by
  unfold encS
  rw [List.setIfInBounds_toArray, List.set_append_right _ _ (by simp; omega)]
  congr 3; simp; omega
set_option maxRecDepth 100000 in
theorem fits_yes (A : Option Addr) (n c : Nat) (at' wd : Int) (w : World) (h1 : 1 ≤ wd) (h2 : wd ≤ 8) (h3 : 0 ≤ at') (h4 : at' + wd ≤ n) (hn : n ≤ 9223372036854775807) :
    Calls Tryd.prog 58 #[.slice A n c, I at', I wd] w fun e w' => e = .returned (.bool true) ∧ w = w' := by
  have h5 : at' ≤ n := by omega
  have h6 : wd ≤ (n : Int) - at' := by omega
  go_enter Tryd.func58, Tryd.ntmps58
  go_wp2
  go_ret
  exact ⟨rfl, rfl⟩
end Go.Proofs.YtodlapkmcnmmhaaDoor
