/- Numbers as bytes, the lowest first: plain arithmetic. -/
import Derived.Test.YtodlapkmcnmmhaaDoorA
namespace Go.Proofs.YtodlapkmcnmmhaaDoor
open Go.RowKit
set_option linter.unusedSimpArgs false
set_option linter.unusedVariables false

/-- A number's k lowest bytes. -/
def lowL : Nat → Nat → List Int
  | 0, _ => []
  | k + 1, n => ((n % 256 : Nat) : Int) :: lowL k (n / 256)
/-- The number of bytes. -/
def leN : List Int → Nat
  | [] => 0
  | b :: r => b.toNat + 256 * leN r
theorem lowL_len : ∀ (k n : Nat), (lowL k n).length = k
  | 0, _ => rfl
  | k + 1, n => by rw [lowL, List.length_cons, lowL_len k]
theorem lowL_u8 : ∀ (k n : Nat), ∀ x ∈ lowL k n, 0 ≤ x ∧ x < 256
  | 0, _ => by intro x hx; cases hx
  | k + 1, n => by
    intro x hx
    rw [lowL, List.mem_cons] at hx
    rcases hx with rfl | hx
    · omega
    · exact lowL_u8 k _ x hx
theorem lowL_snoc : ∀ (k n : Nat), lowL (k + 1) n = lowL k n ++ [((n / 256 ^ k % 256 : Nat) : Int)]
  | 0, n => by simp [lowL]
  | k + 1, n => by
    rw [lowL, lowL_snoc k, lowL]
    rw [Nat.div_div_eq_div_mul, Nat.pow_succ, Nat.mul_comm 256]
    rfl
theorem leN_snoc (x : Int) : ∀ (l : List Int), leN (l ++ [x]) = leN l + x.toNat * 256 ^ l.length
  | [] => by simp [leN]
  | b :: r => by
    rw [List.cons_append, leN, leN_snoc x r, leN, List.length_cons, Nat.pow_succ, Nat.mul_add]
    rw [show x.toNat * (256 ^ r.length * 256) = 256 * (x.toNat * 256 ^ r.length) from by rw [← Nat.mul_assoc, Nat.mul_comm]]
    omega
theorem leN_lt : ∀ (l : List Int), (∀ x ∈ l, 0 ≤ x ∧ x < 256) → leN l < 256 ^ l.length
  | [], _ => by simp [leN]
  | b :: r, h => by
    have h1 := leN_lt r (fun x hx => h x (List.mem_cons_of_mem _ hx))
    have h2 := h b (List.mem_cons_self ..)
    rw [leN, List.length_cons, Nat.pow_succ]
    have h3 : b.toNat < 256 := by omega
    omega
theorem leN_low : ∀ (k n : Nat), n < 256 ^ k → leN (lowL k n) = n
  | 0, n, h => by simp at h; subst h; rfl
  | k + 1, n, h => by
    rw [Nat.pow_succ] at h
    rw [lowL, leN, leN_low k (n / 256) (Nat.div_lt_of_lt_mul (by rw [Nat.mul_comm]; exact h))]
    omega
end Go.Proofs.YtodlapkmcnmmhaaDoor
