/- Plain facts for layer 2 (pack): a number's bytes, least first; a text; what is read. No program in sight. -/
import Derived.Laws.BitsAllLaws
import Derived.Below
import Derived.RowKit
namespace Go.Proofs.Ytiihemmonncioaa
open Go.RowKit

/-- The k least bytes of a number. -/
def putL (n : Nat) (k : Nat) : List UInt8 := (List.range k).map fun i => UInt8.ofNat (n / 256 ^ i)
theorem putL_succ (n k : Nat) : putL n (k + 1) = putL n k ++ [UInt8.ofNat (n / 256 ^ k)] := by
  simp [putL, List.range_succ]
@[simp] theorem putL_length (n k : Nat) : (putL n k).length = k := by simp [putL]
theorem putL_zero (n : Nat) : putL n 0 = [] := rfl
/-- A text behind its length. -/
def textL (s : List UInt8) : List UInt8 := putL (min s.length 65535) 2 ++ s.take 65535
/-- The number that bytes are, least first. -/
def numL : List UInt8 → Nat
  | [] => 0
  | b :: l => b.toNat + 256 * numL l
theorem numL_lt : ∀ l : List UInt8, numL l < 256 ^ l.length
  | [] => by simp [numL]
  | b :: l => by
    have := numL_lt l
    have hb := b.toNat_lt
    simp only [numL, List.length_cons, Nat.pow_succ]
    omega
theorem numL_snoc : ∀ (l : List UInt8) (b : UInt8), numL (l ++ [b]) = numL l + 256 ^ l.length * b.toNat
  | [], b => by simp [numL]
  | a :: l, b => by
    simp only [List.cons_append, numL, numL_snoc l b, List.length_cons, Nat.pow_succ]
    rw [Nat.mul_add, ← Nat.mul_assoc, Nat.mul_comm 256 (256 ^ l.length), Nat.add_assoc]
theorem numL_putL (n : Nat) : ∀ k, numL (putL n k) = n % 256 ^ k
  | 0 => by simp [putL, numL, Nat.mod_one]
  | k + 1 => by
    rw [putL_succ, numL_snoc, numL_putL n k, putL_length]
    have h : (UInt8.ofNat (n / 256 ^ k)).toNat = n / 256 ^ k % 256 := by simp
    rw [h, Nat.pow_succ, Nat.mod_mul]
theorem or_shift (m y j : Nat) (hj : j < 8) (hm : m < 256 ^ j) (hy : y < 256) : bits .or .u64 (m : Int) (IntKind.u64.wrap ((y : Int) * 2 ^ (8 * j))) = ((m + 256 ^ j * y : Nat) : Int) := by
  have hp : 256 ^ j = 2 ^ (8 * j) := by rw [Nat.pow_mul]
  have h1 : 256 ^ j ≤ 256 ^ 7 := Nat.pow_le_pow_right (by omega) (by omega)
  have h2 : 256 ^ j * y ≤ 256 ^ 7 * 255 := Nat.mul_le_mul h1 (by omega)
  have e : (y : Int) * 2 ^ (8 * j) = ((256 ^ j * y : Nat) : Int) := by rw [hp, Nat.mul_comm (2 ^ (8 * j)) y]; simp
  rw [e, IntKind.wrap_u64, Int.emod_eq_of_lt (by omega) (by omega)]
  rw [u64_or_nat m (256 ^ j * y) (by omega) (by omega), hp, Nat.or_comm, ← Nat.two_pow_add_eq_or_of_lt (by rw [← hp]; exact hm), Nat.add_comm]
end Go.Proofs.Ytiihemmonncioaa
