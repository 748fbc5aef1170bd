/- Plain facts for layer 1 (crc): the register's shift is linear and one to one; a byte that comes; the sum. No program in sight. -/
import Derived.Laws.BitsAllLaws
import Derived.Below
import Derived.RowKit
namespace Go.Proofs.Ytiihemmonncioaa
open Go.RowKit

/-- A register, shifted by one. -/
def shN (r : Nat) : Nat := if r % 2 = 1 then r / 2 ^^^ 3988292384 else r / 2
def shK : Nat → Nat → Nat
  | 0, r => r
  | k + 1, r => shK k (shN r)
theorem xor_mod2 (a b : Nat) : (a ^^^ b) % 2 = (a % 2 + b % 2) % 2 := by
  have h := @Nat.xor_mod_two_eq_one a b
  omega
theorem shN_xor (a b : Nat) : shN (a ^^^ b) = shN a ^^^ shN b := by
  unfold shN
  have h1 : (a ^^^ b) % 2 = (a % 2 + b % 2) % 2 := by
    exact xor_mod2 a b
  have h2 : (a ^^^ b) / 2 = a / 2 ^^^ b / 2 := Nat.xor_div_two
  rw [h1, h2]
  rcases Nat.mod_two_eq_zero_or_one a with ha | ha <;> rcases Nat.mod_two_eq_zero_or_one b with hb | hb <;> rw [ha, hb]
  · rw [if_neg (by omega), if_neg (by omega), if_neg (by omega)]
  · rw [if_pos (by omega), if_neg (by omega), if_pos (by omega), Nat.xor_assoc]
  · rw [if_pos (by omega), if_pos (by omega), if_neg (by omega)]
    rw [Nat.xor_assoc, Nat.xor_comm (b / 2), Nat.xor_assoc]
  · rw [if_neg (by omega), if_pos (by omega), if_pos (by omega)]
    rw [Nat.xor_comm (b / 2), ← Nat.xor_assoc, Nat.xor_assoc (a / 2), Nat.xor_self, Nat.xor_zero]
theorem shN_lt (r : Nat) (h : r < 4294967296) : shN r < 4294967296 := by
  unfold shN
  split
  · exact Nat.xor_lt_two_pow (n := 32) (by omega) (by omega)
  · omega
theorem shK_xor : ∀ k a b, shK k (a ^^^ b) = shK k a ^^^ shK k b
  | 0, _, _ => rfl
  | k + 1, a, b => by simp only [shK]; rw [shN_xor, shK_xor k]
theorem shK_lt : ∀ k r, r < 4294967296 → shK k r < 4294967296
  | 0, _, h => h
  | k + 1, r, h => by simp only [shK]; exact shK_lt k _ (shN_lt r h)
theorem shN_even (m : Nat) : shN (2 * m) = m := by unfold shN; rw [if_neg (by omega)]; omega
theorem shK_even : ∀ k m, shK k (2 ^ k * m) = m
  | 0, m => by simp [shK]
  | k + 1, m => by
    simp only [shK]
    rw [show 2 ^ (k + 1) * m = 2 * (2 ^ k * m) by rw [Nat.pow_succ]; rw [Nat.mul_comm (2 ^ k) 2, Nat.mul_assoc], shN_even, shK_even k m]
theorem shN_zero (r : Nat) (hr : r < 4294967296) (h : shN r = 0) : r = 0 := by
  unfold shN at h
  split at h
  · exfalso
    have h1 : r / 2 = 3988292384 := by
      have := congrArg (· ^^^ 3988292384) h
      simpa [Nat.xor_assoc] using this
    omega
  · omega
theorem shK_zero : ∀ k r, r < 4294967296 → shK k r = 0 → r = 0
  | 0, _, _, h => h
  | k + 1, r, hr, h => shN_zero r hr (shK_zero k (shN r) (shN_lt r hr) h)
theorem xor_eq_zero {a b : Nat} (h : a ^^^ b = 0) : a = b := by
  have := congrArg (· ^^^ b) h
  simpa [Nat.xor_assoc] using this
theorem shK_inj (k a b : Nat) (ha : a < 4294967296) (hb : b < 4294967296) (h : shK k a = shK k b) : a = b := by
  apply xor_eq_zero
  apply shK_zero k _ (Nat.xor_lt_two_pow (n := 32) ha hb)
  rw [shK_xor, h, Nat.xor_self]
/-- A byte comes to a register, at once. -/
def comeN (r : Nat) (x : UInt8) : Nat := shK 8 (r ^^^ x.toNat)
/-- .. bit by bit. -/
def comeBits : Nat → Nat → Nat → Nat
  | 0, r, _ => r
  | k + 1, r, x => comeBits k (shN (r ^^^ (x % 2))) (x / 2)
theorem xor_split (x : Nat) : x = (x % 2) ^^^ (2 * (x / 2)) := by
  apply Nat.eq_of_testBit_eq
  intro i
  cases i with
  | zero =>
    simp only [Nat.testBit_zero]
    rw [xor_mod2]; congr 1; rw [eq_iff_iff]; constructor <;> intro h <;> omega
  | succ i =>
    rw [Nat.testBit_xor, Nat.testBit_succ, Nat.testBit_succ, Nat.testBit_succ]
    have h1 : x % 2 / 2 = 0 := by omega
    have h2 : 2 * (x / 2) / 2 = x / 2 := by omega
    rw [h1, h2]; simp
theorem comeBits_eq : ∀ k r x, x < 2 ^ k → comeBits k r x = shK k (r ^^^ x)
  | 0, r, x, h => by obtain rfl : x = 0 := by omega
                     simp [comeBits, shK]
  | k + 1, r, x, h => by
    have hx : x / 2 < 2 ^ k := by rw [Nat.pow_succ] at h; omega
    simp only [comeBits, shK]
    rw [comeBits_eq k _ _ hx]
    congr 1
    conv => rhs; rw [xor_split x, ← Nat.xor_assoc, shN_xor, shN_even]
theorem xor_high (y : Nat) : y = (2 ^ 8 * (y / 256)) ^^^ (y % 256) := by
  have h := Nat.two_pow_add_eq_or_of_lt (i := 8) (b := y % 256) (by omega) (y / 256)
  have h2 : 2 ^ 8 * (y / 256) ^^^ y % 256 = 2 ^ 8 * (y / 256) + y % 256 := by
    rw [h]
    apply Nat.eq_of_testBit_eq
    intro i
    rw [Nat.testBit_xor, Nat.testBit_or, Nat.testBit_two_pow_mul]
    by_cases hi : 8 ≤ i
    · have : (y % 256).testBit i = false := Nat.testBit_lt_two_pow (Nat.lt_of_lt_of_le (show y % 256 < 2 ^ 8 by omega) (Nat.pow_le_pow_right (by omega) hi))
      simp [this]
    · simp [hi]
  rw [h2]; omega
/-- .. by the table. -/
theorem comeN_table (r : Nat) (x : UInt8) : comeN r x = r / 256 ^^^ shK 8 ((r % 256) ^^^ x.toNat) := by
  unfold comeN
  have hx := x.toNat_lt
  have h1 := shK_even 8 (r / 256)
  conv => lhs; rw [xor_high r, Nat.xor_assoc, shK_xor, h1]
theorem comeN_lt (r : Nat) (x : UInt8) (h : r < 4294967296) : comeN r x < 4294967296 :=
  shK_lt 8 _ (Nat.xor_lt_two_pow (n := 32) h (by have := x.toNat_lt; omega))
theorem comeN_inj (x : UInt8) (a b : Nat) (ha : a < 4294967296) (hb : b < 4294967296) (h : comeN a x = comeN b x) : a = b := by
  have hx := x.toNat_lt
  have := shK_inj 8 _ _ (Nat.xor_lt_two_pow (n := 32) ha (by omega)) (Nat.xor_lt_two_pow (n := 32) hb (by omega)) h
  have := congrArg (· ^^^ x.toNat) this
  simpa [Nat.xor_assoc] using this
theorem comeN_inj' (a : Nat) (ha : a < 4294967296) (x y : UInt8) (h : comeN a x = comeN a y) : x = y := by
  have hx := x.toNat_lt
  have hy := y.toNat_lt
  have := shK_inj 8 _ _ (Nat.xor_lt_two_pow (n := 32) ha (by omega)) (Nat.xor_lt_two_pow (n := 32) ha (by omega)) h
  have := congrArg (a ^^^ ·) this
  simp only [← Nat.xor_assoc, Nat.xor_self, Nat.zero_xor] at this
  exact UInt8.toNat_inj.1 this
def comeL (r : Nat) (l : List UInt8) : Nat := l.foldl comeN r
theorem comeL_lt : ∀ (l : List UInt8) (r : Nat), r < 4294967296 → comeL r l < 4294967296
  | [], _, h => h
  | x :: l, r, h => comeL_lt l _ (comeN_lt r x h)
theorem comeL_inj : ∀ (l : List UInt8) (a b : Nat), a < 4294967296 → b < 4294967296 → comeL a l = comeL b l → a = b
  | [], _, _, _, _, h => h
  | x :: l, a, b, ha, hb, h => comeN_inj x a b ha hb (comeL_inj l _ _ (comeN_lt a x ha) (comeN_lt b x hb) h)
theorem comeL_append (r : Nat) (a b : List UInt8) : comeL r (a ++ b) = comeL (comeL r a) b := by simp [comeL]
theorem comeL_take (r : Nat) (l : List UInt8) (k : Nat) (h : k < l.length) : comeL r (l.take (k + 1)) = comeN (comeL r (l.take k)) l[k] := by
  rw [List.take_succ_eq_append_getElem h, comeL_append]; rfl
/-- The sum, some being ahead. -/
def addN (s : Nat) (l : List UInt8) : Nat := 4294967295 - comeL (4294967295 - s) l
theorem addN_lt (s : Nat) (l : List UInt8) : addN s l < 4294967296 := by unfold addN; omega
theorem addN_append (s : Nat) (a b : List UInt8) : addN (addN s a) b = addN s (a ++ b) := by
  unfold addN
  have := comeL_lt a (4294967295 - s) (by omega)
  rw [comeL_append]
  congr 2
  omega
/-- One byte changed: another sum. -/
theorem addN_turn (s : Nat) (a b : List UInt8) (x y : UInt8) (h : x ≠ y) : addN s (a ++ x :: b) ≠ addN s (a ++ y :: b) := by
  unfold addN
  intro e
  have h0 : 4294967295 - s < 4294967296 := by omega
  have h1 := comeL_lt (a ++ x :: b) _ h0
  have h2 := comeL_lt (a ++ y :: b) _ h0
  have e2 : comeL (4294967295 - s) (a ++ x :: b) = comeL (4294967295 - s) (a ++ y :: b) := by omega
  rw [comeL_append, comeL_append] at e2
  have h3 := comeL_lt a _ h0
  exact h (comeN_inj' _ h3 x y (comeL_inj b _ _ (comeN_lt _ _ h3) (comeN_lt _ _ h3) e2))
end Go.Proofs.Ytiihemmonncioaa
