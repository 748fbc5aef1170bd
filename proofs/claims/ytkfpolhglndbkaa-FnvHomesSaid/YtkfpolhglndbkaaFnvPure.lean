/- Plain facts for layer 3 (fnv): the hash of a list of bytes, a key's home among places. No program in sight. -/
import Derived.Laws.BitsAllLaws
import Derived.Below
import Derived.IntWalk
import Derived.RowKit
namespace Go.Proofs.Ytkfpolhglndbkaa
open Go.RowKit

def hashStep (n : Int) (b : UInt8) : Int := IntKind.u64.wrap (bits .xor .u64 n b.toNat * 1099511628211)
def hash0 : Int := 14695981039346656037
def hashL (l : List UInt8) : Int := l.foldl hashStep hash0
theorem hashL_nil : hashL [] = 14695981039346656037 := by unfold hashL hash0; rfl
theorem hashL_snoc (l : List UInt8) (b : UInt8) : hashL (l ++ [b]) = hashStep (hashL l) b := by simp [hashL]
theorem hashL_take (s : ByteArray) (k : Nat) (h : k < s.size) : hashL (s.data.toList.take (k + 1)) = hashStep (hashL (s.data.toList.take k)) s[k] := by
  rw [List.take_succ_eq_append_getElem (by simpa using h), hashL_snoc]; rfl
theorem hashStep_w (n : Int) (b : UInt8) : hashStep n b = IntKind.u64.wrap (bits .xor .u64 n (IntKind.u64.wrap b.toNat) * 1099511628211) := by
  unfold hashStep
  rw [show IntKind.u64.wrap (b.toNat : Int) = b.toNat by rw [IntKind.wrap_u64]; have := b.toNat_lt; omega]
theorem hashL_take' (s : ByteArray) (k : Nat) (h : k < s.size) : hashL (s.data.toList.take (k + 1)) = hashStep (hashL (s.data.toList.take k)) (s.data[k]'h) := by
  rw [List.take_succ_eq_append_getElem (by simpa using h), hashL_snoc]; rfl
theorem hashStep_range (n : Int) (b : UInt8) : 0 ≤ hashStep n b ∧ hashStep n b < 18446744073709551616 := by
  unfold hashStep; rw [IntKind.wrap_u64]; omega
theorem hashL_range (l : List UInt8) : 0 ≤ hashL l ∧ hashL l < 18446744073709551616 := by
  rcases List.eq_nil_or_concat l with rfl | ⟨l', b, rfl⟩
  · exact ⟨by decide, by decide⟩
  · rw [List.concat_eq_append, hashL_snoc]; exact hashStep_range _ _

/-- is it a power of two, at most 2^30? -/
def pow2B (p : Int) : Bool := decide (1 ≤ p ∧ p ≤ 1073741824) && ((p.toNat &&& (p.toNat - 1)) == 0)
def homeV (l : List UInt8) (p : Int) : Int := if pow2B p then hashL l % p else 0
theorem pow2B_iff (p : Int) : pow2B p = true ↔ ∃ j : Nat, j ≤ 30 ∧ p = ((2 ^ j : Nat) : Int) := by
  unfold pow2B
  simp only [Bool.and_eq_true, decide_eq_true_eq, beq_iff_eq]
  constructor
  · rintro ⟨⟨h1, h2⟩, h⟩
    rw [Nat.and_sub_one_eq_zero_iff_isPowerOfTwo (by omega)] at h
    obtain ⟨j, hj⟩ := h
    refine ⟨j, ?_, by omega⟩
    rcases Nat.lt_or_ge 30 j with h3 | h3
    · have := Nat.pow_lt_pow_right (a := 2) (by omega) h3
      omega
    · exact h3
  · rintro ⟨j, hj, rfl⟩
    have h1 := Nat.pow_le_pow_right (n := 2) (by omega) hj
    have h2 := Nat.two_pow_pos j
    refine ⟨⟨by omega, by omega⟩, ?_⟩
    rw [Nat.and_sub_one_eq_zero_iff_isPowerOfTwo (by omega)]
    exact ⟨j, by omega⟩
theorem pow2B_two (j : Nat) (h : j ≤ 30) : pow2B ((2 ^ j : Nat) : Int) = true := (pow2B_iff _).2 ⟨j, h, rfl⟩
theorem i64_and_dec (p : Int) (h1 : 1 ≤ p) (h2 : p ≤ 1073741824) : bits .and .i64 p (p - 1) = ((p.toNat &&& (p.toNat - 1) : Nat) : Int) := by
  obtain ⟨n, rfl⟩ := Int.eq_ofNat_of_zero_le (show 0 ≤ p by omega)
  have e : ((n : Int) - 1) = ((n - 1 : Nat) : Int) := by omega
  rw [e, Int.toNat_natCast]
  have h := (bits_nat .i64 31 (by decide) (fun m h0 h3 => by rw [IntKind.wrap_i64]; omega) n (n - 1) (by omega) (by omega))
  exact h.1
theorem homeV_bits (l : List UInt8) (p : Int) (h : pow2B p = true) : wrap64 (bits .and .u64 (hashL l) (IntKind.u64.wrap (p - 1))) = homeV l p := by
  have hr := hashL_range l
  unfold homeV
  rw [if_pos h]
  obtain ⟨j, hj, rfl⟩ := (pow2B_iff p).1 h
  have h1 := Nat.pow_le_pow_right (n := 2) (by omega) hj
  have h2 := Nat.two_pow_pos j
  have e : (((2 ^ j : Nat) : Int) - 1) = ((2 ^ j - 1 : Nat) : Int) := by omega
  rw [e, IntKind.wrap_u64]
  obtain ⟨n, hn⟩ := Int.eq_ofNat_of_zero_le hr.1
  rw [hn]
  rw [show (((2 ^ j - 1 : Nat) : Int) % 18446744073709551616) = ((2 ^ j - 1 : Nat) : Int) by omega]
  rw [u64_and_nat _ _ (by omega) (by omega), Nat.and_two_pow_sub_one_eq_mod]
  have h3 := Nat.mod_lt n h2
  unfold wrap64
  omega
theorem homeV_bits' (l : List UInt8) (p : Int) (h : pow2B p = true) : wrap64 (bits .and .u64 (hashL l) (p - 1)) = homeV l p := by
  rw [← homeV_bits l p h]
  obtain ⟨j, hj, rfl⟩ := (pow2B_iff p).1 h
  have h1 := Nat.pow_le_pow_right (n := 2) (by omega) hj
  have h2 := Nat.two_pow_pos j
  rw [IntKind.wrap_u64, Int.emod_eq_of_lt (by omega) (by omega)]
theorem homeV_zero (l : List UInt8) (p : Int) (h : pow2B p = false) : homeV l p = 0 := by
  unfold homeV; rw [h]; rfl
theorem pow2B_lt (p : Int) (h : p < 1) : pow2B p = false := by
  rw [Bool.eq_false_iff]; intro h2; obtain ⟨j, _, rfl⟩ := (pow2B_iff p).1 h2; have := Nat.two_pow_pos j; omega
theorem pow2B_gt (p : Int) (h : 1073741824 < p) : pow2B p = false := by
  rw [Bool.eq_false_iff]; intro h2; obtain ⟨j, hj, rfl⟩ := (pow2B_iff p).1 h2; have := Nat.pow_le_pow_right (n := 2) (by omega) hj; omega
theorem pow2B_test (p : Int) (h1 : 1 ≤ p) (h2 : p ≤ 1073741824) : (bits .and .i64 p (p - 1) != 0) = !pow2B p := by
  rw [i64_and_dec p h1 h2]
  unfold pow2B
  simp [h1, h2, bne]
  rw [Bool.eq_iff_iff]; simp
theorem homeV_range (l : List UInt8) (p : Int) (h : pow2B p = true) : 0 ≤ homeV l p ∧ homeV l p < p := by
  obtain ⟨j, hj, rfl⟩ := (pow2B_iff p).1 h
  have h2 := Nat.two_pow_pos j
  unfold homeV; rw [if_pos h]
  exact ⟨Int.emod_nonneg _ (by omega), Int.emod_lt_of_pos _ (by omega)⟩
/-- the reference's loop: p doubles; where it ends -/
theorem pow2B_end (j : Nat) (p : Int) (hj : j ≤ 30) (hlow : ∀ i : Nat, i < j → ((2 ^ i : Nat) : Int) < p) (hend : ¬ (((2 ^ j : Nat) : Int) < p ∧ ((2 ^ j : Nat) : Int) < 1073741824)) :
    (((2 ^ j : Nat) : Int) = p) ↔ pow2B p = true := by
  constructor
  · rintro rfl; exact pow2B_two j hj
  · intro h
    obtain ⟨i, hi, rfl⟩ := (pow2B_iff p).1 h
    rcases Nat.lt_trichotomy i j with h3 | h3 | h3
    · have := hlow i h3; omega
    · subst h3; rfl
    · exfalso; apply hend
      have a := Nat.pow_lt_pow_right (a := 2) (by omega) h3
      have b := Nat.pow_lt_pow_right (a := 2) (by omega) (Nat.lt_of_lt_of_le h3 hi)
      have c := Nat.pow_le_pow_right (n := 2) (by omega) hi
      constructor <;> omega
theorem homeV_rem (l : List UInt8) (p : Int) (h : pow2B p = true) : wrap64 ((hashL l).tmod (IntKind.u64.wrap p)) = homeV l p := by
  have hr := hashL_range l
  have hh := homeV_range l p h
  unfold homeV at *
  rw [if_pos h] at *
  obtain ⟨j, hj, rfl⟩ := (pow2B_iff p).1 h
  have h1 := Nat.pow_le_pow_right (n := 2) (by omega) hj
  have h2 := Nat.two_pow_pos j
  rw [IntKind.wrap_u64, show (((2 ^ j : Nat) : Int) % 18446744073709551616) = ((2 ^ j : Nat) : Int) by omega]
  rw [Int.tmod_eq_emod_of_nonneg hr.1]
  unfold wrap64
  omega
theorem homeV_rem' (l : List UInt8) (p : Int) (h : pow2B p = true) : wrap64 ((hashL l).tmod p) = homeV l p := by
  have hr := hashL_range l
  rw [Int.tmod_eq_emod_of_nonneg hr.1]
  have hh := homeV_range l p h
  unfold homeV at *
  rw [if_pos h] at *
  obtain ⟨j, hj, rfl⟩ := (pow2B_iff p).1 h
  have h1 := Nat.pow_le_pow_right (n := 2) (by omega) hj
  unfold wrap64
  omega
theorem homeV_half (l : List UInt8) (j : Nat) (h1 : 1 ≤ j) (h : j ≤ 30) : homeV l ((2 ^ (j - 1) : Nat) : Int) = (homeV l ((2 ^ j : Nat) : Int)) % ((2 ^ (j - 1) : Nat) : Int) := by
  unfold homeV
  rw [if_pos (pow2B_two _ (by omega)), if_pos (pow2B_two _ h)]
  refine (Int.emod_emod_of_dvd _ ?_).symm
  exact Int.ofNat_dvd.2 (Nat.pow_dvd_pow 2 (by omega))
attribute [irreducible] hashL homeV pow2B hashStep
end Go.Proofs.Ytkfpolhglndbkaa
