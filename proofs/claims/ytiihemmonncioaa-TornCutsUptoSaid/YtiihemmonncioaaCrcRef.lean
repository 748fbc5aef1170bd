/- Contracts of the reference's Shift, Come, Sum, Row. -/
import Derived.Test.YtiihemmonncioaaProg
import Derived.Test.YtiihemmonncioaaCrcPure
import Derived.Test.YtiihemmonncioaaBase
import Derived.WalkKit
import Derived.Lib.Hide
import Derived.Outline
import Derived.WalkSpells
import Derived.WalkLawsBesides
namespace Go.Proofs.Ytiihemmonncioaa
open Go.RowKit

theorem refShift (n : Nat) (w : World) (hn : n < 4294967296) :
    Calls Try.prog 63 #[.int .u32 n] w fun e w' => e = .returned (.int .u32 (shN n)) ∧ w = w' := by
  have hx := u32_xor_nat (n / 2) 3988292384 (by omega) (by omega)
  have hx' : bits .xor .u32 ((n : Int) / 2) 3988292384 = ((n / 2 ^^^ 3988292384 : Nat) : Int) := by rw [← hx]; simp
  have HX := Lib.hid hx'
  clear hx hx'
  by_cases h : n % 2 = 1
  · have h1 : ((n : Int) % 2 == 1) = true := by simp; omega
    have hs : shN n = n / 2 ^^^ 3988292384 := by unfold shN; rw [if_pos h]
    have HS := Lib.hid hs
    clear h hs
    go_enter Try.func63, Try.ntmps63
    go_wp2
    go_ret
    exact ⟨by rw [HS.out, ← HX.out]; rfl, rfl⟩
  · have h1 : ((n : Int) % 2 == 1) = false := by simp; omega
    have hs : shN n = n / 2 := by unfold shN; rw [if_neg h]
    have HS := Lib.hid hs
    clear h hs
    go_enter Try.func63, Try.ntmps63
    go_wp2
    go_ret
    exact ⟨by rw [HS.out]; rfl, rfl⟩

theorem comeBits_lt : ∀ k r x, r < 4294967296 → comeBits k r x < 4294967296
  | 0, _, _, h => h
  | k + 1, r, x, h => comeBits_lt k _ _ (shN_lt _ (Nat.xor_lt_two_pow (n := 32) h (by omega)))

set_option maxHeartbeats 400000 in
theorem refCome (r : Nat) (a : Option Addr) (n cap : Nat) (l : List UInt8) (w : World) (hr : r < 4294967296) (hl : l.length = n) (hn : n ≤ maxLen) (hb : IsBytes w a l) :
    Calls Try.prog 53 #[.int .u32 r, .slice a n cap] w fun e w' => e = .returned (.int .u32 (comeL r l)) ∧ w = w' := by
  unfold maxLen at hn
  have HL := Lib.hid hl
  clear hl
  have HB := Lib.hid hb
  clear hb
  go_enter Try.func53, Try.ntmps53
  go_wp2
  go_loop [0, 5] (fun q i => ∃ k m : Nat, k ≤ n ∧ i = .int .i64 k ∧ m < 4294967296 ∧ q = .int .u32 m ∧ Hid (m = comeL r (l.take k))) (fun _ i => n - (intOf i).toNat)
  case atStart => exact ⟨0, r, by omega, rfl, hr, rfl, by show r = _; simp [comeL]⟩
  case round =>
    obtain ⟨k, m, hk, rfl, hm, rfl, HE⟩ := hrel
    by_cases hlt : k < n
    · have hkl : k < l.length := by rw [HL.out]; exact hlt
      obtain ⟨b, off, rfl, _, hc⟩ := HB.out k hkl
      have hbt := (l[k]).toNat_lt
      have HT := Lib.hid (comeL_take r l k hkl)
      generalize l[k] = x at *
      go_wp2
      go_loop [0, 6, 7] (fun q y j => ∃ i m' x' : Nat, i ≤ 8 ∧ j = .int .i64 i ∧ m' < 4294967296 ∧ q = .int .u32 m' ∧ x' < 256 ∧ y = .int .u32 x' ∧ Hid (comeBits (8 - i) m' x' = comeBits 8 m x.toNat)) (fun _ _ j => 8 - (intOf j).toNat)
      case atStart => exact ⟨0, m, x.toNat, by omega, rfl, hm, rfl, hbt, rfl, rfl⟩
      case round =>
        obtain ⟨i, m', x', hi, rfl, hm', rfl, hx', rfl, HI⟩ := hrel
        by_cases hi8 : i < 8
        · have hx := u32_xor_nat m' (x' % 2) hm' (by omega)
          have hx2 : bits .xor .u32 (m' : Int) ((x' : Int) % 2) = ((m' ^^^ x' % 2 : Nat) : Int) := by rw [← hx]; simp
          clear hx
          have hlt2 : m' ^^^ x' % 2 < 4294967296 := Nat.xor_lt_two_pow (n := 32) hm' (by omega)
          go_wp2_with fail
          refine (refShift _ _ hlt2).mono ?_
          rintro e w' ⟨rfl, rfl⟩
          go_wp2
          go_round
          case rel => exact ⟨i + 1, shN (m' ^^^ x' % 2), x' / 2, by omega, by go_num, shN_lt _ hlt2, rfl, by omega, by go_num, by rw [← HI.out]; show comeBits (8 - (i + 1)) _ _ = _; rw [show 8 - i = (8 - (i + 1)) + 1 by omega]; rfl⟩
          case measure => simp [intOf]; omega
        · obtain rfl : i = 8 := by omega
          have hm2 : m' = comeN m x := by
            have := HI.out
            rw [comeBits_eq 8 m _ hbt] at this
            exact this
          have HM := Lib.hid hm2
          clear hm2
          go_wp2
          go_round
          case rel => exact ⟨k + 1, m', by omega, by go_num, hm', rfl, by show m' = _; rw [HT.out, ← HE.out, HM.out]⟩
          case measure => simp [intOf]; omega
    · obtain rfl : k = n := by omega
      have hE : m = comeL r l := by rw [HE.out, List.take_of_length_le (by rw [HL.out]; exact Nat.le_refl _)]
      have HE2 := Lib.hid hE
      clear hE
      go_wp2
      go_ret
      exact ⟨by rw [← HE2.out]; rfl, rfl⟩

theorem refSum (a : Option Addr) (n cap : Nat) (l : List UInt8) (w : World) (hl : l.length = n) (hn : n ≤ maxLen) (hb : IsBytes w a l) :
    Calls Try.prog 36 #[.slice a n cap] w fun e w' => e = .returned (.int .u32 (addN 0 l)) ∧ w = w' := by
  have hlt := comeL_lt l 4294967295 (by omega)
  have HA : Hid (addN 0 l = 4294967295 - comeL 4294967295 l) := rfl
  have HB := Lib.hid hb
  have HL := Lib.hid hl
  clear hb hl
  go_enter Try.func36, Try.ntmps36
  go_wp2_with fail
  refine (refCome 4294967295 a n cap l _ (by omega) HL.out hn HB.out).mono ?_
  rintro e w' ⟨rfl, rfl⟩
  generalize comeL 4294967295 l = c at *
  go_wp2
  go_ret
  exact ⟨by rw [HA.out]; go_num, rfl⟩
end Go.Proofs.Ytiihemmonncioaa
