/- Contracts of layer 3 (fnv) and of its reference: Hash, Home. -/
import Derived.Test.YtkfpolhglndbkaaProg
import Derived.Test.YtkfpolhglndbkaaFnvPure
import Derived.WalkKit
import Derived.Lib.ConvBytes
import Derived.Lib.Hide
import Derived.Outline
import Derived.WalkSpells
import Derived.WalkLawsBesides
namespace Go.Proofs.Ytkfpolhglndbkaa
open Go.RowKit

theorem bytesWorld_below (w : World) (e : TypeId) (s : ByteArray) : Below w.heap.size w (Lib.bytesWorld w e s) :=
  ⟨rfl, rfl, rfl, by rw [Lib.bytesWorld_size]; omega, fun k hk => Lib.bytesWorld_at_old w e s k hk⟩

theorem fnvHash (s : ByteArray) (w : World) (hs : s.size ≤ maxLen) :
    Calls Try.prog 16 #[.string s] w fun e w' => e = .returned (.int .u64 (hashL s.data.toList)) ∧ Below w.heap.size w w' := by
  unfold maxLen at hs
  have hb := bytesWorld_below w 5 s
  have kc := fun (w : World) => Lib.run_convert_string_bytes (P := Try.prog) w 9 27 5 s Try.underlying9 Try.underlying27 Try.underlying5
  go_enter Try.func16, Try.ntmps16
  go_wp2
  go_loop [3, 5, 9] (fun n x i => ∃ k : Nat, k ≤ s.size ∧ i = .int .i64 k ∧ n = .int .u64 (hashL (s.data.toList.take k))) (fun _ _ i => s.size - (intOf i).toNat)
  case atStart => exact ⟨0, Nat.zero_le _, rfl, by rw [List.take_zero, hashL_nil]⟩
  case round =>
    obtain ⟨k, hk, rfl, rfl⟩ := hrel
    by_cases hlt : k < s.size
    · have hc := Lib.bytesWorld_cell w 5 s k hlt
      have HS := Lib.hid (hashL_take' s k hlt)
      go_wp2
      go_round
      case rel => exact ⟨k + 1, by omega, by go_num, by rw [HS.out, hashStep_w]⟩
      case measure => simp [intOf]; omega
    · go_wp2
      go_ret
      exact ⟨by rw [List.take_of_length_le (by simp; omega)]; rfl, hb⟩

theorem refHash (s : ByteArray) (w : World) (hs : s.size ≤ maxLen) :
    Calls Try.prog 17 #[.string s] w fun e w' => e = .returned (.int .u64 (hashL s.data.toList)) ∧ w = w' := by
  unfold maxLen at hs
  go_enter Try.func17, Try.ntmps17
  go_wp2
  go_loop [3, 4] (fun n i => ∃ k : Nat, k ≤ s.size ∧ i = .int .i64 k ∧ n = .int .u64 (hashL (s.data.toList.take k))) (fun _ i => s.size - (intOf i).toNat)
  case atStart => exact ⟨0, Nat.zero_le _, rfl, by rw [List.take_zero, hashL_nil]⟩
  case round =>
    obtain ⟨k, hk, rfl, rfl⟩ := hrel
    by_cases hlt : k < s.size
    · have HS := Lib.hid (hashL_take s k hlt)
      go_wp2
      go_round
      case rel => exact ⟨k + 1, by omega, by go_num, by rw [HS.out, hashStep_w]⟩
      case measure => simp [intOf]; omega
    · go_wp2
      go_ret
      exact ⟨by rw [List.take_of_length_le (by simp; omega)]; rfl, rfl⟩

theorem fnvHome (s : ByteArray) (p : Int) (w : World) (hs : s.size ≤ maxLen) :
    Calls Try.prog 18 #[.string s, .int .i64 p] w fun e w' => e = .returned (.int .i64 (homeV s.data.toList p)) ∧ Below w.heap.size w w' := by
  by_cases h1 : p < 1
  · have hz := Lib.hid (homeV_zero s.data.toList p (pow2B_lt p h1))
    go_enter Try.func18, Try.ntmps18
    go_wp2
    go_ret
    exact ⟨by rw [hz.out]; rfl, Below.refl _ _⟩
  by_cases h2 : 1073741824 < p
  · have hz := Lib.hid (homeV_zero s.data.toList p (pow2B_gt p h2))
    go_enter Try.func18, Try.ntmps18
    go_wp2
    go_ret
    exact ⟨by rw [hz.out]; rfl, Below.refl _ _⟩
  have ht := pow2B_test p (by omega) (by omega)
  cases h : pow2B p with
  | false =>
    rw [h] at ht
    have hz := Lib.hid (homeV_zero s.data.toList p h)
    clear h
    go_enter Try.func18, Try.ntmps18
    go_wp2
    go_ret
    exact ⟨by rw [hz.out]; rfl, Below.refl _ _⟩
  | true =>
    rw [h] at ht
    have hz := Lib.hid (homeV_bits' s.data.toList p h)
    clear h
    go_enter Try.func18, Try.ntmps18
    go_wp2_with (go_at_call 16; refine (fnvHash s _ hs).mono ?_; rintro e w' ⟨rfl, hb⟩)
    go_ret
    exact ⟨by rw [← hz.out]; rfl, hb⟩

theorem refHome (s : ByteArray) (p : Int) (w : World) (hs : s.size ≤ maxLen) (hp : (Lit.int .i64 p).wf = true) :
    Calls Try.prog 19 #[.string s, .int .i64 p] w fun e w' => e = .returned (.int .i64 (homeV s.data.toList p)) ∧ w = w' := by
  go_enter Try.func19, Try.ntmps19
  go_wp2
  go_loop [5] (fun q => ∃ j : Nat, j ≤ 30 ∧ (∀ i : Nat, i < j → ((2 ^ i : Nat) : Int) < p) ∧ q = .int .i64 ((2 ^ j : Nat) : Int)) (fun q => (1073741824 - intOf q).toNat)
  case atStart => exact ⟨0, by omega, by omega, rfl⟩
  case round =>
    obtain ⟨j, hj, hlow, rfl⟩ := hrel
    have hpos := Nat.two_pow_pos j
    have hle := Nat.pow_le_pow_right (n := 2) (by omega) hj
    have he := pow2B_end j p hj hlow
    have hlow' := Lib.hid hlow
    clear hlow
    have hs2 : 2 ^ (j + 1) = 2 * 2 ^ j := by rw [Nat.pow_succ]; omega
    have hj2 : 2 ^ j < 1073741824 → j < 30 := fun h => by
      rcases Nat.lt_or_ge j 30 with h3 | h3
      · exact h3
      · have := Nat.pow_le_pow_right (n := 2) (by omega) h3; omega
    have HS := Lib.hid hs2
    have HJ := Lib.hid hj2
    have HE := Lib.hid he
    clear he hs2 hj2
    generalize hq : 2 ^ j = q at *
    have HQ := Lib.hid hq
    clear hq
    by_cases h1 : (q : Int) < p
    · by_cases h2 : (q : Int) < 1073741824
      · go_wp2
        go_round
        case rel =>
          refine ⟨j + 1, by have := HJ.out; omega, ?_, ?_⟩
          · intro i hi
            rcases Nat.lt_or_ge i j with h3 | h3
            · exact hlow'.out i h3
            · obtain rfl : i = j := by omega
              rw [HQ.out]; exact h1
          · rw [HS.out]; go_num
        case measure => simp [intOf]; omega
      · have hpb : pow2B p = false := pow2B_gt p (by omega)
        have hqn : ((q : Int) != p) = true := by rw [bne_iff_ne]; omega
        have hz := Lib.hid (homeV_zero s.data.toList p hpb)
        clear hpb
        go_wp2
        go_ret
        exact ⟨by rw [hz.out]; rfl, rfl⟩
    · cases hpb : pow2B p with
      | true =>
        obtain rfl : p = (q : Int) := ((HE.out (by omega)).2 hpb).symm
        have hz := Lib.hid (homeV_rem' s.data.toList q hpb)
        clear hpb
        go_wp2_with (go_at_call 17; refine (refHash s _ hs).mono ?_; rintro e w' ⟨rfl, rfl⟩)
        go_ret
        exact ⟨by rw [← hz.out]; rfl, rfl⟩
      | false =>
        have hqn : ((q : Int) != p) = true := by rw [bne_iff_ne]; intro h; rw [(HE.out (by omega)).1 h] at hpb; cases hpb
        have hz := Lib.hid (homeV_zero s.data.toList p hpb)
        clear hpb
        go_wp2
        go_ret
        exact ⟨by rw [hz.out]; rfl, rfl⟩
end Go.Proofs.Ytkfpolhglndbkaa
