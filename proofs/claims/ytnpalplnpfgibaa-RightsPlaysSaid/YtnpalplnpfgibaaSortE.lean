/- bits.Len, breakPatternsOrdered at uint32. -/
import Derived.Test.YtnpalplnpfgibaaSortD
import Derived.Lib.BitFns
import Derived.Sort.LotD5
namespace Go.Proofs.Ytnpalplnpfgibaa
open Go.RowKit
set_option linter.unusedSimpArgs false
set_option linter.unusedVariables false
theorem bitLen_same (x : Nat) : ∀ h : x < 2 ^ 64, Lib.bitLen x = Sort.bitsLen x := by
  induction x using Nat.strongRecOn with
  | _ x ih =>
    intro h
    cases x with
    | zero => rfl
    | succ y =>
      rw [Lib.bitLen_half (y + 1) (by omega) h, ih ((y + 1) / 2) (by omega) (by omega)]
      by_cases hy : y = 0
      · subst hy; rfl
      · unfold Sort.bitsLen
        rw [if_neg (by omega), if_neg (by omega), Nat.log2_def (y + 1), if_pos (by omega)]
        omega
theorem tab_at : ∀ n : Fin 256, ∃ h : n.val < Lib.len8tab.size, (Lib.len8tab[n.val]'h).toNat = Lib.bitLen n.val := by decide +kernel
theorem tab_get (z : Nat) (h : z < 256) : ∃ (hz : z < Lib.len8tab.size) (k : Nat), (Lib.len8tab[z]'hz).toNat = k ∧ k = Lib.bitLen z ∧ k ≤ 8 := by
  obtain ⟨h1, h2⟩ := tab_at ⟨z, h⟩
  exact ⟨h1, _, rfl, h2, by rw [h2]; exact Lib.bitLen_le8 ⟨z, h⟩⟩
set_option maxRecDepth 100000 in
set_option maxHeartbeats 4000000 in
theorem len64 (x : Nat) (w : World) (h : x ≤ 1000000000) : Calls Try.prog 138 #[.int .u64 (x : Int)] w (fun e w' => e = .returned (.int .i64 (Sort.bitsLen x : Int)) ∧ w' = w) := by
  have hb := bitLen_same x (by omega)
  have d0 : decide ((4294967296 : Int) ≤ (x : Int)) = false := by rw [decide_eq_false_iff_not]; omega
  have d0' : decide (4294967296 ≤ x) = false := by rw [decide_eq_false_iff_not]; omega
  by_cases h1 : 65536 ≤ x
  · have d1 : decide ((65536 : Int) ≤ (x : Int)) = true := by rw [decide_eq_true_iff]; omega
    obtain ⟨y, hy⟩ : ∃ y, y = x / 65536 := ⟨_, rfl⟩
    have e1 : (x : Int) / 65536 = (y : Int) := by omega
    have s1 := Lib.bitLen_shift16 x h1 (by omega)
    by_cases h2 : 256 ≤ y
    · have d2 : decide ((256 : Int) ≤ (y : Int)) = true := by rw [decide_eq_true_iff]; omega
      obtain ⟨z, hz⟩ : ∃ z, z = y / 256 := ⟨_, rfl⟩
      have e2 : (y : Int) / 256 = (z : Int) := by omega
      have s2 := Lib.bitLen_shift8 y h2 (by omega)
      obtain ⟨hzs, k, hk, hkb, hk8⟩ := tab_get z (by omega)
      have e3 : (z : Int) % 256 = (z : Int) := by omega
      have hw1 : IntKind.i64.wrap (k : Int) = (k : Int) := by rw [IntKind.wrap_i64]; omega
      have hw2 : IntKind.i64.wrap (24 + (k : Int)) = 24 + (k : Int) := by rw [IntKind.wrap_i64]; omega
      have HE := Lib.hid (show Sort.bitsLen x = 24 + k by rw [← hb, s1, ← hy, s2, ← hz, ← hkb] <;> omega)
      clear hb hy hz s1 s2 h1 h2 hkb
      go_enter Try.func138, Try.ntmps138
      go_wp2
      go_ret
      rw [HE.out]
      exact ⟨by first | rfl | (simp; done) | go_num, rfl⟩
    · have d2 : decide ((256 : Int) ≤ (y : Int)) = false := by rw [decide_eq_false_iff_not]; omega
      have d2' : decide (256 ≤ y) = false := by rw [decide_eq_false_iff_not]; omega
      obtain ⟨hzs, k, hk, hkb, hk8⟩ := tab_get y (by omega)
      have e3 : (y : Int) % 256 = (y : Int) := by omega
      have hw1 : IntKind.i64.wrap (k : Int) = (k : Int) := by rw [IntKind.wrap_i64]; omega
      have hw2 : IntKind.i64.wrap (16 + (k : Int)) = 16 + (k : Int) := by rw [IntKind.wrap_i64]; omega
      have HE := Lib.hid (show Sort.bitsLen x = 16 + k by rw [← hb, s1, ← hy, ← hkb])
      clear hb hy s1 h1 h2 hkb
      go_enter Try.func138, Try.ntmps138
      go_wp2
      go_ret
      rw [HE.out]
      exact ⟨by first | rfl | (simp; done) | go_num, rfl⟩
  · have d1 : decide ((65536 : Int) ≤ (x : Int)) = false := by rw [decide_eq_false_iff_not]; omega
    have d1' : decide (65536 ≤ x) = false := by rw [decide_eq_false_iff_not]; omega
    by_cases h2 : 256 ≤ x
    · have d2 : decide ((256 : Int) ≤ (x : Int)) = true := by rw [decide_eq_true_iff]; omega
      obtain ⟨z, hz⟩ : ∃ z, z = x / 256 := ⟨_, rfl⟩
      have e2 : (x : Int) / 256 = (z : Int) := by omega
      have s2 := Lib.bitLen_shift8 x h2 (by omega)
      obtain ⟨hzs, k, hk, hkb, hk8⟩ := tab_get z (by omega)
      have e3 : (z : Int) % 256 = (z : Int) := by omega
      have hw1 : IntKind.i64.wrap (k : Int) = (k : Int) := by rw [IntKind.wrap_i64]; omega
      have hw2 : IntKind.i64.wrap (8 + (k : Int)) = 8 + (k : Int) := by rw [IntKind.wrap_i64]; omega
      have HE := Lib.hid (show Sort.bitsLen x = 8 + k by rw [← hb, s2, ← hz, ← hkb])
      clear hb hz s2 h1 h2 hkb
      go_enter Try.func138, Try.ntmps138
      go_wp2
      go_ret
      rw [HE.out]
      exact ⟨by first | rfl | (simp; done) | go_num, rfl⟩
    · have d2 : decide ((256 : Int) ≤ (x : Int)) = false := by rw [decide_eq_false_iff_not]; omega
      have d2' : decide (256 ≤ x) = false := by rw [decide_eq_false_iff_not]; omega
      obtain ⟨hzs, k, hk, hkb, hk8⟩ := tab_get x (by omega)
      have e3 : (x : Int) % 256 = (x : Int) := by omega
      have hw1 : IntKind.i64.wrap (k : Int) = (k : Int) := by rw [IntKind.wrap_i64]; omega
      have hw2 : IntKind.i64.wrap (0 + (k : Int)) = 0 + (k : Int) := by rw [IntKind.wrap_i64]; omega
      have HE := Lib.hid (show Sort.bitsLen x = 0 + k by rw [← hb, ← hkb] <;> omega)
      clear hb h1 h2 hkb
      go_enter Try.func138, Try.ntmps138
      go_wp2
      go_ret
      rw [HE.out]
      exact ⟨by first | rfl | (simp; done) | go_num, rfl⟩
set_option maxRecDepth 100000 in
set_option maxHeartbeats 4000000 in
theorem bitsLen32 (x : Nat) (w : World) (h : x ≤ 1000000000) : Calls Try.prog 117 #[.int .u64 (x : Int)] w (fun e w' => e = .returned (.int .i64 (Sort.bitsLen x : Int)) ∧ w' = w) := by
  have HC := Lib.hid (len64 x w h)
  clear h
  generalize Sort.bitsLen x = y at *
  go_enter Try.func117, Try.ntmps117
  go_wp2_with fail
  refine HC.out.mono ?_
  rintro e W ⟨rfl, rfl⟩
  go_wp2_with fail
  go_ret
  exact ⟨rfl, rfl⟩
end Go.Proofs.Ytnpalplnpfgibaa
