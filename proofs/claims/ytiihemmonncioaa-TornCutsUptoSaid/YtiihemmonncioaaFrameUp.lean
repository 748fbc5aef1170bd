/- The head of layer 5's statements. -/
import Derived.Test.YtiihemmonncioaaCode
import Derived.Lib.SlBytesConst
namespace Go.Proofs.Ytiihemmonncioaa
open Go.RowKit
theorem errV_code {c : Nat} (h : c ≠ 0) : errV c = .iface 28 (.int .i64 (c : Int)) := if_neg h
set_option maxRecDepth 100000 in
set_option maxHeartbeats 2000000 in
theorem frameUp (w : World) : Calls Try.prog 10 #[] w (fun e w' => e = .returned (.bool true) ∧ Below w.heap.size w w' ∧ w.heap.size < w'.heap.size) := by
  have e1 : (frameL [120]).length = 9 := by rw [frameL_length]; rfl
  have e2 : getL [] = ([], 0, 3) := by with_unfolding_all decide +kernel
  have H1 := Lib.hid e1; have H2 := Lib.hid e2
  clear e1 e2
  have k1 := code_nil_nil
  have k2 := code_eql
  have HFS := Lib.hid (fun w => frameSize 1 w (by omega))
  have kc := Lib.run_convert_bytes_const w 22 5 #[.int .u8 120] 1 1 Try.underlying22 Try.underlying5
  go_enter Try.func10, Try.ntmps10
  go_wp2_with fail
  refine (framePut_ok _ 1 [120] _ (by decide) (by decide) (isBytes_new w _ _ _ [120] rfl)).mono ?_
  rintro e w1 ⟨v1, rfl, ho1, hb1⟩
  obtain ⟨a1, cap1, rfl, _, _⟩ := ho1.out
  rw [H1.out]
  have HB1 := Lib.hid (((Below.refl w.heap.size w).alloc (Nat.le_refl _) _).trans (hb1.mono (by simp)))
  have HS1 := Lib.hid (show w.heap.size < w1.heap.size by have := hb1.size; simp at this; omega)
  clear ho1 hb1
  go_wp2_with fail
  refine (framePut_bad none 0 0 _ (.inl rfl)).mono ?_
  rintro e w2 ⟨rfl, rfl⟩
  go_wp2_with fail
  refine (frameGet none 0 0 [] _ rfl (by simp) ⟨none, 0, rfl, IsBytes.nil _ _, Nat.le_refl _, Nat.zero_le _, fun _ => rfl, fun x hx => by cases hx⟩).mono ?_
  rintro e w3 ⟨v3, rfl, _, hb3⟩
  rw [H2.out]
  rw [errV_code (by decide : (3 : Nat) ≠ 0)]
  have HB3 := Lib.hid (HB1.out.trans (hb3.mono HB1.out.size))
  have HS3 := Lib.hid (Nat.lt_of_lt_of_le HS1.out hb3.size)
  clear hb3
  go_wp2_with fail
  refine (HFS.out _).mono ?_
  rintro e w4 ⟨rfl, rfl⟩
  go_wp2_with fail
  go_ret
  exact ⟨rfl, HB3.out, HS3.out⟩
end Go.Proofs.Ytiihemmonncioaa
