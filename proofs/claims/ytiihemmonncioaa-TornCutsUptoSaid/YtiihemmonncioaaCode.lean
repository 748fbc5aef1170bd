/- The contract of hassocklaw00.Code: the number of an error. -/
import Derived.Test.YtiihemmonncioaaFrameGet
namespace Go.Proofs.Ytiihemmonncioaa
open Go.RowKit
theorem code_eqlIn (w : World) (d : Nat) (c k : Int) : (Op.equalIn (d + 2) 25 (.iface 28 (.int .i64 c)) (.iface 28 (.int .i64 k))).run Try.prog w = .ok (c == k) w := by
  have hu : Try.prog.underlying 28 = some (.int .i64) := Try.underlying28
  have hcmp : Try.t28.comparable = true := by kernel_rfl
  simp [Op.equalIn, run_underlying Try.underlying25, run_underlying hu, hcmp]
theorem code_equal (w : World) (c k : Int) : (Op.equal 25 (.iface 28 (.int .i64 c)) (.iface 28 (.int .i64 k))).run Try.prog w = .ok (c == k) w := code_eqlIn w 9998 c k
theorem code_eql (w : World) (c k : Int) : (binOp .eql 25 (.iface 28 (.int .i64 c)) (.iface 28 (.int .i64 k))).run Try.prog w = .ok (.bool (c == k)) w := by
  simp [binOp, code_equal]
theorem code_neq (w : World) (c k : Int) : (binOp .neq 25 (.iface 28 (.int .i64 c)) (.iface 28 (.int .i64 k))).run Try.prog w = .ok (.bool (!(c == k))) w := by
  simp [binOp, code_equal]
theorem code_nilIn (w : World) (d : Nat) (c : Int) : (Op.equalIn (d + 1) 25 (.iface 28 (.int .i64 c)) .nilIface).run Try.prog w = .ok false w := by
  simp [Op.equalIn, run_underlying Try.underlying25]
theorem code_nil (w : World) (c : Int) : (Op.equal 25 (.iface 28 (.int .i64 c)) .nilIface).run Try.prog w = .ok false w := code_nilIn w 9999 c
theorem code_eql_nil (w : World) (c : Int) : (binOp .eql 25 (.iface 28 (.int .i64 c)) .nilIface).run Try.prog w = .ok (.bool false) w := by
  simp [binOp, code_nil]
theorem code_neq_nil (w : World) (c : Int) : (binOp .neq 25 (.iface 28 (.int .i64 c)) .nilIface).run Try.prog w = .ok (.bool true) w := by
  simp [binOp, code_nil]
theorem nil_code_In (w : World) (d : Nat) (c : Int) : (Op.equalIn (d + 1) 25 .nilIface (.iface 28 (.int .i64 c))).run Try.prog w = .ok false w := by
  simp [Op.equalIn, run_underlying Try.underlying25]
theorem nil_code (w : World) (c : Int) : (Op.equal 25 .nilIface (.iface 28 (.int .i64 c))).run Try.prog w = .ok false w := nil_code_In w 9999 c
theorem nil_eql_code (w : World) (c : Int) : (binOp .eql 25 .nilIface (.iface 28 (.int .i64 c))).run Try.prog w = .ok (.bool false) w := by
  simp [binOp, nil_code]
theorem nil_neq_code (w : World) (c : Int) : (binOp .neq 25 .nilIface (.iface 28 (.int .i64 c))).run Try.prog w = .ok (.bool true) w := by
  simp [binOp, nil_code]
theorem nil_nilIn (w : World) (d : Nat) : (Op.equalIn (d + 1) 25 .nilIface .nilIface).run Try.prog w = .ok true w := by
  simp [Op.equalIn, run_underlying Try.underlying25]
theorem nil_nil (w : World) : (Op.equal 25 .nilIface .nilIface).run Try.prog w = .ok true w := nil_nilIn w 9999
theorem code_nil_nil (w : World) : (binOp .eql 25 .nilIface .nilIface).run Try.prog w = .ok (.bool true) w := by
  simp [binOp, nil_nil]
theorem code_nil_neq_nil (w : World) : (binOp .neq 25 .nilIface .nilIface).run Try.prog w = .ok (.bool false) w := by
  simp [binOp, nil_nil]
set_option maxHeartbeats 1000000 in
theorem lawCode (c : Nat) (w : World) (hc : c ≤ 15) : Calls Try.prog 16 #[errV c] w (fun e w' => e = .returned (.int .i64 (c : Int)) ∧ w' = w) := by
  by_cases h0 : c = 0
  · subst h0
    rw [show errV 0 = .nilIface from rfl]
    have k1 := code_nil_nil
    go_enter Try.func16, Try.ntmps16
    go_wp2
    go_ret
    exact ⟨rfl, rfl⟩
  · rw [show errV c = .iface 28 (.int .i64 (c : Int)) from if_neg h0]
    have k1 := code_eql_nil
    have k2 := code_eql
    go_enter Try.func16, Try.ntmps16
    go_wp2
    go_loop [3] (fun i => ∃ k : Nat, 1 ≤ k ∧ k ≤ c ∧ i = .int .i64 k) (fun i => 16 - (intOf i).toNat)
    case atStart => exact ⟨1, by omega, by omega, rfl⟩
    case round =>
      obtain ⟨k, hk1, hk, rfl⟩ := hrel
      have d1 : decide ((k : Int) ≤ 15) = true := by simp; omega
      by_cases hkc : k = c
      · subst hkc
        go_wp2
        go_ret
        exact ⟨rfl, rfl⟩
      · have d2 : ((c : Int) == (k : Int)) = false := by simp; omega
        go_wp2
        go_round
        case rel => exact ⟨k + 1, by omega, by omega, by go_num⟩
        case measure => simp [intOf]; omega
end Go.Proofs.Ytiihemmonncioaa
