/- Errors: their values, '==' of them. -/
import Derived.Test.YtnpalplnpfgibaaProg
import Derived.Test.YtnpalplnpfgibaaBase
import Derived.WalkKit
namespace Go.Proofs.Ytnpalplnpfgibaa
open Go.RowKit
/-- The error of number c. -/
def errV (c : Nat) : Value := if c = 0 then .nilIface else .iface 58 (.int .i64 (c : Int))
theorem code_eqlIn (w : World) (d : Nat) (c k : Int) : (Op.equalIn (d + 2) 50 (.iface 58 (.int .i64 c)) (.iface 58 (.int .i64 k))).run Try.prog w = .ok (c == k) w := by
  have hu : Try.prog.underlying 58 = some (.int .i64) := Try.underlying58
  have hcmp : Try.t58.comparable = true := by kernel_rfl
  simp [Op.equalIn, run_underlying Try.underlying50, run_underlying hu, hcmp]
theorem code_equal (w : World) (c k : Int) : (Op.equal 50 (.iface 58 (.int .i64 c)) (.iface 58 (.int .i64 k))).run Try.prog w = .ok (c == k) w := code_eqlIn w 9998 c k
theorem code_eql (w : World) (c k : Int) : (binOp .eql 50 (.iface 58 (.int .i64 c)) (.iface 58 (.int .i64 k))).run Try.prog w = .ok (.bool (c == k)) w := by
  simp [binOp, code_equal]
theorem code_neq (w : World) (c k : Int) : (binOp .neq 50 (.iface 58 (.int .i64 c)) (.iface 58 (.int .i64 k))).run Try.prog w = .ok (.bool (!(c == k))) w := by
  simp [binOp, code_equal]
theorem code_nilIn (w : World) (d : Nat) (c : Int) : (Op.equalIn (d + 1) 50 (.iface 58 (.int .i64 c)) .nilIface).run Try.prog w = .ok false w := by
  simp [Op.equalIn, run_underlying Try.underlying50]
theorem code_nil (w : World) (c : Int) : (Op.equal 50 (.iface 58 (.int .i64 c)) .nilIface).run Try.prog w = .ok false w := code_nilIn w 9999 c
theorem code_eql_nil (w : World) (c : Int) : (binOp .eql 50 (.iface 58 (.int .i64 c)) .nilIface).run Try.prog w = .ok (.bool false) w := by
  simp [binOp, code_nil]
theorem code_neq_nil (w : World) (c : Int) : (binOp .neq 50 (.iface 58 (.int .i64 c)) .nilIface).run Try.prog w = .ok (.bool true) w := by
  simp [binOp, code_nil]
theorem nil_code_In (w : World) (d : Nat) (c : Int) : (Op.equalIn (d + 1) 50 .nilIface (.iface 58 (.int .i64 c))).run Try.prog w = .ok false w := by
  simp [Op.equalIn, run_underlying Try.underlying50]
theorem nil_code (w : World) (c : Int) : (Op.equal 50 .nilIface (.iface 58 (.int .i64 c))).run Try.prog w = .ok false w := nil_code_In w 9999 c
theorem nil_eql_code (w : World) (c : Int) : (binOp .eql 50 .nilIface (.iface 58 (.int .i64 c))).run Try.prog w = .ok (.bool false) w := by
  simp [binOp, nil_code]
theorem nil_neq_code (w : World) (c : Int) : (binOp .neq 50 .nilIface (.iface 58 (.int .i64 c))).run Try.prog w = .ok (.bool true) w := by
  simp [binOp, nil_code]
theorem nil_nilIn (w : World) (d : Nat) : (Op.equalIn (d + 1) 50 .nilIface .nilIface).run Try.prog w = .ok true w := by
  simp [Op.equalIn, run_underlying Try.underlying50]
theorem nil_nil (w : World) : (Op.equal 50 .nilIface .nilIface).run Try.prog w = .ok true w := nil_nilIn w 9999
theorem code_nil_nil (w : World) : (binOp .eql 50 .nilIface .nilIface).run Try.prog w = .ok (.bool true) w := by
  simp [binOp, nil_nil]
theorem code_nil_neq_nil (w : World) : (binOp .neq 50 .nilIface .nilIface).run Try.prog w = .ok (.bool false) w := by
  simp [binOp, nil_nil]
end Go.Proofs.Ytnpalplnpfgibaa
