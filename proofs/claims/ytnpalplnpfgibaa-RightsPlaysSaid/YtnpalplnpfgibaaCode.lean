/- The contract of hassocklaw00.Code: the number of an error. -/
import Derived.Test.YtnpalplnpfgibaaErr
import Derived.LoopTactic
namespace Go.Proofs.Ytnpalplnpfgibaa
open Go.RowKit
set_option maxHeartbeats 1000000 in
theorem lawCode (c : Nat) (w : World) (hc : c ≤ 15) : Calls Try.prog 40 #[errV c] w (fun e w' => e = .returned (.int .i64 (c : Int)) ∧ w' = w) := by
  by_cases h0 : c = 0
  · subst h0
    rw [show errV 0 = .nilIface from rfl]
    have k1 := code_nil_nil
    go_enter Try.func40, Try.ntmps40
    go_wp2
    go_ret
    exact ⟨rfl, rfl⟩
  · rw [show errV c = .iface 58 (.int .i64 (c : Int)) from if_neg h0]
    have k1 := code_eql_nil
    have k2 := code_eql
    go_enter Try.func40, Try.ntmps40
    go_wp2
    go_loop [3] (fun i => ∃ k : Nat, 1 ≤ k ∧ k ≤ c ∧ i = .int .i64 k) (fun i => 16 - (intOf i).toNat)
    case atStart => exact ⟨1, by omega, by omega, rfl⟩
    case round =>
      obtain ⟨k, hk1, hk, rfl⟩ := hrel
      have d1 : decide ((k : Int) ≤ 15) = true := by simp; omega
      by_cases hkc : k = c
      · subst hkc
        go_wp2
        go_ret
        exact ⟨rfl, rfl⟩
      · have d2 : ((c : Int) == (k : Int)) = false := by simp; omega
        go_wp2
        go_round
        case rel => exact ⟨k + 1, by omega, by omega, by go_num⟩
        case measure => simp [intOf]; omega
end Go.Proofs.Ytnpalplnpfgibaa
