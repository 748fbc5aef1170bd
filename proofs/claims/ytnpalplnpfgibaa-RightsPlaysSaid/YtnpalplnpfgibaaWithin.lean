/- rights.Within, hassockref09.Within. -/
import Derived.Test.YtnpalplnpfgibaaTokUp
import Derived.Handy
namespace Go.Proofs.Ytnpalplnpfgibaa
open Go.RowKit
set_option linter.unusedSimpArgs false
set_option linter.unusedVariables false
def AnsB (t : Bool) (w : World) (e : Ending) (w' : World) : Prop := e = .returned (.bool t) ∧ w' = w
set_option maxRecDepth 100000
set_option maxHeartbeats 2000000
theorem wi_low (a b : Int) (h : a < 1) (w : World) : Calls Try.prog 35 #[.int .i64 a, .int .i64 b] w (AnsB false w) := by
  have d1 : decide ((1 : Int) ≤ a) = false := by rw [decide_eq_false_iff_not]; omega
  clear h
  go_enter Try.func35, Try.ntmps35
  go_wp2
  go_ret
  exact ⟨rfl, rfl⟩
theorem wi_high (a b : Int) (h : 7 < a) (w : World) : Calls Try.prog 35 #[.int .i64 a, .int .i64 b] w (AnsB false w) := by
  have d1 : decide ((1 : Int) ≤ a) = true := by rw [decide_eq_true_iff]; omega
  have d2 : decide (a ≤ (7 : Int)) = false := by rw [decide_eq_false_iff_not]; omega
  clear h
  go_enter Try.func35, Try.ntmps35
  go_wp2
  go_ret
  exact ⟨rfl, rfl⟩
theorem rw_low (a b : Int) (h : a < 1) (w : World) : Calls Try.prog 36 #[.int .i64 a, .int .i64 b] w (AnsB false w) := by
  have d1 : decide (a < (1 : Int)) = true := by rw [decide_eq_true_iff]; omega
  clear h
  go_enter Try.func36, Try.ntmps36
  go_wp2
  go_ret
  exact ⟨rfl, rfl⟩
theorem rw_high (a b : Int) (h : 7 < a) (w : World) : Calls Try.prog 36 #[.int .i64 a, .int .i64 b] w (AnsB false w) := by
  have d1 : decide (a < (1 : Int)) = false := by rw [decide_eq_false_iff_not]; omega
  have d2 : decide ((7 : Int) < a) = true := by rw [decide_eq_true_iff]; omega
  clear h
  go_enter Try.func36, Try.ntmps36
  go_wp2
  go_ret
  exact ⟨rfl, rfl⟩
theorem wi_1_0 (w : World) : Calls Try.prog 35 #[.int .i64 1, .int .i64 0] w (AnsB false w) := by
  go_enter Try.func35, Try.ntmps35
  go_wp2
  go_ret
  exact ⟨rfl, rfl⟩
theorem rw_1_0 (w : World) : Calls Try.prog 36 #[.int .i64 1, .int .i64 0] w (AnsB false w) := by
  go_enter Try.func36, Try.ntmps36
  go_wp2
  go_rounds 4
  all_goals go_ret
  all_goals exact ⟨rfl, rfl⟩
theorem wi_1_1 (w : World) : Calls Try.prog 35 #[.int .i64 1, .int .i64 1] w (AnsB true w) := by
  go_enter Try.func35, Try.ntmps35
  go_wp2
  go_ret
  exact ⟨rfl, rfl⟩
theorem rw_1_1 (w : World) : Calls Try.prog 36 #[.int .i64 1, .int .i64 1] w (AnsB true w) := by
  go_enter Try.func36, Try.ntmps36
  go_wp2
  go_rounds 4
  all_goals go_ret
  all_goals exact ⟨rfl, rfl⟩
theorem wi_1_2 (w : World) : Calls Try.prog 35 #[.int .i64 1, .int .i64 2] w (AnsB false w) := by
  go_enter Try.func35, Try.ntmps35
  go_wp2
  go_ret
  exact ⟨rfl, rfl⟩
theorem rw_1_2 (w : World) : Calls Try.prog 36 #[.int .i64 1, .int .i64 2] w (AnsB false w) := by
  go_enter Try.func36, Try.ntmps36
  go_wp2
  go_rounds 4
  all_goals go_ret
  all_goals exact ⟨rfl, rfl⟩
theorem wi_1_3 (w : World) : Calls Try.prog 35 #[.int .i64 1, .int .i64 3] w (AnsB true w) := by
  go_enter Try.func35, Try.ntmps35
  go_wp2
  go_ret
  exact ⟨rfl, rfl⟩
theorem rw_1_3 (w : World) : Calls Try.prog 36 #[.int .i64 1, .int .i64 3] w (AnsB true w) := by
  go_enter Try.func36, Try.ntmps36
  go_wp2
  go_rounds 4
  all_goals go_ret
  all_goals exact ⟨rfl, rfl⟩
theorem wi_1_4 (w : World) : Calls Try.prog 35 #[.int .i64 1, .int .i64 4] w (AnsB false w) := by
  go_enter Try.func35, Try.ntmps35
  go_wp2
  go_ret
  exact ⟨rfl, rfl⟩
theorem rw_1_4 (w : World) : Calls Try.prog 36 #[.int .i64 1, .int .i64 4] w (AnsB false w) := by
  go_enter Try.func36, Try.ntmps36
  go_wp2
  go_rounds 4
  all_goals go_ret
  all_goals exact ⟨rfl, rfl⟩
theorem wi_1_5 (w : World) : Calls Try.prog 35 #[.int .i64 1, .int .i64 5] w (AnsB true w) := by
  go_enter Try.func35, Try.ntmps35
  go_wp2
  go_ret
  exact ⟨rfl, rfl⟩
theorem rw_1_5 (w : World) : Calls Try.prog 36 #[.int .i64 1, .int .i64 5] w (AnsB true w) := by
  go_enter Try.func36, Try.ntmps36
  go_wp2
  go_rounds 4
  all_goals go_ret
  all_goals exact ⟨rfl, rfl⟩
theorem wi_1_6 (w : World) : Calls Try.prog 35 #[.int .i64 1, .int .i64 6] w (AnsB false w) := by
  go_enter Try.func35, Try.ntmps35
  go_wp2
  go_ret
  exact ⟨rfl, rfl⟩
theorem rw_1_6 (w : World) : Calls Try.prog 36 #[.int .i64 1, .int .i64 6] w (AnsB false w) := by
  go_enter Try.func36, Try.ntmps36
  go_wp2
  go_rounds 4
  all_goals go_ret
  all_goals exact ⟨rfl, rfl⟩
theorem wi_1_7 (w : World) : Calls Try.prog 35 #[.int .i64 1, .int .i64 7] w (AnsB true w) := by
  go_enter Try.func35, Try.ntmps35
  go_wp2
  go_ret
  exact ⟨rfl, rfl⟩
theorem rw_1_7 (w : World) : Calls Try.prog 36 #[.int .i64 1, .int .i64 7] w (AnsB true w) := by
  go_enter Try.func36, Try.ntmps36
  go_wp2
  go_rounds 4
  all_goals go_ret
  all_goals exact ⟨rfl, rfl⟩
theorem wi_2_0 (w : World) : Calls Try.prog 35 #[.int .i64 2, .int .i64 0] w (AnsB false w) := by
  go_enter Try.func35, Try.ntmps35
  go_wp2
  go_ret
  exact ⟨rfl, rfl⟩
theorem rw_2_0 (w : World) : Calls Try.prog 36 #[.int .i64 2, .int .i64 0] w (AnsB false w) := by
  go_enter Try.func36, Try.ntmps36
  go_wp2
  go_rounds 4
  all_goals go_ret
  all_goals exact ⟨rfl, rfl⟩
theorem wi_2_1 (w : World) : Calls Try.prog 35 #[.int .i64 2, .int .i64 1] w (AnsB false w) := by
  go_enter Try.func35, Try.ntmps35
  go_wp2
  go_ret
  exact ⟨rfl, rfl⟩
theorem rw_2_1 (w : World) : Calls Try.prog 36 #[.int .i64 2, .int .i64 1] w (AnsB false w) := by
  go_enter Try.func36, Try.ntmps36
  go_wp2
  go_rounds 4
  all_goals go_ret
  all_goals exact ⟨rfl, rfl⟩
theorem wi_2_2 (w : World) : Calls Try.prog 35 #[.int .i64 2, .int .i64 2] w (AnsB true w) := by
  go_enter Try.func35, Try.ntmps35
  go_wp2
  go_ret
  exact ⟨rfl, rfl⟩
theorem rw_2_2 (w : World) : Calls Try.prog 36 #[.int .i64 2, .int .i64 2] w (AnsB true w) := by
  go_enter Try.func36, Try.ntmps36
  go_wp2
  go_rounds 4
  all_goals go_ret
  all_goals exact ⟨rfl, rfl⟩
theorem wi_2_3 (w : World) : Calls Try.prog 35 #[.int .i64 2, .int .i64 3] w (AnsB true w) := by
  go_enter Try.func35, Try.ntmps35
  go_wp2
  go_ret
  exact ⟨rfl, rfl⟩
theorem rw_2_3 (w : World) : Calls Try.prog 36 #[.int .i64 2, .int .i64 3] w (AnsB true w) := by
  go_enter Try.func36, Try.ntmps36
  go_wp2
  go_rounds 4
  all_goals go_ret
  all_goals exact ⟨rfl, rfl⟩
theorem wi_2_4 (w : World) : Calls Try.prog 35 #[.int .i64 2, .int .i64 4] w (AnsB false w) := by
  go_enter Try.func35, Try.ntmps35
  go_wp2
  go_ret
  exact ⟨rfl, rfl⟩
theorem rw_2_4 (w : World) : Calls Try.prog 36 #[.int .i64 2, .int .i64 4] w (AnsB false w) := by
  go_enter Try.func36, Try.ntmps36
  go_wp2
  go_rounds 4
  all_goals go_ret
  all_goals exact ⟨rfl, rfl⟩
theorem wi_2_5 (w : World) : Calls Try.prog 35 #[.int .i64 2, .int .i64 5] w (AnsB false w) := by
  go_enter Try.func35, Try.ntmps35
  go_wp2
  go_ret
  exact ⟨rfl, rfl⟩
theorem rw_2_5 (w : World) : Calls Try.prog 36 #[.int .i64 2, .int .i64 5] w (AnsB false w) := by
  go_enter Try.func36, Try.ntmps36
  go_wp2
  go_rounds 4
  all_goals go_ret
  all_goals exact ⟨rfl, rfl⟩
theorem wi_2_6 (w : World) : Calls Try.prog 35 #[.int .i64 2, .int .i64 6] w (AnsB true w) := by
  go_enter Try.func35, Try.ntmps35
  go_wp2
  go_ret
  exact ⟨rfl, rfl⟩
theorem rw_2_6 (w : World) : Calls Try.prog 36 #[.int .i64 2, .int .i64 6] w (AnsB true w) := by
  go_enter Try.func36, Try.ntmps36
  go_wp2
  go_rounds 4
  all_goals go_ret
  all_goals exact ⟨rfl, rfl⟩
theorem wi_2_7 (w : World) : Calls Try.prog 35 #[.int .i64 2, .int .i64 7] w (AnsB true w) := by
  go_enter Try.func35, Try.ntmps35
  go_wp2
  go_ret
  exact ⟨rfl, rfl⟩
theorem rw_2_7 (w : World) : Calls Try.prog 36 #[.int .i64 2, .int .i64 7] w (AnsB true w) := by
  go_enter Try.func36, Try.ntmps36
  go_wp2
  go_rounds 4
  all_goals go_ret
  all_goals exact ⟨rfl, rfl⟩
theorem wi_3_0 (w : World) : Calls Try.prog 35 #[.int .i64 3, .int .i64 0] w (AnsB false w) := by
  go_enter Try.func35, Try.ntmps35
  go_wp2
  go_ret
  exact ⟨rfl, rfl⟩
theorem rw_3_0 (w : World) : Calls Try.prog 36 #[.int .i64 3, .int .i64 0] w (AnsB false w) := by
  go_enter Try.func36, Try.ntmps36
  go_wp2
  go_rounds 4
  all_goals go_ret
  all_goals exact ⟨rfl, rfl⟩
theorem wi_3_1 (w : World) : Calls Try.prog 35 #[.int .i64 3, .int .i64 1] w (AnsB false w) := by
  go_enter Try.func35, Try.ntmps35
  go_wp2
  go_ret
  exact ⟨rfl, rfl⟩
theorem rw_3_1 (w : World) : Calls Try.prog 36 #[.int .i64 3, .int .i64 1] w (AnsB false w) := by
  go_enter Try.func36, Try.ntmps36
  go_wp2
  go_rounds 4
  all_goals go_ret
  all_goals exact ⟨rfl, rfl⟩
theorem wi_3_2 (w : World) : Calls Try.prog 35 #[.int .i64 3, .int .i64 2] w (AnsB false w) := by
  go_enter Try.func35, Try.ntmps35
  go_wp2
  go_ret
  exact ⟨rfl, rfl⟩
theorem rw_3_2 (w : World) : Calls Try.prog 36 #[.int .i64 3, .int .i64 2] w (AnsB false w) := by
  go_enter Try.func36, Try.ntmps36
  go_wp2
  go_rounds 4
  all_goals go_ret
  all_goals exact ⟨rfl, rfl⟩
theorem wi_3_3 (w : World) : Calls Try.prog 35 #[.int .i64 3, .int .i64 3] w (AnsB true w) := by
  go_enter Try.func35, Try.ntmps35
  go_wp2
  go_ret
  exact ⟨rfl, rfl⟩
theorem rw_3_3 (w : World) : Calls Try.prog 36 #[.int .i64 3, .int .i64 3] w (AnsB true w) := by
  go_enter Try.func36, Try.ntmps36
  go_wp2
  go_rounds 4
  all_goals go_ret
  all_goals exact ⟨rfl, rfl⟩
theorem wi_3_4 (w : World) : Calls Try.prog 35 #[.int .i64 3, .int .i64 4] w (AnsB false w) := by
  go_enter Try.func35, Try.ntmps35
  go_wp2
  go_ret
  exact ⟨rfl, rfl⟩
theorem rw_3_4 (w : World) : Calls Try.prog 36 #[.int .i64 3, .int .i64 4] w (AnsB false w) := by
  go_enter Try.func36, Try.ntmps36
  go_wp2
  go_rounds 4
  all_goals go_ret
  all_goals exact ⟨rfl, rfl⟩
theorem wi_3_5 (w : World) : Calls Try.prog 35 #[.int .i64 3, .int .i64 5] w (AnsB false w) := by
  go_enter Try.func35, Try.ntmps35
  go_wp2
  go_ret
  exact ⟨rfl, rfl⟩
theorem rw_3_5 (w : World) : Calls Try.prog 36 #[.int .i64 3, .int .i64 5] w (AnsB false w) := by
  go_enter Try.func36, Try.ntmps36
  go_wp2
  go_rounds 4
  all_goals go_ret
  all_goals exact ⟨rfl, rfl⟩
theorem wi_3_6 (w : World) : Calls Try.prog 35 #[.int .i64 3, .int .i64 6] w (AnsB false w) := by
  go_enter Try.func35, Try.ntmps35
  go_wp2
  go_ret
  exact ⟨rfl, rfl⟩
theorem rw_3_6 (w : World) : Calls Try.prog 36 #[.int .i64 3, .int .i64 6] w (AnsB false w) := by
  go_enter Try.func36, Try.ntmps36
  go_wp2
  go_rounds 4
  all_goals go_ret
  all_goals exact ⟨rfl, rfl⟩
theorem wi_3_7 (w : World) : Calls Try.prog 35 #[.int .i64 3, .int .i64 7] w (AnsB true w) := by
  go_enter Try.func35, Try.ntmps35
  go_wp2
  go_ret
  exact ⟨rfl, rfl⟩
theorem rw_3_7 (w : World) : Calls Try.prog 36 #[.int .i64 3, .int .i64 7] w (AnsB true w) := by
  go_enter Try.func36, Try.ntmps36
  go_wp2
  go_rounds 4
  all_goals go_ret
  all_goals exact ⟨rfl, rfl⟩
theorem wi_4_0 (w : World) : Calls Try.prog 35 #[.int .i64 4, .int .i64 0] w (AnsB false w) := by
  go_enter Try.func35, Try.ntmps35
  go_wp2
  go_ret
  exact ⟨rfl, rfl⟩
theorem rw_4_0 (w : World) : Calls Try.prog 36 #[.int .i64 4, .int .i64 0] w (AnsB false w) := by
  go_enter Try.func36, Try.ntmps36
  go_wp2
  go_rounds 4
  all_goals go_ret
  all_goals exact ⟨rfl, rfl⟩
theorem wi_4_1 (w : World) : Calls Try.prog 35 #[.int .i64 4, .int .i64 1] w (AnsB false w) := by
  go_enter Try.func35, Try.ntmps35
  go_wp2
  go_ret
  exact ⟨rfl, rfl⟩
theorem rw_4_1 (w : World) : Calls Try.prog 36 #[.int .i64 4, .int .i64 1] w (AnsB false w) := by
  go_enter Try.func36, Try.ntmps36
  go_wp2
  go_rounds 4
  all_goals go_ret
  all_goals exact ⟨rfl, rfl⟩
theorem wi_4_2 (w : World) : Calls Try.prog 35 #[.int .i64 4, .int .i64 2] w (AnsB false w) := by
  go_enter Try.func35, Try.ntmps35
  go_wp2
  go_ret
  exact ⟨rfl, rfl⟩
theorem rw_4_2 (w : World) : Calls Try.prog 36 #[.int .i64 4, .int .i64 2] w (AnsB false w) := by
  go_enter Try.func36, Try.ntmps36
  go_wp2
  go_rounds 4
  all_goals go_ret
  all_goals exact ⟨rfl, rfl⟩
theorem wi_4_3 (w : World) : Calls Try.prog 35 #[.int .i64 4, .int .i64 3] w (AnsB false w) := by
  go_enter Try.func35, Try.ntmps35
  go_wp2
  go_ret
  exact ⟨rfl, rfl⟩
theorem rw_4_3 (w : World) : Calls Try.prog 36 #[.int .i64 4, .int .i64 3] w (AnsB false w) := by
  go_enter Try.func36, Try.ntmps36
  go_wp2
  go_rounds 4
  all_goals go_ret
  all_goals exact ⟨rfl, rfl⟩
theorem wi_4_4 (w : World) : Calls Try.prog 35 #[.int .i64 4, .int .i64 4] w (AnsB true w) := by
  go_enter Try.func35, Try.ntmps35
  go_wp2
  go_ret
  exact ⟨rfl, rfl⟩
theorem rw_4_4 (w : World) : Calls Try.prog 36 #[.int .i64 4, .int .i64 4] w (AnsB true w) := by
  go_enter Try.func36, Try.ntmps36
  go_wp2
  go_rounds 4
  all_goals go_ret
  all_goals exact ⟨rfl, rfl⟩
theorem wi_4_5 (w : World) : Calls Try.prog 35 #[.int .i64 4, .int .i64 5] w (AnsB true w) := by
  go_enter Try.func35, Try.ntmps35
  go_wp2
  go_ret
  exact ⟨rfl, rfl⟩
theorem rw_4_5 (w : World) : Calls Try.prog 36 #[.int .i64 4, .int .i64 5] w (AnsB true w) := by
  go_enter Try.func36, Try.ntmps36
  go_wp2
  go_rounds 4
  all_goals go_ret
  all_goals exact ⟨rfl, rfl⟩
theorem wi_4_6 (w : World) : Calls Try.prog 35 #[.int .i64 4, .int .i64 6] w (AnsB true w) := by
  go_enter Try.func35, Try.ntmps35
  go_wp2
  go_ret
  exact ⟨rfl, rfl⟩
theorem rw_4_6 (w : World) : Calls Try.prog 36 #[.int .i64 4, .int .i64 6] w (AnsB true w) := by
  go_enter Try.func36, Try.ntmps36
  go_wp2
  go_rounds 4
  all_goals go_ret
  all_goals exact ⟨rfl, rfl⟩
theorem wi_4_7 (w : World) : Calls Try.prog 35 #[.int .i64 4, .int .i64 7] w (AnsB true w) := by
  go_enter Try.func35, Try.ntmps35
  go_wp2
  go_ret
  exact ⟨rfl, rfl⟩
theorem rw_4_7 (w : World) : Calls Try.prog 36 #[.int .i64 4, .int .i64 7] w (AnsB true w) := by
  go_enter Try.func36, Try.ntmps36
  go_wp2
  go_rounds 4
  all_goals go_ret
  all_goals exact ⟨rfl, rfl⟩
theorem wi_5_0 (w : World) : Calls Try.prog 35 #[.int .i64 5, .int .i64 0] w (AnsB false w) := by
  go_enter Try.func35, Try.ntmps35
  go_wp2
  go_ret
  exact ⟨rfl, rfl⟩
theorem rw_5_0 (w : World) : Calls Try.prog 36 #[.int .i64 5, .int .i64 0] w (AnsB false w) := by
  go_enter Try.func36, Try.ntmps36
  go_wp2
  go_rounds 4
  all_goals go_ret
  all_goals exact ⟨rfl, rfl⟩
theorem wi_5_1 (w : World) : Calls Try.prog 35 #[.int .i64 5, .int .i64 1] w (AnsB false w) := by
  go_enter Try.func35, Try.ntmps35
  go_wp2
  go_ret
  exact ⟨rfl, rfl⟩
theorem rw_5_1 (w : World) : Calls Try.prog 36 #[.int .i64 5, .int .i64 1] w (AnsB false w) := by
  go_enter Try.func36, Try.ntmps36
  go_wp2
  go_rounds 4
  all_goals go_ret
  all_goals exact ⟨rfl, rfl⟩
theorem wi_5_2 (w : World) : Calls Try.prog 35 #[.int .i64 5, .int .i64 2] w (AnsB false w) := by
  go_enter Try.func35, Try.ntmps35
  go_wp2
  go_ret
  exact ⟨rfl, rfl⟩
theorem rw_5_2 (w : World) : Calls Try.prog 36 #[.int .i64 5, .int .i64 2] w (AnsB false w) := by
  go_enter Try.func36, Try.ntmps36
  go_wp2
  go_rounds 4
  all_goals go_ret
  all_goals exact ⟨rfl, rfl⟩
theorem wi_5_3 (w : World) : Calls Try.prog 35 #[.int .i64 5, .int .i64 3] w (AnsB false w) := by
  go_enter Try.func35, Try.ntmps35
  go_wp2
  go_ret
  exact ⟨rfl, rfl⟩
theorem rw_5_3 (w : World) : Calls Try.prog 36 #[.int .i64 5, .int .i64 3] w (AnsB false w) := by
  go_enter Try.func36, Try.ntmps36
  go_wp2
  go_rounds 4
  all_goals go_ret
  all_goals exact ⟨rfl, rfl⟩
theorem wi_5_4 (w : World) : Calls Try.prog 35 #[.int .i64 5, .int .i64 4] w (AnsB false w) := by
  go_enter Try.func35, Try.ntmps35
  go_wp2
  go_ret
  exact ⟨rfl, rfl⟩
theorem rw_5_4 (w : World) : Calls Try.prog 36 #[.int .i64 5, .int .i64 4] w (AnsB false w) := by
  go_enter Try.func36, Try.ntmps36
  go_wp2
  go_rounds 4
  all_goals go_ret
  all_goals exact ⟨rfl, rfl⟩
theorem wi_5_5 (w : World) : Calls Try.prog 35 #[.int .i64 5, .int .i64 5] w (AnsB true w) := by
  go_enter Try.func35, Try.ntmps35
  go_wp2
  go_ret
  exact ⟨rfl, rfl⟩
theorem rw_5_5 (w : World) : Calls Try.prog 36 #[.int .i64 5, .int .i64 5] w (AnsB true w) := by
  go_enter Try.func36, Try.ntmps36
  go_wp2
  go_rounds 4
  all_goals go_ret
  all_goals exact ⟨rfl, rfl⟩
theorem wi_5_6 (w : World) : Calls Try.prog 35 #[.int .i64 5, .int .i64 6] w (AnsB false w) := by
  go_enter Try.func35, Try.ntmps35
  go_wp2
  go_ret
  exact ⟨rfl, rfl⟩
theorem rw_5_6 (w : World) : Calls Try.prog 36 #[.int .i64 5, .int .i64 6] w (AnsB false w) := by
  go_enter Try.func36, Try.ntmps36
  go_wp2
  go_rounds 4
  all_goals go_ret
  all_goals exact ⟨rfl, rfl⟩
theorem wi_5_7 (w : World) : Calls Try.prog 35 #[.int .i64 5, .int .i64 7] w (AnsB true w) := by
  go_enter Try.func35, Try.ntmps35
  go_wp2
  go_ret
  exact ⟨rfl, rfl⟩
theorem rw_5_7 (w : World) : Calls Try.prog 36 #[.int .i64 5, .int .i64 7] w (AnsB true w) := by
  go_enter Try.func36, Try.ntmps36
  go_wp2
  go_rounds 4
  all_goals go_ret
  all_goals exact ⟨rfl, rfl⟩
theorem wi_6_0 (w : World) : Calls Try.prog 35 #[.int .i64 6, .int .i64 0] w (AnsB false w) := by
  go_enter Try.func35, Try.ntmps35
  go_wp2
  go_ret
  exact ⟨rfl, rfl⟩
theorem rw_6_0 (w : World) : Calls Try.prog 36 #[.int .i64 6, .int .i64 0] w (AnsB false w) := by
  go_enter Try.func36, Try.ntmps36
  go_wp2
  go_rounds 4
  all_goals go_ret
  all_goals exact ⟨rfl, rfl⟩
theorem wi_6_1 (w : World) : Calls Try.prog 35 #[.int .i64 6, .int .i64 1] w (AnsB false w) := by
  go_enter Try.func35, Try.ntmps35
  go_wp2
  go_ret
  exact ⟨rfl, rfl⟩
theorem rw_6_1 (w : World) : Calls Try.prog 36 #[.int .i64 6, .int .i64 1] w (AnsB false w) := by
  go_enter Try.func36, Try.ntmps36
  go_wp2
  go_rounds 4
  all_goals go_ret
  all_goals exact ⟨rfl, rfl⟩
theorem wi_6_2 (w : World) : Calls Try.prog 35 #[.int .i64 6, .int .i64 2] w (AnsB false w) := by
  go_enter Try.func35, Try.ntmps35
  go_wp2
  go_ret
  exact ⟨rfl, rfl⟩
theorem rw_6_2 (w : World) : Calls Try.prog 36 #[.int .i64 6, .int .i64 2] w (AnsB false w) := by
  go_enter Try.func36, Try.ntmps36
  go_wp2
  go_rounds 4
  all_goals go_ret
  all_goals exact ⟨rfl, rfl⟩
theorem wi_6_3 (w : World) : Calls Try.prog 35 #[.int .i64 6, .int .i64 3] w (AnsB false w) := by
  go_enter Try.func35, Try.ntmps35
  go_wp2
  go_ret
  exact ⟨rfl, rfl⟩
theorem rw_6_3 (w : World) : Calls Try.prog 36 #[.int .i64 6, .int .i64 3] w (AnsB false w) := by
  go_enter Try.func36, Try.ntmps36
  go_wp2
  go_rounds 4
  all_goals go_ret
  all_goals exact ⟨rfl, rfl⟩
theorem wi_6_4 (w : World) : Calls Try.prog 35 #[.int .i64 6, .int .i64 4] w (AnsB false w) := by
  go_enter Try.func35, Try.ntmps35
  go_wp2
  go_ret
  exact ⟨rfl, rfl⟩
theorem rw_6_4 (w : World) : Calls Try.prog 36 #[.int .i64 6, .int .i64 4] w (AnsB false w) := by
  go_enter Try.func36, Try.ntmps36
  go_wp2
  go_rounds 4
  all_goals go_ret
  all_goals exact ⟨rfl, rfl⟩
theorem wi_6_5 (w : World) : Calls Try.prog 35 #[.int .i64 6, .int .i64 5] w (AnsB false w) := by
  go_enter Try.func35, Try.ntmps35
  go_wp2
  go_ret
  exact ⟨rfl, rfl⟩
theorem rw_6_5 (w : World) : Calls Try.prog 36 #[.int .i64 6, .int .i64 5] w (AnsB false w) := by
  go_enter Try.func36, Try.ntmps36
  go_wp2
  go_rounds 4
  all_goals go_ret
  all_goals exact ⟨rfl, rfl⟩
theorem wi_6_6 (w : World) : Calls Try.prog 35 #[.int .i64 6, .int .i64 6] w (AnsB true w) := by
  go_enter Try.func35, Try.ntmps35
  go_wp2
  go_ret
  exact ⟨rfl, rfl⟩
theorem rw_6_6 (w : World) : Calls Try.prog 36 #[.int .i64 6, .int .i64 6] w (AnsB true w) := by
  go_enter Try.func36, Try.ntmps36
  go_wp2
  go_rounds 4
  all_goals go_ret
  all_goals exact ⟨rfl, rfl⟩
theorem wi_6_7 (w : World) : Calls Try.prog 35 #[.int .i64 6, .int .i64 7] w (AnsB true w) := by
  go_enter Try.func35, Try.ntmps35
  go_wp2
  go_ret
  exact ⟨rfl, rfl⟩
theorem rw_6_7 (w : World) : Calls Try.prog 36 #[.int .i64 6, .int .i64 7] w (AnsB true w) := by
  go_enter Try.func36, Try.ntmps36
  go_wp2
  go_rounds 4
  all_goals go_ret
  all_goals exact ⟨rfl, rfl⟩
theorem wi_7_0 (w : World) : Calls Try.prog 35 #[.int .i64 7, .int .i64 0] w (AnsB false w) := by
  go_enter Try.func35, Try.ntmps35
  go_wp2
  go_ret
  exact ⟨rfl, rfl⟩
theorem rw_7_0 (w : World) : Calls Try.prog 36 #[.int .i64 7, .int .i64 0] w (AnsB false w) := by
  go_enter Try.func36, Try.ntmps36
  go_wp2
  go_rounds 4
  all_goals go_ret
  all_goals exact ⟨rfl, rfl⟩
theorem wi_7_1 (w : World) : Calls Try.prog 35 #[.int .i64 7, .int .i64 1] w (AnsB false w) := by
  go_enter Try.func35, Try.ntmps35
  go_wp2
  go_ret
  exact ⟨rfl, rfl⟩
theorem rw_7_1 (w : World) : Calls Try.prog 36 #[.int .i64 7, .int .i64 1] w (AnsB false w) := by
  go_enter Try.func36, Try.ntmps36
  go_wp2
  go_rounds 4
  all_goals go_ret
  all_goals exact ⟨rfl, rfl⟩
theorem wi_7_2 (w : World) : Calls Try.prog 35 #[.int .i64 7, .int .i64 2] w (AnsB false w) := by
  go_enter Try.func35, Try.ntmps35
  go_wp2
  go_ret
  exact ⟨rfl, rfl⟩
theorem rw_7_2 (w : World) : Calls Try.prog 36 #[.int .i64 7, .int .i64 2] w (AnsB false w) := by
  go_enter Try.func36, Try.ntmps36
  go_wp2
  go_rounds 4
  all_goals go_ret
  all_goals exact ⟨rfl, rfl⟩
theorem wi_7_3 (w : World) : Calls Try.prog 35 #[.int .i64 7, .int .i64 3] w (AnsB false w) := by
  go_enter Try.func35, Try.ntmps35
  go_wp2
  go_ret
  exact ⟨rfl, rfl⟩
theorem rw_7_3 (w : World) : Calls Try.prog 36 #[.int .i64 7, .int .i64 3] w (AnsB false w) := by
  go_enter Try.func36, Try.ntmps36
  go_wp2
  go_rounds 4
  all_goals go_ret
  all_goals exact ⟨rfl, rfl⟩
theorem wi_7_4 (w : World) : Calls Try.prog 35 #[.int .i64 7, .int .i64 4] w (AnsB false w) := by
  go_enter Try.func35, Try.ntmps35
  go_wp2
  go_ret
  exact ⟨rfl, rfl⟩
theorem rw_7_4 (w : World) : Calls Try.prog 36 #[.int .i64 7, .int .i64 4] w (AnsB false w) := by
  go_enter Try.func36, Try.ntmps36
  go_wp2
  go_rounds 4
  all_goals go_ret
  all_goals exact ⟨rfl, rfl⟩
theorem wi_7_5 (w : World) : Calls Try.prog 35 #[.int .i64 7, .int .i64 5] w (AnsB false w) := by
  go_enter Try.func35, Try.ntmps35
  go_wp2
  go_ret
  exact ⟨rfl, rfl⟩
theorem rw_7_5 (w : World) : Calls Try.prog 36 #[.int .i64 7, .int .i64 5] w (AnsB false w) := by
  go_enter Try.func36, Try.ntmps36
  go_wp2
  go_rounds 4
  all_goals go_ret
  all_goals exact ⟨rfl, rfl⟩
theorem wi_7_6 (w : World) : Calls Try.prog 35 #[.int .i64 7, .int .i64 6] w (AnsB false w) := by
  go_enter Try.func35, Try.ntmps35
  go_wp2
  go_ret
  exact ⟨rfl, rfl⟩
theorem rw_7_6 (w : World) : Calls Try.prog 36 #[.int .i64 7, .int .i64 6] w (AnsB false w) := by
  go_enter Try.func36, Try.ntmps36
  go_wp2
  go_rounds 4
  all_goals go_ret
  all_goals exact ⟨rfl, rfl⟩
theorem wi_7_7 (w : World) : Calls Try.prog 35 #[.int .i64 7, .int .i64 7] w (AnsB true w) := by
  go_enter Try.func35, Try.ntmps35
  go_wp2
  go_ret
  exact ⟨rfl, rfl⟩
theorem rw_7_7 (w : World) : Calls Try.prog 36 #[.int .i64 7, .int .i64 7] w (AnsB true w) := by
  go_enter Try.func36, Try.ntmps36
  go_wp2
  go_rounds 4
  all_goals go_ret
  all_goals exact ⟨rfl, rfl⟩
theorem within_same (a b : Int) (h0 : 0 ≤ b) (h7 : b ≤ 7) : ∃ t, (∀ w, Calls Try.prog 35 #[.int .i64 a, .int .i64 b] w (AnsB t w)) ∧ ∀ w, Calls Try.prog 36 #[.int .i64 a, .int .i64 b] w (AnsB t w) := by
  by_cases hl : a < 1
  · exact ⟨false, wi_low a b hl, rw_low a b hl⟩
  by_cases hh : 7 < a
  · exact ⟨false, wi_high a b hh, rw_high a b hh⟩
  have ha : a = 1 ∨ a = 2 ∨ a = 3 ∨ a = 4 ∨ a = 5 ∨ a = 6 ∨ a = 7 := by omega
  have hb : b = 0 ∨ b = 1 ∨ b = 2 ∨ b = 3 ∨ b = 4 ∨ b = 5 ∨ b = 6 ∨ b = 7 := by omega
  rcases ha with rfl | rfl | rfl | rfl | rfl | rfl | rfl
  · rcases hb with rfl | rfl | rfl | rfl | rfl | rfl | rfl | rfl
    · exact ⟨false, wi_1_0, rw_1_0⟩
    · exact ⟨true, wi_1_1, rw_1_1⟩
    · exact ⟨false, wi_1_2, rw_1_2⟩
    · exact ⟨true, wi_1_3, rw_1_3⟩
    · exact ⟨false, wi_1_4, rw_1_4⟩
    · exact ⟨true, wi_1_5, rw_1_5⟩
    · exact ⟨false, wi_1_6, rw_1_6⟩
    · exact ⟨true, wi_1_7, rw_1_7⟩
  · rcases hb with rfl | rfl | rfl | rfl | rfl | rfl | rfl | rfl
    · exact ⟨false, wi_2_0, rw_2_0⟩
    · exact ⟨false, wi_2_1, rw_2_1⟩
    · exact ⟨true, wi_2_2, rw_2_2⟩
    · exact ⟨true, wi_2_3, rw_2_3⟩
    · exact ⟨false, wi_2_4, rw_2_4⟩
    · exact ⟨false, wi_2_5, rw_2_5⟩
    · exact ⟨true, wi_2_6, rw_2_6⟩
    · exact ⟨true, wi_2_7, rw_2_7⟩
  · rcases hb with rfl | rfl | rfl | rfl | rfl | rfl | rfl | rfl
    · exact ⟨false, wi_3_0, rw_3_0⟩
    · exact ⟨false, wi_3_1, rw_3_1⟩
    · exact ⟨false, wi_3_2, rw_3_2⟩
    · exact ⟨true, wi_3_3, rw_3_3⟩
    · exact ⟨false, wi_3_4, rw_3_4⟩
    · exact ⟨false, wi_3_5, rw_3_5⟩
    · exact ⟨false, wi_3_6, rw_3_6⟩
    · exact ⟨true, wi_3_7, rw_3_7⟩
  · rcases hb with rfl | rfl | rfl | rfl | rfl | rfl | rfl | rfl
    · exact ⟨false, wi_4_0, rw_4_0⟩
    · exact ⟨false, wi_4_1, rw_4_1⟩
    · exact ⟨false, wi_4_2, rw_4_2⟩
    · exact ⟨false, wi_4_3, rw_4_3⟩
    · exact ⟨true, wi_4_4, rw_4_4⟩
    · exact ⟨true, wi_4_5, rw_4_5⟩
    · exact ⟨true, wi_4_6, rw_4_6⟩
    · exact ⟨true, wi_4_7, rw_4_7⟩
  · rcases hb with rfl | rfl | rfl | rfl | rfl | rfl | rfl | rfl
    · exact ⟨false, wi_5_0, rw_5_0⟩
    · exact ⟨false, wi_5_1, rw_5_1⟩
    · exact ⟨false, wi_5_2, rw_5_2⟩
    · exact ⟨false, wi_5_3, rw_5_3⟩
    · exact ⟨false, wi_5_4, rw_5_4⟩
    · exact ⟨true, wi_5_5, rw_5_5⟩
    · exact ⟨false, wi_5_6, rw_5_6⟩
    · exact ⟨true, wi_5_7, rw_5_7⟩
  · rcases hb with rfl | rfl | rfl | rfl | rfl | rfl | rfl | rfl
    · exact ⟨false, wi_6_0, rw_6_0⟩
    · exact ⟨false, wi_6_1, rw_6_1⟩
    · exact ⟨false, wi_6_2, rw_6_2⟩
    · exact ⟨false, wi_6_3, rw_6_3⟩
    · exact ⟨false, wi_6_4, rw_6_4⟩
    · exact ⟨false, wi_6_5, rw_6_5⟩
    · exact ⟨true, wi_6_6, rw_6_6⟩
    · exact ⟨true, wi_6_7, rw_6_7⟩
  · rcases hb with rfl | rfl | rfl | rfl | rfl | rfl | rfl | rfl
    · exact ⟨false, wi_7_0, rw_7_0⟩
    · exact ⟨false, wi_7_1, rw_7_1⟩
    · exact ⟨false, wi_7_2, rw_7_2⟩
    · exact ⟨false, wi_7_3, rw_7_3⟩
    · exact ⟨false, wi_7_4, rw_7_4⟩
    · exact ⟨false, wi_7_5, rw_7_5⟩
    · exact ⟨false, wi_7_6, rw_7_6⟩
    · exact ⟨true, wi_7_7, rw_7_7⟩
end Go.Proofs.Ytnpalplnpfgibaa
