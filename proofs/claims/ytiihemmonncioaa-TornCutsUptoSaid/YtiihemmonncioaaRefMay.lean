/- The contract of the reference's May. -/
import Derived.Test.YtiihemmonncioaaMayPure
import Derived.Test.YtiihemmonncioaaRefMayA
import Derived.Test.YtiihemmonncioaaRefMayB
import Derived.Test.YtiihemmonncioaaRefMayC
namespace Go.Proofs.Ytiihemmonncioaa
open Go.RowKit
set_option maxRecDepth 100000 in
set_option maxHeartbeats 2000000 in
theorem refMay1 (r : Rec) (w : World) (n2 : ¬ r.bucket < 0) (n3 : ¬ 64 ≤ r.bucket) (n4 : r.gen ≠ 0) (h : r.kind = 1) : Calls Try.prog 26 #[r.v] w (BoolOk (quotaB r.qk r.qb r.qg && decide (r.bare = r)) w) := by
  have d0 : decide (r.bucket < 0) = false := by simp; omega
  have d1 : decide (63 < r.bucket) = false := by simp; omega
  have d2 : ((r.gen : Int) == 0) = false := by simp; omega
  have hb : r.bare = { Rec.zero with kind := r.kind, bucket := r.bucket, gen := r.gen, qk := r.qk, qb := r.qb, qg := r.qg, seq := r.seq, serial := r.serial } := by unfold Rec.bare; rw [if_pos h]
  have hk : ∀ w, (binOp .eql 61 (.agg #[.int .i64 1, .int .i64 r.bucket, .int .u32 (r.gen : Int), .int .i64 r.qk, .int .i64 r.qb, .int .i64 r.qg, .int .u64 (r.seq : Int), .int .u32 (r.serial : Int), .int .i64 0, .int .u64 0, .string { data := #[] }, .string { data := #[] }, .int .u64 0, .int .u64 0]) (.agg #[.int .i64 1, .int .i64 r.bucket, .int .u32 (r.gen : Int), .int .i64 r.qk, .int .i64 r.qb, .int .i64 r.qg, .int .u64 (r.seq : Int), .int .u32 (r.serial : Int), .int .i64 r.rights, .int .u64 (r.secret : Int), .string r.key, .string r.val, .int .u64 (r.version : Int), .int .u64 (r.expiry : Int)])).run Try.prog w = .ok (.bool (decide (r.bare = r))) w := by
    intro w
    have hq := rec_eql w r.bare r
    generalize decide (r.bare = r) = dd at *
    rw [hb] at hq
    unfold Rec.v Rec.cells Rec.zero at hq
    simp only [h] at hq
    exact hq
  clear hb
  generalize decide (r.bare = r) = dd at *
  have HK := Lib.hid hk
  have HQ := Lib.hid (fun w => refQuota r.qk r.qb r.qg w)
  clear hk n2 n3 n4
  unfold QuotaOk quotaV at HQ
  generalize quotaB r.qk r.qb r.qg = qq at *
  unfold Rec.v Rec.cells
  rw [h]
  go_enter Try.func26, Try.ntmps26
  go_wp2_with fail
  refine (HQ.out _).mono ?_
  rintro e w1 ⟨rfl, rfl⟩
  cases qq with
  | false =>
    go_wp2
    go_ret
    exact ⟨rfl, by go_grown⟩
  | true =>
    go_wp2_with (refine wpList_recEq (.tmp 125) (.tmp 126) .eql rfl _ _ _ rfl rfl HK.out rfl ?_)
    go_ret
    exact ⟨rfl, by go_grown⟩
theorem refMay (r : Rec) (w : World) : Calls Try.prog 26 #[r.v] w (BoolOk r.may w) := by
  by_cases h1 : r.kind < 1
  · rw [may_out r (.inl h1)]; exact refMayHead0 r w h1
  by_cases h2 : 7 < r.kind
  · rw [may_out r (.inr (.inl h2))]; exact refMayHead1 r w h1 h2
  by_cases h3 : r.bucket < 0
  · rw [may_out r (.inr (.inr (.inl h3)))]; exact refMayHead2 r w h1 h2 h3
  by_cases h4 : 64 ≤ r.bucket
  · rw [may_out r (.inr (.inr (.inr (.inl h4))))]; exact refMayHead3 r w h1 h2 h3 h4
  by_cases h5 : r.gen = 0
  · rw [may_out r (.inr (.inr (.inr (.inr h5))))]; exact refMayHead4 r w h1 h2 h3 h4 h5
  rw [may_in r h1 h2 h3 h4 h5]
  by_cases k1 : r.kind = 1
  · rw [if_pos k1, Bool.and_comm]; exact refMay1 r w h3 h4 h5 k1
  rw [if_neg k1]
  by_cases k3 : r.kind = 3
  · rw [if_pos (.inl k3)]
    by_cases c0 : r.key.size = 0
    · rw [decide_eq_false (show ¬ 0 < r.key.size by omega), Bool.false_and, Bool.and_false]; exact refMay3_0 r w h3 h4 h5 k3 c0
    by_cases c1 : 64 < r.key.size
    · rw [decide_eq_false (show ¬ r.key.size ≤ 64 by omega), Bool.false_and, Bool.and_false, Bool.and_false]; exact refMay3_1 r w h3 h4 h5 k3 c1
    rw [decide_eq_true (show 0 < r.key.size by omega), decide_eq_true (show r.key.size ≤ 64 by omega), Bool.true_and, Bool.true_and]
    by_cases c2 : 1000 < r.val.size
    · rw [decide_eq_false (show ¬ r.val.size ≤ 1000 by omega), Bool.and_false]; exact refMay3_2 r w h3 h4 h5 k3 ⟨by omega, by omega, c2⟩
    · rw [decide_eq_true (show r.val.size ≤ 1000 by omega), Bool.and_true]; exact refMay3_3 r w h3 h4 h5 k3 ⟨by omega, by omega, by omega⟩
  by_cases k4 : r.kind = 4
  · rw [if_pos (.inr k4)]
    by_cases c0 : r.key.size = 0
    · rw [decide_eq_false (show ¬ 0 < r.key.size by omega), Bool.false_and, Bool.and_false]; exact refMay4_0 r w h3 h4 h5 k4 c0
    by_cases c1 : 64 < r.key.size
    · rw [decide_eq_false (show ¬ r.key.size ≤ 64 by omega), Bool.false_and, Bool.and_false, Bool.and_false]; exact refMay4_1 r w h3 h4 h5 k4 c1
    rw [decide_eq_true (show 0 < r.key.size by omega), decide_eq_true (show r.key.size ≤ 64 by omega), Bool.true_and, Bool.true_and]
    have hv : (decide (r.bare = r) && decide (r.val.size ≤ 1000)) = decide (r.bare = r) := by
      by_cases hb : r.bare = r
      · rw [decide_eq_true (bare4_val r k4 hb), Bool.and_true]
      · rw [decide_eq_false hb, Bool.false_and]
    rw [hv]
    exact refMay4_2 r w h3 h4 h5 k4 ⟨by omega, by omega⟩
  rw [if_neg (by rintro (h | h); exact k3 h; exact k4 h)]
  by_cases k5 : r.kind = 5
  · rw [if_pos k5]
    by_cases c0 : r.rights < 1
    · rw [decide_eq_false (show ¬ 1 ≤ r.rights by omega), Bool.false_and, Bool.and_false]; exact refMay5_0 r w h3 h4 h5 k5 c0
    by_cases c1 : 7 < r.rights
    · rw [decide_eq_false (show ¬ r.rights ≤ 7 by omega), Bool.and_false, Bool.and_false]; exact refMay5_1 r w h3 h4 h5 k5 c1
    rw [decide_eq_true (show 1 ≤ r.rights by omega), decide_eq_true (show r.rights ≤ 7 by omega), Bool.and_true, Bool.and_true]
    exact refMay5_2 r w h3 h4 h5 k5 ⟨by omega, by omega⟩
  rw [if_neg k5, Bool.and_true]
  by_cases k6 : r.kind = 6
  · exact refMay6_0 r w h3 h4 h5 k6 trivial
  exact refMay0_0 r w h1 h2 h3 h4 h5 k1 k3 k4 k5 k6 trivial
end Go.Proofs.Ytiihemmonncioaa
