/- The contract of the reference's May. -/
import Derived.Test.YtiihemmonncioaaRecQuota
namespace Go.Proofs.Ytiihemmonncioaa
open Go.RowKit
set_option maxRecDepth 100000 in
set_option maxHeartbeats 2000000 in
theorem refMay6_0 (r : Rec) (w : World) (n2 : ¬ r.bucket < 0) (n3 : ¬ 64 ≤ r.bucket) (n4 : r.gen ≠ 0) (h : r.kind = 6) (_hc : True) : Calls Try.prog 26 #[r.v] w (BoolOk (decide (r.bare = r)) w) := by
  have d0 : decide (r.bucket < 0) = false := by simp; omega
  have d1 : decide (63 < r.bucket) = false := by simp; omega
  have d2 : ((r.gen : Int) == 0) = false := by simp; omega
  have hb : r.bare = { Rec.zero with kind := r.kind, bucket := r.bucket, gen := r.gen, serial := r.serial } := by unfold Rec.bare; rw [if_neg (by rw [h]; decide), if_neg (by rw [h]; decide), if_neg (by rw [h]; decide), if_neg (by rw [h]; decide), if_pos h]
  have hk : ∀ w, (binOp .eql 61 (.agg #[.int .i64 6, .int .i64 r.bucket, .int .u32 (r.gen : Int), .int .i64 0, .int .i64 0, .int .i64 0, .int .u64 0, .int .u32 (r.serial : Int), .int .i64 0, .int .u64 0, .string { data := #[] }, .string { data := #[] }, .int .u64 0, .int .u64 0]) (.agg #[.int .i64 6, .int .i64 r.bucket, .int .u32 (r.gen : Int), .int .i64 r.qk, .int .i64 r.qb, .int .i64 r.qg, .int .u64 (r.seq : Int), .int .u32 (r.serial : Int), .int .i64 r.rights, .int .u64 (r.secret : Int), .string r.key, .string r.val, .int .u64 (r.version : Int), .int .u64 (r.expiry : Int)])).run Try.prog w = .ok (.bool (decide (r.bare = r))) w := by
    intro w
    have hq := rec_eql w r.bare r
    generalize decide (r.bare = r) = dd at *
    rw [hb] at hq
    unfold Rec.v Rec.cells Rec.zero at hq
    simp only [h] at hq
    exact hq
  clear hb
  generalize decide (r.bare = r) = dd at *
  have HK := Lib.hid hk
  clear hk
  clear n2 n3 n4
  unfold Rec.v Rec.cells
  rw [h]
  go_enter Try.func26, Try.ntmps26
  go_wp2_with (refine wpList_recEq (.tmp 125) (.tmp 126) .eql rfl _ _ _ rfl rfl HK.out rfl ?_)
  go_ret
  exact ⟨rfl, by go_grown⟩
set_option maxRecDepth 100000 in
set_option maxHeartbeats 2000000 in
theorem refMay0_0 (r : Rec) (w : World) (n0 : ¬ r.kind < 1) (n1 : ¬ 7 < r.kind) (n2 : ¬ r.bucket < 0) (n3 : ¬ 64 ≤ r.bucket) (n4 : r.gen ≠ 0) (g1 : r.kind ≠ 1) (g3 : r.kind ≠ 3) (g4 : r.kind ≠ 4) (g5 : r.kind ≠ 5) (g6 : r.kind ≠ 6) (_hc : True) : Calls Try.prog 26 #[r.v] w (BoolOk (decide (r.bare = r)) w) := by
  have d10 : decide (r.kind < 1) = false := by simp; omega
  have d11 : decide (7 < r.kind) = false := by simp; omega
  have e1 : (r.kind == 1) = false := by simpa using g1
  have e3 : (r.kind == 3) = false := by simpa using g3
  have e4 : (r.kind == 4) = false := by simpa using g4
  have e5 : (r.kind == 5) = false := by simpa using g5
  have e6 : (r.kind == 6) = false := by simpa using g6
  have d0 : decide (r.bucket < 0) = false := by simp; omega
  have d1 : decide (63 < r.bucket) = false := by simp; omega
  have d2 : ((r.gen : Int) == 0) = false := by simp; omega
  have hb : r.bare = { Rec.zero with kind := r.kind, bucket := r.bucket, gen := r.gen } := by unfold Rec.bare; rw [if_neg g1, if_neg g3, if_neg g4, if_neg g5, if_neg g6]
  have hk : ∀ w, (binOp .eql 61 (.agg #[.int .i64 r.kind, .int .i64 r.bucket, .int .u32 (r.gen : Int), .int .i64 0, .int .i64 0, .int .i64 0, .int .u64 0, .int .u32 0, .int .i64 0, .int .u64 0, .string { data := #[] }, .string { data := #[] }, .int .u64 0, .int .u64 0]) (.agg #[.int .i64 r.kind, .int .i64 r.bucket, .int .u32 (r.gen : Int), .int .i64 r.qk, .int .i64 r.qb, .int .i64 r.qg, .int .u64 (r.seq : Int), .int .u32 (r.serial : Int), .int .i64 r.rights, .int .u64 (r.secret : Int), .string r.key, .string r.val, .int .u64 (r.version : Int), .int .u64 (r.expiry : Int)])).run Try.prog w = .ok (.bool (decide (r.bare = r))) w := by
    intro w
    have hq := rec_eql w r.bare r
    generalize decide (r.bare = r) = dd at *
    rw [hb] at hq
    unfold Rec.v Rec.cells Rec.zero at hq
    exact hq
  clear hb
  generalize decide (r.bare = r) = dd at *
  have HK := Lib.hid hk
  clear hk
  clear g1 g3 g4 g5 g6 n0 n1 n2 n3 n4
  unfold Rec.v Rec.cells
  go_enter Try.func26, Try.ntmps26
  go_wp2_with (refine wpList_recEq (.tmp 125) (.tmp 126) .eql rfl _ _ _ rfl rfl HK.out rfl ?_)
  go_ret
  exact ⟨rfl, by go_grown⟩
end Go.Proofs.Ytiihemmonncioaa
