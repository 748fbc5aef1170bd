/- The contract of the reference's May. -/
import Derived.Test.YtiihemmonncioaaRecQuota
namespace Go.Proofs.Ytiihemmonncioaa
open Go.RowKit
set_option maxRecDepth 100000 in
set_option maxHeartbeats 2000000 in
theorem refMayHead0 (r : Rec) (w : World)  (h : r.kind < 1) : Calls Try.prog 26 #[r.v] w (BoolOk false w) := by
  have d0 : decide (r.kind < 1) = true := by simp; omega
  clear h 
  unfold Rec.v Rec.cells
  go_enter Try.func26, Try.ntmps26
  go_wp2
  go_ret
  exact ⟨rfl, by go_grown⟩
set_option maxRecDepth 100000 in
set_option maxHeartbeats 2000000 in
theorem refMayHead1 (r : Rec) (w : World) (_n0 : ¬ r.kind < 1) (h : 7 < r.kind) : Calls Try.prog 26 #[r.v] w (BoolOk false w) := by
  have d0 : decide (r.kind < 1) = false := by simp; omega
  have d1 : decide (7 < r.kind) = true := by simp; omega
  clear h _n0
  unfold Rec.v Rec.cells
  go_enter Try.func26, Try.ntmps26
  go_wp2
  go_ret
  exact ⟨rfl, by go_grown⟩
set_option maxRecDepth 100000 in
set_option maxHeartbeats 2000000 in
theorem refMayHead2 (r : Rec) (w : World) (n0 : ¬ r.kind < 1) (n1 : ¬ 7 < r.kind) (h : r.bucket < 0) : Calls Try.prog 26 #[r.v] w (BoolOk false w) := by
  have d0 : decide (r.kind < 1) = false := by simp; omega
  have d1 : decide (7 < r.kind) = false := by simp; omega
  have d2 : decide (r.bucket < 0) = true := by simp; omega
  clear h n0 n1
  unfold Rec.v Rec.cells
  go_enter Try.func26, Try.ntmps26
  go_wp2
  go_ret
  exact ⟨rfl, by go_grown⟩
set_option maxRecDepth 100000 in
set_option maxHeartbeats 2000000 in
theorem refMayHead3 (r : Rec) (w : World) (n0 : ¬ r.kind < 1) (n1 : ¬ 7 < r.kind) (_n2 : ¬ r.bucket < 0) (h : 64 ≤ r.bucket) : Calls Try.prog 26 #[r.v] w (BoolOk false w) := by
  have d0 : decide (r.kind < 1) = false := by simp; omega
  have d1 : decide (7 < r.kind) = false := by simp; omega
  have d2 : decide (r.bucket < 0) = false := by simp; omega
  have d3 : decide (63 < r.bucket) = true := by simp; omega
  clear h n0 n1 _n2
  unfold Rec.v Rec.cells
  go_enter Try.func26, Try.ntmps26
  go_wp2
  go_ret
  exact ⟨rfl, by go_grown⟩
set_option maxRecDepth 100000 in
set_option maxHeartbeats 2000000 in
theorem refMayHead4 (r : Rec) (w : World) (n0 : ¬ r.kind < 1) (n1 : ¬ 7 < r.kind) (n2 : ¬ r.bucket < 0) (n3 : ¬ 64 ≤ r.bucket) (h : r.gen = 0) : Calls Try.prog 26 #[r.v] w (BoolOk false w) := by
  have d0 : decide (r.kind < 1) = false := by simp; omega
  have d1 : decide (7 < r.kind) = false := by simp; omega
  have d2 : decide (r.bucket < 0) = false := by simp; omega
  have d3 : decide (63 < r.bucket) = false := by simp; omega
  have d4 : ((r.gen : Int) == 0) = true := by simp; omega
  clear h n0 n1 n2 n3
  unfold Rec.v Rec.cells
  go_enter Try.func26, Try.ntmps26
  go_wp2
  go_ret
  exact ⟨rfl, by go_grown⟩
set_option maxRecDepth 100000 in
set_option maxHeartbeats 2000000 in
theorem refMay3_0 (r : Rec) (w : World) (n2 : ¬ r.bucket < 0) (n3 : ¬ 64 ≤ r.bucket) (n4 : r.gen ≠ 0) (h : r.kind = 3) (hc : r.key.size = 0) : Calls Try.prog 26 #[r.v] w (BoolOk false w) := by
  have d0 : decide (r.bucket < 0) = false := by simp; omega
  have d1 : decide (63 < r.bucket) = false := by simp; omega
  have d2 : ((r.gen : Int) == 0) = false := by simp; omega
  have c0 : decide ((0 : Int) < (r.key.size : Int)) = false := decide_eq_false (by omega)
  have c1 : decide (0 < r.key.size) = false := decide_eq_false (by omega)
  clear n2 n3 n4 hc
  unfold Rec.v Rec.cells
  rw [h]
  go_enter Try.func26, Try.ntmps26
  go_wp2
  go_ret
  exact ⟨rfl, by go_grown⟩
set_option maxRecDepth 100000 in
set_option maxHeartbeats 2000000 in
theorem refMay3_1 (r : Rec) (w : World) (n2 : ¬ r.bucket < 0) (n3 : ¬ 64 ≤ r.bucket) (n4 : r.gen ≠ 0) (h : r.kind = 3) (hc : 64 < r.key.size) : Calls Try.prog 26 #[r.v] w (BoolOk false w) := by
  have d0 : decide (r.bucket < 0) = false := by simp; omega
  have d1 : decide (63 < r.bucket) = false := by simp; omega
  have d2 : ((r.gen : Int) == 0) = false := by simp; omega
  have c0 : decide ((0 : Int) < (r.key.size : Int)) = true := decide_eq_true (by omega)
  have c1 : decide (0 < r.key.size) = true := decide_eq_true (by omega)
  have c2 : decide ((r.key.size : Int) ≤ 64) = false := decide_eq_false (by omega)
  have c3 : decide (r.key.size ≤ 64) = false := decide_eq_false (by omega)
  clear n2 n3 n4 hc
  unfold Rec.v Rec.cells
  rw [h]
  go_enter Try.func26, Try.ntmps26
  go_wp2
  go_ret
  exact ⟨rfl, by go_grown⟩
set_option maxRecDepth 100000 in
set_option maxHeartbeats 2000000 in
theorem refMay3_2 (r : Rec) (w : World) (n2 : ¬ r.bucket < 0) (n3 : ¬ 64 ≤ r.bucket) (n4 : r.gen ≠ 0) (h : r.kind = 3) (hc : 1 ≤ r.key.size ∧ r.key.size ≤ 64 ∧ 1000 < r.val.size) : Calls Try.prog 26 #[r.v] w (BoolOk false w) := by
  have d0 : decide (r.bucket < 0) = false := by simp; omega
  have d1 : decide (63 < r.bucket) = false := by simp; omega
  have d2 : ((r.gen : Int) == 0) = false := by simp; omega
  have c0 : decide ((0 : Int) < (r.key.size : Int)) = true := decide_eq_true (by omega)
  have c1 : decide (0 < r.key.size) = true := decide_eq_true (by omega)
  have c2 : decide ((r.key.size : Int) ≤ 64) = true := decide_eq_true (by omega)
  have c3 : decide (r.key.size ≤ 64) = true := decide_eq_true (by omega)
  have c4 : decide ((r.val.size : Int) ≤ 1000) = false := decide_eq_false (by omega)
  have c5 : decide (r.val.size ≤ 1000) = false := decide_eq_false (by omega)
  clear n2 n3 n4 hc
  unfold Rec.v Rec.cells
  rw [h]
  go_enter Try.func26, Try.ntmps26
  go_wp2
  go_ret
  exact ⟨rfl, by go_grown⟩
set_option maxRecDepth 100000 in
set_option maxHeartbeats 2000000 in
theorem refMay3_3 (r : Rec) (w : World) (n2 : ¬ r.bucket < 0) (n3 : ¬ 64 ≤ r.bucket) (n4 : r.gen ≠ 0) (h : r.kind = 3) (hc : 1 ≤ r.key.size ∧ r.key.size ≤ 64 ∧ r.val.size ≤ 1000) : Calls Try.prog 26 #[r.v] w (BoolOk (decide (r.bare = r)) w) := by
  have d0 : decide (r.bucket < 0) = false := by simp; omega
  have d1 : decide (63 < r.bucket) = false := by simp; omega
  have d2 : ((r.gen : Int) == 0) = false := by simp; omega
  have c0 : decide ((0 : Int) < (r.key.size : Int)) = true := decide_eq_true (by omega)
  have c1 : decide (0 < r.key.size) = true := decide_eq_true (by omega)
  have c2 : decide ((r.key.size : Int) ≤ 64) = true := decide_eq_true (by omega)
  have c3 : decide (r.key.size ≤ 64) = true := decide_eq_true (by omega)
  have c4 : decide ((r.val.size : Int) ≤ 1000) = true := decide_eq_true (by omega)
  have c5 : decide (r.val.size ≤ 1000) = true := decide_eq_true (by omega)
  have hb : r.bare = { Rec.zero with kind := r.kind, bucket := r.bucket, gen := r.gen, key := r.key, val := r.val, version := r.version, expiry := r.expiry } := by unfold Rec.bare; rw [if_neg (by rw [h]; decide), if_pos h]
  have hk : ∀ w, (binOp .eql 61 (.agg #[.int .i64 3, .int .i64 r.bucket, .int .u32 (r.gen : Int), .int .i64 0, .int .i64 0, .int .i64 0, .int .u64 0, .int .u32 0, .int .i64 0, .int .u64 0, .string r.key, .string r.val, .int .u64 (r.version : Int), .int .u64 (r.expiry : Int)]) (.agg #[.int .i64 3, .int .i64 r.bucket, .int .u32 (r.gen : Int), .int .i64 r.qk, .int .i64 r.qb, .int .i64 r.qg, .int .u64 (r.seq : Int), .int .u32 (r.serial : Int), .int .i64 r.rights, .int .u64 (r.secret : Int), .string r.key, .string r.val, .int .u64 (r.version : Int), .int .u64 (r.expiry : Int)])).run Try.prog w = .ok (.bool (decide (r.bare = r))) w := by
    intro w
    have hq := rec_eql w r.bare r
    generalize decide (r.bare = r) = dd at *
    rw [hb] at hq
    unfold Rec.v Rec.cells Rec.zero at hq
    simp only [h] at hq
    exact hq
  clear hb
  generalize decide (r.bare = r) = dd at *
  have HK := Lib.hid hk
  clear hk
  clear n2 n3 n4 hc
  unfold Rec.v Rec.cells
  rw [h]
  go_enter Try.func26, Try.ntmps26
  go_wp2_with (refine wpList_recEq (.tmp 125) (.tmp 126) .eql rfl _ _ _ rfl rfl HK.out rfl ?_)
  go_ret
  exact ⟨rfl, by go_grown⟩
end Go.Proofs.Ytiihemmonncioaa
