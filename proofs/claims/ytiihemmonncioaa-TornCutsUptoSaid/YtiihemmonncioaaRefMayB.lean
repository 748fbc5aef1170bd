/- The contract of the reference's May. -/
import Derived.Test.YtiihemmonncioaaRecQuota
namespace Go.Proofs.Ytiihemmonncioaa
open Go.RowKit
set_option maxRecDepth 100000 in
set_option maxHeartbeats 2000000 in
theorem refMay4_0 (r : Rec) (w : World) (n2 : ¬ r.bucket < 0) (n3 : ¬ 64 ≤ r.bucket) (n4 : r.gen ≠ 0) (h : r.kind = 4) (hc : r.key.size = 0) : Calls Try.prog 26 #[r.v] w (BoolOk false w) := by
  have d0 : decide (r.bucket < 0) = false := by simp; omega
  have d1 : decide (63 < r.bucket) = false := by simp; omega
  have d2 : ((r.gen : Int) == 0) = false := by simp; omega
  have c0 : decide ((0 : Int) < (r.key.size : Int)) = false := decide_eq_false (by omega)
  have c1 : decide (0 < r.key.size) = false := decide_eq_false (by omega)
  clear n2 n3 n4 hc
  unfold Rec.v Rec.cells
  rw [h]
  go_enter Try.func26, Try.ntmps26
  go_wp2
  go_ret
  exact ⟨rfl, by go_grown⟩
set_option maxRecDepth 100000 in
set_option maxHeartbeats 2000000 in
theorem refMay4_1 (r : Rec) (w : World) (n2 : ¬ r.bucket < 0) (n3 : ¬ 64 ≤ r.bucket) (n4 : r.gen ≠ 0) (h : r.kind = 4) (hc : 64 < r.key.size) : Calls Try.prog 26 #[r.v] w (BoolOk false w) := by
  have d0 : decide (r.bucket < 0) = false := by simp; omega
  have d1 : decide (63 < r.bucket) = false := by simp; omega
  have d2 : ((r.gen : Int) == 0) = false := by simp; omega
  have c0 : decide ((0 : Int) < (r.key.size : Int)) = true := decide_eq_true (by omega)
  have c1 : decide (0 < r.key.size) = true := decide_eq_true (by omega)
  have c2 : decide ((r.key.size : Int) ≤ 64) = false := decide_eq_false (by omega)
  have c3 : decide (r.key.size ≤ 64) = false := decide_eq_false (by omega)
  clear n2 n3 n4 hc
  unfold Rec.v Rec.cells
  rw [h]
  go_enter Try.func26, Try.ntmps26
  go_wp2
  go_ret
  exact ⟨rfl, by go_grown⟩
set_option maxRecDepth 100000 in
set_option maxHeartbeats 2000000 in
theorem refMay4_2 (r : Rec) (w : World) (n2 : ¬ r.bucket < 0) (n3 : ¬ 64 ≤ r.bucket) (n4 : r.gen ≠ 0) (h : r.kind = 4) (hc : 1 ≤ r.key.size ∧ r.key.size ≤ 64) : Calls Try.prog 26 #[r.v] w (BoolOk (decide (r.bare = r)) w) := by
  have d0 : decide (r.bucket < 0) = false := by simp; omega
  have d1 : decide (63 < r.bucket) = false := by simp; omega
  have d2 : ((r.gen : Int) == 0) = false := by simp; omega
  have c0 : decide ((0 : Int) < (r.key.size : Int)) = true := decide_eq_true (by omega)
  have c1 : decide (0 < r.key.size) = true := decide_eq_true (by omega)
  have c2 : decide ((r.key.size : Int) ≤ 64) = true := decide_eq_true (by omega)
  have c3 : decide (r.key.size ≤ 64) = true := decide_eq_true (by omega)
  have hb : r.bare = { Rec.zero with kind := r.kind, bucket := r.bucket, gen := r.gen, key := r.key, version := r.version } := by unfold Rec.bare; rw [if_neg (by rw [h]; decide), if_neg (by rw [h]; decide), if_pos h]
  have hk : ∀ w, (binOp .eql 61 (.agg #[.int .i64 4, .int .i64 r.bucket, .int .u32 (r.gen : Int), .int .i64 0, .int .i64 0, .int .i64 0, .int .u64 0, .int .u32 0, .int .i64 0, .int .u64 0, .string r.key, .string { data := #[] }, .int .u64 (r.version : Int), .int .u64 0]) (.agg #[.int .i64 4, .int .i64 r.bucket, .int .u32 (r.gen : Int), .int .i64 r.qk, .int .i64 r.qb, .int .i64 r.qg, .int .u64 (r.seq : Int), .int .u32 (r.serial : Int), .int .i64 r.rights, .int .u64 (r.secret : Int), .string r.key, .string r.val, .int .u64 (r.version : Int), .int .u64 (r.expiry : Int)])).run Try.prog w = .ok (.bool (decide (r.bare = r))) w := by
    intro w
    have hq := rec_eql w r.bare r
    generalize decide (r.bare = r) = dd at *
    rw [hb] at hq
    unfold Rec.v Rec.cells Rec.zero at hq
    simp only [h] at hq
    exact hq
  clear hb
  generalize decide (r.bare = r) = dd at *
  have HK := Lib.hid hk
  clear hk
  clear n2 n3 n4 hc
  unfold Rec.v Rec.cells
  rw [h]
  go_enter Try.func26, Try.ntmps26
  go_wp2_with (refine wpList_recEq (.tmp 125) (.tmp 126) .eql rfl _ _ _ rfl rfl HK.out rfl ?_)
  go_ret
  exact ⟨rfl, by go_grown⟩
set_option maxRecDepth 100000 in
set_option maxHeartbeats 2000000 in
theorem refMay5_0 (r : Rec) (w : World) (n2 : ¬ r.bucket < 0) (n3 : ¬ 64 ≤ r.bucket) (n4 : r.gen ≠ 0) (h : r.kind = 5) (hc : r.rights < 1) : Calls Try.prog 26 #[r.v] w (BoolOk false w) := by
  have d0 : decide (r.bucket < 0) = false := by simp; omega
  have d1 : decide (63 < r.bucket) = false := by simp; omega
  have d2 : ((r.gen : Int) == 0) = false := by simp; omega
  have c0 : decide (0 < r.rights) = false := decide_eq_false (by omega)
  clear n2 n3 n4 hc
  unfold Rec.v Rec.cells
  rw [h]
  go_enter Try.func26, Try.ntmps26
  go_wp2
  go_ret
  exact ⟨rfl, by go_grown⟩
set_option maxRecDepth 100000 in
set_option maxHeartbeats 2000000 in
theorem refMay5_1 (r : Rec) (w : World) (n2 : ¬ r.bucket < 0) (n3 : ¬ 64 ≤ r.bucket) (n4 : r.gen ≠ 0) (h : r.kind = 5) (hc : 7 < r.rights) : Calls Try.prog 26 #[r.v] w (BoolOk false w) := by
  have d0 : decide (r.bucket < 0) = false := by simp; omega
  have d1 : decide (63 < r.bucket) = false := by simp; omega
  have d2 : ((r.gen : Int) == 0) = false := by simp; omega
  have c0 : decide (0 < r.rights) = true := decide_eq_true (by omega)
  have c1 : decide (r.rights < 8) = false := decide_eq_false (by omega)
  clear n2 n3 n4 hc
  unfold Rec.v Rec.cells
  rw [h]
  go_enter Try.func26, Try.ntmps26
  go_wp2
  go_ret
  exact ⟨rfl, by go_grown⟩
set_option maxRecDepth 100000 in
set_option maxHeartbeats 2000000 in
theorem refMay5_2 (r : Rec) (w : World) (n2 : ¬ r.bucket < 0) (n3 : ¬ 64 ≤ r.bucket) (n4 : r.gen ≠ 0) (h : r.kind = 5) (hc : 1 ≤ r.rights ∧ r.rights ≤ 7) : Calls Try.prog 26 #[r.v] w (BoolOk (decide (r.bare = r)) w) := by
  have d0 : decide (r.bucket < 0) = false := by simp; omega
  have d1 : decide (63 < r.bucket) = false := by simp; omega
  have d2 : ((r.gen : Int) == 0) = false := by simp; omega
  have c0 : decide (0 < r.rights) = true := decide_eq_true (by omega)
  have c1 : decide (r.rights < 8) = true := decide_eq_true (by omega)
  have hb : r.bare = { Rec.zero with kind := r.kind, bucket := r.bucket, gen := r.gen, serial := r.serial, rights := r.rights, secret := r.secret } := by unfold Rec.bare; rw [if_neg (by rw [h]; decide), if_neg (by rw [h]; decide), if_neg (by rw [h]; decide), if_pos h]
  have hk : ∀ w, (binOp .eql 61 (.agg #[.int .i64 5, .int .i64 r.bucket, .int .u32 (r.gen : Int), .int .i64 0, .int .i64 0, .int .i64 0, .int .u64 0, .int .u32 (r.serial : Int), .int .i64 r.rights, .int .u64 (r.secret : Int), .string { data := #[] }, .string { data := #[] }, .int .u64 0, .int .u64 0]) (.agg #[.int .i64 5, .int .i64 r.bucket, .int .u32 (r.gen : Int), .int .i64 r.qk, .int .i64 r.qb, .int .i64 r.qg, .int .u64 (r.seq : Int), .int .u32 (r.serial : Int), .int .i64 r.rights, .int .u64 (r.secret : Int), .string r.key, .string r.val, .int .u64 (r.version : Int), .int .u64 (r.expiry : Int)])).run Try.prog w = .ok (.bool (decide (r.bare = r))) w := by
    intro w
    have hq := rec_eql w r.bare r
    generalize decide (r.bare = r) = dd at *
    rw [hb] at hq
    unfold Rec.v Rec.cells Rec.zero at hq
    simp only [h] at hq
    exact hq
  clear hb
  generalize decide (r.bare = r) = dd at *
  have HK := Lib.hid hk
  clear hk
  clear n2 n3 n4 hc
  unfold Rec.v Rec.cells
  rw [h]
  go_enter Try.func26, Try.ntmps26
  go_wp2_with (refine wpList_recEq (.tmp 125) (.tmp 126) .eql rfl _ _ _ rfl rfl HK.out rfl ?_)
  go_ret
  exact ⟨rfl, by go_grown⟩
end Go.Proofs.Ytiihemmonncioaa
