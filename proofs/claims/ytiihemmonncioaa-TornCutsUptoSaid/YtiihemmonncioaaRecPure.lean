/- A record's bytes: plain definitions; what is known of a record that may be. -/
import Derived.Test.YtiihemmonncioaaMayPure
import Derived.Test.YtiihemmonncioaaPackPure
namespace Go.Proofs.Ytiihemmonncioaa
open Go.RowKit
def Rec.wf (r : Rec) : Prop := r.gen < 4294967296 ∧ r.seq < 18446744073709551616 ∧ r.serial < 4294967296 ∧ r.secret < 18446744073709551616 ∧ r.version < 18446744073709551616 ∧ r.expiry < 18446744073709551616
/-- What stands behind the head. -/
def Rec.tailL (r : Rec) : List UInt8 :=
  if r.kind = 1 then putL r.qk.toNat 8 ++ (putL r.qb.toNat 8 ++ (putL r.qg.toNat 8 ++ (putL r.seq 8 ++ putL r.serial 4)))
  else if r.kind = 3 then putL r.version 8 ++ (putL r.expiry 8 ++ (textL r.key.data.toList ++ textL r.val.data.toList))
  else if r.kind = 4 then putL r.version 8 ++ textL r.key.data.toList
  else if r.kind = 5 then putL r.serial 4 ++ (putL r.rights.toNat 1 ++ putL r.secret 8)
  else if r.kind = 6 then putL r.serial 4
  else []
/-- A record's bytes. -/
def Rec.bytes (r : Rec) : List UInt8 := putL r.kind.toNat 1 ++ (putL r.bucket.toNat 1 ++ (putL r.gen 4 ++ r.tailL))
theorem may_kind {r : Rec} (h : r.may = true) : 1 ≤ r.kind ∧ r.kind ≤ 7 ∧ 0 ≤ r.bucket ∧ r.bucket ≤ 63 ∧ r.gen ≠ 0 ∧ r = r.bare := by
  unfold Rec.may at h
  by_cases hh : r.kind < 1 ∨ 7 < r.kind ∨ r.bucket < 0 ∨ 64 ≤ r.bucket ∨ r.gen = 0 ∨ r ≠ r.bare
  · rw [if_pos hh] at h; cases h
  · refine ⟨by omega, by omega, by omega, by omega, fun e => hh (.inr (.inr (.inr (.inr (.inl e))))), Classical.byContradiction fun e => hh (.inr (.inr (.inr (.inr (.inr e)))))⟩
theorem may_rest {r : Rec} (h : r.may = true) : (if r.kind = 1 then quotaB r.qk r.qb r.qg else if r.kind = 3 ∨ r.kind = 4 then decide (0 < r.key.size) && (decide (r.key.size ≤ 64) && decide (r.val.size ≤ 1000)) else if r.kind = 5 then decide (1 ≤ r.rights) && decide (r.rights ≤ 7) else true) = true := by
  unfold Rec.may at h
  by_cases hh : r.kind < 1 ∨ 7 < r.kind ∨ r.bucket < 0 ∨ 64 ≤ r.bucket ∨ r.gen = 0 ∨ r ≠ r.bare
  · rw [if_pos hh] at h; cases h
  · rw [if_neg hh] at h; exact h
theorem may_quota {r : Rec} (h : r.may = true) (k : r.kind = 1) : (0 ≤ r.qk ∧ r.qk ≤ 1099511627776) ∧ (0 ≤ r.qb ∧ r.qb ≤ 1099511627776) ∧ (0 ≤ r.qg ∧ r.qg ≤ 1099511627776) := by
  have := may_rest h
  rw [if_pos k] at this
  unfold quotaB inQ at this
  simp only [Bool.and_eq_true, decide_eq_true_eq] at this
  exact ⟨this.1.1, this.1.2, this.2⟩
theorem may_text {r : Rec} (h : r.may = true) (k : r.kind = 3 ∨ r.kind = 4) : 0 < r.key.size ∧ r.key.size ≤ 64 ∧ r.val.size ≤ 1000 := by
  have := may_rest h
  rw [if_neg (by omega), if_pos k] at this
  simp only [Bool.and_eq_true, decide_eq_true_eq] at this
  exact this
theorem may_rights {r : Rec} (h : r.may = true) (k : r.kind = 5) : 1 ≤ r.rights ∧ r.rights ≤ 7 := by
  have := may_rest h
  rw [if_neg (by omega), if_neg (by omega), if_pos k] at this
  simp only [Bool.and_eq_true, decide_eq_true_eq] at this
  exact this
theorem textL_len (s : List UInt8) : (textL s).length ≤ 65537 := by
  unfold textL
  simp only [List.length_append, putL_length, List.length_take]
  omega
theorem textL_len' (s : List UInt8) (h : s.length ≤ 65535) : (textL s).length = 2 + s.length := by
  unfold textL
  simp only [List.length_append, putL_length, List.length_take]
  omega
/-- A record's bytes are at least six, and few. -/
theorem bytes_len (r : Rec) : 6 ≤ r.bytes.length ∧ r.bytes.length ≤ 140000 := by
  have hk := textL_len r.key.data.toList
  have hv := textL_len r.val.data.toList
  unfold Rec.bytes Rec.tailL
  simp only [List.length_append, putL_length]
  split
  · simp only [List.length_append, putL_length]; omega
  split
  · simp only [List.length_append, putL_length]; omega
  split
  · simp only [List.length_append, putL_length]; omega
  split
  · simp only [List.length_append, putL_length]; omega
  split
  · simp only [putL_length]; omega
  · simp only [List.length_nil]; omega
attribute [irreducible] Rec.tailL Rec.bytes
end Go.Proofs.Ytiihemmonncioaa
