/- Whether a record may be: plain facts. -/
import Derived.Test.YtiihemmonncioaaRecQuota
namespace Go.Proofs.Ytiihemmonncioaa
open Go.RowKit
theorem may_in (r : Rec) (h1 : ¬ r.kind < 1) (h2 : ¬ 7 < r.kind) (h3 : ¬ r.bucket < 0) (h4 : ¬ 64 ≤ r.bucket) (h5 : r.gen ≠ 0) : r.may = (decide (r.bare = r) &&
    (if r.kind = 1 then quotaB r.qk r.qb r.qg else if r.kind = 3 ∨ r.kind = 4 then decide (0 < r.key.size) && (decide (r.key.size ≤ 64) && decide (r.val.size ≤ 1000)) else if r.kind = 5 then decide (1 ≤ r.rights) && decide (r.rights ≤ 7) else true)) := by
  unfold Rec.may
  by_cases hb : r.bare = r
  · rw [if_neg (by rintro (h | h | h | h | h | h); exact h1 h; exact h2 h; exact h3 h; exact h4 h; exact h5 h; exact h hb.symm), decide_eq_true hb, Bool.true_and]
  · rw [if_pos (.inr (.inr (.inr (.inr (.inr (fun e => hb e.symm)))))), decide_eq_false hb, Bool.false_and]
theorem may_out (r : Rec) (h : r.kind < 1 ∨ 7 < r.kind ∨ r.bucket < 0 ∨ 64 ≤ r.bucket ∨ r.gen = 0) : r.may = false := by
  unfold Rec.may
  rw [if_pos]
  rcases h with h | h | h | h | h
  · exact .inl h
  · exact .inr (.inl h)
  · exact .inr (.inr (.inl h))
  · exact .inr (.inr (.inr (.inl h)))
  · exact .inr (.inr (.inr (.inr (.inl h))))
theorem bare4_val (r : Rec) (h : r.kind = 4) (hb : r.bare = r) : r.val.size ≤ 1000 := by
  have : r.val = ByteArray.empty := by
    rw [← hb]
    unfold Rec.bare
    rw [if_neg (by rw [h]; decide), if_neg (by rw [h]; decide), if_pos h]
    rfl
  rw [this]
  decide
end Go.Proofs.Ytiihemmonncioaa
