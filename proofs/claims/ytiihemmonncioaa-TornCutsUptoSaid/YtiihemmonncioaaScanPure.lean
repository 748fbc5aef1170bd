/- The pieces of bytes: plain definitions and laws. -/
import Derived.Test.YtiihemmonncioaaRecLaws
import Derived.Test.YtiihemmonncioaaFramePure
namespace Go.Proofs.Ytiihemmonncioaa
open Go.RowKit
abbrev PieceL := Nat × Nat × List Rec
/-- The pieces of what is left, from a place on; where they end. -/
def scanF : Nat → List UInt8 → Nat → List PieceL × Nat
  | 0, _, at_ => ([], at_)
  | f + 1, l, at_ => if (getL l).2.2 ≠ 0 then ([], at_) else match recsOf (getL l).1 with
    | none => ([], at_)
    | some L => ((at_, (getL l).2.1, L) :: (scanF f (l.drop (getL l).2.1) (at_ + (getL l).2.1)).1, (scanF f (l.drop (getL l).2.1) (at_ + (getL l).2.1)).2)
theorem getL_good {l : List UInt8} (h : (getL l).2.2 = 0) : (getL l).2.1 = 8 + (getL l).1.length ∧ 1 ≤ (getL l).1.length ∧ (getL l).1.length ≤ 20000 ∧ (getL l).2.1 ≤ l.length ∧ ∃ s, l = putL (getL l).1.length 4 ++ (putL s 4 ++ ((getL l).1 ++ l.drop (getL l).2.1)) := by
  obtain ⟨n1, l1, s1, n2, l2, s2, q1, q2, _, _, hc⟩ := getL_steps l
  rcases hc with ⟨_, hg⟩ | ⟨h2, hl2, h8, hn1, hn2, ⟨_, hg⟩ | ⟨_, _, hg⟩ | ⟨_, _, _, hg⟩ | ⟨a1, a2, a3, hg⟩⟩
  · rw [hg] at h; cases h
  · rw [hg] at h; cases h
  · rw [hg] at h; cases h
  · rw [hg] at h; cases h
  · by_cases hs : addN 0 ((l.drop 8).take n1) = n2
    · rw [if_pos hs] at hg
      have hlen : ((l.drop 8).take n1).length = n1 := by simp; omega
      subst h2
      obtain rfl : s1 = false := numS (by omega) (by omega) q2
      have i1 := inv4 q1
      have i2 := inv4 q2
      rw [hg]
      simp only
      rw [hlen]
      refine ⟨rfl, a1, a2, by omega, n2, ?_⟩
      have e : (l.drop 8).take n1 ++ l.drop (8 + n1) = l.drop 8 := by rw [← List.drop_drop, List.take_append_drop]
      rw [e, ← hl2, ← i2, ← i1]
    · rw [if_neg hs] at hg; rw [hg] at h; cases h
theorem scanF_fuel : ∀ (f g : Nat) (l : List UInt8) (a : Nat), l.length < f → l.length < g → scanF f l a = scanF g l a
  | 0, _, _, _, h, _ => by omega
  | _, 0, _, _, _, h => by omega
  | f + 1, g + 1, l, a, hf, hg => by
    simp only [scanF]
    by_cases h1 : (getL l).2.2 ≠ 0
    · rw [if_pos h1, if_pos h1]
    · rw [if_neg h1, if_neg h1]
      obtain ⟨e1, e2, _, e4, _⟩ := getL_good (Classical.byContradiction fun h => h1 h)
      cases recsOf (getL l).1 with
      | none => rfl
      | some L =>
        simp only
        rw [scanF_fuel f g _ _ (by rw [List.length_drop]; omega) (by rw [List.length_drop]; omega)]
/-- The pieces from a place on. -/
def scanAt (b : List UInt8) (at_ : Nat) : List PieceL × Nat := scanF (b.length + 1) (b.drop at_) at_
theorem scanAt_stop {b : List UInt8} {at_ : Nat} (h : (getL (b.drop at_)).2.2 ≠ 0 ∨ recsOf (getL (b.drop at_)).1 = none) : scanAt b at_ = ([], at_) := by
  unfold scanAt
  rw [scanF]
  by_cases h1 : (getL (b.drop at_)).2.2 ≠ 0
  · rw [if_pos h1]
  · rw [if_neg h1]
    rcases h with h | h
    · exact absurd h h1
    · rw [h]
theorem scanAt_more {b : List UInt8} {at_ : Nat} {L : List Rec} (hat : at_ ≤ b.length) (h : (getL (b.drop at_)).2.2 = 0) (hL : recsOf (getL (b.drop at_)).1 = some L) :
    scanAt b at_ = ((at_, (getL (b.drop at_)).2.1, L) :: (scanAt b (at_ + (getL (b.drop at_)).2.1)).1, (scanAt b (at_ + (getL (b.drop at_)).2.1)).2) := by
  obtain ⟨e1, e2, _, e4, _⟩ := getL_good h
  rw [List.length_drop] at e4
  unfold scanAt
  rw [scanF, if_neg (by rw [h]; simp), hL]
  simp only
  rw [List.drop_drop, scanF_fuel b.length (b.length + 1) _ _ (by rw [List.length_drop]; omega) (by rw [List.length_drop]; omega)]
def scanL (b : List UInt8) : List PieceL × Nat := scanAt b 0
attribute [irreducible] scanAt
end Go.Proofs.Ytiihemmonncioaa
