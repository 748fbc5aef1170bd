/- All records of bytes, read: plain definitions and laws. -/
import Derived.Test.YtiihemmonncioaaReadPure
import Derived.Test.YtiihemmonncioaaRecAll
namespace Go.Proofs.Ytiihemmonncioaa
open Go.RowKit
theorem rdNum_step (k : Nat) (l : List UInt8) (sh : Bool) (h1 : 1 ≤ k) (h8 : k ≤ 8) (h : (rdNum k l sh).2.2 = false) : sh = false ∧ (rdNum k l sh).2.1.length + k = l.length := by
  unfold rdNum at *
  rw [if_neg (by omega)] at *
  by_cases hs : sh = true ∨ (l.length : Int) < (k : Int)
  · rw [if_pos hs] at h; cases h
  · rw [if_neg hs]
    refine ⟨by cases sh <;> simp_all, ?_⟩
    simp only [Int.toNat_natCast, List.length_drop]
    omega
theorem rdText_step (l : List UInt8) (sh : Bool) (h : (rdText l sh).2.2 = false) : sh = false ∧ (rdText l sh).2.1.length + 2 ≤ l.length := by
  have hk := rdNum_step 2 l sh (by omega) (by omega)
  unfold rdText at *
  by_cases hs : (rdNum 2 l sh).2.2 = true ∨ (rdNum 2 l sh).2.1.length < (rdNum 2 l sh).1
  · simp only [hs, if_true] at h; cases h
  · simp only [hs, if_false, List.length_drop]
    obtain ⟨h1, h2⟩ := hk (by simpa using fun e => hs (.inl e))
    exact ⟨h1, by have : (rdNum 2 l sh).2.1.length + 2 = l.length := h2; omega⟩
theorem step1 {l : List UInt8} {sh : Bool} (h : (rdNum 1 l sh).2.2 = false) : sh = false ∧ (rdNum 1 l sh).2.1.length + 1 = l.length := rdNum_step 1 l sh (by omega) (by omega) h
theorem step4 {l : List UInt8} {sh : Bool} (h : (rdNum 4 l sh).2.2 = false) : sh = false ∧ (rdNum 4 l sh).2.1.length + 4 = l.length := rdNum_step 4 l sh (by omega) (by omega) h
theorem step8 {l : List UInt8} {sh : Bool} (h : (rdNum 8 l sh).2.2 = false) : sh = false ∧ (rdNum 8 l sh).2.1.length + 8 = l.length := rdNum_step 8 l sh (by omega) (by omega) h
theorem readTail_step (x : Rec) (l : List UInt8) (sh : Bool) : (readTail x l sh).2.2 = false → sh = false ∧ (readTail x l sh).2.1.length ≤ l.length := by
  unfold readTail
  split
  · intro h
    obtain ⟨a5, b5⟩ := step4 h
    obtain ⟨a4, b4⟩ := step8 a5
    obtain ⟨a3, b3⟩ := step8 a4
    obtain ⟨a2, b2⟩ := step8 a3
    obtain ⟨a1, b1⟩ := step8 a2
    exact ⟨a1, by simp only; omega⟩
  split
  · intro h
    obtain ⟨a5, b5⟩ := rdText_step _ _ h
    obtain ⟨a4, b4⟩ := rdText_step _ _ a5
    obtain ⟨a2, b2⟩ := step8 a4
    obtain ⟨a1, b1⟩ := step8 a2
    exact ⟨a1, by simp only; omega⟩
  split
  · intro h
    obtain ⟨a5, b5⟩ := rdText_step _ _ h
    obtain ⟨a1, b1⟩ := step8 a5
    exact ⟨a1, by simp only; omega⟩
  split
  · intro h
    obtain ⟨a5, b5⟩ := step8 h
    obtain ⟨a2, b2⟩ := step1 a5
    obtain ⟨a1, b1⟩ := step4 a2
    exact ⟨a1, by simp only; omega⟩
  split
  · intro h
    obtain ⟨a5, b5⟩ := step4 h
    exact ⟨a5, by simp only; omega⟩
  · intro h
    exact ⟨h, Nat.le_refl _⟩
theorem readRec_step (l : List UInt8) (sh : Bool) : (readRec l sh).2.2 = false → sh = false ∧ (readRec l sh).2.1.length + 6 ≤ l.length := by
  unfold readRec
  intro h
  obtain ⟨a5, b5⟩ := readTail_step _ _ _ h
  obtain ⟨a3, b3⟩ := step4 a5
  obtain ⟨a2, b2⟩ := step1 a3
  obtain ⟨a1, b1⟩ := step1 a2
  exact ⟨a1, by show (readTail _ _ _).2.1.length + 6 ≤ l.length; exact Nat.le_trans (Nat.add_le_add_right b5 6) (by omega)⟩
/-- All records of bytes; none: they are none. -/
def readAllF : Nat → List UInt8 → Option (List Rec)
  | 0, _ => none
  | f + 1, l => if (readRec l false).2.2 = true ∨ (readRec l false).1.may = false then none
    else if (readRec l false).2.1.length = 0 then some [(readRec l false).1]
    else (readAllF f (readRec l false).2.1).map ((readRec l false).1 :: ·)
theorem readAllF_fuel : ∀ (f g : Nat) (l : List UInt8), l.length < f → l.length < g → readAllF f l = readAllF g l
  | 0, _, _, h, _ => by omega
  | _, 0, _, _, h => by omega
  | f + 1, g + 1, l, hf, hg => by
    simp only [readAllF]
    by_cases h1 : (readRec l false).2.2 = true ∨ (readRec l false).1.may = false
    · rw [if_pos h1, if_pos h1]
    · rw [if_neg h1, if_neg h1]
      have h2 := (readRec_step l false (by simpa using fun e => h1 (.inl e))).2
      rw [readAllF_fuel f g _ (by omega) (by omega)]
def recsOf (b : List UInt8) : Option (List Rec) := readAllF (b.length + 1) b
theorem recsOf_bad {l : List UInt8} (h : (readRec l false).2.2 = true ∨ (readRec l false).1.may = false) : recsOf l = none := by
  unfold recsOf
  rw [readAllF, if_pos h]
theorem recsOf_last {l : List UInt8} (h : (readRec l false).2.2 = false) (hm : (readRec l false).1.may = true) (h0 : (readRec l false).2.1.length = 0) : recsOf l = some [(readRec l false).1] := by
  unfold recsOf
  rw [readAllF, if_neg (by rw [h, hm]; simp), if_pos h0]
theorem recsOf_more {l : List UInt8} (h : (readRec l false).2.2 = false) (hm : (readRec l false).1.may = true) (h0 : (readRec l false).2.1.length ≠ 0) : recsOf l = (recsOf (readRec l false).2.1).map ((readRec l false).1 :: ·) := by
  have h2 := (readRec_step l false h).2
  unfold recsOf
  rw [readAllF, if_neg (by rw [h, hm]; simp), if_neg h0, readAllF_fuel l.length ((readRec l false).2.1.length + 1) _ (by omega) (by omega)]
theorem recsOf_all : ∀ (n : Nat) (b : List UInt8), b.length ≤ n → ∀ L, recsOf b = some L → (∀ r ∈ L, r.wf ∧ r.may = true) ∧ 6 * L.length ≤ b.length
  | n, b, hn, L, hL => by
    by_cases h1 : (readRec b false).2.2 = true ∨ (readRec b false).1.may = false
    · rw [recsOf_bad h1] at hL; cases hL
    have hs : (readRec b false).2.2 = false := by simpa using fun e => h1 (.inl e)
    have hm : (readRec b false).1.may = true := by simpa using fun e => h1 (.inr e)
    have h2 := (readRec_step b false hs).2
    have hw : (readRec b false).1.wf ∧ (readRec b false).1.may = true := ⟨readRec_wf b false, hm⟩
    by_cases h0 : (readRec b false).2.1.length = 0
    · rw [recsOf_last hs hm h0] at hL
      cases hL
      exact ⟨fun r hr => by rw [List.mem_singleton] at hr; rw [hr]; exact hw, by simp; omega⟩
    · rw [recsOf_more hs hm h0] at hL
      cases hq : recsOf (readRec b false).2.1 with
      | none => rw [hq] at hL; cases hL
      | some L' =>
        rw [hq] at hL
        cases hL
        cases n with
        | zero => omega
        | succ n =>
          obtain ⟨i1, i2⟩ := recsOf_all n _ (by omega) L' hq
          exact ⟨fun r hr => by rcases List.mem_cons.1 hr with e | e; rw [e]; exact hw; exact i1 r e, by simp only [List.length_cons]; omega⟩
attribute [irreducible] recsOf
end Go.Proofs.Ytiihemmonncioaa
