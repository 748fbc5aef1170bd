/- record.put: the closure that puts a number behind what was put. -/
import Derived.Test.YtiihemmonncioaaRecQuota
import Derived.Test.YtiihemmonncioaaPack
import Derived.Test.YtiihemmonncioaaOne
import Derived.WalkSmall
namespace Go.Proofs.Ytiihemmonncioaa
open Go.RowKit
/-- A box of a slice of bytes that the call owns. -/
def OutB (B bo : Nat) (w : World) (l : List UInt8) : Prop := ∃ v, w.heap[bo]? = some (.cells #[v] 22 (0, 0)) ∧ OwnB B w v l
/-- Rows that are none of bytes stay, but the box. -/
def KeepR (bo : Nat) (w w' : World) : Prop := ∀ b C t fr, b ≠ bo → t ≠ 5 → w.heap[b]? = some (.cells C t fr) → w'.heap[b]? = some (.cells C t fr)
theorem KeepR.refl (bo : Nat) (w : World) : KeepR bo w w := fun _ _ _ _ _ _ h => h
theorem KeepR.trans {bo : Nat} {a b c : World} (h : KeepR bo a b) (k : KeepR bo b c) : KeepR bo a c := fun x C t fr h1 h2 h3 => k x C t fr h1 h2 (h x C t fr h1 h2 h3)
theorem own_row_ne {B : Nat} {w : World} {v : Value} {l : List UInt8} (h : OwnB B w v l) {b : Nat} {C : Array Value} {t : TypeId} {fr : Nat × Nat} (ht : t ≠ 5) (hb : w.heap[b]? = some (.cells C t fr)) : v.ownBlock ≠ some b := by
  intro e
  rcases h.2 with ⟨rfl, _⟩ | ⟨g, cap, cur, rfl, _, hg, _⟩
  · simp [Value.ownBlock] at e
  · simp [Value.ownBlock] at e
    subst e
    rw [hg] at hb
    simp only [Option.some.injEq, Obj.cells.injEq] at hb
    exact ht hb.2.1.symm
theorem keep_row {B : Nat} {w w' : World} {v v' : Value} {l : List UInt8} (h : OwnB B w v l) (hg : Grew w w' v v') {b : Nat} {C : Array Value} {t : TypeId} {fr : Nat × Nat} (ht : t ≠ 5) (hb : w.heap[b]? = some (.cells C t fr)) : w'.heap[b]? = some (.cells C t fr) := by
  rw [hg.1.block b (Array.getElem?_eq_some_iff.1 hb).1 (fun e => own_row_ne h ht hb e.symm)]
  exact hb
theorem own_setCell {B bo : Nat} {w : World} {v u : Value} {l : List UInt8} (h : OwnB B w v l) {C : Array Value} {t : TypeId} {fr : Nat × Nat} (ht : t ≠ 5) (hb : w.heap[bo]? = some (.cells C t fr)) (i : Nat) : OwnB B (w.setCell ⟨bo, i, none⟩ u) v l := by
  have hne := own_row_ne h ht hb
  refine ⟨h.1, ?_⟩
  rcases h.2 with h2 | ⟨g, cap, cur, rfl, hbg, hg, hr⟩
  · exact .inl h2
  · refine .inr ⟨g, cap, cur, rfl, hbg, ?_, hr⟩
    rw [heap_setCell_other w ⟨bo, i, none⟩ g u (fun e => hne (by simp [Value.ownBlock, e]))]
    exact hg
theorem outB_set {B bo : Nat} {w : World} {v u : Value} {l : List UInt8} (hb : w.heap[bo]? = some (.cells #[u] 22 (0, 0))) (h : OwnB B w v l) : OutB B bo (w.setCell ⟨bo, 0, none⟩ v) l :=
  ⟨v, by rw [heap_setCell_same w bo 0 _ _ _ hb]; rfl, own_setCell h (by decide) hb 0⟩
theorem keepR_set (bo : Nat) (w : World) (u : Value) : KeepR bo w (w.setCell ⟨bo, 0, none⟩ u) := fun b C t fr h1 _ h3 => by
  rw [heap_setCell_other w ⟨bo, 0, none⟩ b u h1]
  exact h3
def NumPutOk (B bo : Nat) (l : List UInt8) (w : World) (e : Ending) (w' : World) : Prop := e = .returned (.tuple #[]) ∧ OutB B bo w' l ∧ Below B w w' ∧ KeepR bo w w'
set_option maxHeartbeats 1000000 in
theorem numPut (B bo : Nat) (l : List UInt8) (n k : Nat) (w : World) (h : OutB B bo w l) (hB : B ≤ w.heap.size) (hbo : B ≤ bo) (hl : l.length ≤ 100000000000) (hn : n < 18446744073709551616) (hk1 : 1 ≤ k) (hk8 : k ≤ 8) :
    Calls Try.prog 58 #[.int .u64 n, .int .i64 k, .pointer (some ⟨bo, 0, none⟩)] w (NumPutOk B bo (l ++ putL n k) w) := by
  obtain ⟨v, hg, ho⟩ := h
  have hc0 := cell_of_row w bo 0 _ _ _ hg
  simp at hc0
  have HG := Lib.hid hg
  have HO := Lib.hid ho
  have HN := Lib.hid (And.intro hn (And.intro hB hbo))
  clear hg ho hn hB hbo
  go_enter Try.func58, Try.ntmps58
  go_wp2_with fail
  refine (packPut B v l n k _ HO.out HN.out.2.1 hl HN.out.1 hk1 hk8).mono ?_
  rintro e w1 ⟨v1, rfl, ho1, hg1⟩
  obtain ⟨a1, cap1, rfl, _, _⟩ := ho1.out
  generalize (l ++ putL n k).length = m at *
  have hrow := keep_row HO.out hg1 (by decide) HG.out
  have hc1 := cell_of_row w1 bo 0 _ _ _ hrow
  have hf1 := frozen_of_row w1 bo 0 _ _ hrow
  simp at hc1
  have HX := Lib.hid (show OutB B bo (w1.setCell ⟨bo, 0, none⟩ (.slice a1 m cap1)) (l ++ putL n k) ∧ Below B w (w1.setCell ⟨bo, 0, none⟩ (.slice a1 m cap1)) ∧ KeepR bo w (w1.setCell ⟨bo, 0, none⟩ (.slice a1 m cap1)) from
    ⟨outB_set hrow ho1, (below_of_grown HO.out HN.out.2.1 hg1).setCell HN.out.2.2 _, KeepR.trans (fun b C t fr _ h2 h3 => keep_row HO.out hg1 h2 h3) (keepR_set bo w1 _)⟩)
  clear hrow ho1 hg1 hc0
  go_wp2
  go_end0
  exact ⟨rfl, HX.out.1, HX.out.2.1, HX.out.2.2⟩
end Go.Proofs.Ytiihemmonncioaa
