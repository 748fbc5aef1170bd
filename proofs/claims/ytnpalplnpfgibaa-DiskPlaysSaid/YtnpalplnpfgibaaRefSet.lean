/- Stores into one field of an element of a row; the reference's disk, one of its files turned. -/
import Derived.Test.YtnpalplnpfgibaaRefDisk
import Derived.Test.YtnpalplnpfgibaaAppNew
import Derived.Test.YtnpalplnpfgibaaPutReg
namespace Go.Proofs.Ytnpalplnpfgibaa
open Go.RowKit
section
variable {α : Type} {C : α → List Value} {sz : Nat} {E : TypeId}
theorem flat_set (hC : ∀ q, (C q).length = sz) : ∀ (l : List α) (i : Nat) (hi : i < l.length) (j : Nat) (_ : j < sz) (q' : α) (x : Value) (_ : C q' = (C l[i]).set j x), (l.set i q').flatMap C = (l.flatMap C).set (i * sz + j) x
  | r :: l, 0, _, j, hj, q', x, hq => by
    rw [List.set_cons_zero, List.flatMap_cons, List.flatMap_cons, List.set_append_left _ _ (by rw [hC]; omega), Nat.zero_mul, Nat.zero_add, hq]
    rfl
  | r :: l, i + 1, hi, j, hj, q', x, hq => by
    have ih := flat_set hC l i (by simpa using hi) j hj q' x hq
    rw [List.set_cons_succ, List.flatMap_cons, List.flatMap_cons, List.set_append_right _ _ (by rw [hC, Nat.add_mul]; omega), hC, ih]
    congr 2
    rw [Nat.add_mul]
    omega
theorem OwnOf.setAt {B g cap : Nat} {w : World} {n : Nat} {l : List α} (hC : ∀ q, (C q).length = sz) (h : OwnOf E C sz B w (.slice (some ⟨g, 0, none⟩) n cap) l) (i : Nat) (hi : i < l.length) (j : Nat) (hj : j < sz) (q' : α) (x : Value) (hq : C q' = (C l[i]).set j x) :
    OwnOf E C sz B (w.setCell ⟨g, i * sz + j, none⟩ x) (.slice (some ⟨g, 0, none⟩) n cap) (l.set i q') := by
  rcases h.2 with ⟨h1, h0⟩ | ⟨g', cap', cur, hv, hbg, hg, hnc, hcm, hcs, htake⟩
  · cases h1
  · simp only [Value.slice.injEq, Option.some.injEq, Addr.mk.injEq] at hv
    obtain ⟨⟨rfl, _, _⟩, hn, rfl⟩ := hv
    have s1 := heap_setCell_same w g (i * sz + j) cur _ x hg
    refine ⟨by rw [ofC_len hC], .inr ⟨g, cap, _, by rw [List.length_set, hn], hbg, s1, by rw [List.length_set]; exact hnc, hcm, by simpa using hcs, ?_⟩⟩
    rw [flat_set hC l i hi j hj q' x hq, ← htake]
    simp only [Array.toList_setIfInBounds, List.length_set]
    rw [List.take_set]
theorem OwnOf.fr {B g cap : Nat} {w : World} {n : Nat} {l : List α} (h : OwnOf E C sz B w (.slice (some ⟨g, 0, none⟩) n cap) l) : ∀ i, w.frozen? ⟨g, i, none⟩ = false := by
  rcases h.2 with ⟨h1, h0⟩ | ⟨g', cap', cur, hv, hbg, hg, hnc, hcm, hcs, htake⟩
  · cases h1
  · simp only [Value.slice.injEq, Option.some.injEq, Addr.mk.injEq] at hv
    obtain ⟨⟨rfl, _, _⟩, _, rfl⟩ := hv
    exact fun i => frozen_of_row w g i cur _ hg
/-- A row that has an element lies in a block of its own. -/
theorem OwnOf.get1 {B : Nat} {w : World} {v : Value} {l : List α} (h : OwnOf E C sz B w v l) (hl : 0 < l.length) : ∃ g cap, v = .slice (some ⟨g, 0, none⟩) l.length cap ∧ B ≤ g ∧ g < w.heap.size ∧ l.length ≤ cap ∧ cap ≤ maxLen := by
  rcases h.2 with ⟨rfl, h0⟩ | ⟨g, cap, cur, rfl, hbg, hg, hnc, hcm, hcs, htake⟩
  · omega
  · exact ⟨g, cap, rfl, hbg, (Array.getElem?_eq_some_iff.1 hg).1, hnc, hcm⟩
theorem OwnOf.at_ {B g cap n : Nat} {w : World} {l : List α} (hC : ∀ q, (C q).length = sz) (h : OwnOf E C sz B w (.slice (some ⟨g, 0, none⟩) n cap) l) (i : Nat) (hi : i < l.length) (j : Nat) (hj : j < sz) : w.cell? ⟨g, i * sz + j, none⟩ = (C l[i])[j]? := by
  obtain ⟨a, cap', hv, hr, _⟩ := h.rowOf (W := fun _ => True) hC (fun _ _ => trivial)
  simp only [Value.slice.injEq] at hv
  obtain ⟨rfl, _, _⟩ := hv
  obtain ⟨b, off, h1, _, h3, _⟩ := hr i hi
  simp only [Option.some.injEq, Addr.mk.injEq] at h1
  obtain ⟨rfl, rfl, _⟩ := h1
  simpa using h3 j hj
end
/-- What may be written while one element of the row in block g turns. -/
def RStep (g : Nat) (B : Nat) (w w' : World) : Prop := w'.os = w.os ∧ w'.tape = w.tape ∧ w'.output = w.output ∧ w.heap.size ≤ w'.heap.size ∧ ∀ k, k < B → k ≠ g → w'.heap[k]? = w.heap[k]?
theorem RStep.refl (g B : Nat) (w : World) : RStep g B w w := ⟨rfl, rfl, rfl, Nat.le_refl _, fun _ _ _ => rfl⟩
theorem RStep.trans {g B : Nat} {w w1 w2 : World} (h : RStep g B w w1) (k : RStep g B w1 w2) : RStep g B w w2 :=
  ⟨k.1.trans h.1, k.2.1.trans h.2.1, k.2.2.1.trans h.2.2.1, Nat.le_trans h.2.2.2.1 k.2.2.2.1, fun i hi hn => (k.2.2.2.2 i hi hn).trans (h.2.2.2.2 i hi hn)⟩
theorem RStep.of_below {g B : Nat} {w w' : World} (h : Below B w w') : RStep g B w w' := ⟨h.os, h.tape, h.output, h.size, fun k hk _ => h.block k hk⟩
theorem putB {w w1 : World} {bx g n cap : Nat} {st : DSt} {l : List RF} (h : IsRD w bx st (.slice (some ⟨g, 0, none⟩) n cap) l) (hb : Below w.heap.size w w1) (i : Nat) (hi : i < l.length) (a' : Option Addr) (cap' : Nat) (b' : List UInt8)
    (hby : IsBytes w1 a' b') (h1 : b'.length ≤ cap') (h2 : cap' ≤ maxLen) (hfr : ∀ b off, a' = some ⟨b, off, none⟩ → 0 < b'.length → w.heap.size ≤ b) :
    IsRD (w1.setCell ⟨g, i * 3 + 1, none⟩ (.slice a' b'.length cap')) bx st (.slice (some ⟨g, 0, none⟩) n cap) (l.set i { l[i] with ba := a', bcap := cap', b := b' }) ∧
    RGrew bx w (w1.setCell ⟨g, i * 3 + 1, none⟩ (.slice a' b'.length cap')) (.slice (some ⟨g, 0, none⟩) n cap) (.slice (some ⟨g, 0, none⟩) n cap) l (l.set i { l[i] with ba := a', bcap := cap', b := b' }) := by
  have h' := h.bel hb
  have hg := h.own.block g rfl
  have hbx : bx ≠ g := by omega
  have oth : ∀ k, k ≠ g → (w1.setCell ⟨g, i * 3 + 1, none⟩ (.slice a' b'.length cap')).heap[k]? = w1.heap[k]? := fun k hk => Below.heap_setCell _ _ _ _ hk
  have hz : (w1.setCell ⟨g, i * 3 + 1, none⟩ (.slice a' b'.length cap')).heap.size = w1.heap.size := by simp [World.setCell]
  refine ⟨⟨(oth bx hbx).trans h'.box, h'.own.setAt (C := rfCells) (sz := 3) (fun _ => rfl) i hi 1 (by omega) _ _ rfl, fun q hq => ?_⟩, ⟨hb.os, hb.tape, hb.output, by rw [hz]; exact hb.size, fun k hk hn => ?_, fun k hk => ?_⟩⟩
  · rcases List.mem_or_eq_of_mem_set hq with hq | rfl
    · have hq' := h'.file q hq
      exact hq'.kept (by rw [hz]; exact Nat.le_refl _) fun b off e h0 => oth b (fun e' => (hq'.lo b off e h0).2 (by rw [e']; rfl))
    · have hq' := h'.file l[i] (List.getElem_mem hi)
      refine ⟨hby.kept (by rw [hz]; exact Nat.le_refl _) fun b off e h0 => oth b (fun e' => ?_), h1, h2, hq'.nm, fun b off e h0 => ?_⟩
      · have := hfr b off e h0; omega
      · have := hfr b off e h0
        exact ⟨by omega, fun e' => by simp [Value.ownBlock] at e'; omega⟩
  · rw [oth k (fun e => hn (.inr (.inl (by rw [e]; rfl)))), hb.block k hk]
  · rcases hk with hk | hk | ⟨q, hq, h0, off, e⟩
    · exact .inl (.inl hk)
    · exact .inl (.inr (.inl hk))
    · rcases List.mem_or_eq_of_mem_set hq with hq | rfl
      · exact .inl (.inr (.inr ⟨q, hq, h0, off, e⟩))
      · exact .inr (hfr k off e h0)
theorem putS {w : World} {bx g n cap : Nat} {st : DSt} {l : List RF} (h : IsRD w bx st (.slice (some ⟨g, 0, none⟩) n cap) l) (i : Nat) (hi : i < l.length) (s' : Nat) (x : Int) (hx : x = (s' : Int)) :
    IsRD (w.setCell ⟨g, i * 3 + 2, none⟩ (.int .i64 x)) bx st (.slice (some ⟨g, 0, none⟩) n cap) (l.set i { l[i] with s := s' }) ∧
    RGrew bx w (w.setCell ⟨g, i * 3 + 2, none⟩ (.int .i64 x)) (.slice (some ⟨g, 0, none⟩) n cap) (.slice (some ⟨g, 0, none⟩) n cap) l (l.set i { l[i] with s := s' }) := by
  subst hx
  have hg := h.own.block g rfl
  have hbx : bx ≠ g := by omega
  have oth : ∀ k, k ≠ g → (w.setCell ⟨g, i * 3 + 2, none⟩ (.int .i64 (s' : Int))).heap[k]? = w.heap[k]? := fun k hk => Below.heap_setCell _ _ _ _ hk
  have hz : (w.setCell ⟨g, i * 3 + 2, none⟩ (.int .i64 (s' : Int))).heap.size = w.heap.size := by simp [World.setCell]
  have kept : ∀ q ∈ l, RFok (w.setCell ⟨g, i * 3 + 2, none⟩ (.int .i64 (s' : Int))) bx (.slice (some ⟨g, 0, none⟩) n cap) q := fun q hq => by
    have hq' := h.file q hq
    exact hq'.kept (by rw [hz]; exact Nat.le_refl _) fun b off e h0 => oth b (fun e' => (hq'.lo b off e h0).2 (by rw [e']; rfl))
  refine ⟨⟨(oth bx hbx).trans h.box, h.own.setAt (C := rfCells) (sz := 3) (fun _ => rfl) i hi 2 (by omega) _ _ rfl, fun q hq => ?_⟩, ⟨rfl, rfl, rfl, by rw [hz]; exact Nat.le_refl _, fun k hk hn => oth k (fun e => hn (.inr (.inl (by rw [e]; rfl)))), fun k hk => ?_⟩⟩
  · rcases List.mem_or_eq_of_mem_set hq with hq | rfl
    · exact kept q hq
    · have hq' := kept l[i] (List.getElem_mem hi)
      exact ⟨hq'.bytes, hq'.cap, hq'.capm, hq'.nm, hq'.lo⟩
  · rcases hk with hk | hk | ⟨q, hq, h0, off, e⟩
    · exact .inl (.inl hk)
    · exact .inl (.inr (.inl hk))
    · rcases List.mem_or_eq_of_mem_set hq with hq | rfl
      · exact .inl (.inr (.inr ⟨q, hq, h0, off, e⟩))
      · exact .inl (.inr (.inr ⟨l[i], List.getElem_mem hi, h0, off, e⟩))
end Go.Proofs.Ytnpalplnpfgibaa
