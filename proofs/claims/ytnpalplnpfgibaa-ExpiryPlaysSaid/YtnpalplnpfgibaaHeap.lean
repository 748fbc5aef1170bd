/- Contracts of expiry's heap: New, less, swap. -/
import Derived.Test.YtnpalplnpfgibaaItems
import Derived.Test.YtnpalplnpfgibaaCmp
import Derived.Test.YtnpalplnpfgibaaRegion
import Derived.BigRegion
import Derived.BigQuiet
import Derived.Handy
namespace Go.Proofs.Ytnpalplnpfgibaa
open Go.RowKit
def HNew (w : World) (e : Ending) (w' : World) : Prop := e = .returned (.pointer (some ⟨w.heap.size, 0, none⟩)) ∧ IsHeap w' w.heap.size (.slice none 0 0) [] ∧ Below w.heap.size w w'
theorem heapNew (w : World) : Calls Try.prog 13 #[] w (HNew w) := by
  go_enter Try.func13, Try.ntmps13
  go_wp2
  go_ret
  exact ⟨rfl, ⟨heap_alloc_new w _, OwnT.nil _ _, fun a h => by cases h⟩, (Below.refl _ w).alloc (Nat.le_refl _) _⟩
def HSwap (bh : Nat) (v : Value) (l : List It) (w : World) (e : Ending) (w' : World) : Prop := e = .returned (.tuple #[]) ∧ IsHeap w' bh v l ∧ HGrew bh w w' v v
set_option maxRecDepth 100000 in
set_option maxHeartbeats 2000000 in
theorem heapSwap (bh : Nat) (l : List It) (g cap i j : Nat) (w : World) (h : IsHeap w bh (.slice (some ⟨g, 0, none⟩) l.length cap) l) (hi : i < l.length) (hj : j < l.length) :
    Calls Try.prog 68 #[.pointer (some ⟨bh, 0, none⟩), .int .i64 i, .int .i64 j] w (HSwap bh (.slice (some ⟨g, 0, none⟩) l.length cap) (sw l i j hi hj) w) := by
  have hc := h.cell
  obtain ⟨g', cap', hv, hg1, hg2, hlc, hcm, hcells, hfr⟩ := h.own.get (by omega)
  simp only [Value.slice.injEq, Option.some.injEq, Addr.mk.injEq] at hv
  obtain ⟨⟨rfl, _, _⟩, _, rfl⟩ := hv
  obtain ⟨hi0, hi1⟩ := hcells i hi
  obtain ⟨hj0, hj1⟩ := hcells j hj
  have hfi0 := hfr (i * 2)
  have hfi1 := hfr (i * 2 + 1)
  have hfj0 := hfr (j * 2)
  have hfj1 := hfr (j * 2 + 1)
  have bi : (0 : Int) ≤ (i : Int) := by omega
  have bj : (0 : Int) ≤ (j : Int) := by omega
  have ci : (i : Int) < (l.length : Int) := by omega
  have cj : (j : Int) < (l.length : Int) := by omega
  unfold maxLen at hcm
  have H := Lib.hid h
  obtain ⟨_, k1⟩ := cell?_setCell_some (w := w) (p := ⟨g, i * 2, none⟩) (x := .int .u64 l[j].t) (q := ⟨g, j * 2, none⟩) hj0
  obtain ⟨_, k2⟩ := cell?_setCell_some (w := w) (p := ⟨g, i * 2 + 1, none⟩) (x := .string l[j].k) (q := ⟨g, j * 2 + 1, none⟩) hj1
  obtain ⟨_, k3⟩ := cell?_setCell_some (w := w) (p := ⟨g, j * 2, none⟩) (x := .int .u64 l[i].t) (q := ⟨g, i * 2, none⟩) hi0
  obtain ⟨_, k4⟩ := cell?_setCell_some (w := w) (p := ⟨g, j * 2 + 1, none⟩) (x := .string l[i].k) (q := ⟨g, i * 2 + 1, none⟩) hi1
  obtain ⟨_, k5⟩ := cell?_setCell_some (w := w) (p := ⟨g, i * 2, none⟩) (x := .int .u64 l[j].t) (q := ⟨g, j * 2 + 1, none⟩) hj1
  obtain ⟨_, k6⟩ := cell?_setCell_some (w := w.setCell ⟨g, i * 2, none⟩ (.int .u64 l[j].t)) (p := ⟨g, i * 2 + 1, none⟩) (x := .string l[j].k) (q := ⟨g, j * 2 + 1, none⟩) k5
  obtain ⟨_, k7⟩ := cell?_setCell_some (w := w) (p := ⟨g, j * 2, none⟩) (x := .int .u64 l[i].t) (q := ⟨g, i * 2 + 1, none⟩) hi1
  obtain ⟨_, k8⟩ := cell?_setCell_some (w := w.setCell ⟨g, j * 2, none⟩ (.int .u64 l[i].t)) (p := ⟨g, j * 2 + 1, none⟩) (x := .string l[i].k) (q := ⟨g, i * 2 + 1, none⟩) k7
  clear hcells hfr h k2 k4 k5 k7
  go_enter Try.func68, Try.ntmps68
  go_region
  go_returns
  exact ⟨rfl, H.out.swap i j hi hj⟩
def HLess (a b : It) (w : World) (e : Ending) (w' : World) : Prop := e = .returned (.bool (decide (a.lt b))) ∧ Below w.heap.size w w'
def cmpV (a b : It) : Int := orV (Lib.compareInt a.t b.t) (Lib.compareBytes a.k.data.toList b.k.data.toList)
theorem cmpV_lt (a b : It) : decide (cmpV a b < 0) = decide (a.lt b) := by
  have h1 := compareInt_lt a.t b.t
  have h2 := compareBytes_lt a.k.data.toList b.k.data.toList
  rw [decide_eq_decide]
  unfold cmpV orV It.lt
  by_cases h : Lib.compareInt a.t b.t = 0
  · rw [if_pos h, h2.1]
    have e := h1.2.1 h
    constructor
    · intro hh; exact .inr ⟨e, hh⟩
    · rintro (hh | hh)
      · omega
      · exact hh.2
  · rw [if_neg h, h1.1]
    have e := mt h1.2.2 h
    constructor
    · intro hh; exact .inl hh
    · rintro (hh | hh)
      · exact hh
      · exact absurd hh.1 e
set_option maxRecDepth 100000 in
set_option maxHeartbeats 2000000 in
theorem heapLess (bh : Nat) (l : List It) (g cap i j : Nat) (w : World) (h : IsHeap w bh (.slice (some ⟨g, 0, none⟩) l.length cap) l) (hi : i < l.length) (hj : j < l.length) :
    Calls Try.prog 67 #[.pointer (some ⟨bh, 0, none⟩), .int .i64 i, .int .i64 j] w (HLess l[i] l[j] w) := by
  have hc := h.cell
  obtain ⟨g', cap', hv, hg1, hg2, hlc, hcm, hcells, hfr⟩ := h.own.get (by omega)
  simp only [Value.slice.injEq, Option.some.injEq, Addr.mk.injEq] at hv
  obtain ⟨⟨rfl, _, _⟩, _, rfl⟩ := hv
  obtain ⟨hi0, hi1⟩ := hcells i hi
  obtain ⟨hj0, hj1⟩ := hcells j hj
  have bi : (0 : Int) ≤ (i : Int) := by omega
  have bj : (0 : Int) ≤ (j : Int) := by omega
  have ci : (i : Int) < (l.length : Int) := by omega
  have cj : (j : Int) < (l.length : Int) := by omega
  unfold maxLen at hcm
  have hlt := h.lt
  clear hcells hfr h
  generalize l[i] = x at *
  generalize l[j] = y at *
  go_enter Try.func67, Try.ntmps67
  go_wp2
  go_region
  go_wp2
  · refine Reg.wp_region0 (by kernel_rfl) (by kernel_rfl) ?_
    refine Reg.seg0 1 (by kernel_rfl) rfl ?_
    apply Exists.intro
    refine ⟨fun e => ?_, ?_⟩
    · simp only [List.take_succ_cons, List.take_zero]
      repeat (go_big_quiet_step ((intro _; rfl)))
      refine wpQuiet_nil ?_
      exact rfl
    simp only [List.drop_succ_cons, List.drop_zero, Nat.reduceAdd]
    refine Reg.const0 (.int .u64 x.t) (fun e w1 hR hf => ⟨by rfl, ?_⟩) ?_
    · have hcx := Below.cell hR (p := ⟨w.heap.size, 0, none⟩) (by simp <;> omega)
      unfold Reg.gives
      clear hf
      go_simp
      exact Reg.bel_refl _
    simp only [Act.put, List.setIfInBounds_toArray, List.set_cons_zero, List.set_cons_succ, Nat.reduceAdd]
    refine Reg.seg0 1 (by kernel_rfl) rfl ?_
    apply Exists.intro
    refine ⟨fun e => ?_, ?_⟩
    · simp only [List.take_succ_cons, List.take_zero]
      repeat (go_big_quiet_step ((intro _; rfl)))
      refine wpQuiet_nil ?_
      exact rfl
    simp only [List.drop_succ_cons, List.drop_zero, Nat.reduceAdd]
    refine Reg.const0 (.int .u64 y.t) (fun e w1 hR hf => ⟨by rfl, ?_⟩) ?_
    · have hcx := Below.cell hR (p := ⟨w.heap.size + 1, 0, none⟩) (by simp <;> omega)
      unfold Reg.gives
      clear hf
      go_simp
      exact Reg.bel_refl _
    simp only [Act.put, List.setIfInBounds_toArray, List.set_cons_zero, List.set_cons_succ, Nat.reduceAdd]
    refine Reg.const0 (.int .i64 (Lib.compareInt x.t y.t)) (fun e w1 hR hf => ⟨by rfl, ?_⟩) ?_
    · unfold Reg.gives
      clear hf
      go_simp
      refine (cmpU64 _ _ _).mono ?_
      rintro e w2 ⟨rfl, rfl⟩
      exact ⟨rfl, Reg.bel_refl _⟩
    simp only [Act.put, List.setIfInBounds_toArray, List.set_cons_zero, List.set_cons_succ, Nat.reduceAdd]
    refine Reg.seg0 1 (by kernel_rfl) rfl ?_
    apply Exists.intro
    refine ⟨fun e => ?_, ?_⟩
    · simp only [List.take_succ_cons, List.take_zero]
      repeat (go_big_quiet_step ((intro _; rfl)))
      refine wpQuiet_nil ?_
      exact rfl
    simp only [List.drop_succ_cons, List.drop_zero, Nat.reduceAdd]
    refine Reg.const0 (.string x.k) (fun e w1 hR hf => ⟨by rfl, ?_⟩) ?_
    · have hcx := Below.cell hR (p := ⟨w.heap.size, 1, none⟩) (by simp <;> omega)
      unfold Reg.gives
      clear hf
      go_simp
      exact Reg.bel_refl _
    simp only [Act.put, List.setIfInBounds_toArray, List.set_cons_zero, List.set_cons_succ, Nat.reduceAdd]
    refine Reg.seg0 1 (by kernel_rfl) rfl ?_
    apply Exists.intro
    refine ⟨fun e => ?_, ?_⟩
    · simp only [List.take_succ_cons, List.take_zero]
      repeat (go_big_quiet_step ((intro _; rfl)))
      refine wpQuiet_nil ?_
      exact rfl
    simp only [List.drop_succ_cons, List.drop_zero, Nat.reduceAdd]
    refine Reg.const0 (.string y.k) (fun e w1 hR hf => ⟨by rfl, ?_⟩) ?_
    · have hcx := Below.cell hR (p := ⟨w.heap.size + 1, 1, none⟩) (by simp <;> omega)
      unfold Reg.gives
      clear hf
      go_simp
      exact Reg.bel_refl _
    simp only [Act.put, List.setIfInBounds_toArray, List.set_cons_zero, List.set_cons_succ, Nat.reduceAdd]
    refine Reg.const0 (.int .i64 (Lib.compareBytes x.k.data.toList y.k.data.toList)) (fun e w1 hR hf => ⟨by rfl, ?_⟩) ?_
    · unfold Reg.gives
      clear hf
      go_simp
      refine (cmpStr _ _ _).mono ?_
      rintro e w2 ⟨rfl, rfl⟩
      exact ⟨rfl, Reg.bel_refl _⟩
    simp only [Act.put, List.setIfInBounds_toArray, List.set_cons_zero, List.set_cons_succ, Nat.reduceAdd]
    refine Reg.fact0 (fun v w => ∃ g, v = .slice (some ⟨g, 0, none⟩) 2 2 ∧ g < w.heap.size ∧ w.cell? ⟨g, 0, none⟩ = some (.int .i64 (Lib.compareInt x.t y.t)) ∧ w.cell? ⟨g, 1, none⟩ = some (.int .i64 (Lib.compareBytes x.k.data.toList y.k.data.toList))) ?_ (fun e w1 hR hf => ⟨by rfl, ?_⟩) ?_
    · rintro v w w' ⟨g, rfl, h1, h2, h3⟩ hb
      exact ⟨g, rfl, Nat.lt_of_lt_of_le h1 hb.size, by rw [← h2]; exact Below.cell hb (p := ⟨g, 0, none⟩) h1, by rw [← h3]; exact Below.cell hb (p := ⟨g, 1, none⟩) h1⟩
    · unfold Reg.gives
      clear hf
      go_simp
      exact (Below.refl _ _).alloc (Nat.le_refl _) _
    simp only [Act.put, List.setIfInBounds_toArray, List.set_cons_zero, List.set_cons_succ, Nat.reduceAdd]
    refine Reg.const0 (.int .i64 (cmpV x y)) (fun e w1 hR hf => ⟨by rfl, ?_⟩) ?_
    · obtain ⟨g2, hg2, h1, h2, h3⟩ := Reg.factsAt_here hf (by kernel_rfl)
      unfold Reg.gives
      clear hf
      go_simp
      refine (cmpOr g2 _ _ _ h2 h3).mono ?_
      rintro e w2 ⟨rfl, rfl⟩
      exact ⟨rfl, Reg.bel_refl _⟩
    simp only [Act.put, List.setIfInBounds_toArray, List.set_cons_zero, List.set_cons_succ, Nat.reduceAdd]
    refine Reg.seg0 2 (by kernel_rfl) rfl ?_
    apply Exists.intro
    refine ⟨fun e => ?_, ?_⟩
    · simp only [List.take_succ_cons, List.take_zero]
      repeat (go_big_quiet_step ((intro _; rfl)))
      refine wpQuiet_nil ?_
      exact rfl
    simp only [List.drop_succ_cons, List.drop_zero, Nat.reduceAdd]
    intro e W5 hR hJ hf
    go_wp2
    go_ret
    exact ⟨by rw [← cmpV_lt]; rfl, (((Below.refl _ _).alloc (Nat.le_refl _) _).alloc (by simp) _).drew.drew.trans (Below.mono hR (by simp; omega))⟩
  · refine Reg.wp_region0 (by kernel_rfl) (by kernel_rfl) ?_
    refine Reg.seg0 1 (by kernel_rfl) rfl ?_
    apply Exists.intro
    refine ⟨fun e => ?_, ?_⟩
    · simp only [List.take_succ_cons, List.take_zero]
      repeat (go_big_quiet_step ((intro _; rfl)))
      refine wpQuiet_nil ?_
      exact rfl
    simp only [List.drop_succ_cons, List.drop_zero, Nat.reduceAdd]
    refine Reg.const0 (.int .u64 x.t) (fun e w1 hR hf => ⟨by rfl, ?_⟩) ?_
    · have hcx := Below.cell hR (p := ⟨w.heap.size + 1, 0, none⟩) (by simp <;> omega)
      unfold Reg.gives
      clear hf
      go_simp
      exact Reg.bel_refl _
    simp only [Act.put, List.setIfInBounds_toArray, List.set_cons_zero, List.set_cons_succ, Nat.reduceAdd]
    refine Reg.seg0 1 (by kernel_rfl) rfl ?_
    apply Exists.intro
    refine ⟨fun e => ?_, ?_⟩
    · simp only [List.take_succ_cons, List.take_zero]
      repeat (go_big_quiet_step ((intro _; rfl)))
      refine wpQuiet_nil ?_
      exact rfl
    simp only [List.drop_succ_cons, List.drop_zero, Nat.reduceAdd]
    refine Reg.const0 (.int .u64 y.t) (fun e w1 hR hf => ⟨by rfl, ?_⟩) ?_
    · have hcx := Below.cell hR (p := ⟨w.heap.size, 0, none⟩) (by simp <;> omega)
      unfold Reg.gives
      clear hf
      go_simp
      exact Reg.bel_refl _
    simp only [Act.put, List.setIfInBounds_toArray, List.set_cons_zero, List.set_cons_succ, Nat.reduceAdd]
    refine Reg.const0 (.int .i64 (Lib.compareInt x.t y.t)) (fun e w1 hR hf => ⟨by rfl, ?_⟩) ?_
    · unfold Reg.gives
      clear hf
      go_simp
      refine (cmpU64 _ _ _).mono ?_
      rintro e w2 ⟨rfl, rfl⟩
      exact ⟨rfl, Reg.bel_refl _⟩
    simp only [Act.put, List.setIfInBounds_toArray, List.set_cons_zero, List.set_cons_succ, Nat.reduceAdd]
    refine Reg.seg0 1 (by kernel_rfl) rfl ?_
    apply Exists.intro
    refine ⟨fun e => ?_, ?_⟩
    · simp only [List.take_succ_cons, List.take_zero]
      repeat (go_big_quiet_step ((intro _; rfl)))
      refine wpQuiet_nil ?_
      exact rfl
    simp only [List.drop_succ_cons, List.drop_zero, Nat.reduceAdd]
    refine Reg.const0 (.string x.k) (fun e w1 hR hf => ⟨by rfl, ?_⟩) ?_
    · have hcx := Below.cell hR (p := ⟨w.heap.size + 1, 1, none⟩) (by simp <;> omega)
      unfold Reg.gives
      clear hf
      go_simp
      exact Reg.bel_refl _
    simp only [Act.put, List.setIfInBounds_toArray, List.set_cons_zero, List.set_cons_succ, Nat.reduceAdd]
    refine Reg.seg0 1 (by kernel_rfl) rfl ?_
    apply Exists.intro
    refine ⟨fun e => ?_, ?_⟩
    · simp only [List.take_succ_cons, List.take_zero]
      repeat (go_big_quiet_step ((intro _; rfl)))
      refine wpQuiet_nil ?_
      exact rfl
    simp only [List.drop_succ_cons, List.drop_zero, Nat.reduceAdd]
    refine Reg.const0 (.string y.k) (fun e w1 hR hf => ⟨by rfl, ?_⟩) ?_
    · have hcx := Below.cell hR (p := ⟨w.heap.size, 1, none⟩) (by simp <;> omega)
      unfold Reg.gives
      clear hf
      go_simp
      exact Reg.bel_refl _
    simp only [Act.put, List.setIfInBounds_toArray, List.set_cons_zero, List.set_cons_succ, Nat.reduceAdd]
    refine Reg.const0 (.int .i64 (Lib.compareBytes x.k.data.toList y.k.data.toList)) (fun e w1 hR hf => ⟨by rfl, ?_⟩) ?_
    · unfold Reg.gives
      clear hf
      go_simp
      refine (cmpStr _ _ _).mono ?_
      rintro e w2 ⟨rfl, rfl⟩
      exact ⟨rfl, Reg.bel_refl _⟩
    simp only [Act.put, List.setIfInBounds_toArray, List.set_cons_zero, List.set_cons_succ, Nat.reduceAdd]
    refine Reg.fact0 (fun v w => ∃ g, v = .slice (some ⟨g, 0, none⟩) 2 2 ∧ g < w.heap.size ∧ w.cell? ⟨g, 0, none⟩ = some (.int .i64 (Lib.compareInt x.t y.t)) ∧ w.cell? ⟨g, 1, none⟩ = some (.int .i64 (Lib.compareBytes x.k.data.toList y.k.data.toList))) ?_ (fun e w1 hR hf => ⟨by rfl, ?_⟩) ?_
    · rintro v w w' ⟨g, rfl, h1, h2, h3⟩ hb
      exact ⟨g, rfl, Nat.lt_of_lt_of_le h1 hb.size, by rw [← h2]; exact Below.cell hb (p := ⟨g, 0, none⟩) h1, by rw [← h3]; exact Below.cell hb (p := ⟨g, 1, none⟩) h1⟩
    · unfold Reg.gives
      clear hf
      go_simp
      exact (Below.refl _ _).alloc (Nat.le_refl _) _
    simp only [Act.put, List.setIfInBounds_toArray, List.set_cons_zero, List.set_cons_succ, Nat.reduceAdd]
    refine Reg.const0 (.int .i64 (cmpV x y)) (fun e w1 hR hf => ⟨by rfl, ?_⟩) ?_
    · obtain ⟨g2, hg2, h1, h2, h3⟩ := Reg.factsAt_here hf (by kernel_rfl)
      unfold Reg.gives
      clear hf
      go_simp
      refine (cmpOr g2 _ _ _ h2 h3).mono ?_
      rintro e w2 ⟨rfl, rfl⟩
      exact ⟨rfl, Reg.bel_refl _⟩
    simp only [Act.put, List.setIfInBounds_toArray, List.set_cons_zero, List.set_cons_succ, Nat.reduceAdd]
    refine Reg.seg0 2 (by kernel_rfl) rfl ?_
    apply Exists.intro
    refine ⟨fun e => ?_, ?_⟩
    · simp only [List.take_succ_cons, List.take_zero]
      repeat (go_big_quiet_step ((intro _; rfl)))
      refine wpQuiet_nil ?_
      exact rfl
    simp only [List.drop_succ_cons, List.drop_zero, Nat.reduceAdd]
    intro e W5 hR hJ hf
    go_wp2
    go_ret
    exact ⟨by rw [← cmpV_lt]; rfl, (((Below.refl _ _).alloc (Nat.le_refl _) _).alloc (by simp) _).drew.drew.trans (Below.mono hR (by simp; omega))⟩
end Go.Proofs.Ytnpalplnpfgibaa
