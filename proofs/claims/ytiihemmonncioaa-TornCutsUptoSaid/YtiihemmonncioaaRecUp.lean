/- The head of layer 6's statements. -/
import Derived.Test.YtiihemmonncioaaRecGets
import Derived.Test.YtiihemmonncioaaRecSame
import Derived.Test.YtiihemmonncioaaFrameUp
import Derived.Test.YtiihemmonncioaaRefGet
namespace Go.Proofs.Ytiihemmonncioaa
open Go.RowKit
def rec0 : Rec := { Rec.zero with kind := 2, bucket := 3, gen := 1 }
theorem rec0_may : rec0.may = true := by with_unfolding_all decide +kernel
theorem rec0_bytes : rec0.bytes = [2, 3, 1, 0, 0, 0] := by with_unfolding_all decide +kernel
theorem rec0_wf : rec0.wf := by refine ⟨?_, ?_, ?_, ?_, ?_, ?_⟩ <;> decide
theorem rec0_recs : recsL [rec0] = [2, 3, 1, 0, 0, 0] := by
  unfold recsL
  rw [List.flatMap_cons, rec0_bytes]
  rfl
theorem rec0_put : putOk [rec0] = true := putOk_yes (by rw [List.all_cons, rec0_may]; rfl) (by rw [rec0_recs]; decide) (by rw [rec0_recs]; decide)
theorem rec0_cost : rec0.cost = 14 := by
  unfold Rec.cost
  rw [if_pos rec0_may, rec0_bytes]
  rfl
theorem recsOf_nil : recsOf [] = none := by
  refine recsOf_bad (.inl ?_)
  with_unfolding_all decide +kernel
theorem isRecs_new (w : World) (C : Array Value) (r : Rec) (hC : r.cells = C) (fr : Nat × Nat) (g : Nat) (hg : g = w.heap.size) (hwf : r.wf) : IsRecs (w.alloc (.cells C 61 fr)) (some ⟨g, 0, none⟩) [r] := by
  subst hg
  intro i hi
  obtain rfl : i = 0 := by simp at hi; omega
  refine ⟨w.heap.size, 0, rfl, by simp, fun j hj => ?_, hwf⟩
  rw [cell_of_row _ w.heap.size _ C _ fr (heap_alloc_new w _), ← hC]
  simp
set_option maxRecDepth 100000 in
set_option maxHeartbeats 4000000 in
theorem recUp (w : World) : Calls Try.prog 25 #[] w (fun e w' => e = .returned (.bool true) ∧ Below w.heap.size w w' ∧ w.heap.size < w'.heap.size) := by
  have k1 := code_nil_nil
  have k2 := code_eql
  have hc0 : rec0.cells = #[.int .i64 2, .int .i64 3, .int .u32 1, .int .i64 0, .int .i64 0, .int .i64 0, .int .u64 0, .int .u32 0, .int .i64 0, .int .u64 0, .string { data := #[] }, .string { data := #[] }, .int .u64 0, .int .u64 0] := rfl
  have HC0 := Lib.hid hc0
  clear hc0
  have HM := Lib.hid (fun w => recMay rec0 w)
  have HCO := Lib.hid (fun w => recCost rec0 w rec0_wf)
  have HP := Lib.hid (fun (a : Option Addr) (cap : Nat) w (h : IsRecs w a [rec0]) => recPutAll a cap [rec0] w (by decide) h)
  have hsl := rec_sizeC rec0
  unfold Rec.v at HM HCO
  rw [HC0.out] at HM HCO hsl
  have HSL := Lib.hid hsl
  clear hsl
  have HI := Lib.hid (fun w g hg => isRecs_new w _ rec0 HC0.out (0, 0) g hg rec0_wf)
  have HB0 := Lib.hid (fun (C : Array Value) => ((Below.refl w.heap.size w).alloc (Nat.le_refl _) (.cells C 61)).alloc (by simp) (.cells C 61))
  go_enter Try.func25, Try.ntmps25
  go_wp2_with fail
  refine (HP.out _ 1 _ (HI.out _ _ (by simp))).mono ?_
  rintro e W1 ⟨hb1, h | h⟩
  rotate_left
  · rw [rec0_put] at h; exact absurd h.1 (by decide)
  obtain ⟨_, v1, rfl, ho1⟩ := h
  rw [rec0_recs] at ho1
  have hg1 : W1.heap[w.heap.size]? = some (.cells rec0.cells 61 (0, 0)) := by rw [hb1.block _ (by simp; omega), HC0.out]; exact heap_alloc2_old w _ _
  have HB1 := Lib.hid ((HB0.out _).trans (hb1.mono (HB0.out _).size))
  have HS1 := Lib.hid (show w.heap.size < W1.heap.size by have := hb1.size; simp at this; omega)
  obtain ⟨a1, cap1, rfl, _, _⟩ := ho1.out
  have HO1 := Lib.hid ho1
  rw [HC0.out] at hg1
  have HG1 := Lib.hid hg1
  clear ho1 hb1 hg1
  simp only [List.length_cons, List.length_nil, Nat.zero_add, Nat.reduceAdd] at HO1 ⊢
  go_wp2_with fail
  refine (recPutAll none 0 [] _ (by decide) (fun i hi => by simp at hi)).mono ?_
  rintro e W2 ⟨hb2, h | h⟩
  · have : putOk [] = false := by decide
    rw [this] at h; exact absurd h.1 (by decide)
  obtain ⟨_, rfl⟩ := h
  have HO2 := Lib.hid (HO1.out.bel hb2)
  have HB2 := Lib.hid (below_next HB1.out hb2)
  have HS2 := Lib.hid (Nat.lt_of_lt_of_le HS1.out hb2.size)
  have HG2 := Lib.hid (show W2.heap[w.heap.size]? = some (.cells _ 61 (0, 0)) from by rw [hb2.block _ HS1.out]; exact HG1.out)
  clear hb2 HO1 HB1 HG1 HS1
  go_wp2_with fail
  refine (recGets none 0 0 [] _ rfl (by simp) (Reads.nil _)).mono ?_
  rintro e W3 ⟨hb3, h | ⟨L, h, _⟩⟩
  rotate_left
  · rw [recsOf_nil] at h; cases h
  obtain ⟨_, rfl⟩ := h
  have hO3 := HO2.out.bel hb3
  have HB3 := Lib.hid (below_next HB2.out hb3)
  have HS3 := Lib.hid (Nat.lt_of_lt_of_le HS2.out hb3.size)
  have HG3 := Lib.hid (show W3.heap[w.heap.size]? = some (.cells _ 61 (0, 0)) from by rw [hb3.block _ HS2.out]; exact HG2.out)
  have kc := run_string_bytes W3 a1 cap1 [2, 3, 1, 0, 0, 0] hO3.bytesOf
  simp only [List.length_cons, List.length_nil, Nat.zero_add, Nat.reduceAdd] at kc
  clear hb3 hO3 HO2 HB2 HG2 HS2
  go_wp2_with (refine wpList_load_recG (.tmp 1) rfl w.heap.size rfl _ (0, 0) HG3.out HSL.out rfl ?_)
  refine (HCO.out _).mono ?_
  rintro e W4 ⟨rfl, hb4⟩
  rw [rec0_cost]
  have HB4 := Lib.hid (below_next HB3.out hb4)
  have HS4 := Lib.hid (Nat.lt_of_lt_of_le HS3.out hb4.size)
  have HG4 := Lib.hid (show W4.heap[w.heap.size]? = some (.cells _ 61 (0, 0)) from by rw [hb4.block _ HS3.out]; exact HG3.out)
  clear hb4 kc HB3 HG3 HS3
  go_wp2_with (refine wpList_load_recG (.tmp 1) rfl w.heap.size rfl _ (0, 0) HG4.out HSL.out rfl ?_)
  refine (HM.out _).mono ?_
  rintro e W5 ⟨rfl, hb5⟩
  rw [rec0_may]
  have HX := Lib.hid (And.intro (below_next HB4.out hb5) (Nat.lt_of_lt_of_le HS4.out hb5.size))
  clear hb5
  go_wp2_with fail
  go_ret
  exact ⟨rfl, HX.out.1, HX.out.2⟩
end Go.Proofs.Ytiihemmonncioaa
