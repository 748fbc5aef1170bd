/- Slices of records; what a record costs: contracts. -/
import Derived.Test.YtiihemmonncioaaRecMay
import Derived.Test.YtiihemmonncioaaRefMay
import Derived.Test.YtiihemmonncioaaRefBytes
import Derived.Test.YtiihemmonncioaaFrameGet
namespace Go.Proofs.Ytiihemmonncioaa
open Go.RowKit
/-- The record that lies at an address. -/
def RecAt (w : World) (b o : Nat) (r : Rec) : Prop := ∀ j, j < 14 → w.cell? ⟨b, o + j, none⟩ = r.cells[j]?
/-- The records of a slice, as they lie. -/
def IsRecs (w : World) (a : Option Addr) (l : List Rec) : Prop := ∀ i (h : i < l.length), ∃ b off, a = some ⟨b, off, none⟩ ∧ b < w.heap.size ∧ RecAt w b (off + i * 14) l[i] ∧ l[i].wf
theorem IsRecs.bel {w w' : World} {a : Option Addr} {l : List Rec} (h : IsRecs w a l) (hb : Below w.heap.size w w') : IsRecs w' a l := by
  intro i hi
  obtain ⟨b, off, h1, h2, h3, h4⟩ := h i hi
  exact ⟨b, off, h1, Nat.lt_of_lt_of_le h2 hb.size, fun j hj => by rw [← h3 j hj]; exact hb.cell (p := ⟨b, off + i * 14 + j, none⟩) h2, h4⟩
theorem rec_size : (Try.prog.info? 61).map (·.size) = some 14 := by kernel_rfl
theorem rec_sizeC (r : Rec) : (Try.prog.info? 61).map (·.size) = some r.cells.size := rec_size
theorem run_load_rec (w : World) (b o : Nat) (r : Rec) (h : RecAt w b o r) : (Instr.loadAt 61 (.pointer (some ⟨b, o, none⟩))).run Try.prog w = .ok r.v w := by
  have hl : (loadCells ⟨b, o, none⟩ r.cells.toList.length).run Try.prog w = .ok r.cells.toList.toArray w :=
    run_loadCells_list (P := Try.prog) w ⟨b, o, none⟩ r.cells.toList (fun j v hv => by
      have hadd : (⟨b, o, none⟩ : Addr).add j = ⟨b, o + j, none⟩ := by unfold Addr.add; split <;> simp_all
      have hj : j < 14 := (List.getElem?_eq_some_iff.1 hv).1
      rw [hadd, h j hj]
      simpa using hv)
  have hi := rec_sizeC r
  have hu := Try.underlying61
  cases hq : Try.prog.info? 61 with
  | none => simp [hq] at hi
  | some i =>
    have hs : i.size = r.cells.size := by simpa [hq] using hi
    have hagg : (isAgg 61).run Try.prog w = .ok true w := by
      unfold isAgg
      rw [Sem.run_bind, run_underlying hu w]
      rfl
    simp only [Array.length_toList, Array.toArray_toList] at hl
    simp only [Instr.loadAt, Instr.sureAddr, Sem.run_bind, Sem.run_pure, Result.andThen_ok]
    simp [loadVar, Sem.run_bind, hagg, sizeOf, typeInfo, hq, hs, hl, Rec.v]
/-- What one costs. -/
def Rec.cost (r : Rec) : Nat := if r.may then 8 + r.bytes.length else 0
def CostOk (n : Nat) (w : World) (e : Ending) (w' : World) : Prop := e = .returned (.int .i64 (n : Int)) ∧ Below w.heap.size w w'
set_option maxRecDepth 100000 in
set_option maxHeartbeats 2000000 in
theorem recCost (r : Rec) (w : World) (hwf : r.wf) : Calls Try.prog 29 #[r.v] w (CostOk r.cost w) := by
  have HM := Lib.hid (fun w => recMay r w)
  have HP := Lib.hid (fun B w hB h => recPut B (.slice none 0 0) [] r w (OwnB.nil B w) hB (by simp) h hwf)
  have HSZ := Lib.hid (rec_sizeC r)
  have HLN := Lib.hid (bytes_len r).2
  have hcost : r.cost = if r.may then 8 + r.bytes.length else 0 := rfl
  have HC := Lib.hid hcost
  clear hcost hwf
  unfold Rec.v at HM HP ⊢
  generalize r.cells = C at *
  have hb0 : Below w.heap.size w (w.alloc (.cells C 61)) := (Below.refl _ _).alloc (Nat.le_refl _) _
  have hg0 : (w.alloc (.cells C 61)).heap[w.heap.size]? = some (.cells C 61 (0, 0)) := heap_alloc_new w _
  have HB0 := Lib.hid hb0
  have HG0 := Lib.hid hg0
  clear hb0 hg0
  go_enter Try.func29, Try.ntmps29
  go_wp2_with (refine wpList_load_row rfl 61 (.tmp 1) rfl w.heap.size rfl 61 C (0, 0) _ HG0.out Try.underlying61 rfl HSZ.out ?_)
  refine (HM.out _).mono ?_
  rintro e w1 ⟨rfl, hb1⟩
  have HB1 := Lib.hid (below_next HB0.out hb1)
  have HG1 := Lib.hid (show w1.heap[w.heap.size]? = some (.cells C 61 (0, 0)) from by rw [hb1.block _ (by simp)]; exact HG0.out)
  clear hb1 HG0 HB0
  by_cases hm : r.may = true
  · have hc : r.cost = 8 + r.bytes.length := by rw [HC.out, if_pos hm]
    have HC2 := Lib.hid hc
    have HMM := Lib.hid hm
    rw [hm]
    clear hc HC hm
    go_wp2_with (refine wpList_load_row rfl 61 (.tmp 1) rfl w.heap.size rfl 61 C (0, 0) _ HG1.out Try.underlying61 rfl HSZ.out ?_)
    refine (HP.out w1.heap.size w1 (Nat.le_refl _) HMM.out).mono ?_
    rintro e w2 ⟨v2, rfl, ho, hb2⟩
    obtain ⟨a2, cap2, rfl, _, _⟩ := ho.out
    simp only [List.nil_append]
    have HB2 := Lib.hid (below_next HB1.out hb2)
    clear ho hb2
    generalize r.bytes.length = n at *
    have HFS := Lib.hid (fun w => frameSize n w (by have := HLN.out; omega))
    go_wp2_with fail
    refine (HFS.out _).mono ?_
    rintro e w3 ⟨rfl, rfl⟩
    go_wp2_with fail
    go_ret
    exact ⟨by rw [HC2.out]; rfl, HB2.out⟩
  · have hmf : r.may = false := by simpa using hm
    have hc : r.cost = 0 := by rw [HC.out, if_neg hm]
    have HC2 := Lib.hid hc
    rw [hmf]
    clear hc HC hm hmf
    go_wp2_with fail
    go_ret
    exact ⟨by rw [HC2.out]; rfl, HB1.out⟩
set_option maxRecDepth 100000 in
set_option maxHeartbeats 2000000 in
theorem refCost (r : Rec) (w : World) (hwf : r.wf) (hm : r.may = true) : Calls Try.prog 27 #[r.v] w (CostOk r.cost w) := by
  have HP := Lib.hid (fun B w hB => refBytes B (.slice none 0 0) [] r w (OwnB.nil B w) hB (by simp) hm hwf)
  have HSZ := Lib.hid (rec_sizeC r)
  have HLN := Lib.hid (bytes_len r).2
  have HC2 : Hid (r.cost = 8 + r.bytes.length) := if_pos hm
  clear hwf hm
  unfold Rec.v at HP ⊢
  generalize r.cells = C at *
  have hb0 : Below w.heap.size w (w.alloc (.cells C 61)) := (Below.refl _ _).alloc (Nat.le_refl _) _
  have hg0 : (w.alloc (.cells C 61)).heap[w.heap.size]? = some (.cells C 61 (0, 0)) := heap_alloc_new w _
  have HB0 := Lib.hid hb0
  have HG0 := Lib.hid hg0
  clear hb0 hg0
  go_enter Try.func27, Try.ntmps27
  go_wp2_with (refine wpList_load_row rfl 61 (.tmp 1) rfl w.heap.size rfl 61 C (0, 0) _ HG0.out Try.underlying61 rfl HSZ.out ?_)
  refine (HP.out _ _ (Nat.le_refl _)).mono ?_
  rintro e w2 ⟨v2, rfl, ho, hb2⟩
  obtain ⟨a2, cap2, rfl, _, _⟩ := ho.out
  simp only [List.nil_append]
  have HB2 := Lib.hid (below_next HB0.out hb2)
  clear ho hb2
  generalize r.bytes.length = n at *
  have hw : IntKind.i64.wrap (8 + (n : Int)) = 8 + (n : Int) := by have := HLN.out; rw [IntKind.wrap_i64]; omega
  go_wp2_with fail
  go_ret
  exact ⟨by rw [HC2.out]; rfl, HB2.out⟩
end Go.Proofs.Ytiihemmonncioaa
