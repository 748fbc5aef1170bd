/- Contracts of expiry's Items, of the laws' ordered and pick (layer 10). -/
import Derived.Test.YtnpalplnpfgibaaHeapUse
import Derived.Test.YtnpalplnpfgibaaRefPush
import Derived.Lib.LazyBuf
namespace Go.Proofs.Ytnpalplnpfgibaa
open Go.RowKit
theorem it_info : (Try.prog.info? 30).map (fun i => (i.zero, i.size, i.bytes)) = some (some (.agg #[.int .u64 0, .string ByteArray.empty]), 2, 24) := by kernel_rfl
def ItsOk (l : List It) (w : World) (e : Ending) (w' : World) : Prop := ∃ ov, e = .returned ov ∧ OwnOf 30 itCells 2 w.heap.size w' ov l ∧ Below w.heap.size w w'
set_option maxRecDepth 100000 in
set_option maxHeartbeats 2000000 in
theorem itsCloneNil (w : World) : Calls Try.prog 71 #[.slice none 0 0] w (ItsOk [] w) := by
  have hq := Lib.run_eql_slice_nil (P := Try.prog)
  go_enter Try.func71, Try.ntmps71
  go_wp2
  go_ret
  exact ⟨_, rfl, OwnOf.nil _ _, Below.refl _ _⟩
set_option maxRecDepth 100000 in
set_option maxHeartbeats 2000000 in
theorem itsClone (g cap : Nat) (l : List It) (w : World) (hr : IsRowOf itCells It.wf 2 w (some ⟨g, 0, none⟩) l) (hl : l.length ≤ 1000000) : Calls Try.prog 71 #[.slice (some ⟨g, 0, none⟩) l.length cap] w (ItsOk l w) := by
  have HR := Lib.hid hr
  have HI := Lib.hid it_info
  have hq := Lib.run_eql_slice_nil (P := Try.prog)
  clear hr
  go_enter Try.func71, Try.ntmps71
  have hb := (Below.refl w.heap.size w).alloc (Nat.le_refl _) (.cells #[] 30)
  have HB := Lib.hid hb
  clear hb
  go_wp2_with (at_builtin; refine wpList_append_of Try.underlying22 HI.out rfl (by omega) rfl (.tmp 5) (.tmp 6) rfl w.heap.size _ ([] : List It) rfl (OwnOf.emptyAt w.heap.size _ _ (by simp) (by simp)) _ l rfl (src_rowOf' (C := itCells) (E := 30) Try.underlying22 (fun _ => rfl) it_one (by omega) _ cap rfl (HR.out.bel HB.out)) (by simp) (by simp; omega) ?_)
  intro ov W1 ho hg
  have HF := Lib.hid (show ItsOk l w (.returned ov) W1 from ⟨ov, rfl, by simpa using ho, HB.out.trans (Grew.bel (OwnOf.emptyAt (C := itCells) (sz := 2) w.heap.size w _ rfl (Nat.le_refl _)) (by simp) hg)⟩)
  clear ho hg
  go_wp2
  go_ret
  exact HF.out
def ItemsOk (bh : Nat) (v : Value) (m : List It) (w : World) (e : Ending) (w' : World) : Prop := ∃ ov l, e = .returned ov ∧ OwnOf 30 itCells 2 w.heap.size w' ov l ∧ HeapL l ∧ l.length = m.length ∧ HasIt w' bh v m ∧ Below w.heap.size w w'
set_option maxRecDepth 100000 in
set_option maxHeartbeats 2000000 in
theorem hasItems (bh : Nat) (v : Value) (m : List It) (w : World) (h : HasIt w bh v m) (hl : m.length ≤ 1000000) : Calls Try.prog 19 #[.pointer (some ⟨bh, 0, none⟩)] w (ItemsOk bh v m w) := by
  have H := Lib.hid h
  obtain ⟨l, h1, h2⟩ := h
  have hc := h1.cell
  have HL := Lib.hid h2.len
  have HH := Lib.hid h2.heap
  obtain ⟨a, cap, rfl, hrow, _, _, hsh⟩ := OwnOf.rowOf (C := itCells) (W := It.wf) (fun _ => rfl) h1.wf (show OwnOf 30 itCells 2 (bh + 1) w v l from h1.own)
  have HR := Lib.hid hrow
  clear h2 hrow
  have fin : ∀ e w', ItsOk l w e w' → ItemsOk bh (.slice a l.length cap) m w e w' := by
    rintro e w' ⟨ov, rfl, ho, hb⟩
    exact ⟨ov, l, rfl, ho, HH.out, HL.out.symm, H.out.bel hb, hb⟩
  have FIN := Lib.hid fin
  clear fin
  cases a with
  | none =>
    rcases h1.own.2 with ⟨h3, h4⟩ | ⟨g', cap', cur, hv, _⟩
    · simp only [Value.slice.injEq] at h3
      obtain ⟨_, _, rfl⟩ := h3
      obtain rfl : l = [] := List.eq_nil_of_length_eq_zero h4
      simp only [List.length_nil] at hc FIN ⊢
      clear h4 h1 hsh
      go_enter Try.func19, Try.ntmps19
      go_wp2_with fail
      refine (itsCloneNil _).mono ?_
      intro e W1 hq
      have hfin := FIN.out _ _ hq
      obtain ⟨ov, rfl, _⟩ := hq
      have HF := Lib.hid hfin
      clear hfin
      go_wp2
      go_ret
      exact HF.out
    · cases hv
  | some p =>
    rcases h1.own.2 with ⟨h3, h4⟩ | ⟨g', cap', cur, hv, _⟩
    · cases h3
    · simp only [Value.slice.injEq, Option.some.injEq] at hv
      obtain ⟨rfl, _, rfl⟩ := hv
      have hll : l.length ≤ 1000000 := by rw [← HL.out]; exact hl
      clear h1 hsh
      go_enter Try.func19, Try.ntmps19
      go_wp2_with fail
      refine (itsClone g' cap l _ HR.out hll).mono ?_
      intro e W1 hq
      have hfin := FIN.out _ _ hq
      obtain ⟨ov, rfl, _⟩ := hq
      have HF := Lib.hid hfin
      clear hfin
      go_wp2
      go_ret
      exact HF.out
end Go.Proofs.Ytnpalplnpfgibaa
