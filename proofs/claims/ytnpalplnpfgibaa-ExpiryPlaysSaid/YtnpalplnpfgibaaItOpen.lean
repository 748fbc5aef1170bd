/- The argument of ExpirySorts: items that came in. -/
import Derived.Test.YtnpalplnpfgibaaRowOf
import Derived.Test.YtnpalplnpfgibaaItems
namespace Go.Proofs.Ytnpalplnpfgibaa
open Go.RowKit Go.ChangeShapes Go.WideShapes
def itCells (a : It) : List Value := [.int .u64 a.t, .string a.k]
section
variable {H : Type} {enc : TypeId × Value → H} {w : World} {base : Nat} {spare : Nat → Bool} {held : Bool}
set_option maxRecDepth 100000 in
theorem open_it {n : Nat} {cs : List Value} {y : DataW H × List MemPlace} (h : DataW.trod enc Try.prog w base spare held n 30 cs = some y) : ∃ q : It, (∀ j, j < 2 → cs[j]? = (itCells q)[j]?) ∧ q.wf := by
  obtain ⟨xs, m, _, _, hcs, hxs, hf⟩ := DataW.trod_struct Try.underlying30 h
  have hlen : xs.length = 2 := hxs
  have h0 := hf 0 _ rfl
  have h1 := hf 1 _ rfl
  rw [List.getElem?_eq_getElem (by omega)] at h0 h1
  obtain ⟨x0, e0, f0⟩ := el_int Try.underlying28 h0
  obtain ⟨x1, e1, f1⟩ := el_str Try.underlying9 h1
  refine ⟨⟨x0, x1⟩, fun j hj => ?_, f0, f1⟩
  match j, hj with
  | 0, _ => exact e0
  | 1, _ => exact e1
theorem it_cells : Try.prog.cellsOf 30 = 2 := by kernel_rfl
end
abbrev In_ExpirySorts_0.T := List It
def In_ExpirySorts_0 (w : World) (a : Option Addr) (len _cap : Nat) (z : In_ExpirySorts_0.T) : Prop := z.length = len ∧ IsRowOf itCells It.wf 2 w a z ∧ len ≤ maxLen
theorem open_ExpirySorts_0 {H : Type} {enc : TypeId × Value → H} {w : World} {base : Nat} {spare : Nat → Bool} {held : Bool} {a : Option Addr} {len cap : Nat} {d : DataW H} {p : List MemPlace} (h : DataW.Trod enc Try.prog w base spare held 22 (.slice a len cap) d p) : ∃ z, In_ExpirySorts_0 w a len cap z :=
  open_rowOf ⟨0, ByteArray.empty⟩ itCells It.wf 2 _ _ Try.underlying22 it_cells (by omega) (fun _ => rfl) (fun _ _ _ h => open_it h) h
end Go.Proofs.Ytnpalplnpfgibaa
