/- A slice of structs of integers that came in (hassocklaw12.Deed). -/
import Derived.Test.YtkfpolhglndbkaaBase
import Derived.Test.YtkfpolhglndbkaaProg
import Derived.Test.YtkfpolhglndbkaaRows
import Derived.WalkKit
import Derived.OpenShut
import Derived.ChangeOld
namespace Go.Proofs.Ytkfpolhglndbkaa
open Go.RowKit Go.ChangeShapes Go.WideShapes

abbrev In_RightsStay_0.T := List (Int × Int × Int × Int)
/-- What, serial, rights, secret of each deed, as they lie. -/
def In_RightsStay_0 (w : World) (a : Option Addr) (len _cap : Nat) (z : In_RightsStay_0.T) : Prop :=
  z.length = len ∧ ∀ i (h : i < z.length), ∃ b off, a = some ⟨b, off, none⟩ ∧ b < w.heap.size ∧
    (w.cell? ⟨b, off + i * 4, none⟩ = some (.int .i64 z[i].1) ∧ w.cell? ⟨b, off + i * 4 + 1, none⟩ = some (.int .u32 z[i].2.1) ∧ w.cell? ⟨b, off + i * 4 + 2, none⟩ = some (.int .i64 z[i].2.2.1) ∧ w.cell? ⟨b, off + i * 4 + 3, none⟩ = some (.int .u64 z[i].2.2.2)) ∧
    (Lit.int .i64 z[i].1).wf = true ∧ (Lit.int .u32 z[i].2.1).wf = true
section
variable {H : Type} {enc : TypeId × Value → H} {w : World} {base : Nat} {spare : Nat → Bool} {held : Bool}
theorem deed_cells : Try.prog.cellsOf 45 = 4 := by kernel_rfl
theorem one_cell {cs : List Value} {k : IntKind} {t : TypeId} {n o : Nat} {y : DataW H × List MemPlace} (ht : Try.prog.underlying t = some (.int k)) (h : DataW.trod enc Try.prog w base spare held n t ((cs.drop o).take 1) = some y) : ∃ x, cs[o]? = some (.int k x) ∧ (Lit.int k x).wf = true := by
  obtain ⟨x, h1, _, h2⟩ := DataW.trod_int ht h
  refine ⟨x, ?_, h2⟩
  have := congrArg (·[0]?) h1
  simp [List.getElem?_drop] at this
  exact this
set_option maxRecDepth 100000 in
theorem open_deed {n : Nat} {cs : List Value} {y : DataW H × List MemPlace} (h : DataW.trod enc Try.prog w base spare held n 45 cs = some y) :
    ∃ x0 x1 x2 x3, cs[0]? = some (.int .i64 x0) ∧ cs[1]? = some (.int .u32 x1) ∧ cs[2]? = some (.int .i64 x2) ∧ cs[3]? = some (.int .u64 x3) ∧ (Lit.int .i64 x0).wf = true ∧ (Lit.int .u32 x1).wf = true := by
  obtain ⟨xs, m, _, _, hcs, hxs, hf⟩ := DataW.trod_struct Try.underlying45 h
  have hlen : xs.length = 4 := hxs
  have h0 := hf 0 _ rfl
  have h1 := hf 1 _ rfl
  have h2 := hf 2 _ rfl
  have h3 := hf 3 _ rfl
  rw [List.getElem?_eq_getElem (by omega)] at h0 h1 h2 h3
  obtain ⟨x0, e0, f0⟩ := one_cell Try.underlying3 h0
  obtain ⟨x1, e1, f1⟩ := one_cell Try.underlying29 h1
  obtain ⟨x2, e2, _⟩ := one_cell Try.underlying3 h2
  obtain ⟨x3, e3, _⟩ := one_cell Try.underlying23 h3
  exact ⟨x0, x1, x2, x3, e0, e1, e2, e3, f0, f1⟩
theorem add_none (b off k : Nat) : (⟨b, off, none⟩ : Addr).add k = ⟨b, off + k, none⟩ := by unfold Addr.add; split <;> simp_all
set_option maxRecDepth 100000 in
set_option maxHeartbeats 1000000 in
theorem open_RightsStay_0 {a : Option Addr} {len cap : Nat} {d : DataW H} {p : List MemPlace} (h : DataW.Trod enc Try.prog w base spare held 38 (.slice a len cap) d p) : ∃ z, In_RightsStay_0 w a len cap z := by
  obtain ⟨fuel, hf⟩ := h
  rcases DataW.trod_slice Try.underlying38 hf with ⟨hcs, _⟩ | ⟨x, l, c, elems, rest, n, _, hcs, _, hb, hl, hm, hlen, hel, _⟩
  · simp [Value.cells] at hcs
    obtain ⟨rfl, rfl, rfl⟩ := hcs
    exact ⟨[], rfl, fun i hi => by simp at hi⟩
  · simp [Value.cells] at hcs
    obtain ⟨rfl, rfl, rfl⟩ := hcs
    by_cases hz : len = 0
    · subst hz
      exact ⟨[], rfl, fun i hi => by simp at hi⟩
    obtain ⟨b, off, sp⟩ := x
    have hsp : sp = none := by
      have he := hel 0 (by omega)
      rw [List.getElem?_eq_getElem (by omega), Option.bind_eq_some_iff, deed_cells] at he
      obtain ⟨cs, hcs, ht⟩ := he
      obtain ⟨_, _, hcell⟩ := World.cells?_some hcs
      obtain ⟨x0, x1, x2, x3, e0, _⟩ := open_deed ht
      have h0 := World.cell?_spot ((hcell 0 (by omega)).trans e0)
      simpa [Addr.add] using h0
    subst hsp
    have each : ∀ i, i < len → ∃ q : Int × Int × Int × Int, ∃ b' off', some (⟨b, off, none⟩ : Addr) = some ⟨b', off', none⟩ ∧ b' < w.heap.size ∧
        (w.cell? ⟨b', off' + i * 4, none⟩ = some (.int .i64 q.1) ∧ w.cell? ⟨b', off' + i * 4 + 1, none⟩ = some (.int .u32 q.2.1) ∧ w.cell? ⟨b', off' + i * 4 + 2, none⟩ = some (.int .i64 q.2.2.1) ∧ w.cell? ⟨b', off' + i * 4 + 3, none⟩ = some (.int .u64 q.2.2.2)) ∧
        (Lit.int .i64 q.1).wf = true ∧ (Lit.int .u32 q.2.1).wf = true := by
      intro i hi
      have he := hel i hi
      rw [List.getElem?_eq_getElem (by omega), Option.bind_eq_some_iff, deed_cells] at he
      obtain ⟨cs, hcs, ht⟩ := he
      obtain ⟨_, _, hcell⟩ := World.cells?_some hcs
      obtain ⟨x0, x1, x2, x3, e0, e1, e2, e3, f0, f1⟩ := open_deed ht
      have c0 := (hcell 0 (by omega)).trans e0
      have c1 := (hcell 1 (by omega)).trans e1
      have c2 := (hcell 2 (by omega)).trans e2
      have c3 := (hcell 3 (by omega)).trans e3
      rw [add_none, add_none] at c0 c1 c2 c3
      refine ⟨(x0, x1, x2, x3), b, off, rfl, heap_lt_of_cell c0, ⟨c0, c1, c2, c3⟩, f0, f1⟩
    have each' : ∀ i, ∃ q : Int × Int × Int × Int, i < len → ∃ b' off', some (⟨b, off, none⟩ : Addr) = some ⟨b', off', none⟩ ∧ b' < w.heap.size ∧
        (w.cell? ⟨b', off' + i * 4, none⟩ = some (.int .i64 q.1) ∧ w.cell? ⟨b', off' + i * 4 + 1, none⟩ = some (.int .u32 q.2.1) ∧ w.cell? ⟨b', off' + i * 4 + 2, none⟩ = some (.int .i64 q.2.2.1) ∧ w.cell? ⟨b', off' + i * 4 + 3, none⟩ = some (.int .u64 q.2.2.2)) ∧
        (Lit.int .i64 q.1).wf = true ∧ (Lit.int .u32 q.2.1).wf = true := by
      intro i
      by_cases hi : i < len
      · obtain ⟨q, hq⟩ := each i hi
        exact ⟨q, fun _ => hq⟩
      · exact ⟨(0, 0, 0, 0), fun h => absurd h hi⟩
    refine ⟨(List.range len).map fun i => Classical.choose (each' i), by simp, fun i hi => ?_⟩
    have hi' : i < len := by simpa using hi
    have := Classical.choose_spec (each' i) hi'
    simpa using this
end
end Go.Proofs.Ytkfpolhglndbkaa
