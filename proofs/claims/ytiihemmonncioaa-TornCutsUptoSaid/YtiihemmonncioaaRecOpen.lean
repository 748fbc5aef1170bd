/- Records that came in: a slice of them; one of them. -/
import Derived.Test.YtiihemmonncioaaRecCost
import Derived.Test.YtiihemmonncioaaRows
import Derived.OpenShut
import Derived.ChangeOld
namespace Go.Proofs.Ytiihemmonncioaa
open Go.RowKit Go.ChangeShapes Go.WideShapes
section
variable {H : Type} {enc : TypeId × Value → H} {w : World} {base : Nat} {spare : Nat → Bool} {held : Bool}
theorem record_cells : Try.prog.cellsOf 61 = 14 := by kernel_rfl
theorem rec_cell {cs : List Value} {k : IntKind} {t : TypeId} {n o : Nat} {y : DataW H × List MemPlace} (ht : Try.prog.underlying t = some (.int k)) (h : DataW.trod enc Try.prog w base spare held n t ((cs.drop o).take 1) = some y) : ∃ x, cs[o]? = some (.int k x) ∧ (Lit.int k x).wf = true := by
  obtain ⟨x, h1, _, h2⟩ := DataW.trod_int ht h
  refine ⟨x, ?_, h2⟩
  have := congrArg (·[0]?) h1
  simp [List.getElem?_drop] at this
  exact this
theorem rec_str {cs : List Value} {t : TypeId} {n o : Nat} {y : DataW H × List MemPlace} (ht : Try.prog.underlying t = some .string) (h : DataW.trod enc Try.prog w base spare held n t ((cs.drop o).take 1) = some y) : ∃ x, cs[o]? = some (.string x) := by
  obtain ⟨x, h1, _, _⟩ := DataW.trod_string ht h
  refine ⟨x, ?_⟩
  have := congrArg (·[0]?) h1
  simp [List.getElem?_drop] at this
  exact this
set_option maxRecDepth 100000 in
theorem open_rec {n : Nat} {cs : List Value} {y : DataW H × List MemPlace} (h : DataW.trod enc Try.prog w base spare held n 61 cs = some y) :
    ∃ r : Rec, (∀ j, j < 14 → cs[j]? = r.cells[j]?) ∧ r.wf := by
  obtain ⟨xs, m, _, _, hcs, hxs, hf⟩ := DataW.trod_struct Try.underlying61 h
  have hlen : xs.length = 12 := hxs
  have h0 := hf 0 _ rfl
  have h1 := hf 1 _ rfl
  have h2 := hf 2 _ rfl
  have h3 := hf 3 _ rfl
  have h4 := hf 4 _ rfl
  have h5 := hf 5 _ rfl
  have h6 := hf 6 _ rfl
  have h7 := hf 7 _ rfl
  have h8 := hf 8 _ rfl
  have h9 := hf 9 _ rfl
  have h10 := hf 10 _ rfl
  have h11 := hf 11 _ rfl
  rw [List.getElem?_eq_getElem (by omega)] at h0 h1 h2 h3 h4 h5 h6 h7 h8 h9 h10 h11
  obtain ⟨ys, m', _, _, hqs, hys, hg⟩ := DataW.trod_struct Try.underlying58 h3
  have hqlen : ys.length = 3 := hys
  have g0 := hg 0 _ rfl
  have g1 := hg 1 _ rfl
  have g2 := hg 2 _ rfl
  rw [List.getElem?_eq_getElem (by omega)] at g0 g1 g2
  obtain ⟨x0, e0, _⟩ := rec_cell Try.underlying3 h0
  obtain ⟨x1, e1, _⟩ := rec_cell Try.underlying3 h1
  obtain ⟨x2, e2, f2⟩ := rec_cell Try.underlying56 h2
  obtain ⟨q0, k0, _⟩ := rec_cell Try.underlying2 g0
  obtain ⟨q1, k1, _⟩ := rec_cell Try.underlying2 g1
  obtain ⟨q2, k2, _⟩ := rec_cell Try.underlying2 g2
  obtain ⟨x4, e4, f4⟩ := rec_cell Try.underlying59 h4
  obtain ⟨x5, e5, f5⟩ := rec_cell Try.underlying56 h5
  obtain ⟨x6, e6, _⟩ := rec_cell Try.underlying3 h6
  obtain ⟨x7, e7, f7⟩ := rec_cell Try.underlying59 h7
  obtain ⟨x8, e8⟩ := rec_str Try.underlying9 h8
  obtain ⟨x9, e9⟩ := rec_str Try.underlying9 h9
  obtain ⟨x10, e10, f10⟩ := rec_cell Try.underlying59 h10
  obtain ⟨x11, e11, f11⟩ := rec_cell Try.underlying59 h11
  obtain ⟨n2, rfl, b2⟩ := u32_of_wf f2
  obtain ⟨n4, rfl, b4⟩ := u64_of_wf f4
  obtain ⟨n5, rfl, b5⟩ := u32_of_wf f5
  obtain ⟨n7, rfl, b7⟩ := u64_of_wf f7
  obtain ⟨n10, rfl, b10⟩ := u64_of_wf f10
  obtain ⟨n11, rfl, b11⟩ := u64_of_wf f11
  simp [List.getElem?_take, List.getElem?_drop] at k0 k1 k2
  refine ⟨⟨x0, x1, n2, q0, q1, q2, n4, n5, x6, n7, x8, x9, n10, n11⟩, fun j hj => ?_, b2, b4, b5, b7, b10, b11⟩
  match j, hj with
  | 0, _ => exact e0
  | 1, _ => exact e1
  | 2, _ => exact e2
  | 3, _ => exact k0.2
  | 4, _ => exact k1.2
  | 5, _ => exact k2.2
  | 6, _ => exact e4
  | 7, _ => exact e5
  | 8, _ => exact e6
  | 9, _ => exact e7
  | 10, _ => exact e8
  | 11, _ => exact e9
  | 12, _ => exact e10
  | 13, _ => exact e11
theorem radd_none (b off k : Nat) : (⟨b, off, none⟩ : Addr).add k = ⟨b, off + k, none⟩ := by unfold Addr.add; split <;> simp_all
set_option maxRecDepth 100000 in
set_option maxHeartbeats 1000000 in
theorem open_recs {a : Option Addr} {len cap : Nat} {d : DataW H} {p : List MemPlace} (h : DataW.Trod enc Try.prog w base spare held 49 (.slice a len cap) d p) : ∃ z : List Rec, z.length = len ∧ IsRecs w a z ∧ len ≤ maxLen := by
  obtain ⟨fuel, hf⟩ := h
  rcases DataW.trod_slice Try.underlying49 hf with ⟨hcs, _⟩ | ⟨x, l, c, elems, rest, n, _, hcs, _, hb, hl, hm, hlen, hel, _⟩
  · simp [Value.cells] at hcs
    obtain ⟨rfl, rfl, rfl⟩ := hcs
    exact ⟨[], rfl, fun i hi => by simp at hi, Nat.zero_le _⟩
  · simp [Value.cells] at hcs
    obtain ⟨rfl, rfl, rfl⟩ := hcs
    have hlm : len ≤ maxLen := by omega
    by_cases hz : len = 0
    · subst hz
      exact ⟨[], rfl, fun i hi => by simp at hi, Nat.zero_le _⟩
    obtain ⟨b, off, sp⟩ := x
    have hsp : sp = none := by
      have he := hel 0 (by omega)
      rw [List.getElem?_eq_getElem (by omega), Option.bind_eq_some_iff, record_cells] at he
      obtain ⟨cs, hcs, ht⟩ := he
      obtain ⟨_, _, hcell⟩ := World.cells?_some hcs
      obtain ⟨r, hr, _⟩ := open_rec ht
      have h0 := World.cell?_spot ((hcell 0 (by omega)).trans (hr 0 (by omega)))
      simpa [Addr.add] using h0
    subst hsp
    have each : ∀ i, i < len → ∃ r : Rec, ∃ b' off', some (⟨b, off, none⟩ : Addr) = some ⟨b', off', none⟩ ∧ b' < w.heap.size ∧ RecAt w b' (off' + i * 14) r ∧ r.wf := by
      intro i hi
      have he := hel i hi
      rw [List.getElem?_eq_getElem (by omega), Option.bind_eq_some_iff, record_cells] at he
      obtain ⟨cs, hcs, ht⟩ := he
      obtain ⟨_, _, hcell⟩ := World.cells?_some hcs
      obtain ⟨r, hr, hwf⟩ := open_rec ht
      have hat : RecAt w b (off + i * 14) r := fun j hj => by
        have := (hcell j hj).trans (hr j hj)
        rw [radd_none, radd_none] at this
        exact this
      exact ⟨r, b, off, rfl, heap_lt_of_cell ((hat 0 (by omega)).trans rfl), hat, hwf⟩
    have each' : ∀ i, ∃ r : Rec, i < len → ∃ b' off', some (⟨b, off, none⟩ : Addr) = some ⟨b', off', none⟩ ∧ b' < w.heap.size ∧ RecAt w b' (off' + i * 14) r ∧ r.wf := by
      intro i
      by_cases hi : i < len
      · obtain ⟨q, hq⟩ := each i hi
        exact ⟨q, fun _ => hq⟩
      · exact ⟨Rec.mk 0 0 0 0 0 0 0 0 0 0 ByteArray.empty ByteArray.empty 0 0, fun h => absurd h hi⟩
    refine ⟨(List.range len).map fun i => Classical.choose (each' i), by simp, fun i hi => ?_, hlm⟩
    have hi' : i < len := by simpa using hi
    have := Classical.choose_spec (each' i) hi'
    simpa using this
theorem open_one {cs : Array Value} {d : DataW H} {p : List MemPlace} (h : DataW.Trod enc Try.prog w base spare held 61 (.agg cs) d p) (hs : cs.size = Try.prog.cellsOf 61) : ∃ r : Rec, cs = r.cells ∧ r.wf := by
  obtain ⟨fuel, hf⟩ := h
  obtain ⟨r, hr, hwf⟩ := open_rec hf
  refine ⟨r, ?_, hwf⟩
  rw [record_cells] at hs
  apply Array.ext
  · rw [hs]; rfl
  · intro i h1 h2
    have := hr i (by omega)
    simp only [Value.cells, Array.getElem?_toList] at this
    rw [Array.getElem?_eq_getElem h1, Array.getElem?_eq_getElem h2] at this
    exact Option.some.inj this
end
abbrev In_RecordTells_0.T := Rec
abbrev In_RecordTells_1.T := List Rec
def In_RecordTells_1 (w : World) (a : Option Addr) (len _cap : Nat) (z : In_RecordTells_1.T) : Prop := z.length = len ∧ IsRecs w a z ∧ len ≤ maxLen
theorem open_RecordTells_1 {H : Type} {enc : TypeId × Value → H} {w : World} {base : Nat} {spare : Nat → Bool} {held : Bool} {a : Option Addr} {len cap : Nat} {d : DataW H} {p : List MemPlace} (h : DataW.Trod enc Try.prog w base spare held 49 (.slice a len cap) d p) : ∃ z, In_RecordTells_1 w a len cap z := open_recs h
abbrev In_RecordBack_0.T := List Rec
def In_RecordBack_0 (w : World) (a : Option Addr) (len _cap : Nat) (z : In_RecordBack_0.T) : Prop := z.length = len ∧ IsRecs w a z ∧ len ≤ maxLen
theorem open_RecordBack_0 {H : Type} {enc : TypeId × Value → H} {w : World} {base : Nat} {spare : Nat → Bool} {held : Bool} {a : Option Addr} {len cap : Nat} {d : DataW H} {p : List MemPlace} (h : DataW.Trod enc Try.prog w base spare held 49 (.slice a len cap) d p) : ∃ z, In_RecordBack_0 w a len cap z := open_recs h
end Go.Proofs.Ytiihemmonncioaa
