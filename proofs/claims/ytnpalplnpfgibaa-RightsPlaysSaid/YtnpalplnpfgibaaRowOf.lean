/- A slice of structs that came in, whatever their fields: its elements as they lie. -/
import Derived.Test.YtnpalplnpfgibaaBase
import Derived.Test.YtnpalplnpfgibaaProg
import Derived.Test.YtnpalplnpfgibaaRows
import Derived.WalkKit
import Derived.OpenShut
import Derived.ChangeOld
namespace Go.Proofs.Ytnpalplnpfgibaa
open Go.RowKit Go.ChangeShapes Go.WideShapes
/-- Elements of sz cells each: element i lies at i * sz. -/
def IsRowOf {α : Type} (C : α → List Value) (W : α → Prop) (sz : Nat) (w : World) (a : Option Addr) (z : List α) : Prop :=
  ∀ i (h : i < z.length), ∃ b off, a = some ⟨b, off, none⟩ ∧ b < w.heap.size ∧ (∀ j, j < sz → w.cell? ⟨b, off + i * sz + j, none⟩ = (C z[i])[j]?) ∧ W z[i]
theorem IsRowOf.below {α : Type} {C : α → List Value} {W : α → Prop} {sz B : Nat} {w w' : World} {a : Option Addr} {z : List α} (h : IsRowOf C W sz w a z) (hb : Below B w w') (hB : w.heap.size ≤ B) : IsRowOf C W sz w' a z := by
  intro i hi
  obtain ⟨b, off, h1, h2, h3, h4⟩ := h i hi
  exact ⟨b, off, h1, Nat.lt_of_lt_of_le h2 hb.size, fun j hj => by rw [← h3 j hj]; exact hb.cell (p := ⟨b, off + i * sz + j, none⟩) (show b < B by omega), h4⟩
theorem IsRowOf.bel {α : Type} {C : α → List Value} {W : α → Prop} {sz : Nat} {w w' : World} {a : Option Addr} {z : List α} (h : IsRowOf C W sz w a z) (hb : Below w.heap.size w w') : IsRowOf C W sz w' a z := h.below hb (Nat.le_refl _)
section
variable {H : Type} {enc : TypeId × Value → H} {w : World} {base : Nat} {spare : Nat → Bool} {held : Bool}
theorem el_int {cs : List Value} {k : IntKind} {t : TypeId} {n o : Nat} {y : DataW H × List MemPlace} (ht : Try.prog.underlying t = some (.int k)) (h : DataW.trod enc Try.prog w base spare held n t ((cs.drop o).take 1) = some y) : ∃ x, cs[o]? = some (.int k x) ∧ (Lit.int k x).wf = true := by
  obtain ⟨x, h1, _, h2⟩ := DataW.trod_int ht h
  refine ⟨x, ?_, h2⟩
  have := congrArg (·[0]?) h1
  simp [List.getElem?_drop] at this
  exact this
theorem el_bool {cs : List Value} {t : TypeId} {n o : Nat} {y : DataW H × List MemPlace} (ht : Try.prog.underlying t = some .bool) (h : DataW.trod enc Try.prog w base spare held n t ((cs.drop o).take 1) = some y) : ∃ x, cs[o]? = some (.bool x) := by
  obtain ⟨x, h1, _⟩ := DataW.trod_bool ht h
  refine ⟨x, ?_⟩
  have := congrArg (·[0]?) h1
  simp [List.getElem?_drop] at this
  exact this
theorem el_str {cs : List Value} {t : TypeId} {n o : Nat} {y : DataW H × List MemPlace} (ht : Try.prog.underlying t = some .string) (h : DataW.trod enc Try.prog w base spare held n t ((cs.drop o).take 1) = some y) : ∃ x, cs[o]? = some (.string x) ∧ x.size ≤ maxLen := by
  obtain ⟨x, h1, _, h2⟩ := DataW.trod_string ht h
  refine ⟨x, ?_, h2⟩
  have := congrArg (·[0]?) h1
  simp [List.getElem?_drop] at this
  exact this
theorem add_none' (b off k : Nat) : (⟨b, off, none⟩ : Addr).add k = ⟨b, off + k, none⟩ := by unfold Addr.add; split <;> simp_all
theorem open_rowOf {α : Type} (q0 : α) (C : α → List Value) (W : α → Prop) (sz : Nat) (E T : TypeId) (hT : Try.prog.underlying T = some (.slice E)) (hsz : Try.prog.cellsOf E = sz) (hpos : 0 < sz) (hC : ∀ q, (C q).length = sz)
    (hel : ∀ (n : Nat) (cs : List Value) (y : DataW H × List MemPlace), DataW.trod enc Try.prog w base spare held n E cs = some y → ∃ q, (∀ j, j < sz → cs[j]? = (C q)[j]?) ∧ W q)
    {a : Option Addr} {len cap : Nat} {d : DataW H} {p : List MemPlace} (h : DataW.Trod enc Try.prog w base spare held T (.slice a len cap) d p) : ∃ z : List α, z.length = len ∧ IsRowOf C W sz w a z ∧ len ≤ maxLen := by
  obtain ⟨fuel, hf⟩ := h
  rcases DataW.trod_slice hT hf with ⟨hcs, _⟩ | ⟨x, l, c, elems, rest, n, _, hcs, _, hb, hl, hm, hlen, hel', _⟩
  · simp [Value.cells] at hcs
    obtain ⟨rfl, rfl, rfl⟩ := hcs
    exact ⟨[], rfl, fun i hi => by simp at hi, Nat.zero_le _⟩
  · simp [Value.cells] at hcs
    obtain ⟨rfl, rfl, rfl⟩ := hcs
    have hlm : len ≤ maxLen := by omega
    by_cases hz : len = 0
    · subst hz
      exact ⟨[], rfl, fun i hi => by simp at hi, Nat.zero_le _⟩
    obtain ⟨b, off, sp⟩ := x
    have hsp : sp = none := by
      have he := hel' 0 (by omega)
      rw [List.getElem?_eq_getElem (by omega), Option.bind_eq_some_iff, hsz] at he
      obtain ⟨cs, hcs, ht⟩ := he
      obtain ⟨_, _, hcell⟩ := World.cells?_some hcs
      obtain ⟨r, hr, _⟩ := hel _ _ _ ht
      have h1 := (hcell 0 hpos).trans (hr 0 hpos)
      rw [List.getElem?_eq_getElem (by rw [hC]; exact hpos)] at h1
      have h0 := World.cell?_spot h1
      simpa [Addr.add] using h0
    subst hsp
    have each' : ∀ i, ∃ r : α, i < len → ∃ b' off', some (⟨b, off, none⟩ : Addr) = some ⟨b', off', none⟩ ∧ b' < w.heap.size ∧ (∀ j, j < sz → w.cell? ⟨b', off' + i * sz + j, none⟩ = (C r)[j]?) ∧ W r := by
      intro i
      by_cases hi : i < len
      · have he := hel' i hi
        rw [List.getElem?_eq_getElem (by omega), Option.bind_eq_some_iff, hsz] at he
        obtain ⟨cs, hcs, ht⟩ := he
        obtain ⟨_, _, hcell⟩ := World.cells?_some hcs
        obtain ⟨r, hr, hwf⟩ := hel _ _ _ ht
        have hat : ∀ j, j < sz → w.cell? ⟨b, off + i * sz + j, none⟩ = (C r)[j]? := fun j hj => by
          have := (hcell j hj).trans (hr j hj)
          rw [add_none', add_none'] at this
          exact this
        have h1 := hat 0 hpos
        rw [List.getElem?_eq_getElem (by rw [hC]; exact hpos)] at h1
        exact ⟨r, fun _ => ⟨b, off, rfl, heap_lt_of_cell h1, hat, hwf⟩⟩
      · exact ⟨q0, fun h => absurd h hi⟩
    refine ⟨(List.range len).map fun i => Classical.choose (each' i), by simp, fun i hi => ?_, hlm⟩
    have hi' : i < len := by simpa using hi
    have := Classical.choose_spec (each' i) hi'
    simpa using this
end
end Go.Proofs.Ytnpalplnpfgibaa
