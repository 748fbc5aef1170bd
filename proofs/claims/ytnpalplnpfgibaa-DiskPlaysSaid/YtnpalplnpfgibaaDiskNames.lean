/- disk's List tells the names of the reference's rising row. -/
import Derived.Test.YtnpalplnpfgibaaDiskList
import Derived.Test.YtnpalplnpfgibaaDiskLaw
namespace Go.Proofs.Ytnpalplnpfgibaa
open Go.RowKit Go.Maps
def nmOf (q : RF) : List UInt8 := q.name.data.toList
def nmCells (q : RF) : List Value := [.string q.name]
theorem nm_enc (l : List RF) : (l.map nmOf).map encStr = l.flatMap nmCells := by
  induction l with
  | nil => rfl
  | cons q l ih =>
    rw [List.map_cons, List.map_cons, List.flatMap_cons, ih]
    simp [nmOf, nmCells, encStr]
theorem names_perm {w : World} {bm : Nat} {st : DSt} {D : DataW Unit} {L : List Ent} (h : IsDisk w bm st D L) : (L.map fun e => e.name.data.toList).Perm (strKeys D) := by
  obtain ⟨es, rfl, hp⟩ := h.fs.map.tidy
  obtain ⟨es', e1, hko⟩ := h.fs.own.keysOf
  cases e1
  refine perm_strKeys hp (fun p hp' => ?_) ?_ (fun x => ?_)
  · obtain ⟨v, hv⟩ := hko p hp'
    obtain ⟨x, _, hx, _⟩ := Maps.keyOf_str Try.underlying9 hv
    exact ⟨x, hx⟩
  · refine List.pairwise_map.2 (h.fs.apart.imp fun {a b} hab e => hab.name (ba_eq e))
  · constructor
    · intro hx
      obtain ⟨e, he, rfl⟩ := List.mem_map.1 hx
      exact (h.fs.map.at_ e he).2
    · intro hx
      obtain ⟨e, he, h1⟩ := h.fs.map.only _ hx
      simp only [fk, Lit.string.injEq] at h1
      exact List.mem_map.2 ⟨e, he, h1.symm⟩
theorem nm_sorted {l : List RF} (hr : Rise l) : (l.map nmOf).mergeSort (fun x y => decide (x ≤ y)) = l.map nmOf := by
  refine List.mergeSort_of_pairwise ?_
  refine List.pairwise_map.2 (hr.imp fun {a b} hab => ?_)
  exact decide_eq_true (List.le_of_lt hab)
structure ListAns (l : List RF) (w : World) (e : Ending) (w' : World) : Prop where
  ret : ∃ a cap, e = .returned (.slice a l.length cap) ∧ IsRowOf nmCells (fun _ => True) 1 w' a l
  bel : Below w.heap.size w w'
theorem diskList (bm : Nat) (st : DSt) (D : DataW Unit) (L : List Ent) (l : List RF) (w : World) (h : IsDisk w bm st D L) (hp : (fsOf L).Perm (rfsOf l)) (hr : Rise l) (hl : l.length ≤ 1000000) :
    Calls Try.prog 88 #[.pointer (some ⟨bm + 1, 0, none⟩)] w (ListAns l w) := by
  have hlen : L.length = l.length := by
    have := hp.length_eq
    simpa [fsOf, rfsOf] using this
  have hsz : Maps.size D = l.length := h.fs.map.size.trans hlen
  refine (diskList0 bm st D L w h (by rw [hsz]; have : maxLen = 9223372036854775807 := rfl; omega) (by rw [hsz]; omega)).mono ?_
  rintro e w' ⟨v, ss, rfl, hS, hrow, hnil, hb⟩
  have h1 : ss.Perm (l.map nmOf) := by
    refine hS.trans ((names_perm h).symm.trans ?_)
    have h2 := hp.map (fun p : ByteArray × File => p.1.data.toList)
    unfold fsOf rfsOf at h2
    rw [List.map_map, List.map_map] at h2
    exact h2
  have h2 : ss.mergeSort (fun x y => decide (x ≤ y)) = l.map nmOf := (mergeSort_of_perm h1).trans (nm_sorted hr)
  have h3 : ss.length = l.length := by rw [h1.length_eq, List.length_map]
  rw [h2, nm_enc, h3] at hrow
  obtain ⟨a, cap, rfl, h4, _⟩ := OwnOf.rowOf (E := 9) (C := nmCells) (sz := 1) (W := fun _ => True) (fun _ => rfl) (fun _ _ => trivial) hrow
  exact ⟨⟨a, cap, rfl, h4⟩, hb⟩
end Go.Proofs.Ytnpalplnpfgibaa
