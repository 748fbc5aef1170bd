/- A record, read: plain definitions; the state of the walks that read one. -/
import Derived.Test.YtiihemmonncioaaRecCost
import Derived.Test.YtiihemmonncioaaTwo
import Derived.Deep.WholeRow
namespace Go.Proofs.Ytiihemmonncioaa
open Go.RowKit
def txt (l : List UInt8) : ByteArray := ⟨l.toArray⟩
/-- What stands behind a record's head, read. -/
def readTail (x : Rec) (l : List UInt8) (sh : Bool) : Rec × List UInt8 × Bool :=
  if x.kind = 1 then
    let a := rdNum 8 l sh; let b := rdNum 8 a.2.1 a.2.2; let c := rdNum 8 b.2.1 b.2.2; let d := rdNum 8 c.2.1 c.2.2; let e := rdNum 4 d.2.1 d.2.2
    ({ x with qk := IntKind.i64.wrap a.1, qb := IntKind.i64.wrap b.1, qg := IntKind.i64.wrap c.1, seq := d.1, serial := e.1 }, e.2)
  else if x.kind = 3 then
    let a := rdNum 8 l sh; let b := rdNum 8 a.2.1 a.2.2; let c := rdText b.2.1 b.2.2; let d := rdText c.2.1 c.2.2
    ({ x with version := a.1, expiry := b.1, key := txt c.1, val := txt d.1 }, d.2)
  else if x.kind = 4 then
    let a := rdNum 8 l sh; let b := rdText a.2.1 a.2.2
    ({ x with version := a.1, key := txt b.1 }, b.2)
  else if x.kind = 5 then
    let a := rdNum 4 l sh; let b := rdNum 1 a.2.1 a.2.2; let c := rdNum 8 b.2.1 b.2.2
    ({ x with serial := a.1, rights := b.1, secret := c.1 }, c.2)
  else if x.kind = 6 then
    let a := rdNum 4 l sh
    ({ x with serial := a.1 }, a.2)
  else (x, l, sh)
/-- A record, read. -/
def readRec (l : List UInt8) (sh : Bool) : Rec × List UInt8 × Bool :=
  let a := rdNum 1 l sh; let b := rdNum 1 a.2.1 a.2.2; let c := rdNum 4 b.2.1 b.2.2
  readTail { Rec.zero with kind := a.1, bucket := b.1, gen := c.1 } c.2.1 c.2.2
theorem rdNum_ltk (k : Nat) (l : List UInt8) (sh : Bool) : (rdNum k l sh).1 < 256 ^ k := by
  have hp : 0 < 256 ^ k := Nat.pow_pos (by omega)
  unfold rdNum
  split
  · exact hp
  · split
    · exact hp
    · have h1 := numL_lt (l.take (k : Int).toNat)
      have h2 : (l.take (k : Int).toNat).length ≤ k := by simp; omega
      exact Nat.lt_of_lt_of_le h1 (Nat.pow_le_pow_right (by omega) h2)
theorem rdNum_lt1 (l : List UInt8) (sh : Bool) : (rdNum 1 l sh).1 < 256 := rdNum_ltk 1 l sh
theorem rdNum_lt4 (l : List UInt8) (sh : Bool) : (rdNum 4 l sh).1 < 4294967296 := rdNum_ltk 4 l sh
theorem readTail_wf (x : Rec) (l : List UInt8) (sh : Bool) (h : x.wf) : (readTail x l sh).1.wf := by
  obtain ⟨h1, h2, h3, h4, h5, h6⟩ := h
  unfold readTail
  split
  · exact ⟨h1, rdNum_lt _ _ _, rdNum_lt4 _ _, h4, h5, h6⟩
  split
  · exact ⟨h1, h2, h3, h4, rdNum_lt _ _ _, rdNum_lt _ _ _⟩
  split
  · exact ⟨h1, h2, h3, h4, rdNum_lt _ _ _, h6⟩
  split
  · exact ⟨h1, h2, rdNum_lt4 _ _, rdNum_lt _ _ _, h5, h6⟩
  split
  · exact ⟨h1, h2, rdNum_lt4 _ _, h4, h5, h6⟩
  · exact ⟨h1, h2, h3, h4, h5, h6⟩
theorem readRec_wf (l : List UInt8) (sh : Bool) : (readRec l sh).1.wf :=
  readTail_wf _ _ _ ⟨rdNum_lt4 _ _, by show 0 < _; omega, by show 0 < _; omega, by show 0 < _; omega, by show 0 < _; omega, by show 0 < _; omega⟩
/-- The state of the walk that reads a record, by a reader. -/
def GetS (w : World) (br b2 b3 : Nat) (W : World) (r : Rec) (l : List UInt8) (sh : Bool) : Prop :=
  W.heap[b3]? = some (.cells r.cells 61 (0, 0)) ∧ W.heap[b2]? = some (.cells Rec.zero.cells 61 (0, 0)) ∧ IsReader W br l sh ∧ w.grownBy W (some br) ∧ br < b2 ∧ b2 < b3 ∧ w.heap.size ≤ b2
section
variable {w : World} {br b2 b3 : Nat} {W W' : World} {r r' : Rec} {l l' : List UInt8} {sh sh' : Bool}
theorem GetS.call (h : GetS w br b2 b3 W r l sh) (hr : IsReader W' br l' sh') (hg : W.grownBy W' (some br)) : GetS w br b2 b3 W' r l' sh' := by
  obtain ⟨h1, h2, _, h4, h5, h6, h7⟩ := h
  have k1 := (Array.getElem?_eq_some_iff.1 h1).1
  have k2 := (Array.getElem?_eq_some_iff.1 h2).1
  exact ⟨by rw [hg.block b3 k1 (fun e => by cases e; omega)]; exact h1, by rw [hg.block b2 k2 (fun e => by cases e; omega)]; exact h2, hr, grownBy_trans h4 hg, h5, h6, h7⟩
theorem GetS.cell (h : GetS w br b2 b3 W r l sh) (i : Nat) : W.cell? ⟨b3, i, none⟩ = r.cells[i]? := cell_of_row W b3 i _ _ _ h.1
theorem GetS.frozen (h : GetS w br b2 b3 W r l sh) (i : Nat) : W.frozen? ⟨b3, i, none⟩ = false := frozen_of_row W b3 i _ _ h.1
theorem grownBy_new {w W : World} {br : Nat} (h : w.grownBy W (some br)) (p : Addr) (u : Value) (hp : w.heap.size ≤ p.block) : w.grownBy (W.setCell p u) (some br) :=
  ⟨h.os, h.tape, h.output, by simpa [World.setCell] using h.size, fun k hk hne => by rw [heap_setCell_other W p k u (by omega)]; exact h.block k hk hne⟩
theorem GetS.store (h : GetS w br b2 b3 W r l sh) (i : Nat) (v : Value) (hv : r'.cells = r.cells.setIfInBounds i v) : GetS w br b2 b3 (W.setCell ⟨b3, i, none⟩ v) r' l sh := by
  obtain ⟨h1, h2, h3, h4, h5, h6, h7⟩ := h
  refine ⟨by rw [heap_setCell_same W b3 i _ _ _ h1, hv], by rw [heap_setCell_other W _ b2 v (show b2 ≠ b3 by omega)]; exact h2, h3.keep (grownBy_setCell W ⟨b3, i, none⟩ v) (by show br < b3; omega), grownBy_new h4 _ _ (by show _ ≤ b3; omega), h5, h6, h7⟩
end
attribute [irreducible] readTail readRec txt
end Go.Proofs.Ytiihemmonncioaa
