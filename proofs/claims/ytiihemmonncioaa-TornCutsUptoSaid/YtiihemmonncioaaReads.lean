/- A slice of bytes that came in, as what a reader reads. -/
import Derived.Test.YtiihemmonncioaaReader
namespace Go.Proofs.Ytiihemmonncioaa
open Go.RowKit
theorem IsRow.more {k : IntKind} {w : World} {a : Option Addr} {len cap : Nat} {zs : List Int} (h : IsRow k w a len cap zs) : (a = none → cap = 0) ∧ ∀ x, a = some x → 0 < cap → x.spot = none ∧ x.block < w.heap.size := by
  rcases h with ⟨rfl, rfl, rfl, rfl⟩ | ⟨x, rfl, h1, h2, h3, h4, h5⟩
  · exact ⟨fun _ => rfl, fun x hx => (by cases hx)⟩
  · refine ⟨fun e => (by cases e), fun y hy hc => ?_⟩
    cases hy
    obtain ⟨b, off, sp⟩ := x
    have hc0 := h4 0 (by omega)
    have h0 := World.cell?_spot hc0
    simp [Addr.add] at h0
    subst h0
    have hadd : (⟨b, off, none⟩ : Addr).add 0 = ⟨b, off, none⟩ := by unfold Addr.add; simp
    rw [hadd] at hc0
    exact ⟨rfl, heap_lt_of_cell hc0⟩
theorem IsRow.reads {w : World} {a : Option Addr} {len cap : Nat} {zs : List Int} (h : IsRow .u8 w a len cap zs) : ∃ l, l.length = len ∧ Reads w (.slice a len cap) l := by
  obtain ⟨h1, h2⟩ := h.more
  obtain ⟨l, rfl, hc, hm, hb⟩ := h.bytes
  exact ⟨l, rfl, a, cap, rfl, hb, hc, hm, h1, h2⟩
theorem Reads.bytes {w : World} {a : Option Addr} {n cap : Nat} {l : List UInt8} (h : Reads w (.slice a n cap) l) : IsBytes w a l := by
  obtain ⟨a', cap', hv, hb, _⟩ := h
  simp only [Value.slice.injEq] at hv
  rw [hv.1]
  exact hb
theorem Reads.low {w : World} {a : Option Addr} {n cap : Nat} {l : List UInt8} (h : Reads w (.slice a n cap) l) : ∀ x, a = some x → 0 < cap → x.block < w.heap.size := by
  obtain ⟨a', cap', hv, hb, _, _, _, h5⟩ := h
  simp only [Value.slice.injEq] at hv
  obtain ⟨rfl, _, rfl⟩ := hv
  exact fun x hx hc => (h5 x hx hc).2
theorem Reads.take {w : World} {a : Option Addr} {n cap : Nat} {l : List UInt8} (h : Reads w (.slice a n cap) l) (k : Nat) (hk : k ≤ l.length) : Reads w (.slice a k cap) (l.take k) := by
  obtain ⟨a', cap', hv, hb, h1, h2, h3, h4⟩ := h
  simp only [Value.slice.injEq] at hv
  obtain ⟨rfl, _, rfl⟩ := hv
  have hl : (l.take k).length = k := by rw [List.length_take]; omega
  exact ⟨a, cap, by rw [hl], hb.take k, by omega, h2, h3, h4⟩
theorem own_at {B : Nat} {w : World} {g n cap : Nat} {l : List UInt8} (h : OwnB B w (.slice (some ⟨g, 0, none⟩) n cap) l) (i : Nat) (hi : i < l.length) :
    w.cell? ⟨g, i, none⟩ = some (.int .u8 (l[i].toNat : Int)) ∧ w.frozen? ⟨g, i, none⟩ = false ∧ B ≤ g ∧ ∀ y : UInt8, OwnB B (w.setCell ⟨g, i, none⟩ (.int .u8 (y.toNat : Int))) (.slice (some ⟨g, 0, none⟩) n cap) (l.set i y) := by
  obtain ⟨g', cap', hv, hBg, _, _, _, hc, hf, hset⟩ := h.get (by omega)
  simp only [Value.slice.injEq, Option.some.injEq, Addr.mk.injEq] at hv
  obtain ⟨⟨rfl, _⟩, rfl, rfl⟩ := hv
  exact ⟨hc i hi, hf i, hBg, fun y => hset i y hi⟩
theorem OwnB.bytesOf {B : Nat} {w : World} {a : Option Addr} {n cap : Nat} {l : List UInt8} (h : OwnB B w (.slice a n cap) l) : IsBytes w a l := h.reads.bytes
end Go.Proofs.Ytiihemmonncioaa
