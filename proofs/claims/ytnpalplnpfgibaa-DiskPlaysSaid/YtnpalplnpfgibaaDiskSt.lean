/- A disk as it lies: its files, apart from each other. -/
import Derived.Test.YtnpalplnpfgibaaBytes
import Derived.Test.YtnpalplnpfgibaaErr
import Derived.Maps.OwnSet
import Derived.Maps.OwnOps
import Derived.Maps.RangeWalk
namespace Go.Proofs.Ytnpalplnpfgibaa
open Go.RowKit
structure File where
  b : List UInt8
  s : Nat
structure Ent where
  name : ByteArray
  f : File
  bf : Nat
  v : Value
structure DSt where
  cap : Int
  eff : Nat
  planned : Bool
  left : Nat
  keep : Nat
  down : Bool
def fk (n : ByteArray) : Lit := .string n.data.toList
theorem fk_inj {a b : ByteArray} (h : fk a = fk b) : a = b := by
  unfold fk at h
  simp only [Lit.string.injEq] at h
  cases a; cases b; simp only [ByteArray.mk.injEq]; exact Array.toList_inj.1 h
theorem fk_lit (n : ByteArray) : WideAt.IsKeyLit (fk n) := by trivial
/-- How a pointer to a file reads. -/
def fileElem : Value → Option (DataW Unit × List MemPlace)
  | .pointer (some ⟨b, 0, none⟩) => some (.lit (.int .i64 (b : Int)), [])
  | .pointer none => some (.lit (.int .i64 (-1)), [])
  | _ => none
theorem fileElem_mk (b : Nat) : fileElem (.pointer (some ⟨b, 0, none⟩)) = some (.lit (.int .i64 (b : Int)), []) := rfl
theorem fileElem_nil : fileElem (.pointer none) = some (.lit (.int .i64 (-1)), []) := rfl
theorem fileElem_inv {v : Value} {b : Nat} {ps : List MemPlace} (h : fileElem v = some (.lit (.int .i64 (b : Int)), ps)) : v = .pointer (some ⟨b, 0, none⟩) := by
  unfold fileElem at h
  split at h
  · simp only [Option.some.injEq, Prod.mk.injEq, DataW.lit.injEq, Lit.int.injEq, true_and] at h
    have : (_ : Nat) = b := Int.ofNat.inj h.1
    subst this
    rfl
  · simp only [Option.some.injEq, Prod.mk.injEq, DataW.lit.injEq, Lit.int.injEq, true_and] at h
    omega
  · cases h
theorem lawStr : Maps.Keyed Try.prog 9 := Maps.string_keyed Try.underlying9
theorem keyOf_str (n : ByteArray) (h : n.size ≤ maxLen) : keyOf Try.prog 9 (.string n) = some (fk n) := by
  simp [keyOf, Try.underlying9, mapKey, h, fk]
theorem zero_file (w : World) : (zeroValue 127).run Try.prog w = .ok (.pointer none) w := by kernel_rfl
/-- Two files lie apart. -/
structure Apart (a b : Ent) : Prop where
  name : a.name ≠ b.name
  bf : a.bf ≠ b.bf
  l : a.v.ownBlock ≠ some b.bf
  r : b.v.ownBlock ≠ some a.bf
  v : ∀ k, a.v.ownBlock = some k → b.v.ownBlock ≠ some k
theorem Apart.symm {a b : Ent} (h : Apart a b) : Apart b a := ⟨h.name.symm, h.bf.symm, h.r, h.l, fun k hk e => h.v k e hk⟩
/-- A file as it lies: behind block bm + 1. -/
structure IsFile (w : World) (bm : Nat) (e : Ent) : Prop where
  box : w.heap[e.bf]? = some (.cells #[e.v, .int .i64 (e.f.s : Int)] 131 (0, 0))
  own : OwnB (bm + 2) w e.v e.f.b
  lo : bm + 2 ≤ e.bf
  ne : e.v.ownBlock ≠ some e.bf
  le : e.f.s ≤ e.f.b.length
  nm : e.name.size ≤ maxLen
structure MapIs (D : DataW Unit) (L : List Ent) : Prop where
  tidy : Maps.Tidy D
  size : Maps.size D = L.length
  at_ : ∀ e ∈ L, (∀ z, D.atKey (fk e.name) z = .lit (.int .i64 (e.bf : Int))) ∧ Maps.has D (fk e.name) = true
  only : ∀ k, Maps.has D k = true → ∃ e ∈ L, k = fk e.name
structure IsFs (w : World) (bm n : Nat) (D : DataW Unit) (L : List Ent) : Prop where
  own : w.ownsMap Try.prog 9 fileElem bm n D
  map : MapIs D L
  file : ∀ e ∈ L, IsFile w bm e
  apart : L.Pairwise Apart
def DSt.cells (bm : Nat) (st : DSt) : Array Value := #[.int .i64 st.cap, .map (some bm), .int .i64 (st.eff : Int), .bool st.planned, .int .i64 (st.left : Int), .int .i64 (st.keep : Int), .bool st.down]
structure IsDisk (w : World) (bm : Nat) (st : DSt) (D : DataW Unit) (L : List Ent) : Prop where
  box : w.heap[bm + 1]? = some (.cells (st.cells bm) 126 (0, 0))
  fs : IsFs w bm st.eff D L
/-- The disk's own blocks. -/
def Own (bm : Nat) (L : List Ent) (k : Nat) : Prop := k = bm ∨ k = bm + 1 ∨ ∃ e ∈ L, k = e.bf ∨ e.v.ownBlock = some k
structure DGrew (bm : Nat) (w w' : World) (L L' : List Ent) : Prop where
  os : w'.os = w.os
  tape : w'.tape = w.tape
  output : w'.output = w.output
  size : w.heap.size ≤ w'.heap.size
  block : ∀ k, k < w.heap.size → ¬ Own bm L k → w'.heap[k]? = w.heap[k]?
  own : ∀ k, Own bm L' k → Own bm L k ∨ w.heap.size ≤ k
theorem DGrew.refl (bm : Nat) (w : World) (L : List Ent) : DGrew bm w w L L := ⟨rfl, rfl, rfl, Nat.le_refl _, fun _ _ _ => rfl, fun _ h => .inl h⟩
theorem DGrew.of_below {bm : Nat} {w w' : World} (L : List Ent) (h : Below w.heap.size w w') : DGrew bm w w' L L := ⟨h.os, h.tape, h.output, h.size, fun k hk _ => h.block k hk, fun _ h => .inl h⟩
theorem DGrew.trans {bm : Nat} {w w1 w2 : World} {L L1 L2 : List Ent} (h : DGrew bm w w1 L L1) (k : DGrew bm w1 w2 L1 L2) : DGrew bm w w2 L L2 := by
  refine ⟨k.os.trans h.os, k.tape.trans h.tape, k.output.trans h.output, Nat.le_trans h.size k.size, fun i hi h1 => ?_, fun i hi => ?_⟩
  · rw [k.block i (Nat.lt_of_lt_of_le hi h.size) (fun e => ?_), h.block i hi h1]
    rcases h.own i e with h3 | h3
    · exact h1 h3
    · omega
  · rcases k.own i hi with h1 | h1
    · exact h.own i h1
    · exact .inr (Nat.le_trans h.size h1)
theorem own_lo {w : World} {bm n : Nat} {D : DataW Unit} {L : List Ent} (h : IsFs w bm n D L) {k : Nat} (hk : Own bm L k) : bm ≤ k := by
  rcases hk with rfl | rfl | ⟨e, he, rfl | h1⟩
  · exact Nat.le_refl _
  · omega
  · have := (h.file e he).lo; omega
  · have := ((h.file e he).own.block k h1).1; omega
theorem own_lt {w : World} {bm : Nat} {st : DSt} {D : DataW Unit} {L : List Ent} (h : IsDisk w bm st D L) {k : Nat} (hk : Own bm L k) : k < w.heap.size := by
  rcases hk with rfl | rfl | ⟨e, he, rfl | h1⟩
  · exact h.fs.own.lt
  · exact (Array.getElem?_eq_some_iff.1 h.box).1
  · exact (Array.getElem?_eq_some_iff.1 (h.fs.file e he).box).1
  · exact ((h.fs.file e he).own.block k h1).2
theorem DGrew.below {B bm n : Nat} {w w' : World} {D : DataW Unit} {L L' : List Ent} (h : DGrew bm w w' L L') (hf : IsFs w bm n D L) (hB : B ≤ bm) : Below B w w' :=
  ⟨h.os, h.tape, h.output, h.size, fun k hk => h.block k (Nat.lt_of_lt_of_le hk (Nat.le_trans hB (Nat.le_of_lt hf.own.lt))) (fun e => by have := own_lo hf e; omega)⟩
theorem OwnB.kept {B : Nat} {w w' : World} {v : Value} {l : List UInt8} (h : OwnB B w v l) (hk : ∀ k, v.ownBlock = some k → w'.heap[k]? = w.heap[k]?) : OwnB B w' v l := by
  refine ⟨h.1, ?_⟩
  rcases h.2 with h2 | ⟨g, cap, cur, hv, hbg, hg, hr⟩
  · exact .inl h2
  · exact .inr ⟨g, cap, cur, hv, hbg, by rw [hk g (by rw [hv]; rfl)]; exact hg, hr⟩
theorem IsFile.kept {w w' : World} {bm : Nat} {e : Ent} (h : IsFile w bm e) (hk : ∀ k, k = e.bf ∨ e.v.ownBlock = some k → w'.heap[k]? = w.heap[k]?) : IsFile w' bm e :=
  ⟨(hk e.bf (.inl rfl)).trans h.box, h.own.kept fun k h1 => hk k (.inr h1), h.lo, h.ne, h.le, h.nm⟩
theorem ownsMap_kept {w w' : World} {b n : Nat} {D : DataW Unit} (h : w.ownsMap Try.prog 9 fileElem b n D) (hk : w'.heap[b]? = w.heap[b]?) : w'.ownsMap Try.prog 9 fileElem b n D := by
  obtain ⟨es, clock, hb, r⟩ := h
  exact ⟨es, clock, hk.trans hb, r⟩
/-- What turns none of the disk's blocks but its box. -/
theorem IsFs.kept {w w' : World} {bm n : Nat} {D : DataW Unit} {L : List Ent} (h : IsFs w bm n D L) (hk : ∀ k, Own bm L k → k ≠ bm + 1 → w'.heap[k]? = w.heap[k]?) : IsFs w' bm n D L := by
  refine ⟨ownsMap_kept h.own (hk bm (.inl rfl) (by omega)), h.map, fun e he => (h.file e he).kept fun k h1 => hk k (.inr (.inr ⟨e, he, h1⟩)) ?_, h.apart⟩
  rcases h1 with rfl | h1
  · have := (h.file e he).lo; omega
  · have := ((h.file e he).own.block k h1).1; omega
theorem IsDisk.kept {w w' : World} {bm : Nat} {st : DSt} {D : DataW Unit} {L : List Ent} (h : IsDisk w bm st D L) (hk : ∀ k, Own bm L k → w'.heap[k]? = w.heap[k]?) : IsDisk w' bm st D L :=
  ⟨(hk _ (.inr (.inl rfl))).trans h.box, h.fs.kept fun k h1 _ => hk k h1⟩
theorem IsDisk.bel {w w' : World} {bm : Nat} {st : DSt} {D : DataW Unit} {L : List Ent} (h : IsDisk w bm st D L) (hb : Below w.heap.size w w') : IsDisk w' bm st D L := h.kept fun k hk => hb.block k (own_lt h hk)
/-- The box alone turns. -/
theorem IsDisk.box' {w w' : World} {bm : Nat} {st st' : DSt} {D : DataW Unit} {L : List Ent} (h : IsDisk w bm st D L) (hb : w'.heap[bm + 1]? = some (.cells (st'.cells bm) 126 (0, 0))) (hg : w.grownBy w' (some (bm + 1))) (he : st.eff ≤ st'.eff) : IsDisk w' bm st' D L ∧ DGrew bm w w' L L := by
  have hf := h.fs.kept fun k hk hne => hg.block k (own_lt h hk) (by simp; omega)
  exact ⟨⟨hb, ⟨hf.own.mono he, hf.map, hf.file, hf.apart⟩⟩, hg.os, hg.tape, hg.output, hg.size, fun k hk ho => hg.block k hk (fun e => by cases e; exact ho (.inr (.inl rfl))), fun k hk => .inl hk⟩
theorem own_perm {bm : Nat} {L L' : List Ent} (hp : L.Perm L') (k : Nat) : Own bm L k ↔ Own bm L' k := by
  unfold Own
  constructor
  · rintro (h | h | ⟨e, he, h⟩)
    · exact .inl h
    · exact .inr (.inl h)
    · exact .inr (.inr ⟨e, hp.mem_iff.1 he, h⟩)
  · rintro (h | h | ⟨e, he, h⟩)
    · exact .inl h
    · exact .inr (.inl h)
    · exact .inr (.inr ⟨e, hp.mem_iff.2 he, h⟩)
theorem MapIs.perm {D : DataW Unit} {L L' : List Ent} (h : MapIs D L) (hp : L.Perm L') : MapIs D L' :=
  ⟨h.tidy, h.size.trans hp.length_eq, fun e he => h.at_ e (hp.mem_iff.2 he), fun k hk => by obtain ⟨e, he, h1⟩ := h.only k hk; exact ⟨e, hp.mem_iff.1 he, h1⟩⟩
theorem IsDisk.perm {w : World} {bm : Nat} {st : DSt} {D : DataW Unit} {L L' : List Ent} (h : IsDisk w bm st D L) (hp : L.Perm L') : IsDisk w bm st D L' :=
  ⟨h.box, h.fs.own, h.fs.map.perm hp, fun e he => h.fs.file e (hp.mem_iff.2 he), (hp.pairwise_iff fun h => h.symm).1 h.fs.apart⟩
theorem DGrew.perm {bm : Nat} {w w' : World} {L1 L1' L2 L2' : List Ent} (h : DGrew bm w w' L1 L2) (hp : L1.Perm L1') (hq : L2.Perm L2') : DGrew bm w w' L1' L2' :=
  ⟨h.os, h.tape, h.output, h.size, fun k hk ho => h.block k hk (fun e => ho ((own_perm hp k).1 e)), fun k hk => by
    rcases h.own k ((own_perm hq k).2 hk) with h1 | h1
    · exact .inl ((own_perm hp k).1 h1)
    · exact .inr h1⟩
theorem MapIs.no {D : DataW Unit} {L : List Ent} (h : MapIs D L) (n : ByteArray) (hn : ∀ e ∈ L, e.name ≠ n) : Maps.has D (fk n) = false := by
  cases hh : Maps.has D (fk n) with
  | false => rfl
  | true =>
    obtain ⟨e, he, h1⟩ := h.only _ hh
    exact absurd (fk_inj h1).symm (hn e he)
/-- One file turns: its box, its bytes' row. -/
theorem IsDisk.one {w w' : World} {bm : Nat} {st : DSt} {D : DataW Unit} {e e' : Ent} {R : List Ent} (h : IsDisk w bm st D (e :: R)) (hf : IsFile w' bm e') (hn : e'.name = e.name) (hb : e'.bf = e.bf) (hv : ∀ k, e'.v.ownBlock = some k → e.v.ownBlock = some k ∨ w.heap.size ≤ k)
    (hos : w'.os = w.os) (ht : w'.tape = w.tape) (ho : w'.output = w.output) (hz : w.heap.size ≤ w'.heap.size) (hk : ∀ k, k < w.heap.size → k ≠ e.bf → e.v.ownBlock ≠ some k → w'.heap[k]? = w.heap[k]?) : IsDisk w' bm st D (e' :: R) ∧ DGrew bm w w' (e :: R) (e' :: R) := by
  have hap := List.pairwise_cons.1 h.fs.apart
  have hfe := h.fs.file e (by simp)
  have hlo := hfe.lo
  have hvl : ∀ k, e.v.ownBlock = some k → bm + 2 ≤ k := fun k h1 => (hfe.own.block k h1).1
  have hmem : ∀ q ∈ R, q ∈ e :: R := fun q hq => List.mem_cons_of_mem _ hq
  refine ⟨⟨?_, ?_, ?_, fun q hq => ?_, ?_⟩, hos, ht, ho, hz, fun k h1 h2 => hk k h1 (fun e' => h2 (.inr (.inr ⟨e, by simp, .inl e'⟩))) (fun e' => h2 (.inr (.inr ⟨e, by simp, .inr e'⟩))), fun k h1 => ?_⟩
  · rw [hk (bm + 1) (own_lt h (.inr (.inl rfl))) (by omega) (fun e' => by have := hvl _ e'; omega)]; exact h.box
  · exact ownsMap_kept h.fs.own (hk bm (own_lt h (.inl rfl)) (by omega) (fun e' => by have := hvl _ e'; omega))
  · refine ⟨h.fs.map.tidy, by simpa using h.fs.map.size, fun q hq => ?_, fun k hkk => ?_⟩
    · rcases List.mem_cons.1 hq with rfl | hq
      · have := h.fs.map.at_ e (by simp)
        rw [← hn, ← hb] at this
        exact this
      · exact h.fs.map.at_ q (hmem q hq)
    · obtain ⟨q, hq, h1⟩ := h.fs.map.only k hkk
      rcases List.mem_cons.1 hq with rfl | hq
      · exact ⟨e', by simp, by rw [hn]; exact h1⟩
      · exact ⟨q, List.mem_cons_of_mem _ hq, h1⟩
  · rcases List.mem_cons.1 hq with rfl | hq
    · exact hf
    · have hq2 := h.fs.file q (hmem q hq)
      have ha := hap.1 q hq
      refine hq2.kept fun k h1 => hk k (own_lt h (.inr (.inr ⟨q, hmem q hq, h1⟩))) ?_ ?_
      · rcases h1 with rfl | h1
        · exact ha.bf.symm
        · exact fun e' => ha.r (e' ▸ h1)
      · rcases h1 with rfl | h1
        · exact ha.l
        · exact fun e' => ha.v k e' h1
  · refine List.pairwise_cons.2 ⟨fun q hq => ?_, hap.2⟩
    have ha := hap.1 q hq
    have hlt : ∀ k, k = q.bf ∨ q.v.ownBlock = some k → k < w.heap.size := fun k h1 => own_lt h (.inr (.inr ⟨q, hmem q hq, h1⟩))
    refine ⟨by rw [hn]; exact ha.name, by rw [hb]; exact ha.bf, fun e1 => ?_, by rw [hb]; exact ha.r, fun k h1 h2 => ?_⟩
    · rcases hv _ e1 with h3 | h3
      · exact ha.l h3
      · have := hlt _ (.inl rfl); omega
    · rcases hv k h1 with h3 | h3
      · exact ha.v k h3 h2
      · have := hlt _ (.inr h2); omega
  · rcases h1 with h1 | h1 | ⟨q, hq, h1⟩
    · exact .inl (.inl h1)
    · exact .inl (.inr (.inl h1))
    · rcases List.mem_cons.1 hq with rfl | hq
      · rcases h1 with h1 | h1
        · exact .inl (.inr (.inr ⟨e, by simp, .inl (by rw [h1, hb])⟩))
        · rcases hv k h1 with h3 | h3
          · exact .inl (.inr (.inr ⟨e, by simp, .inr h3⟩))
          · exact .inr h3
      · exact .inl (.inr (.inr ⟨q, hmem q hq, h1⟩))
end Go.Proofs.Ytnpalplnpfgibaa
