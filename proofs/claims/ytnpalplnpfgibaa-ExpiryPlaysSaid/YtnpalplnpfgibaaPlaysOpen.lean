/- The argument of ExpiryPlays; what lies about in its round. -/
import Derived.Test.YtnpalplnpfgibaaOrdered
namespace Go.Proofs.Ytnpalplnpfgibaa
open Go.RowKit Go.ChangeShapes Go.WideShapes
def deCells (q : Int × It) : List Value := [.int .i64 q.1, .int .u64 q.2.t, .string q.2.k]
def deWf (q : Int × It) : Prop := (Lit.int .i64 q.1).wf = true ∧ q.2.wf
section
variable {H : Type} {enc : TypeId × Value → H} {w : World} {base : Nat} {spare : Nat → Bool} {held : Bool}
set_option maxRecDepth 100000 in
theorem open_de {n : Nat} {cs : List Value} {y : DataW H × List MemPlace} (h : DataW.trod enc Try.prog w base spare held n 37 cs = some y) : ∃ q : Int × It, (∀ j, j < 3 → cs[j]? = (deCells q)[j]?) ∧ deWf q := by
  obtain ⟨xs, m, _, _, hcs, hxs, hf⟩ := DataW.trod_struct Try.underlying37 h
  have hlen : xs.length = 2 := hxs
  have h0 := hf 0 _ rfl
  have h1 := hf 1 _ rfl
  rw [List.getElem?_eq_getElem (by omega)] at h0 h1
  obtain ⟨x0, e0, f0⟩ := el_int Try.underlying3 h0
  obtain ⟨x1, e1, f1⟩ := open_it h1
  have g0 := e1 0 (by omega)
  have g1 := e1 1 (by omega)
  simp [List.getElem?_take, itCells] at g0 g1
  refine ⟨⟨x0, x1⟩, fun j hj => ?_, f0, f1⟩
  match j, hj with
  | 0, _ => exact e0
  | 1, _ => first | exact g0 | exact g0.2
  | 2, _ => first | exact g1 | exact g1.2
theorem de_cells : Try.prog.cellsOf 37 = 3 := by kernel_rfl
end
abbrev In_ExpiryPlays_0.T := List (Int × It)
def In_ExpiryPlays_0 (w : World) (a : Option Addr) (len _cap : Nat) (z : In_ExpiryPlays_0.T) : Prop := z.length = len ∧ IsRowOf deCells deWf 3 w a z ∧ len ≤ maxLen
theorem open_ExpiryPlays_0 {H : Type} {enc : TypeId × Value → H} {w : World} {base : Nat} {spare : Nat → Bool} {held : Bool} {a : Option Addr} {len cap : Nat} {d : DataW H} {p : List MemPlace} (h : DataW.Trod enc Try.prog w base spare held 34 (.slice a len cap) d p) : ∃ z, In_ExpiryPlays_0 w a len cap z :=
  open_rowOf (0, ⟨0, ByteArray.empty⟩) deCells deWf 3 _ _ Try.underlying34 de_cells (by omega) (fun _ => rfl) (fun _ _ _ h => open_de h) h
set_option maxHeartbeats 1000000 in
theorem pick10 (c : Int) (w : World) (hc : (Lit.int .i64 c).wf = true) : Calls Try.prog 16 #[.int .i64 c, .int .i64 4] w (fun e w' => (∃ p : Int, 0 ≤ p ∧ p < 4 ∧ e = .returned (.int .i64 p)) ∧ w' = w) := by
  obtain ⟨h1, h2⟩ := i64_of_wf hc
  by_cases h : c < 0
  · have d : decide (c < 0) = true := by simp; omega
    have hw1 : IntKind.i64.wrap (c + 1) = c + 1 := by rw [IntKind.wrap_i64]; omega
    have hw2 : IntKind.i64.wrap (-(c + 1)) = -(c + 1) := by rw [IntKind.wrap_i64]; omega
    have HH := Lib.hid h
    clear h h1 h2 hc
    go_enter Try.func16, Try.ntmps16
    go_wp2
    go_ret
    refine ⟨⟨-(c + 1).tmod 4, ?_, ?_, rfl⟩, rfl⟩ <;> rw [← Int.neg_tmod]
    · exact Int.tmod_nonneg _ (by have := HH.out; omega)
    · exact Int.tmod_lt_of_pos _ (by omega)
  · have d : decide (c < 0) = false := by simp; omega
    have HH := Lib.hid h
    clear h h1 h2 hc
    go_enter Try.func16, Try.ntmps16
    go_wp2
    go_ret
    refine ⟨⟨c.tmod 4, ?_, ?_, rfl⟩, rfl⟩
    · exact Int.tmod_nonneg _ (by have := HH.out; omega)
    · exact Int.tmod_lt_of_pos _ (by omega)
/-- The heap at bh, and the reference's slice mv, both have ms. -/
structure PSt (w : World) (bh : Nat) (v mv : Value) (ms : List It) (wr : World) : Prop where
  has : HasIt wr bh v ms
  row : MRow wr mv ms
  apart : ∀ k, mv.ownBlock = some k → k ≠ bh ∧ v.ownBlock ≠ some k ∧ k < wr.heap.size
  bel : Below w.heap.size w wr
  base : w.heap.size ≤ bh
theorem MRow.kept {w w' : World} {v : Value} {m : List It} (h : MRow w v m) (hz : w.heap.size ≤ w'.heap.size) (hk : ∀ k, v.ownBlock = some k → w'.heap[k]? = w.heap[k]?) : MRow w' v m := by
  obtain ⟨a, cap, rfl, h1, h2, h3, h4⟩ := h
  refine ⟨a, cap, rfl, fun i hi => ?_, h2, h3, ?_⟩
  · obtain ⟨b, off, rfl, g1, g2, g3⟩ := h1 i hi
    exact ⟨b, off, rfl, Nat.lt_of_lt_of_le g1 hz, fun j hj => by rw [← g2 j hj]; exact World.cell?_of_block (w := w) (hk b rfl), g3⟩
  · rcases h4 with h4 | ⟨b, off, e, hb⟩
    · exact .inl h4
    · exact .inr ⟨b, off, e, Nat.lt_of_lt_of_le hb hz⟩
theorem PSt.bel' {w wr w1 : World} {bh : Nat} {v mv : Value} {ms : List It} (h : PSt w bh v mv ms wr) (hb : Below wr.heap.size wr w1) : PSt w bh v mv ms w1 :=
  ⟨h.has.bel hb, h.row.kept hb.size fun k hk => hb.block k (h.apart k hk).2.2, fun k hk => ⟨(h.apart k hk).1, (h.apart k hk).2.1, Nat.lt_of_lt_of_le (h.apart k hk).2.2 hb.size⟩, h.bel.trans (hb.mono h.bel.size), h.base⟩
theorem PSt.turn {w wr w1 : World} {bh : Nat} {v v1 mv : Value} {ms m1 : List It} (h : PSt w bh v mv ms wr) (hg : HGrew bh wr w1 v v1) (h1 : HasIt w1 bh v1 m1) : HasIt w1 bh v1 m1 ∧ MRow w1 mv ms ∧ (∀ k, mv.ownBlock = some k → k ≠ bh ∧ v1.ownBlock ≠ some k ∧ k < w1.heap.size) ∧ Below w.heap.size w w1 ∧ w.heap.size ≤ bh := by
  refine ⟨h1, h.row.kept hg.size fun k hk => ?_, fun k hk => ?_, h.bel.trans (h.has.below hg h.base), h.base⟩
  · obtain ⟨h2, h3, h4⟩ := h.apart k hk
    exact hg.block k h4 h2 h3
  · obtain ⟨h2, h3, h4⟩ := h.apart k hk
    refine ⟨h2, fun e => ?_, Nat.lt_of_lt_of_le h4 hg.size⟩
    rcases hg.own k e with h5 | h5
    · exact h3 h5
    · omega
theorem MRow.own {B : Nat} {w : World} {v : Value} {m : List It} (h : OwnOf 40 itCells 2 B w v m) (hw : ∀ a ∈ m, a.wf) : MRow w v m := by
  obtain ⟨a, cap, rfl, h1, h2, h3, h4⟩ := OwnOf.rowOf (C := itCells) (W := It.wf) (fun _ => rfl) hw h
  refine ⟨a, cap, rfl, h1, h2, h3, ?_⟩
  by_cases hm : m = []
  · exact .inl hm
  · have : 0 < m.length := List.length_pos_iff.2 hm
    obtain ⟨b, off, rfl, hb, _⟩ := h1 0 this
    exact .inr ⟨b, off, rfl, hb⟩
/-- What 'm[1:]' is. -/
theorem MRow.tail {w : World} {a : Option Addr} {n cap : Nat} {x : It} {m : List It} (h : MRow w (.slice a n cap) (x :: m)) : n = m.length + 1 ∧ ∃ b off, a = some ⟨b, off, none⟩ ∧ b < w.heap.size ∧ m.length + 1 ≤ cap ∧ cap ≤ maxLen ∧
    w.cell? ⟨b, off, none⟩ = some (.int .u64 x.t) ∧ w.cell? ⟨b, off + 1, none⟩ = some (.string x.k) ∧ (cap ≠ 1 → MRow w (.slice (some ⟨b, off + 2, none⟩) m.length (cap - 1)) m) ∧ (cap = 1 → m = [] ∧ MRow w (.slice (some ⟨b, off, none⟩) 0 0) []) := by
  obtain ⟨a', cap', hv, h1, h2, h3, h4⟩ := h
  simp only [Value.slice.injEq] at hv
  obtain ⟨rfl, hn, rfl⟩ := hv
  obtain ⟨b, off, rfl, hb, hc, _⟩ := h1 0 (by simp)
  have hd := h1.dropN 1
  simp only [List.length_cons] at h2 hn
  refine ⟨hn, b, off, rfl, hb, h2, h3, by simpa [itCells] using hc 0 (by omega), by simpa [itCells] using hc 1 (by omega), fun hc1 => ?_, fun hc1 => ?_⟩
  · exact ⟨some ⟨b, off + 2, none⟩, cap - 1, rfl, by simpa using hd, by omega, by omega, .inr ⟨b, off + 2, rfl, hb⟩⟩
  · obtain rfl : m = [] := List.eq_nil_of_length_eq_zero (by omega)
    exact ⟨rfl, ⟨_, 0, rfl, fun i hi => by simp at hi, Nat.le_refl _, Nat.zero_le _, .inl rfl⟩⟩
end Go.Proofs.Ytnpalplnpfgibaa
