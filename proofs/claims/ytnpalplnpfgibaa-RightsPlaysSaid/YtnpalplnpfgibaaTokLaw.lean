/- hassocklaw12.place, rights.Table.Len; the deeds that came in. -/
import Derived.Test.YtnpalplnpfgibaaTokPlain
import Derived.Test.YtnpalplnpfgibaaRowOf
namespace Go.Proofs.Ytnpalplnpfgibaa
open Go.RowKit Go.ChangeShapes Go.WideShapes
set_option linter.unusedSimpArgs false
set_option linter.unusedVariables false
theorem tks_key {w : World} {a : Option Addr} {m : List Tk} (h : IsTks w a m) {i : Nat} (hi : i < m.length) : ∃ b off, a = some ⟨b, off, none⟩ ∧ b < w.heap.size ∧ w.cell? ⟨b, off + i * 14 + 7, none⟩ = some (.int .u32 m[i].k) := by
  obtain ⟨b, off, h1, h2, h3, _⟩ := h i hi
  exact ⟨b, off, h1, h2, (h3 7 (by omega)).trans rfl⟩
structure PlaceOk (m : List Tk) (x : Int) (w : World) (e : Ending) (w' : World) : Prop where
  ret : ∃ (p : Nat) (is : Bool), e = .returned (.tuple #[.int .i64 (p : Int), .bool is]) ∧ PlaceAt m x p is
  bel : Below w.heap.size w w'
set_option maxRecDepth 100000 in
set_option maxHeartbeats 2000000 in
theorem lawPlace (a : Option Addr) (cap : Nat) (m : List Tk) (x : Int) (w : World) (h : IsTks w a m) (hl : m.length ≤ 1000) : Calls Try.prog 37 #[.slice a m.length cap, .int .u32 x] w (PlaceOk m x w) := by
  have HR := Lib.hid h
  have HL := Lib.hid hl
  clear h hl
  go_enter Try.func37, Try.ntmps37
  go_wp2
  go_loopw [6] (fun iv wr => ∃ i : Nat, i ≤ m.length ∧ iv = .int .i64 (i : Int) ∧ wr = w ∧ Hid (∀ j (h : j < m.length), j < i → m[j].k < x)) (fun iv _ => m.length - (Go.RowKit.intOf iv).toNat)
  case atStart => exact ⟨0, Nat.zero_le _, rfl, rfl, Lib.hid (fun j _ h => absurd h (Nat.not_lt_zero _))⟩
  case round =>
    obtain ⟨i, hi, rfl, rfl, HJ⟩ := hrel
    by_cases hlt : i < m.length
    · have hli : (i : Int) < (m.length : Int) := by omega
      obtain ⟨b, off, rfl, hbl, hck⟩ := tks_key HR.out hlt
      obtain ⟨y, hy⟩ : ∃ y, y = m[i].k := ⟨_, rfl⟩
      rw [← hy] at hck
      have HY := Lib.hid hy
      have HLT := Lib.hid hlt
      have hw1 : IntKind.i64.wrap ((i : Int) + 1) = (i : Int) + 1 := by have := HL.out; rw [IntKind.wrap_i64]; omega
      clear hy
      by_cases hyx : y < x
      · have d1 : decide (y < x) = true := decide_eq_true hyx
        have HJ2 := Lib.hid (show ∀ j (h : j < m.length), j < i + 1 → m[j].k < x from fun j h hj => by
          by_cases hji : j = i
          · subst hji; have := HY.out; omega
          · exact HJ.out j h (by omega))
        clear hyx
        go_wp2
        go_roundw
        case rel => exact ⟨i + 1, HLT.out, by go_num, by first | rfl | trivial, HJ2⟩
        case measure => have := HLT.out; simp [Go.RowKit.intOf]; omega
      · have d1 : decide (y < x) = false := decide_eq_false hyx
        have d2 : ((i : Int) == (m.length : Int)) = false := by rw [beq_eq_false_iff_ne]; omega
        have d3 : ¬ i = m.length := by omega
        have HP := Lib.hid (show PlaceAt m x i (decide (y = x)) from ⟨hi, HJ.out, (fun h => by have := HY.out; omega), by rw [List.getElem?_eq_getElem hlt, HY.out]⟩)
        clear hyx
        have hbe : (y == x) = decide (y = x) := rfl
        go_wp2
        go_quiet (fail)
        go_wp2
        go_ret2
        exact ⟨⟨i, decide (y = x), by first | rfl | simp, HP.out⟩, below_drewN (Below.refl _ _) nq⟩
    · obtain rfl : i = m.length := by omega
      have hli : decide ((m.length : Int) < (m.length : Int)) = false := by rw [decide_eq_false_iff_not]; omega
      have HP := Lib.hid (show PlaceAt m x m.length false from ⟨Nat.le_refl _, HJ.out, (fun h => absurd h (Nat.lt_irrefl _)), by rw [List.getElem?_eq_none (Nat.le_refl _)]⟩)
      clear hlt hi
      go_wp2
      go_ret2
      exact ⟨⟨m.length, false, rfl, HP.out⟩, Below.refl _ _⟩
set_option maxHeartbeats 1000000 in
theorem rightsLen (bm n : Nat) (D : DataW Unit) (w : World) (ht : IsTable w bm n D) : Calls Try.prog 43 #[.pointer (some ⟨bm + 1, 0, none⟩)] w (fun e w' => e = .returned (.int .i64 (Maps.size D : Int)) ∧ w' = w) := by
  have hc := ht.cell
  have hln := ht.2.len Try.underlying136 3
  clear ht
  go_enter Try.func43, Try.ntmps43
  go_wp2
  go_ret
  exact ⟨rfl, rfl⟩
/-- A deed: what, serial, rights, secret. -/
structure RDeed where
  what : Int
  serial : Int
  rights : Int
  secret : Int
def RDeed.cells (q : RDeed) : List Value := [.int .i64 q.what, .int .u32 q.serial, .int .i64 q.rights, .int .u64 q.secret]
def RDeed.wf (q : RDeed) : Prop := (Lit.int .i64 q.what).wf = true ∧ (Lit.int .u32 q.serial).wf = true
section
variable {H : Type} {enc : TypeId × Value → H} {w : World} {base : Nat} {spare : Nat → Bool} {held : Bool}
set_option maxRecDepth 100000 in
theorem open_rdeed {n : Nat} {cs : List Value} {y : DataW H × List MemPlace} (h : DataW.trod enc Try.prog w base spare held n 69 cs = some y) : ∃ q : RDeed, (∀ j, j < 4 → cs[j]? = (q.cells)[j]?) ∧ q.wf := by
  obtain ⟨xs, m, _, _, hcs, hxs, hf⟩ := DataW.trod_struct Try.underlying69 h
  have hlen : xs.length = 4 := hxs
  have h0 := hf 0 _ rfl
  have h1 := hf 1 _ rfl
  have h2 := hf 2 _ rfl
  have h3 := hf 3 _ rfl
  rw [List.getElem?_eq_getElem (by omega)] at h0 h1 h2 h3
  obtain ⟨x0, e0, f0⟩ := el_int Try.underlying3 h0
  obtain ⟨x1, e1, f1⟩ := el_int Try.underlying67 h1
  obtain ⟨x2, e2, _⟩ := el_int Try.underlying3 h2
  obtain ⟨x3, e3, _⟩ := el_int Try.underlying28 h3
  refine ⟨⟨x0, x1, x2, x3⟩, fun j hj => ?_, f0, f1⟩
  match j, hj with
  | 0, _ => exact e0
  | 1, _ => exact e1
  | 2, _ => exact e2
  | 3, _ => exact e3
theorem rdeed_cells : Try.prog.cellsOf 69 = 4 := by kernel_rfl
end
abbrev In_RightsPlays_0.T := List RDeed
def In_RightsPlays_0 (w : World) (a : Option Addr) (len _cap : Nat) (z : In_RightsPlays_0.T) : Prop := z.length = len ∧ IsRowOf RDeed.cells RDeed.wf 4 w a z ∧ len ≤ maxLen
theorem open_RightsPlays_0 {H : Type} {enc : TypeId × Value → H} {w : World} {base : Nat} {spare : Nat → Bool} {held : Bool} {a : Option Addr} {len cap : Nat} {d : DataW H} {p : List MemPlace} (h : DataW.Trod enc Try.prog w base spare held 62 (.slice a len cap) d p) : ∃ z, In_RightsPlays_0 w a len cap z :=
  open_rowOf ⟨0, 0, 0, 0⟩ RDeed.cells RDeed.wf 4 _ _ Try.underlying62 rdeed_cells (by omega) (fun _ => rfl) (fun _ _ _ h => open_rdeed h) h
end Go.Proofs.Ytnpalplnpfgibaa
