/- Contract of the law's ordered (layer 10). -/
import Derived.Test.YtnpalplnpfgibaaItems2
import Derived.BigRegion
namespace Go.Proofs.Ytnpalplnpfgibaa
open Go.RowKit
def OrdOk (w : World) (e : Ending) (w' : World) : Prop := e = .returned (.bool true) ∧ Below w.heap.size w w'
set_option maxRecDepth 100000 in
set_option maxHeartbeats 8000000 in
theorem ordered {W : It → Prop} (a : Option Addr) (cap : Nat) (l : List It) (w : World) (hr : IsRowOf itCells W 2 w a l) (hh : HeapL l) (hl : l.length ≤ 1000000) : Calls Try.prog 21 #[.slice a l.length cap] w (OrdOk w) := by
  have HR := Lib.hid hr
  have HH := Lib.hid hh
  have bl : (l.length : Int) ≤ 1000000 := by omega
  have HB := Lib.hid (Below.refl w.heap.size w)
  clear hr hh
  go_enter Try.func21, Try.ntmps21
  go_wp2
  go_loopw [3] (fun i wr => ∃ k : Nat, 1 ≤ k ∧ i = .int .i64 k ∧ Hid (Below w.heap.size w wr)) (fun i _ => l.length + 1 - (intOf i).toNat)
  case atStart => exact ⟨1, Nat.le_refl _, rfl, HB⟩
  case round =>
    obtain ⟨k, hk1, rfl, HB⟩ := hrel
    have b1 : (1 : Int) ≤ (k : Int) := by omega
    by_cases hlt : k < l.length
    · have hpl : (k - 1) / 2 < l.length := by omega
      obtain ⟨b, off, rfl, hb, hck, _⟩ := HR.out k hlt
      obtain ⟨b', off', hax, _, hcp, hwp⟩ := HR.out ((k - 1) / 2) hpl
      simp only [Option.some.injEq, Addr.mk.injEq] at hax
      obtain ⟨rfl, rfl, _⟩ := hax
      have HL := Lib.hid (HH.out k hlt (by omega))
      obtain ⟨y, hy⟩ : ∃ y, y = l[k] := ⟨_, rfl⟩
      obtain ⟨x, hx⟩ : ∃ x, x = l[(k - 1) / 2] := ⟨_, rfl⟩
      have HXY := Lib.hid (show decide (y.lt x) = false by rw [hy, hx]; exact decide_eq_false HL.out)
      rw [← hy] at hck
      rw [← hx] at hcp
      have ck0 := (HB.out.cell (p := ⟨b, off + k * 2, none⟩) hb).trans (hck 0 (by omega))
      have ck1 := (HB.out.cell (p := ⟨b, off + k * 2 + 1, none⟩) hb).trans (hck 1 (by omega))
      have cp0 := (HB.out.cell (p := ⟨b, off + (k - 1) / 2 * 2, none⟩) hb).trans (hcp 0 (by omega))
      have cp1 := (HB.out.cell (p := ⟨b, off + (k - 1) / 2 * 2 + 1, none⟩) hb).trans (hcp 1 (by omega))
      simp only [itCells, List.getElem?_cons_zero, List.getElem?_cons_succ] at ck0 ck1 cp0 cp1
      have hbr : b < wr.heap.size := Nat.lt_of_lt_of_le hb HB.out.size
      obtain ⟨p, hp⟩ : ∃ p, p = (k - 1) / 2 := ⟨_, rfl⟩
      rw [← hp] at cp0 cp1
      have e1 : ((k : Int) - 1) / 2 = (p : Int) := by omega
      have bkl : (k : Int) < (l.length : Int) := by omega
      have bp0 : (0 : Int) ≤ (p : Int) := by omega
      have bpl : (p : Int) < (l.length : Int) := by omega
      clear hck hcp hy hx hp HL hwp hpl
      go_wp2
      go_region
      go_wp2
      go_region
      go_wp2_with fail
      refine (refBefore y x _).mono ?_
      rintro e W5 ⟨rfl, hb5⟩
      rw [HXY.out]
      have HB5 := Lib.hid (HB.out.trans ((((((Below.refl wr.heap.size wr).alloc (Nat.le_refl _) (.cells #[.int .u64 x.t, .string x.k] 40)).alloc (by simp) (.cells #[.int .u64 y.t, .string y.k] 40)).drew.drew).trans (Below.mono hb5 (by simp; omega))).mono HB.out.size))
      clear hb5 ck0 ck1 cp0 cp1 e1
      go_wp2
      go_roundw
      case rel => exact ⟨k + 1, by omega, by go_num, HB5⟩
      case measure => simp [intOf]; omega
    · have bkl : (l.length : Int) ≤ (k : Int) := by omega
      go_wp2
      go_ret
      exact ⟨rfl, HB.out⟩
end Go.Proofs.Ytnpalplnpfgibaa
