/- The contract of the reference's Few. -/
import Derived.Test.YtiihemmonncioaaRecCost
namespace Go.Proofs.Ytiihemmonncioaa
open Go.RowKit
/-- Few is told only of so many. -/
def FewOk (l : List Rec) (most : Nat) (w : World) (e : Ending) (w' : World) : Prop := w = w' ∧ ∃ f : Bool, e = .returned (.bool f) ∧ (f = true → l.length ≤ most)
set_option maxRecDepth 100000 in
set_option maxHeartbeats 4000000 in
theorem recFew (a : Option Addr) (cap : Nat) (l : List Rec) (most : Nat) (w : World) (hl : l.length ≤ maxLen) (h : IsRecs w a l) :
    Calls Try.prog 22 #[.slice a l.length cap, .int .i64 (most : Int)] w (FewOk l most w) := by
  have HI := Lib.hid h
  have HLL := Lib.hid hl
  clear h hl
  go_enter Try.func22, Try.ntmps22
  go_wp2
  go_loop [5] (fun i => ∃ j : Nat, j ≤ l.length ∧ i = .int .i64 j) (fun i => l.length - (intOf i).toNat)
  case atStart => exact ⟨0, Nat.zero_le _, rfl⟩
  case round =>
    obtain ⟨j, hj, rfl⟩ := hrel
    by_cases hlt : j < l.length
    · obtain ⟨b, off, rfl, _, hrec, _⟩ := HI.out j hlt
      have hc1 : w.cell? ⟨b, off + j * 14 + 10, none⟩ = some (.string l[j].key) := hrec 10 (by omega)
      have hc2 : w.cell? ⟨b, off + j * 14 + 11, none⟩ = some (.string l[j].val) := hrec 11 (by omega)
      have hw : IntKind.i64.wrap ((j : Int) + 1) = (j : Int) + 1 := by have h1 := HLL.out; unfold maxLen at h1; rw [IntKind.wrap_i64]; omega
      clear hrec
      generalize l[j].key = key at *
      generalize l[j].val = val at *
      by_cases hk : 200 < key.size
      · have d1 : decide ((200 : Int) < (key.size : Int)) = true := by rw [decide_eq_true_eq]; omega
        have d2 : decide (200 < key.size) = true := by rw [decide_eq_true_eq]; omega
        clear hk
        go_wp2
        go_ret
        exact ⟨rfl, false, rfl, fun h => by cases h⟩
      have d1 : decide ((200 : Int) < (key.size : Int)) = false := by rw [decide_eq_false_iff_not]; omega
      have d2 : decide (200 < key.size) = false := by rw [decide_eq_false_iff_not]; omega
      by_cases hv : 2000 < val.size
      · have d3 : decide ((2000 : Int) < (val.size : Int)) = true := by rw [decide_eq_true_eq]; omega
        have d4 : decide (2000 < val.size) = true := by rw [decide_eq_true_eq]; omega
        clear hk hv
        go_wp2
        go_ret
        exact ⟨rfl, false, rfl, fun h => by cases h⟩
      have d3 : decide ((2000 : Int) < (val.size : Int)) = false := by rw [decide_eq_false_iff_not]; omega
      have d4 : decide (2000 < val.size) = false := by rw [decide_eq_false_iff_not]; omega
      clear hk hv
      go_wp2
      go_round
      case rel => exact ⟨j + 1, by omega, by go_num⟩
      case measure => simp [intOf]; omega
    · obtain rfl : j = l.length := by omega
      by_cases hm : l.length ≤ most
      · have d1 : decide ((l.length : Int) ≤ (most : Int)) = true := by rw [decide_eq_true_eq]; omega
        have d2 : decide (l.length ≤ most) = true := by rw [decide_eq_true_eq]; omega
        have HM := Lib.hid hm
        clear hm hlt hj
        go_wp2
        go_ret
        exact ⟨rfl, true, rfl, fun _ => HM.out⟩
      · have d1 : decide ((l.length : Int) ≤ (most : Int)) = false := by rw [decide_eq_false_iff_not]; omega
        have d2 : decide (l.length ≤ most) = false := by rw [decide_eq_false_iff_not]; omega
        clear hm hlt hj
        go_wp2
        go_ret
        exact ⟨rfl, false, rfl, fun h => by cases h⟩
end Go.Proofs.Ytiihemmonncioaa
