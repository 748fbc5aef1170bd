/- Contracts: quota.Reserve, its closure, Admits, Check, the law's head. -/
import Derived.Test.YtkfpolhglndbkaaInts
import Derived.Test.YtkfpolhglndbkaaQuotaPure
namespace Go.Proofs.Ytkfpolhglndbkaa
open Go.RowKit

/-- The cell of the sum. -/
def SumAt (g : Nat) (s : Int) (w : World) : Prop := w.heap[g]? = some (.cells #[.int .i64 s] 2 (0, 0))
theorem SumAt.set {g : Nat} {s : Int} {w : World} (h : SumAt g s w) (t : Int) : SumAt g t (w.setCell ⟨g, 0, none⟩ (.int .i64 t)) := heap_setCell_same w g 0 _ _ _ h

theorem addTrue (g : Nat) (s n : Int) (w : World) (h : SumAt g s w) (hs : 0 ≤ s) (hs2 : s ≤ 4611686018427382903) (hn : 0 ≤ n) (hns : n ≤ 4611686018427382903 - s) :
    Calls Try.prog 62 #[.int .i64 n, .pointer (some ⟨g, 0, none⟩)] w (fun e w' => e = .returned (.bool true) ∧ w' = w.setCell ⟨g, 0, none⟩ (.int .i64 (s + n))) := by
  have hc := cell_of_row w g 0 _ _ _ h
  have hf := frozen_of_row w g 0 _ _ h
  simp at hc
  have d0 : decide (n < 0) = false := by simp; omega
  have hw1 : IntKind.i64.wrap (4611686018427382903 - s) = 4611686018427382903 - s := by rw [IntKind.wrap_i64]; omega
  have d1 : decide (4611686018427382903 - s < n) = false := by simp; omega
  have hw2 : IntKind.i64.wrap (s + n) = s + n := by rw [IntKind.wrap_i64]; omega
  clear h
  go_enter Try.func62, Try.ntmps62
  go_wp2
  go_ret
  exact ⟨rfl, rfl⟩
theorem addFalse (g : Nat) (s n : Int) (w : World) (h : SumAt g s w) (hs : 0 ≤ s) (hs2 : s ≤ 4611686018427382903) (hn : n < 0 ∨ 4611686018427382903 - s < n) :
    Calls Try.prog 62 #[.int .i64 n, .pointer (some ⟨g, 0, none⟩)] w (fun e w' => e = .returned (.bool false) ∧ w' = w) := by
  have hc := cell_of_row w g 0 _ _ _ h
  simp at hc
  clear h
  by_cases h0 : n < 0
  · have d0 : decide (n < 0) = true := by simp; omega
    go_enter Try.func62, Try.ntmps62
    go_wp2
    go_ret
    exact ⟨rfl, rfl⟩
  · have d0 : decide (n < 0) = false := by simp; omega
    have hw1 : IntKind.i64.wrap (4611686018427382903 - s) = 4611686018427382903 - s := by rw [IntKind.wrap_i64]; omega
    have d1 : decide (4611686018427382903 - s < n) = true := by simp; omega
    go_enter Try.func62, Try.ntmps62
    go_wp2
    go_ret
    exact ⟨rfl, rfl⟩

theorem addsI_range (l : List Int) (s : Int) (h : addsI l 0 = some s) : 0 ≤ s ∧ s ≤ 4611686018427382903 := by
  obtain ⟨h1, h2, h3⟩ := addsI_out l 0 s (by omega) (by omega) h
  have := sumI_nonneg l h1
  omega
theorem reserveV_def (l : List Int) (admin : Int) : reserveV l admin = (match addsI (l ++ [admin]) 0 with | some s => 2 * s + 10000 | none => 9223372036854775807) := by
  with_unfolding_all rfl
theorem addsI_take_succ {l : List Int} {j : Nat} (hj : j < l.length) {s : Int} (h : addsI (l.take j) 0 = some s) : addsI (l.take (j + 1)) 0 = if l[j] < 0 ∨ 4611686018427382903 - s < l[j] then none else some (s + l[j]) := by
  rw [List.take_succ_eq_append_getElem hj, addsI_append, h]
  simp [addsI]
theorem addsI_none {l : List Int} {j : Nat} (h : addsI (l.take j) 0 = none) (a : Int) : reserveV l a = 9223372036854775807 := by
  rw [reserveV_def, ← List.take_append_drop j l, List.append_assoc, addsI_append, h]
  rfl

def ReserveOk (l : List Int) (admin : Int) (w : World) (e : Ending) (w' : World) : Prop := e = .returned (.int .i64 (reserveV l admin)) ∧ Below w.heap.size w w'

set_option maxHeartbeats 1000000 in
set_option maxRecDepth 100000 in
theorem reserveC (a : Option Addr) (cap : Nat) (l : List Int) (admin : Int) (w : World) (hl : l.length ≤ 1000000000000) (hwf : ∀ n ∈ l, (Lit.int .i64 n).wf = true) (h : IsInts w a l) :
    Calls Try.prog 33 #[.slice a l.length cap, .int .i64 admin] w (ReserveOk l admin w) := by
  have H := Lib.hid h
  have HWF := Lib.hid hwf
  clear h hwf
  have hmf : ∀ (fn : Fn) (first cap : Array Value) (w : World), (Instr.makeFunc fn first cap).run Try.prog w = .ok (.func fn first cap) w := fun _ _ _ _ => rfl
  go_enter Try.func33, Try.ntmps33
  go_wp2
  go_loopw [8, 12] (fun _ i wr => ∃ (j : Nat) (s : Int), j ≤ l.length ∧ i = .int .i64 j ∧ Hid (addsI (l.take j) 0 = some s) ∧ Hid (SumAt w.heap.size s wr) ∧ Hid (Below w.heap.size w wr)) (fun _ i _ => l.length - (intOf i).toNat)
  case atStart => exact ⟨0, 0, by omega, rfl, rfl, heap_alloc_new w _, (Below.refl _ w).alloc (Nat.le_refl _) _⟩
  case round =>
    obtain ⟨j, s, hj, rfl, HA, HS, HB⟩ := hrel
    obtain ⟨hs0, hs1⟩ := addsI_range _ _ HA.out
    by_cases hlt : j < l.length
    · have HT := Lib.hid (addsI_take_succ hlt HA.out)
      obtain ⟨b, off, rfl, _, hc⟩ := (H.out.bel HB.out) j hlt
      generalize l[j] = n at *
      by_cases hn : n < 0 ∨ 4611686018427382903 - s < n
      · have HN := Lib.hid (addsI_none (by rw [HT.out, if_pos hn]) admin)
        go_wp2_with fail
        refine (addFalse w.heap.size s n _ HS.out hs0 hs1 hn).mono ?_
        rintro e w2 ⟨rfl, rfl⟩
        go_wp2
        go_ret
        exact ⟨by rw [HN.out]; rfl, HB.out⟩
      · have HN := Lib.hid (show addsI (l.take (j + 1)) 0 = some (s + n) by rw [HT.out, if_neg hn])
        go_wp2_with fail
        refine (addTrue w.heap.size s n _ HS.out hs0 hs1 (by omega) (by omega)).mono ?_
        rintro e w2 ⟨rfl, rfl⟩
        go_wp2
        go_roundw
        case rel => exact ⟨j + 1, s + n, by omega, by go_num, HN, HS.out.set _, HB.out.setCell (by simp) _⟩
        case measure => simp [intOf]; omega
    · obtain rfl : j = l.length := by omega
      have hA : addsI l 0 = some s := by have := HA.out; rwa [List.take_length] at this
      by_cases hn : admin < 0 ∨ 4611686018427382903 - s < admin
      · have hr : reserveV l admin = 9223372036854775807 := by rw [reserveV_def, addsI_append, hA]; simp [addsI, if_pos hn]
        have HR := Lib.hid hr
        clear hr hA
        go_wp2_with fail
        refine (addFalse w.heap.size s admin _ HS.out hs0 hs1 hn).mono ?_
        rintro e w2 ⟨rfl, rfl⟩
        go_wp2
        go_ret
        exact ⟨by rw [HR.out]; rfl, HB.out⟩
      · have hr : reserveV l admin = 2 * (s + admin) + 10000 := by rw [reserveV_def, addsI_append, hA]; simp [addsI, if_neg hn]
        have HR := Lib.hid hr
        clear hr hA
        go_wp2_with fail
        refine (addTrue w.heap.size s admin _ HS.out hs0 hs1 (by omega) (by omega)).mono ?_
        rintro e w2 ⟨rfl, rfl⟩
        have hw1 : IntKind.i64.wrap (2 * (s + admin)) = 2 * (s + admin) := by rw [IntKind.wrap_i64]; omega
        have hw2 : IntKind.i64.wrap (2 * (s + admin) + 10000) = 2 * (s + admin) + 10000 := by rw [IntKind.wrap_i64]; omega
        have hcs := cell_of_row _ _ 0 _ _ _ (HS.out.set (s + admin))
        simp at hcs
        go_wp2
        go_ret
        exact ⟨by rw [HR.out]; rfl, HB.out.setCell (by simp) _⟩
end Go.Proofs.Ytkfpolhglndbkaa
