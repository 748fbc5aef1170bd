/- The head of the laws of rights; pick. -/
import Derived.Test.YtnpalplnpfgibaaTok
namespace Go.Proofs.Ytnpalplnpfgibaa
open Go.RowKit
set_option linter.unusedSimpArgs false
set_option linter.unusedVariables false
set_option maxHeartbeats 1000000 in
theorem rightsPick (c : Int) (w : World) (hc : (Lit.int .i64 c).wf = true) : Calls Try.prog 38 #[.int .i64 c, .int .i64 3] w (fun e w' => (∃ p : Int, e = .returned (.int .i64 p)) ∧ w' = w) := by
  obtain ⟨h1, h2⟩ := i64_of_wf hc
  by_cases h : c < 0
  · have d : decide (c < 0) = true := by simp; omega
    have hw1 : IntKind.i64.wrap (c + 1) = c + 1 := by rw [IntKind.wrap_i64]; omega
    have hw2 : IntKind.i64.wrap (-(c + 1)) = -(c + 1) := by rw [IntKind.wrap_i64]; omega
    clear h h1 h2 hc
    go_enter Try.func38, Try.ntmps38
    go_wp2
    go_ret
    exact ⟨⟨_, rfl⟩, rfl⟩
  · have d : decide (c < 0) = false := by simp; omega
    clear h h1 h2 hc
    go_enter Try.func38, Try.ntmps38
    go_wp2
    go_ret
    exact ⟨⟨_, rfl⟩, rfl⟩
theorem within37 (w : World) : Calls Try.prog 35 #[.int .i64 3, .int .i64 7] w (fun e w' => e = .returned (.bool true) ∧ w' = w) := by
  go_enter Try.func35, Try.ntmps35
  go_wp2
  go_ret
  exact ⟨rfl, rfl⟩
theorem within07 (w : World) : Calls Try.prog 35 #[.int .i64 0, .int .i64 7] w (fun e w' => e = .returned (.bool false) ∧ w' = w) := by
  go_enter Try.func35, Try.ntmps35
  go_wp2
  go_ret
  exact ⟨rfl, rfl⟩
theorem keyLit (k : Int) : WideAt.IsKeyLit (.int .u32 k) := by first | trivial | simp [WideAt.IsKeyLit] | exact ⟨⟩
theorem put_at (D : DataW Unit) (hD : Maps.IsMap D) (k r s : Int) : (D.put (.int .u32 k) (tokD r s)).atKey (.int .u32 k) (tokD 0 0) = tokD r s ∧ Maps.has (D.put (.int .u32 k) (tokD r s)) (.int .u32 k) = true :=
  ⟨Maps.atKey_put_same hD (keyLit k) _ _, Maps.has_put_same hD (keyLit k) _⟩
theorem u32wf1 : (Lit.int .u32 1).wf = true := by decide
set_option maxRecDepth 100000 in
set_option maxHeartbeats 1000000 in
theorem rightsUp (w : World) : Calls Try.prog 33 #[] w (fun e w' => e = .returned (.bool true) ∧ Below w.heap.size w w') := by
  obtain ⟨hat, hhas⟩ := put_at (.map []) Maps.isMap_empty 1 3 9
  have HA := Lib.hid hat
  have HH := Lib.hid hhas
  clear hat hhas
  go_enter Try.func33, Try.ntmps33
  go_wp2_with fail
  refine (rightsNew _).mono ?_
  rintro e w1 ⟨rfl, ht, hb1⟩
  have HT := Lib.hid ht
  have HB1 := Lib.hid hb1
  clear ht hb1
  go_wp2_with fail
  refine (put_new w.heap.size 0 (.map []) 1 3 9 _ HT.out u32wf1 rfl (by omega) (by omega) (by unfold maxLen; omega) (by decide)).mono ?_
  rintro e w2 ⟨rfl, ht, hb⟩
  have HT2 := Lib.hid ht
  have HB2 := Lib.hid (HB1.out.trans hb)
  clear ht hb HT HB1
  generalize (DataW.put (.map []) (.int .u32 1) (tokD 3 9) : DataW Unit) = D at *
  go_wp2_with fail
  refine (rights_yes w.heap.size 1 D 1 9 3 9 _ HT2.out u32wf1 HH.out HA.out rfl).mono ?_
  rintro e w3 ⟨rfl, ht, hb⟩
  have HT3 := Lib.hid ht
  have HB3 := Lib.hid (HB2.out.trans (Below.mono hb (Nat.le_of_lt (Nat.lt_of_succ_lt HT2.out.lt))))
  clear ht hb HT2 HB2
  go_wp2_with fail
  refine (rights_other w.heap.size 1 D 1 8 3 9 _ HT3.out u32wf1 HH.out HA.out (by decide)).mono ?_
  rintro e w4 ⟨rfl, ht, hb⟩
  have HB4 := Lib.hid (HB3.out.trans (Below.mono hb (Nat.le_of_lt (Nat.lt_of_succ_lt HT3.out.lt))))
  clear ht hb HT3 HB3
  go_wp2_with fail
  refine (within37 _).mono ?_
  rintro e w5 ⟨rfl, rfl⟩
  go_wp2_with fail
  refine (within07 _).mono ?_
  rintro e w5 ⟨rfl, rfl⟩
  go_wp2_with fail
  go_ret
  exact ⟨rfl, HB4.out⟩
end Go.Proofs.Ytnpalplnpfgibaa
