/- Contracts: cmp.Compare at uint64, strings.Compare, cmp.Or of two numbers. -/
import Derived.Test.YtnpalplnpfgibaaProg
import Derived.Test.YtnpalplnpfgibaaBase
import Derived.WalkKit
import Derived.Lib.Bytealg
import Derived.Lib.Small
import Derived.Laws.Externs
import Derived.Calls
import Derived.Lib.Hide
namespace Go.Proofs.Ytnpalplnpfgibaa
open Go.RowKit
theorem ret_i64 {a b : Int} (h : a = b) : Ending.returned (.int .i64 a) = .returned (.int .i64 b) := by rw [h]
theorem isNaN64 (a : Int) (w : World) : Calls Try.prog 121 #[.int .u64 a] w (fun e w' => e = .returned (.bool false) ∧ w = w') := by
  go_enter Try.func121, Try.ntmps121
  go_wp2
  go_ret
  exact ⟨by simp, rfl⟩
theorem cmpU64 (a b : Int) (w : World) : Calls Try.prog 102 #[.int .u64 a, .int .u64 b] w (fun e w' => e = .returned (.int .i64 (Lib.compareInt a b)) ∧ w = w') := by
  by_cases h : a < b
  · have d : decide (a < b) = true := by simp; omega
    have hr : Lib.compareInt a b = -1 := by unfold Lib.compareInt; rw [if_pos h]
    have HR := Lib.hid hr
    clear h hr
    go_enter Try.func102, Try.ntmps102
    go_wp2_with (go_at_call 121; refine (isNaN64 _ _).mono ?_; rintro e w' ⟨rfl, rfl⟩)
    go_ret
    exact ⟨ret_i64 HR.out.symm, rfl⟩
  · by_cases h2 : b < a
    · have d : decide (a < b) = false := by simp; omega
      have d2 : decide (b < a) = true := by simp; omega
      have hr : Lib.compareInt a b = 1 := by unfold Lib.compareInt; rw [if_neg h, if_pos h2]
      have HR := Lib.hid hr
      clear h hr h2
      go_enter Try.func102, Try.ntmps102
      go_wp2_with (go_at_call 121; refine (isNaN64 _ _).mono ?_; rintro e w' ⟨rfl, rfl⟩)
      go_ret
      exact ⟨ret_i64 HR.out.symm, rfl⟩
    · have d : decide (a < b) = false := by simp; omega
      have d2 : decide (b < a) = false := by simp; omega
      have hr : Lib.compareInt a b = 0 := by unfold Lib.compareInt; rw [if_neg h, if_neg (by omega)]
      have HR := Lib.hid hr
      clear h hr h2
      go_enter Try.func102, Try.ntmps102
      go_wp2_with (go_at_call 121; refine (isNaN64 _ _).mono ?_; rintro e w' ⟨rfl, rfl⟩)
      go_ret
      exact ⟨ret_i64 HR.out.symm, rfl⟩
set_option maxRecDepth 100000 in
set_option maxHeartbeats 1000000 in
theorem cmpStr0 (a b : ByteArray) (w : World) : Calls Try.prog 122 #[.string a, .string b] w (fun e w' => e = .returned (.int .i64 (Lib.compareBytes a.data.toList b.data.toList)) ∧ w = w') := by
  go_enter Try.func122, Try.ntmps122
  go_wp2
  rw [run_callFunc_extern Try.func140 (by kernel_rfl) (by kernel_rfl) (by kernel_rfl) (e := Extern.BytealgCompare.compare) (by kernel_rfl), Lib.run_compareString]
  simp only [Result.andThen]
  rw [Oper.upon_value]
  go_wp2
  go_ret
  exact ⟨rfl, rfl⟩
theorem cmpStr (a b : ByteArray) (w : World) : Calls Try.prog 103 #[.string a, .string b] w (fun e w' => e = .returned (.int .i64 (Lib.compareBytes a.data.toList b.data.toList)) ∧ w = w') := by
  go_enter Try.func103, Try.ntmps103
  go_wp2_with (go_at_call 122; refine (cmpStr0 _ _ _).mono ?_; rintro e w' ⟨rfl, rfl⟩)
  go_ret
  exact ⟨rfl, rfl⟩
def orV (x y : Int) : Int := if x = 0 then y else x
theorem orV_ne {x y : Int} (h : x ≠ 0) : x = orV x y := (if_neg h).symm
theorem cmpOr (g : Nat) (x y : Int) (w : World) (h0 : w.cell? ⟨g, 0, none⟩ = some (.int .i64 x)) (h1 : w.cell? ⟨g, 1, none⟩ = some (.int .i64 y)) :
    Calls Try.prog 98 #[.slice (some ⟨g, 0, none⟩) 2 2] w (fun e w' => e = .returned (.int .i64 (orV x y)) ∧ w = w') := by
  by_cases hx : x = 0
  · subst hx
    by_cases hy : y = 0
    · subst hy
      go_enter Try.func98, Try.ntmps98
      go_wp2
      refine wp_loop_rounds 3 ?_
      rw [rounds_succ]
      go_wp2
      rw [rounds_succ]
      go_wp2
      rw [rounds_succ]
      go_wp2
      go_ret
      exact ⟨rfl, rfl⟩
    · have d : (y == 0) = false := by simpa using hy
      have d2 : (y != 0) = true := by simpa using hy
      clear hy
      go_enter Try.func98, Try.ntmps98
      go_wp2
      refine wp_loop_rounds 3 ?_
      rw [rounds_succ]
      go_wp2
      rw [rounds_succ]
      go_wp2
      go_ret
      exact ⟨rfl, rfl⟩
  · have d : (x == 0) = false := by simpa using hx
    have d2 : (x != 0) = true := by simpa using hx
    have HX := Lib.hid hx
    clear hx
    go_enter Try.func98, Try.ntmps98
    go_wp2
    refine wp_loop_rounds 3 ?_
    rw [rounds_succ]
    go_wp2
    go_ret
    exact ⟨ret_i64 (orV_ne HX.out), rfl⟩
/-- Bytes, in order. -/
theorem compareBytes_lt : ∀ a b : List UInt8, (Lib.compareBytes a b < 0 ↔ a < b) ∧ (Lib.compareBytes a b = 0 ↔ a = b)
  | [], [] => by simp [Lib.compareBytes]
  | [], _ :: _ => by simp [Lib.compareBytes]
  | _ :: _, [] => by simp [Lib.compareBytes]
  | x :: a, y :: b => by
    have ih := compareBytes_lt a b
    unfold Lib.compareBytes
    by_cases h : x < y
    · rw [if_pos h]
      refine ⟨⟨fun _ => List.cons_lt_cons_iff.2 (.inl h), fun _ => by omega⟩, ⟨fun h => by omega, fun e => ?_⟩⟩
      cases e
      exact absurd h (UInt8.lt_irrefl _)
    · rw [if_neg h]
      by_cases h2 : y < x
      · rw [if_pos h2]
        refine ⟨⟨fun h => by omega, fun e => ?_⟩, ⟨fun h => by omega, fun e => ?_⟩⟩
        · rcases List.cons_lt_cons_iff.1 e with e | ⟨e, _⟩
          · exact absurd e h
          · subst e; exact absurd h2 (UInt8.lt_irrefl _)
        · cases e
          exact absurd h2 (UInt8.lt_irrefl _)
      · rw [if_neg h2]
        have e : x = y := UInt8.le_antisymm (UInt8.not_lt.1 h2) (UInt8.not_lt.1 h)
        subst e
        refine ⟨⟨fun h => List.cons_lt_cons_iff.2 (.inr ⟨rfl, ih.1.1 h⟩), fun e => ?_⟩, ⟨fun h => by rw [ih.2.1 h], fun e => by cases e; exact ih.2.2 rfl⟩⟩
        rcases List.cons_lt_cons_iff.1 e with e | ⟨_, e⟩
        · exact absurd e h
        · exact ih.1.2 e
theorem compareInt_lt (a b : Int) : (Lib.compareInt a b < 0 ↔ a < b) ∧ (Lib.compareInt a b = 0 ↔ a = b) := by
  unfold Lib.compareInt
  by_cases h : a < b
  · rw [if_pos h]; omega
  · rw [if_neg h]
    by_cases h2 : a > b
    · rw [if_pos h2]; omega
    · rw [if_neg h2]; omega
end Go.Proofs.Ytnpalplnpfgibaa
