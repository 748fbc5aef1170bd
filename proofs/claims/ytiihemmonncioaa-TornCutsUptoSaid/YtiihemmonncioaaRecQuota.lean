/- Contracts of record.quota and the reference's Quota; whether a record may be. -/
import Derived.Test.YtiihemmonncioaaRecBare
namespace Go.Proofs.Ytiihemmonncioaa
open Go.RowKit
def inQ (n : Int) : Bool := decide (0 ≤ n) && decide (n ≤ 1099511627776)
def quotaV (k b g : Int) : Value := .agg #[.int .i64 k, .int .i64 b, .int .i64 g]
def quotaB (k b g : Int) : Bool := inQ k && inQ b && inQ g
def BoolOk (b : Bool) (w : World) (e : Ending) (w' : World) : Prop := e = .returned (.bool b) ∧ Below w.heap.size w w'
def QuotaOk (k b g : Int) (w : World) (e : Ending) (w' : World) : Prop := e = .returned (.bool (quotaB k b g)) ∧ w.alloc (.cells #[.int .i64 k, .int .i64 b, .int .i64 g] 58) = w'
theorem recIn (n : Int) (w : World) : Calls Try.prog 57 #[.int .i64 n] w (fun e w' => e = .returned (.bool (inQ n)) ∧ w = w') := by
  by_cases h1 : 0 ≤ n
  · have d1 : decide (0 ≤ n) = true := by simp; omega
    have d0 : decide (n < 0) = false := by simp; omega
    have hd : inQ n = decide (n ≤ 1099511627776) := by unfold inQ; rw [d1]; rfl
    have HD := Lib.hid hd
    clear hd h1
    go_enter Try.func57, Try.ntmps57
    go_wp2
    go_ret
    exact ⟨by rw [HD.out]; rfl, rfl⟩
  · have d1 : decide (0 ≤ n) = false := by simp; omega
    have hd : inQ n = false := by unfold inQ; rw [d1]; rfl
    have HD := Lib.hid hd
    clear hd h1
    go_enter Try.func57, Try.ntmps57
    go_wp2
    go_ret
    exact ⟨by rw [HD.out]; rfl, rfl⟩
theorem refIn (n : Int) (w : World) : Calls Try.prog 56 #[.int .i64 n] w (fun e w' => e = .returned (.bool (inQ n)) ∧ w = w') := by
  by_cases h1 : 0 ≤ n
  · have d1 : decide (0 ≤ n) = true := by simp; omega
    have hd : inQ n = decide (n ≤ 1099511627776) := by unfold inQ; rw [d1]; rfl
    have HD := Lib.hid hd
    clear hd h1
    go_enter Try.func56, Try.ntmps56
    go_wp2
    go_ret
    exact ⟨by rw [HD.out]; rfl, rfl⟩
  · have d1 : decide (0 ≤ n) = false := by simp; omega
    have hd : inQ n = false := by unfold inQ; rw [d1]; rfl
    have HD := Lib.hid hd
    clear hd h1
    go_enter Try.func56, Try.ntmps56
    go_wp2
    go_ret
    exact ⟨by rw [HD.out]; rfl, rfl⟩
set_option maxHeartbeats 1000000 in
theorem recQuota (k b g : Int) (w : World) : Calls Try.prog 47 #[quotaV k b g] w (QuotaOk k b g w) := by
  have HQ : Hid (quotaB k b g = (inQ k && inQ b && inQ g)) := rfl
  have C1 := Lib.hid (recIn k)
  have C2 := Lib.hid (recIn b)
  have C3 := Lib.hid (recIn g)
  unfold quotaV
  generalize inQ k = x1 at *
  generalize inQ b = x2 at *
  generalize inQ g = x3 at *
  go_enter Try.func47, Try.ntmps47
  go_wp2_with fail
  refine (C1.out _).mono ?_
  rintro e w1 ⟨rfl, rfl⟩
  cases x1 with
  | false =>
    go_wp2_with fail
    go_ret
    exact ⟨by rw [HQ.out]; rfl, rfl⟩
  | true =>
    go_wp2_with fail
    refine (C2.out _).mono ?_
    rintro e w1 ⟨rfl, rfl⟩
    cases x2 with
    | false =>
      go_wp2_with fail
      go_ret
      exact ⟨by rw [HQ.out]; rfl, rfl⟩
    | true =>
      go_wp2_with fail
      refine (C3.out _).mono ?_
      rintro e w1 ⟨rfl, rfl⟩
      go_wp2_with fail
      go_ret
      exact ⟨by rw [HQ.out]; cases x3 <;> rfl, rfl⟩
set_option maxHeartbeats 1000000 in
theorem refQuota (k b g : Int) (w : World) : Calls Try.prog 45 #[quotaV k b g] w (QuotaOk k b g w) := by
  have HQ : Hid (quotaB k b g = (inQ k && inQ b && inQ g)) := rfl
  have C1 := Lib.hid (refIn k)
  have C2 := Lib.hid (refIn b)
  have C3 := Lib.hid (refIn g)
  unfold quotaV
  generalize inQ k = x1 at *
  generalize inQ b = x2 at *
  generalize inQ g = x3 at *
  go_enter Try.func45, Try.ntmps45
  go_wp2_with fail
  refine (C1.out _).mono ?_
  rintro e w1 ⟨rfl, rfl⟩
  go_wp2_with fail
  refine (C2.out _).mono ?_
  rintro e w1 ⟨rfl, rfl⟩
  go_wp2_with fail
  refine (C3.out _).mono ?_
  rintro e w1 ⟨rfl, rfl⟩
  cases x1 <;> cases x2
  all_goals (go_wp2_with fail; go_ret; exact ⟨by rw [HQ.out]; first | rfl | (cases x3 <;> rfl), rfl⟩)
/-- Two records compared, as an operation of a region. -/
theorem wpList_recEq {ops : Array Oper} {rest : List Oper} {o : Oper} {a : Act} {w : World} {Q : Exit → Act → World → Prop} (x y : Operand) (op : BinOp) (ho : o.op = .binOp op 61 x y 61) (A B : Array Value) (b : Bool)
    (hx : a.eval x = .agg A) (hy : a.eval y = .agg B) (hr : ∀ w, (binOp op 61 (.agg A) (.agg B)).run Try.prog w = .ok (.bool b) w) (hw : Region.wanted o (yielded ops a.tmps) = true)
    (h : wpList Try.prog ops Q rest (a.put o.dst (.bool b)) w) : wpList Try.prog ops Q (o :: rest) a w := by
  rw [wpList, if_pos hw]
  refine .inl ?_
  have hg : Try.prog.eqGuardType Try.prog.depth 61 = false := by kernel_rfl
  unfold Oper.wp execOp
  simp only [ho, hx, hy, Sem.run_bind, run_eqGuard_agg w op _ x y A B hg, Result.andThen_ok, hr, Sem.run_pure, Oper.upon_value]
  exact h
/-- May a record be? -/
def Rec.may (r : Rec) : Bool :=
  if r.kind < 1 ∨ 7 < r.kind ∨ r.bucket < 0 ∨ 64 ≤ r.bucket ∨ r.gen = 0 ∨ r ≠ r.bare then false
  else if r.kind = 1 then quotaB r.qk r.qb r.qg
  else if r.kind = 3 ∨ r.kind = 4 then decide (0 < r.key.size) && (decide (r.key.size ≤ 64) && decide (r.val.size ≤ 1000))
  else if r.kind = 5 then decide (1 ≤ r.rights) && decide (r.rights ≤ 7)
  else true
end Go.Proofs.Ytiihemmonncioaa
