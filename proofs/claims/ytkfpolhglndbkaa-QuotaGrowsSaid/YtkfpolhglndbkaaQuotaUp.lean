/- The head of the law of quota. -/
import Derived.Test.YtkfpolhglndbkaaQuota
namespace Go.Proofs.Ytkfpolhglndbkaa
open Go.RowKit
set_option maxHeartbeats 1000000 in
set_option maxRecDepth 100000 in
theorem admitsC (c : Int) (a : Option Addr) (cap : Nat) (l : List Int) (admin : Int) (w : World) (hl : l.length ≤ 1000000000000) (hwf : ∀ n ∈ l, (Lit.int .i64 n).wf = true) (h : IsInts w a l) :
    Calls Try.prog 60 #[.int .i64 c, .slice a l.length cap, .int .i64 admin] w (fun e w' => e = .returned (.bool (decide (reserveV l admin ≤ c))) ∧ Below w.heap.size w w') := by
  have HC := Lib.hid (reserveC a cap l admin w hl hwf h)
  clear hwf h
  go_enter Try.func60, Try.ntmps60
  go_wp2_with fail
  refine HC.out.mono ?_
  rintro e w2 ⟨rfl, hb⟩
  go_wp2
  go_ret
  exact ⟨rfl, hb⟩
set_option maxHeartbeats 1000000 in
theorem checkC (w : World) :
    Calls Try.prog 61 #[.agg #[.int .i64 0, .int .i64 0, .int .i64 0], .int .i64 1, .int .i64 0, .int .i64 0, .int .i64 0] w (fun e w' => e = .returned (.iface 95 (.int .i64 8)) ∧ Below w.heap.size w w') := by
  go_enter Try.func61, Try.ntmps61
  go_wp2
  go_ret
  exact ⟨rfl, (Below.refl _ w).alloc (Nat.le_refl _) _⟩
def docL : List Int := [100, 50]
theorem docR : reserveV docL 10 = 10320 := by simp [reserveV_def, docL, addsI]
theorem docWf : ∀ n ∈ docL, (Lit.int .i64 n).wf = true := by decide
theorem docI (w : World) : IsInts (w.alloc (.cells #[.int .i64 100, .int .i64 50] 2)) (some ⟨w.heap.size, 0, none⟩) docL := isInts_new w _ _ _ docL rfl
set_option maxHeartbeats 1000000 in
set_option maxRecDepth 100000 in
theorem quotaUp (w : World) : Calls Try.prog 32 #[] w (fun e w' => e = .returned (.bool true) ∧ Below w.heap.size w w') := by
  have HR := Lib.hid docR
  have heq : ∀ W : World, (binOp .eql 42 (.iface 95 (.int .i64 8)) (.iface 95 (.int .i64 8))).run Try.prog W = .ok (.bool true) W := fun W => by
    kernel_rfl
  go_enter Try.func32, Try.ntmps32
  go_wp2_with fail
  refine (reserveC _ 2 docL 10 _ (by decide) docWf (docI w)).mono ?_
  rintro e w1 ⟨rfl, hb1⟩
  rw [HR.out]
  go_wp2_with fail
  refine (admitsC 10320 _ 2 docL 10 _ (by decide) docWf (docI w1)).mono ?_
  rintro e w2 ⟨rfl, hb2⟩
  rw [HR.out]
  go_wp2_with fail
  refine (admitsC 10319 _ 2 docL 10 _ (by decide) docWf (docI w2)).mono ?_
  rintro e w3 ⟨rfl, hb3⟩
  rw [HR.out]
  go_wp2_with fail
  refine (checkC _).mono ?_
  rintro e w4 ⟨rfl, hb4⟩
  go_wp2
  go_ret
  refine ⟨rfl, ?_⟩
  have hal : ∀ (W : World) (o : Obj), Below W.heap.size W (W.alloc o) := fun W o => (Below.refl _ W).alloc (Nat.le_refl _) o
  exact below_next (hal _ _) (below_next hb1 (below_next (hal _ _) (below_next hb2 (below_next (hal _ _) (below_next hb3 hb4)))))
end Go.Proofs.Ytkfpolhglndbkaa
