/- The contract of record.May. -/
import Derived.Test.YtiihemmonncioaaMayPure
import Derived.Test.YtiihemmonncioaaRegion
import Derived.WalkSmall
namespace Go.Proofs.Ytiihemmonncioaa
open Go.RowKit
theorem key_pos (k : ByteArray) : decide (0 < k.size) = !k.toList.isEmpty := by
  rw [ByteArray.toList_eq]
  obtain ⟨⟨l⟩⟩ := k
  cases l with
  | nil => rfl
  | cons x l =>
    have h : 0 < (ByteArray.mk ⟨x :: l⟩).size := by show 0 < (x :: l).length; simp
    rw [decide_eq_true h]
    rfl
theorem dec_le (a b : Nat) : decide ((a : Int) ≤ (b : Int)) = decide (a ≤ b) := by
  by_cases h : a ≤ b
  · rw [decide_eq_true h, decide_eq_true (by omega)]
  · rw [decide_eq_false h, decide_eq_false (by omega)]
theorem gives_recEq {o : Oper} {a : Act} {w : World} (x y : Operand) (op : BinOp) (ho : o.op = .binOp op 61 x y 61) (A B : Array Value) (b : Bool)
    (hx : a.eval x = .agg A) (hy : a.eval y = .agg B) (hr : ∀ w, (binOp op 61 (.agg A) (.agg B)).run Try.prog w = .ok (.bool b) w) : Reg.gives Try.prog o a w (fun v w' => v = .bool b ∧ w' = w) := by
  have hg : Try.prog.eqGuardType Try.prog.depth 61 = false := by kernel_rfl
  unfold Reg.gives execOp
  simp only [ho, hx, hy, Sem.run_bind, run_eqGuard_agg w op _ x y A B hg, Result.andThen_ok, hr, Sem.run_pure]
  exact ⟨trivial, trivial⟩
theorem gives_load_rec {o : Oper} {a : Act} {w : World} (x : Operand) (ho : o.op = .load 61 x) (g : Nat) (hx : a.eval x = .pointer (some ⟨g, 0, none⟩)) (t : TypeId) (cs : Array Value) (fr : Nat × Nat)
    (hg : w.heap[g]? = some (.cells cs t fr)) (hi : (Try.prog.info? 61).map (·.size) = some cs.size) : Reg.gives Try.prog o a w (fun v w' => v = .agg cs ∧ w' = w) := by
  have hr := run_loadVar_row w g t 61 cs fr _ hg Try.underlying61 rfl hi
  unfold Reg.gives execOp
  simp only [ho, hx, Instr.loadAt, Instr.sureAddr, Sem.run_bind, Sem.run_pure, Result.andThen_ok, hr]
  exact ⟨trivial, trivial⟩
set_option maxRecDepth 100000 in
set_option maxHeartbeats 2000000 in
theorem recMayHead0 (r : Rec) (w : World)  (h : r.kind < 1) : Calls Try.prog 28 #[r.v] w (BoolOk false w) := by
  have d0 : decide (r.kind < 1) = true := by simp; omega
  clear h 
  unfold Rec.v Rec.cells
  go_enter Try.func28, Try.ntmps28
  go_wp2
  go_quiet (fail)
  go_wp2
  go_ret
  exact ⟨rfl, below_drewN (by go_grown) nq⟩
set_option maxRecDepth 100000 in
set_option maxHeartbeats 2000000 in
theorem recMayHead1 (r : Rec) (w : World) (_n0 : ¬ r.kind < 1) (h : 7 < r.kind) : Calls Try.prog 28 #[r.v] w (BoolOk false w) := by
  have d0 : decide (r.kind < 1) = false := by simp; omega
  have d1 : decide (7 < r.kind) = true := by simp; omega
  clear h _n0
  unfold Rec.v Rec.cells
  go_enter Try.func28, Try.ntmps28
  go_wp2
  go_quiet (fail)
  go_wp2
  go_ret
  exact ⟨rfl, below_drewN (by go_grown) nq⟩
set_option maxRecDepth 100000 in
set_option maxHeartbeats 2000000 in
theorem recMayHead2 (r : Rec) (w : World) (n0 : ¬ r.kind < 1) (n1 : ¬ 7 < r.kind) (h : r.bucket < 0) : Calls Try.prog 28 #[r.v] w (BoolOk false w) := by
  have d0 : decide (r.kind < 1) = false := by simp; omega
  have d1 : decide (7 < r.kind) = false := by simp; omega
  have d2 : decide (r.bucket < 0) = true := by simp; omega
  clear h n0 n1
  unfold Rec.v Rec.cells
  go_enter Try.func28, Try.ntmps28
  go_wp2
  go_quiet (fail)
  go_wp2
  go_ret
  exact ⟨rfl, below_drewN (by go_grown) nq⟩
set_option maxRecDepth 100000 in
set_option maxHeartbeats 2000000 in
theorem recMayHead3 (r : Rec) (w : World) (n0 : ¬ r.kind < 1) (n1 : ¬ 7 < r.kind) (_n2 : ¬ r.bucket < 0) (h : 64 ≤ r.bucket) : Calls Try.prog 28 #[r.v] w (BoolOk false w) := by
  have d0 : decide (r.kind < 1) = false := by simp; omega
  have d1 : decide (7 < r.kind) = false := by simp; omega
  have d2 : decide (r.bucket < 0) = false := by simp; omega
  have d3 : decide (64 ≤ r.bucket) = true := by simp; omega
  clear h n0 n1 _n2
  unfold Rec.v Rec.cells
  go_enter Try.func28, Try.ntmps28
  go_wp2
  go_quiet (fail)
  go_wp2
  go_ret
  exact ⟨rfl, below_drewN (by go_grown) nq⟩
set_option maxRecDepth 100000 in
set_option maxHeartbeats 2000000 in
theorem recMayHead4 (r : Rec) (w : World) (n0 : ¬ r.kind < 1) (n1 : ¬ 7 < r.kind) (n2 : ¬ r.bucket < 0) (n3 : ¬ 64 ≤ r.bucket) (h : r.gen = 0) : Calls Try.prog 28 #[r.v] w (BoolOk false w) := by
  have d0 : decide (r.kind < 1) = false := by simp; omega
  have d1 : decide (7 < r.kind) = false := by simp; omega
  have d2 : decide (r.bucket < 0) = false := by simp; omega
  have d3 : decide (64 ≤ r.bucket) = false := by simp; omega
  have d4 : ((r.gen : Int) == 0) = true := by simp; omega
  clear h n0 n1 n2 n3
  unfold Rec.v Rec.cells
  go_enter Try.func28, Try.ntmps28
  go_wp2
  go_quiet (fail)
  go_wp2
  go_ret
  exact ⟨rfl, below_drewN (by go_grown) nq⟩
set_option maxRecDepth 100000 in
set_option maxHeartbeats 2000000 in
theorem recMayIn (r : Rec) (w : World) (n0 : ¬ r.kind < 1) (n1 : ¬ 7 < r.kind) (n2 : ¬ r.bucket < 0) (n3 : ¬ 64 ≤ r.bucket) (n4 : r.gen ≠ 0) : Calls Try.prog 28 #[r.v] w (BoolOk r.may w) := by
  have HM := Lib.hid (may_in r n0 n1 n2 n3 n4)
  have d0 : decide (r.kind < 1) = false := by simp; omega
  have d1 : decide (7 < r.kind) = false := by simp; omega
  have d2 : decide (r.bucket < 0) = false := by simp; omega
  have d3 : decide (64 ≤ r.bucket) = false := by simp; omega
  have d4 : ((r.gen : Int) == 0) = false := by simp; omega
  clear n0 n1 n2 n3 n4
  have hneq : ∀ w, (binOp .neq 61 (.agg r.cells) (.agg r.bare.cells)).run Try.prog w = .ok (.bool (!decide (r = r.bare))) w := fun w => rec_neq w r r.bare
  have hbare : ∀ w, Calls Try.prog 46 #[.agg r.cells] w (fun e w' => e = .returned (.agg r.bare.cells) ∧ Below w.heap.size w w') := fun w => recBare r w
  have hsz : (Try.prog.info? 61).map (·.size) = some r.cells.size := by
    have : (Try.prog.info? 61).map (·.size) = some 14 := by kernel_rfl
    rw [this]; rfl
  unfold Rec.v
  have hC : ∀ i (hi : i < r.cells.size), r.cells[i]? = some r.cells[i] := fun i hi => Array.getElem?_eq_getElem hi
  have hc0 : r.cells[0]? = some (.int .i64 r.kind) := rfl
  have hc1 : r.cells[1]? = some (.int .i64 r.bucket) := rfl
  have hc2 : r.cells[2]? = some (.int .u32 r.gen) := rfl
  have hc3 : r.cells[3]? = some (.int .i64 r.qk) := rfl
  have hc4 : r.cells[4]? = some (.int .i64 r.qb) := rfl
  have hc5 : r.cells[5]? = some (.int .i64 r.qg) := rfl
  have hc8 : r.cells[8]? = some (.int .i64 r.rights) := rfl
  have hc10 : r.cells[10]? = some (.string r.key) := rfl
  have hc11 : r.cells[11]? = some (.string r.val) := rfl
  generalize r.cells = C at *
  generalize r.bare.cells = D at *
  have HNEQ := Lib.hid hneq
  have HBARE := Lib.hid hbare
  have HSZ := Lib.hid hsz
  have HCC := Lib.hid (And.intro hc0 (And.intro hc1 (And.intro hc2 (And.intro hc3 (And.intro hc4 (And.intro hc5 (And.intro hc8 (And.intro hc10 hc11))))))))
  clear hneq hbare hsz hC hc0 hc1 hc2 hc3 hc4 hc5 hc8 hc10 hc11
  go_enter Try.func28, Try.ntmps28
  go_wp2
  have hb0 : Below w.heap.size w (w.alloc (.cells C 61)) := (Below.refl _ _).alloc (Nat.le_refl _) _
  have hg0 : (w.alloc (.cells C 61)).heap[w.heap.size]? = some (.cells C 61 (0, 0)) := heap_alloc_new w _
  have hlt0 : w.heap.size < (w.alloc (.cells C 61)).heap.size := by simp
  generalize w.alloc (.cells C 61) = W0 at *
  have HG := Lib.hid (fun (w2 : World) (hR : Reg.bel W0.drew w2) => show w2.heap[w.heap.size]? = some (.cells C 61 (0, 0)) from by rw [(((Below.refl W0.heap.size W0).drew).trans hR).block _ hlt0]; exact hg0)
  have HC0 := Lib.hid (fun (w2 : World) (hR : Reg.bel W0.drew w2) => (cell_of_row w2 w.heap.size 0 C _ _ (HG.out w2 hR)).trans HCC.out.1)
  have HC1 := Lib.hid (fun (w2 : World) (hR : Reg.bel W0.drew w2) => (cell_of_row w2 w.heap.size 1 C _ _ (HG.out w2 hR)).trans HCC.out.2.1)
  have HC2 := Lib.hid (fun (w2 : World) (hR : Reg.bel W0.drew w2) => (cell_of_row w2 w.heap.size 2 C _ _ (HG.out w2 hR)).trans HCC.out.2.2.1)
  have HB0 := Lib.hid hb0
  clear hb0 hg0 hlt0
  refine Reg.wp_region0 (by kernel_rfl) (by kernel_rfl) ?_
  refine Reg.seg0 1 (by kernel_rfl) rfl ?_
  apply Exists.intro
  refine ⟨fun e => ?_, ?_⟩
  · simp only [List.take_succ_cons, List.take_zero]
    repeat (go_big_quiet_step ((intro _; rfl)))
    refine wpQuiet_nil ?_
    exact rfl
  simp only [List.drop_succ_cons, List.drop_zero, Nat.reduceAdd]
  refine Reg.const0 (.int .i64 r.kind) (fun e w2 hR hf => ⟨by rfl, ?_⟩) ?_
  · have hc := HC0.out w2 hR
    unfold Reg.gives
    clear hf
    go_simp
    exact Reg.bel_refl _
  simp only [Act.put, List.setIfInBounds_toArray, List.set_cons_zero, List.set_cons_succ, Nat.reduceAdd]
  refine Reg.seg0 3 (by kernel_rfl) rfl ?_
  apply Exists.intro
  refine ⟨fun e => ?_, ?_⟩
  · simp only [List.take_succ_cons, List.take_zero]
    repeat (go_big_quiet_step ((intro _; rfl)))
    refine wpQuiet_nil ?_
    exact rfl
  simp only [List.drop_succ_cons, List.drop_zero, Nat.reduceAdd]
  refine Reg.const0 (.int .i64 r.kind) (fun e w2 hR hf => ⟨by rfl, ?_⟩) ?_
  · have hc := HC0.out w2 hR
    unfold Reg.gives
    clear hf
    go_simp
    exact Reg.bel_refl _
  simp only [Act.put, List.setIfInBounds_toArray, List.set_cons_zero, List.set_cons_succ, Nat.reduceAdd]
  refine Reg.seg0 4 (by kernel_rfl) rfl ?_
  apply Exists.intro
  refine ⟨fun e => ?_, ?_⟩
  · simp only [List.take_succ_cons, List.take_zero]
    repeat (go_big_quiet_step ((intro _; rfl)))
    refine wpQuiet_nil ?_
    exact rfl
  simp only [List.drop_succ_cons, List.drop_zero, Nat.reduceAdd]
  refine Reg.const0 (.int .i64 r.bucket) (fun e w2 hR hf => ⟨by rfl, ?_⟩) ?_
  · have hc := HC1.out w2 hR
    unfold Reg.gives
    clear hf
    go_simp
    exact Reg.bel_refl _
  simp only [Act.put, List.setIfInBounds_toArray, List.set_cons_zero, List.set_cons_succ, Nat.reduceAdd]
  refine Reg.seg0 4 (by kernel_rfl) rfl ?_
  apply Exists.intro
  refine ⟨fun e => ?_, ?_⟩
  · simp only [List.take_succ_cons, List.take_zero]
    repeat (go_big_quiet_step ((intro _; rfl)))
    refine wpQuiet_nil ?_
    exact rfl
  simp only [List.drop_succ_cons, List.drop_zero, Nat.reduceAdd]
  refine Reg.const0 (.int .i64 r.bucket) (fun e w2 hR hf => ⟨by rfl, ?_⟩) ?_
  · have hc := HC1.out w2 hR
    unfold Reg.gives
    clear hf
    go_simp
    exact Reg.bel_refl _
  simp only [Act.put, List.setIfInBounds_toArray, List.set_cons_zero, List.set_cons_succ, Nat.reduceAdd]
  refine Reg.seg0 4 (by kernel_rfl) rfl ?_
  apply Exists.intro
  refine ⟨fun e => ?_, ?_⟩
  · simp only [List.take_succ_cons, List.take_zero]
    repeat (go_big_quiet_step ((intro _; rfl)))
    refine wpQuiet_nil ?_
    exact rfl
  simp only [List.drop_succ_cons, List.drop_zero, Nat.reduceAdd]
  refine Reg.const0 (.int .u32 (r.gen : Int)) (fun e w2 hR hf => ⟨by rfl, ?_⟩) ?_
  · have hc := HC2.out w2 hR
    unfold Reg.gives
    clear hf
    go_simp
    exact Reg.bel_refl _
  simp only [Act.put, List.setIfInBounds_toArray, List.set_cons_zero, List.set_cons_succ, Nat.reduceAdd]
  refine Reg.seg0 3 (by kernel_rfl) rfl ?_
  apply Exists.intro
  refine ⟨fun e => ?_, ?_⟩
  · simp only [List.take_succ_cons, List.take_zero]
    repeat (go_big_quiet_step ((intro _; rfl)))
    refine wpQuiet_nil ?_
    exact rfl
  simp only [List.drop_succ_cons, List.drop_zero, Nat.reduceAdd]
  refine Reg.const0 (.agg C) (fun e w2 hR hf => ⟨by rfl, ?_⟩) ?_
  · refine Reg.gives_mono (fun v' w' h => ?_) (gives_load_rec (.tmp 1) rfl w.heap.size rfl _ _ _ (HG.out w2 hR) HSZ.out)
    obtain ⟨rfl, rfl⟩ := h
    exact ⟨Reg.bel_refl _, rfl⟩
  simp only [Act.put, List.setIfInBounds_toArray, List.set_cons_zero, List.set_cons_succ, Nat.reduceAdd]
  refine Reg.const0 (.agg C) (fun e w2 hR hf => ⟨by rfl, ?_⟩) ?_
  · refine Reg.gives_mono (fun v' w' h => ?_) (gives_load_rec (.tmp 1) rfl w.heap.size rfl _ _ _ (HG.out w2 hR) HSZ.out)
    obtain ⟨rfl, rfl⟩ := h
    exact ⟨Reg.bel_refl _, rfl⟩
  simp only [Act.put, List.setIfInBounds_toArray, List.set_cons_zero, List.set_cons_succ, Nat.reduceAdd]
  refine Reg.const0 (.agg D) (fun e w2 hR hf => ⟨by rfl, ?_⟩) ?_
  · unfold Reg.gives
    clear hf
    go_simp
    exact (HBARE.out w2).mono fun e w' h => ⟨h.1, h.2⟩
  simp only [Act.put, List.setIfInBounds_toArray, List.set_cons_zero, List.set_cons_succ, Nat.reduceAdd]
  refine Reg.const0 (.bool (!decide (r = r.bare))) (fun e w2 hR hf => ⟨by rfl, ?_⟩) ?_
  · refine Reg.gives_mono (fun v' w' h => ?_) (gives_recEq (.tmp 27) (.tmp 29) .neq rfl C D _ rfl rfl HNEQ.out)
    obtain ⟨rfl, rfl⟩ := h
    exact ⟨Reg.bel_refl _, rfl⟩
  simp only [Act.put, List.setIfInBounds_toArray, List.set_cons_zero, List.set_cons_succ, Nat.reduceAdd]
  refine Reg.seg0 1 (by kernel_rfl) rfl ?_
  apply Exists.intro
  refine ⟨fun e => ?_, ?_⟩
  · simp only [List.take_succ_cons, List.take_zero]
    repeat (go_big_quiet_step ((intro _; rfl)))
    refine wpQuiet_nil ?_
    exact rfl
  simp only [List.drop_succ_cons, List.drop_zero, Nat.reduceAdd]
  intro e W1 hR hJ hf
  have hb1 := HB0.out.trans ((((Below.refl W0.heap.size W0).drew).trans hR).mono HB0.out.size)
  have HB1 := Lib.hid hb1
  have hg1 := HG.out W1 hR
  have hc0 := (cell_of_row W1 w.heap.size 0 C _ _ hg1).trans HCC.out.1
  have hc3 := (cell_of_row W1 w.heap.size 3 C _ _ hg1).trans HCC.out.2.2.2.1
  have hc4 := (cell_of_row W1 w.heap.size 4 C _ _ hg1).trans HCC.out.2.2.2.2.1
  have hc5 := (cell_of_row W1 w.heap.size 5 C _ _ hg1).trans HCC.out.2.2.2.2.2.1
  have hc8 := (cell_of_row W1 w.heap.size 8 C _ _ hg1).trans HCC.out.2.2.2.2.2.2.1
  have hc10 := (cell_of_row W1 w.heap.size 10 C _ _ hg1).trans HCC.out.2.2.2.2.2.2.2.1
  have hc11 := (cell_of_row W1 w.heap.size 11 C _ _ hg1).trans HCC.out.2.2.2.2.2.2.2.2
  clear hR hJ hf hb1 hg1 HG HC0 HC1 HC2 HCC HNEQ HBARE HSZ d0 d1 d2 d3 d4
  by_cases hbr : r = r.bare
  rotate_left
  · have HM1 : Hid (r.may = false) := by have := HM.out; rw [decide_eq_false (fun e => hbr e.symm), Bool.false_and] at this; exact this
    rw [decide_eq_false hbr]
    clear HM hbr
    go_wp2
    go_ret
    exact ⟨by rw [HM1.out]; rfl, HB1.out⟩
  have HM1 := HM.out
  rw [decide_eq_true hbr.symm, Bool.true_and] at HM1
  rw [decide_eq_true hbr]
  have HM := Lib.hid HM1
  clear HM1 hbr
  by_cases k1 : r.kind = 1
  · have HM1 : Hid (r.may = quotaB r.qk r.qb r.qg) := by have := HM.out; rw [if_pos k1] at this; exact this
    rw [k1] at hc0
    clear HM hc8 hc10 hc11
    have HQ := Lib.hid (fun w => recQuota r.qk r.qb r.qg w)
    unfold quotaV QuotaOk at HQ
    go_wp2_with fail
    refine (HQ.out _).mono ?_
    rintro e w2 ⟨rfl, rfl⟩
    go_wp2
    go_ret
    exact ⟨by rw [HM1.out]; rfl, HB1.out.alloc HB1.out.size _⟩
  have e1 : (r.kind == 1) = false := by simpa using k1
  have HM2 : Hid (r.may = (if r.kind = 3 ∨ r.kind = 4 then decide (0 < r.key.size) && (decide (r.key.size ≤ 64) && decide (r.val.size ≤ 1000)) else if r.kind = 5 then decide (1 ≤ r.rights) && decide (r.rights ≤ 7) else true)) := by have := HM.out; rw [if_neg k1] at this; exact this
  clear HM k1 hc3 hc4 hc5
  by_cases k34 : r.kind = 3 ∨ r.kind = 4
  · have HM3 := HM2.out
    rw [if_pos k34] at HM3
    have HM4 := Lib.hid HM3
    rw [key_pos] at HM4
    clear HM2 HM3 hc8
    rcases k34 with k3 | k4
    · rw [k3] at hc0
      clear k3 e1
      go_wp2
      · go_ret
        exact ⟨by rename_i h; rw [HM4.out, h]; rfl, HB1.out⟩
      · go_ret
        refine ⟨?_, HB1.out⟩
        rename_i h
        rw [HM4.out, decide_eq_true (show r.key.size ≤ 64 by omega), Bool.true_and, ← dec_le r.val.size 1000]
        rfl
      · go_ret
        refine ⟨?_, HB1.out⟩
        rename_i h
        rw [HM4.out, decide_eq_false (show ¬ r.key.size ≤ 64 by omega), Bool.false_and, Bool.and_false]
        rfl
    · rw [k4] at hc0
      clear k4 e1
      go_wp2
      · go_ret
        exact ⟨by rename_i h; rw [HM4.out, h]; rfl, HB1.out⟩
      · go_ret
        refine ⟨?_, HB1.out⟩
        rename_i h
        rw [HM4.out, decide_eq_true (show r.key.size ≤ 64 by omega), Bool.true_and, ← dec_le r.val.size 1000]
        rfl
      · go_ret
        refine ⟨?_, HB1.out⟩
        rename_i h
        rw [HM4.out, decide_eq_false (show ¬ r.key.size ≤ 64 by omega), Bool.false_and, Bool.and_false]
        rfl
  have HM3 := HM2.out
  rw [if_neg k34] at HM3
  have e3 : (r.kind == 3) = false := by simpa using (fun h => k34 (.inl h))
  have e4 : (r.kind == 4) = false := by simpa using (fun h => k34 (.inr h))
  clear HM2 k34 hc10 hc11
  by_cases k5 : r.kind = 5
  · rw [if_pos k5] at HM3
    have HM4 := Lib.hid HM3
    clear HM3 e1 e3 e4
    rw [k5] at hc0
    clear k5
    by_cases c0 : 1 ≤ r.rights
    · rw [decide_eq_true c0, Bool.true_and] at HM4
      go_wp2
      go_ret
      exact ⟨by rw [HM4.out]; rfl, HB1.out⟩
    · rw [decide_eq_false c0, Bool.false_and] at HM4
      have c1 : decide (1 ≤ r.rights) = false := decide_eq_false c0
      clear c0
      go_wp2
      go_ret
      exact ⟨by rw [HM4.out]; rfl, HB1.out⟩
  · rw [if_neg k5] at HM3
    have HM4 := Lib.hid HM3
    have e5 : (r.kind == 5) = false := by simpa using k5
    clear HM3 k5 hc8
    go_wp2
    go_ret
    exact ⟨by rw [HM4.out]; rfl, HB1.out⟩
theorem recMay (r : Rec) (w : World) : Calls Try.prog 28 #[r.v] w (BoolOk r.may w) := by
  by_cases h1 : r.kind < 1
  · rw [may_out r (.inl h1)]; exact recMayHead0 r w h1
  by_cases h2 : 7 < r.kind
  · rw [may_out r (.inr (.inl h2))]; exact recMayHead1 r w h1 h2
  by_cases h3 : r.bucket < 0
  · rw [may_out r (.inr (.inr (.inl h3)))]; exact recMayHead2 r w h1 h2 h3
  by_cases h4 : 64 ≤ r.bucket
  · rw [may_out r (.inr (.inr (.inr (.inl h4))))]; exact recMayHead3 r w h1 h2 h3 h4
  by_cases h5 : r.gen = 0
  · rw [may_out r (.inr (.inr (.inr (.inr h5))))]; exact recMayHead4 r w h1 h2 h3 h4 h5
  exact recMayIn r w h1 h2 h3 h4 h5
end Go.Proofs.Ytiihemmonncioaa
