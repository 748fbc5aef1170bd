/- The walk of FnvHomes. -/
import Derived.Test.YtkfpolhglndbkaaFnvHashesWalk
import Derived.Test.YtkfpolhglndbkaaRegion
import Derived.BigQuiet
import Derived.Laws.IdiomStrings
namespace Go.Proofs.Ytkfpolhglndbkaa
open Go.RowKit

set_option maxRecDepth 100000 in
theorem FnvHomes_walk (a0 : ByteArray) (a1 : Int) (a2 : Int) (w : World) (w0 : a0.size ≤ maxLen) (w1 : (Lit.int .i64 a1).wf = true) (w2 : (Lit.int .u8 a2).wf = true) :
    LawOk Try.prog 4 #[.string a0, .int .i64 a1, .int .u8 a2] w := by
  unfold LawOk
  by_cases hlen : 3000 < a0.size
  · go_enter Try.func4, Try.ntmps4
    go_wp2_with fail
    refine (fnvUp _).mono ?_
    rintro e W1 ⟨rfl, hb1⟩
    go_wp2_with fail
    go_ret
    exact ⟨rfl, hb1⟩
  by_cases hp1 : a1 < 1
  · go_enter Try.func4, Try.ntmps4
    go_wp2_with fail
    refine (fnvUp _).mono ?_
    rintro e W1 ⟨rfl, hb1⟩
    go_wp2_with fail
    go_ret
    exact ⟨rfl, hb1⟩
  by_cases hp2 : 30 < a1
  · go_enter Try.func4, Try.ntmps4
    go_wp2_with fail
    refine (fnvUp _).mono ?_
    rintro e W1 ⟨rfl, hb1⟩
    go_wp2_with fail
    go_ret
    exact ⟨rfl, hb1⟩
  obtain ⟨j, rfl⟩ := Int.eq_ofNat_of_zero_le (show 0 ≤ a1 by omega)
  obtain ⟨b, rfl⟩ := u8_of_wf w2
  have hj1 : 1 ≤ j := by omega
  have hj2 : j ≤ 30 := by omega
  have d1 : decide ((3000 : Int) < (a0.size : Int)) = false := by simp; omega
  have d2 : decide ((j : Int) < 1) = false := by simp; omega
  have d3 : decide ((30 : Int) < (j : Int)) = false := by simp; omega
  have hr := homeV_range a0.data.toList _ (pow2B_two j hj2)
  have hh := homeV_half a0.data.toList j hj1 hj2
  have hpp : 2 ^ j = 2 * 2 ^ (j - 1) := by rw [← Nat.pow_succ']; congr 1; omega
  have hle := Nat.pow_le_pow_right (n := 2) (by omega) hj2
  have hpos := Nat.two_pow_pos (j - 1)
  have e : wrap64 (2 ^ j) = ((2 ^ j : Nat) : Int) := by
    rw [show ((2 : Int) ^ j) = ((2 ^ j : Nat) : Int) by simp]; unfold wrap64; omega
  have hsn := hashL_snoc a0.data.toList b
  generalize hq : 2 ^ j = q at *
  generalize 2 ^ (j - 1) = r at *
  have hq2 : (q : Int) / 2 = (r : Int) := by omega
  have hrem : (homeV a0.data.toList q).tmod r = homeV a0.data.toList r := by rw [hh, Int.tmod_eq_emod_of_nonneg hr.1]
  have hr1 : decide (0 ≤ homeV a0.data.toList (q : Int)) = true := decide_eq_true hr.1
  have hr2 : decide (homeV a0.data.toList (q : Int) < (q : Int)) = true := decide_eq_true hr.2
  clear hp1 hp2 hq hh
  have Hsn := Lib.hid hsn
  clear hsn hpp
  have hsz : (a0 ++ (⟨#[b]⟩ : ByteArray)).size ≤ maxLen := by
    have h1 : (⟨#[b]⟩ : ByteArray).size = 1 := rfl
    rw [ByteArray.size_append, h1]; unfold maxLen; omega
  have hcat : ¬ 9223372036854775807 < a0.size + 1 := by omega
  go_enter Try.func4, Try.ntmps4
  go_wp2_with fail
  refine (fnvUp _).mono ?_
  rintro e W1 ⟨rfl, hb1⟩
  go_wp2_with fail
  refine (fnvHome _ _ _ w0).mono ?_
  rintro e W2 ⟨rfl, hb2⟩
  go_wp2_with fail
  refine Reg.wp_region0 (by kernel_rfl) (by kernel_rfl) ?_
  refine Reg.seg0 14 (by kernel_rfl) rfl ?_
  apply Exists.intro
  refine ⟨fun e => ?_, ?_⟩
  · simp only [List.take_succ_cons, List.take_zero]
    repeat (go_big_quiet_step ((intro _; rfl)))
    refine wpQuiet_nil ?_
    exact rfl
  simp only [List.drop_succ_cons, List.drop_zero, Nat.reduceAdd]
  refine Reg.const0 (.int .i64 (homeV a0.data.toList r)) (fun e w hR hf => ⟨by rfl, ?_⟩) ?_
  · unfold Reg.gives
    clear hf
    go_simp
    exact fnvHome _ _ _ w0
  simp only [Act.put, List.setIfInBounds_toArray, List.set_cons_zero, List.set_cons_succ, Nat.reduceAdd]
  refine Reg.seg0 9 (by kernel_rfl) rfl ?_
  apply Exists.intro
  refine ⟨fun e => ?_, ?_⟩
  · simp only [List.take_succ_cons, List.take_zero]
    repeat (go_big_quiet_step ((intro _; rfl)))
    refine wpQuiet_nil ?_
    exact rfl
  simp only [List.drop_succ_cons, List.drop_zero, Nat.reduceAdd]
  refine Reg.fact0 (fun v w => ∃ g, v = .slice (some ⟨g, 0, none⟩) 1 1 ∧ g < w.heap.size ∧ w.cell? ⟨g, 0, none⟩ = some (.int .u8 b.toNat)) ?_ (fun e w hR hf => ⟨by rfl, ?_⟩) ?_
  · rintro v w w' ⟨g, rfl, h1, h2⟩ hb
    exact ⟨g, rfl, Nat.lt_of_lt_of_le h1 hb.size, by rw [← h2]; exact Below.cell hb (p := ⟨g, 0, none⟩) h1⟩
  · unfold Reg.gives
    clear hf
    go_simp
    exact (Below.refl _ _).alloc (Nat.le_refl _) _
  simp only [Act.put, List.setIfInBounds_toArray, List.set_cons_zero, List.set_cons_succ, Nat.reduceAdd]
  refine Reg.const0 (.string ⟨[b].toArray⟩) (fun e w hR hf => ⟨by rfl, ?_⟩) ?_
  · have h0 := Reg.factsAt_here hf (by kernel_rfl)
    obtain ⟨g, hg, h1, h2⟩ := h0
    have kc := run_convert_bytes_back (P := Try.prog) w 27 9 5 ⟨g, 0, none⟩ 1 [b] Try.underlying27 Try.underlying5 Try.underlying9 (by
      intro j hj
      obtain rfl : j = 0 := by simpa using hj
      simpa [Addr.add] using h2)
    simp only [List.length_singleton] at kc
    unfold Reg.gives
    clear hf h1 h2
    go_simp
    exact Reg.bel_refl _
  simp only [Act.put, List.setIfInBounds_toArray, List.set_cons_zero, List.set_cons_succ, Nat.reduceAdd]
  refine Reg.seg0 1 (by kernel_rfl) rfl ?_
  apply Exists.intro
  refine ⟨fun e => ?_, ?_⟩
  · simp only [List.take_succ_cons, List.take_zero]
    repeat (go_big_quiet_step ((intro _; rfl)))
    refine wpQuiet_nil ?_
    exact rfl
  simp only [List.drop_succ_cons, List.drop_zero, Nat.reduceAdd]
  refine Reg.const0 (.int .u64 (hashStep (hashL a0.data.toList) b)) (fun e w hR hf => ⟨by rfl, ?_⟩) ?_
  · unfold Reg.gives
    clear hf
    go_simp
    exact (by rw [← Hsn.out]; exact (fnvHash _ _ hsz).mono fun e w' h => ⟨by rw [h.1]; simp, h.2⟩)
  simp only [Act.put, List.setIfInBounds_toArray, List.set_cons_zero, List.set_cons_succ, Nat.reduceAdd]
  refine Reg.seg0 1 (by kernel_rfl) rfl ?_
  apply Exists.intro
  refine ⟨fun e => ?_, ?_⟩
  · simp only [List.take_succ_cons, List.take_zero]
    repeat (go_big_quiet_step ((intro _; rfl)))
    refine wpQuiet_nil ?_
    exact rfl
  simp only [List.drop_succ_cons, List.drop_zero, Nat.reduceAdd]
  refine Reg.const0 (.int .u64 (hashL a0.data.toList)) (fun e w hR hf => ⟨by rfl, ?_⟩) ?_
  · unfold Reg.gives
    clear hf
    go_simp
    exact fnvHash _ _ w0
  simp only [Act.put, List.setIfInBounds_toArray, List.set_cons_zero, List.set_cons_succ, Nat.reduceAdd]
  refine Reg.seg0 7 (by kernel_rfl) rfl ?_
  apply Exists.intro
  refine ⟨fun e => ?_, ?_⟩
  · simp only [List.take_succ_cons, List.take_zero]
    repeat (go_big_quiet_step ((intro _; rfl)))
    refine wpQuiet_nil ?_
    exact rfl
  simp only [List.drop_succ_cons, List.drop_zero, Nat.reduceAdd]
  intro e W5 hR hJ hf
  go_wp2
  go_ret
  exact ⟨by rw [hashStep_w]; simp, below_next (below_next hb1 hb2) ((Below.refl _ _).drew.trans hR)⟩
end Go.Proofs.Ytkfpolhglndbkaa
