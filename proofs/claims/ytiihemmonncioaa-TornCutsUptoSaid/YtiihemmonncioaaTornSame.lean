/- The contract of hassocklaw07.same, where the pieces are the same. -/
import Derived.Test.YtiihemmonncioaaPieceRow
import Derived.Test.YtiihemmonncioaaRecSame
import Derived.BigQuiet
namespace Go.Proofs.Ytiihemmonncioaa
open Go.RowKit
/-- The pieces of a slice, as they lie. -/
def IsPieces (w : World) (a : Option Addr) (qs : List PieceL) : Prop := ∀ i (h : i < qs.length), ∃ g off au cu, a = some ⟨g, off, none⟩ ∧ g < w.heap.size ∧
  w.cell? ⟨g, off + i * 3, none⟩ = some (.int .i64 (qs[i].1 : Int)) ∧ w.cell? ⟨g, off + i * 3 + 1, none⟩ = some (.int .i64 (qs[i].2.1 : Int)) ∧ w.cell? ⟨g, off + i * 3 + 2, none⟩ = some (.slice au qs[i].2.2.length cu) ∧ IsRecs w au qs[i].2.2
theorem OwnP.pieces {T : TypeId} {B : Nat} {w : World} {v : Value} {qs : List PieceL} (h : OwnP T B w v qs) : ∃ a cap, v = .slice a qs.length cap ∧ IsPieces w a qs := by
  obtain ⟨ps, h1, h2, h3⟩ := h
  rcases h1.2 with ⟨rfl, h0⟩ | ⟨g, cap, cur, rfl, hbg, hg, hnc, hcm, hcs, htake⟩
  · exact ⟨none, 0, by rw [← h2, h0], fun i hi => by omega⟩
  · refine ⟨_, cap, by rw [← h2], fun i hi => ?_⟩
    have hip : i < ps.length := by omega
    obtain ⟨e1, e2, ho, hw⟩ := h3 i hip hi
    obtain ⟨au, cu, hu, hrec, _⟩ := ho.recs hw
    obtain ⟨c1, c2, c3⟩ := piecesC_at ps i hip
    have hat : ∀ j, j < 3 → w.cell? ⟨g, 0 + i * 3 + j, none⟩ = (piecesC ps)[i * 3 + j]? := fun j hj => by
      rw [cell_of_row w g _ cur _ _ hg, Nat.zero_add, ← htake, List.getElem?_take_of_lt (by omega), Array.getElem?_toList]
    refine ⟨g, 0, au, cu, rfl, (Array.getElem?_eq_some_iff.1 hg).1, ?_, ?_, ?_, hrec⟩
    · have := hat 0 (by omega); simp only [Nat.add_zero] at this; rw [this, c1, e1]
    · rw [hat 1 (by omega), c2, e2]
    · rw [hat 2 (by omega), c3, hu]
set_option maxRecDepth 100000 in
set_option maxHeartbeats 4000000 in
theorem lawSame (a1 : Option Addr) (c1 : Nat) (a2 : Option Addr) (c2 : Nat) (qs : List PieceL) (w : World) (hl : qs.length ≤ 1000000000) (hls : ∀ q ∈ qs, q.2.2.length ≤ 1000000000) (h1 : IsPieces w a1 qs) (h2 : IsPieces w a2 qs) :
    Calls Try.prog 20 #[.slice a1 qs.length c1, .slice a2 qs.length c2] w (BoolOk true w) := by
  have H1 := Lib.hid h1
  have H2 := Lib.hid h2
  have HLS := Lib.hid hls
  clear h1 h2 hls
  go_enter Try.func20, Try.ntmps20
  go_wp2
  go_loopw [5] (fun i wr => ∃ j : Nat, j ≤ qs.length ∧ i = .int .i64 j ∧ Hid (Below w.heap.size w wr)) (fun i _ => qs.length - (intOf i).toNat)
  case atStart => exact ⟨0, Nat.zero_le _, rfl, Below.refl _ _⟩
  case round =>
    obtain ⟨j, hj, rfl, HB⟩ := hrel
    by_cases hlt : j < qs.length
    · obtain ⟨g1, o1, u1, d1, rfl, hg1, x1, x2, x3, x4⟩ := H1.out j hlt
      obtain ⟨g2, o2, u2, d2, rfl, hg2, y1, y2, y3, y4⟩ := H2.out j hlt
      have X1 := Lib.hid (fun (w2 : World) (hb : Below w.heap.size w w2) => (hb.cell (p := ⟨g1, o1 + j * 3, none⟩) hg1).trans x1)
      have X2 := Lib.hid (fun (w2 : World) (hb : Below w.heap.size w w2) => (hb.cell (p := ⟨g1, o1 + j * 3 + 1, none⟩) hg1).trans x2)
      have X3 := Lib.hid (fun (w2 : World) (hb : Below w.heap.size w w2) => (hb.cell (p := ⟨g1, o1 + j * 3 + 2, none⟩) hg1).trans x3)
      have Y1 := Lib.hid (fun (w2 : World) (hb : Below w.heap.size w w2) => (hb.cell (p := ⟨g2, o2 + j * 3, none⟩) hg2).trans y1)
      have Y2 := Lib.hid (fun (w2 : World) (hb : Below w.heap.size w w2) => (hb.cell (p := ⟨g2, o2 + j * 3 + 1, none⟩) hg2).trans y2)
      have Y3 := Lib.hid (fun (w2 : World) (hb : Below w.heap.size w w2) => (hb.cell (p := ⟨g2, o2 + j * 3 + 2, none⟩) hg2).trans y3)
      have HSM := Lib.hid (fun (w2 : World) (hb : Below w.heap.size w w2) => by
        have := recSame u1 d1 qs[j].2.2 u2 d2 qs[j].2.2 w2 (HLS.out _ (List.getElem_mem hlt)) (x4.bel hb) (y4.bel hb)
        rw [decide_eq_true (rfl : qs[j].2.2 = qs[j].2.2)] at this
        exact this)
      clear x1 x2 x3 x4 y1 y2 y3 y4 hg1 hg2
      generalize qs[j] = q at *
      obtain ⟨at_, m, L⟩ := q
      simp only at X1 X2 X3 Y1 Y2 Y3 HSM
      generalize L.length = nL at *
      go_wp2
      refine Reg.wp_region0 (by kernel_rfl) (by kernel_rfl) ?_
      refine Reg.seg0 4 (by kernel_rfl) rfl ?_
      apply Exists.intro
      refine ⟨fun e => ?_, ?_⟩
      · simp only [List.take_succ_cons, List.take_zero]
        repeat (go_big_quiet_step ((intro _; rfl)))
        refine wpQuiet_nil ?_
        exact rfl
      simp only [List.drop_succ_cons, List.drop_zero, Nat.reduceAdd]
      refine Reg.const0 (.int .i64 (at_ : Int)) (fun e w2 hR hf => ⟨by rfl, ?_⟩) ?_
      · have hc := X1.out w2 (below_next HB.out (((Below.refl _ _).drew).trans hR))
        unfold Reg.gives
        clear hf
        go_simp
        exact Reg.bel_refl _
      simp only [Act.put, List.setIfInBounds_toArray, List.set_cons_zero, List.set_cons_succ, Nat.reduceAdd]
      refine Reg.seg0 4 (by kernel_rfl) rfl ?_
      apply Exists.intro
      refine ⟨fun e => ?_, ?_⟩
      · simp only [List.take_succ_cons, List.take_zero]
        repeat (go_big_quiet_step ((intro _; rfl)))
        refine wpQuiet_nil ?_
        exact rfl
      simp only [List.drop_succ_cons, List.drop_zero, Nat.reduceAdd]
      refine Reg.const0 (.int .i64 (at_ : Int)) (fun e w2 hR hf => ⟨by rfl, ?_⟩) ?_
      · have hc := Y1.out w2 (below_next HB.out (((Below.refl _ _).drew).trans hR))
        unfold Reg.gives
        clear hf
        go_simp
        exact Reg.bel_refl _
      simp only [Act.put, List.setIfInBounds_toArray, List.set_cons_zero, List.set_cons_succ, Nat.reduceAdd]
      refine Reg.seg0 6 (by kernel_rfl) rfl ?_
      apply Exists.intro
      refine ⟨fun e => ?_, ?_⟩
      · simp only [List.take_succ_cons, List.take_zero]
        repeat (go_big_quiet_step ((intro _; rfl)))
        refine wpQuiet_nil ?_
        exact rfl
      simp only [List.drop_succ_cons, List.drop_zero, Nat.reduceAdd]
      refine Reg.const0 (.int .i64 (m : Int)) (fun e w2 hR hf => ⟨by rfl, ?_⟩) ?_
      · have hc := X2.out w2 (below_next HB.out (((Below.refl _ _).drew).trans hR))
        unfold Reg.gives
        clear hf
        go_simp
        exact Reg.bel_refl _
      simp only [Act.put, List.setIfInBounds_toArray, List.set_cons_zero, List.set_cons_succ, Nat.reduceAdd]
      refine Reg.seg0 4 (by kernel_rfl) rfl ?_
      apply Exists.intro
      refine ⟨fun e => ?_, ?_⟩
      · simp only [List.take_succ_cons, List.take_zero]
        repeat (go_big_quiet_step ((intro _; rfl)))
        refine wpQuiet_nil ?_
        exact rfl
      simp only [List.drop_succ_cons, List.drop_zero, Nat.reduceAdd]
      refine Reg.const0 (.int .i64 (m : Int)) (fun e w2 hR hf => ⟨by rfl, ?_⟩) ?_
      · have hc := Y2.out w2 (below_next HB.out (((Below.refl _ _).drew).trans hR))
        unfold Reg.gives
        clear hf
        go_simp
        exact Reg.bel_refl _
      simp only [Act.put, List.setIfInBounds_toArray, List.set_cons_zero, List.set_cons_succ, Nat.reduceAdd]
      refine Reg.seg0 7 (by kernel_rfl) rfl ?_
      apply Exists.intro
      refine ⟨fun e => ?_, ?_⟩
      · simp only [List.take_succ_cons, List.take_zero]
        repeat (go_big_quiet_step ((intro _; rfl)))
        refine wpQuiet_nil ?_
        exact rfl
      simp only [List.drop_succ_cons, List.drop_zero, Nat.reduceAdd]
      refine Reg.const0 (.slice u1 nL d1) (fun e w2 hR hf => ⟨by rfl, ?_⟩) ?_
      · have hc := X3.out w2 (below_next HB.out (((Below.refl _ _).drew).trans hR))
        unfold Reg.gives
        clear hf
        go_simp
        exact Reg.bel_refl _
      simp only [Act.put, List.setIfInBounds_toArray, List.set_cons_zero, List.set_cons_succ, Nat.reduceAdd]
      refine Reg.seg0 4 (by kernel_rfl) rfl ?_
      apply Exists.intro
      refine ⟨fun e => ?_, ?_⟩
      · simp only [List.take_succ_cons, List.take_zero]
        repeat (go_big_quiet_step ((intro _; rfl)))
        refine wpQuiet_nil ?_
        exact rfl
      simp only [List.drop_succ_cons, List.drop_zero, Nat.reduceAdd]
      refine Reg.const0 (.slice u2 nL d2) (fun e w2 hR hf => ⟨by rfl, ?_⟩) ?_
      · have hc := Y3.out w2 (below_next HB.out (((Below.refl _ _).drew).trans hR))
        unfold Reg.gives
        clear hf
        go_simp
        exact Reg.bel_refl _
      simp only [Act.put, List.setIfInBounds_toArray, List.set_cons_zero, List.set_cons_succ, Nat.reduceAdd]
      refine Reg.const0 (.bool true) (fun e w2 hR hf => ⟨by rfl, ?_⟩) ?_
      · unfold Reg.gives
        clear hf
        go_simp
        exact (HSM.out w2 (below_next HB.out (((Below.refl _ _).drew).trans hR))).mono fun e w' h => ⟨h.1, h.2⟩
      simp only [Act.put, List.setIfInBounds_toArray, List.set_cons_zero, List.set_cons_succ, Nat.reduceAdd]
      refine Reg.seg0 2 (by kernel_rfl) rfl ?_
      apply Exists.intro
      refine ⟨fun e => ?_, ?_⟩
      · simp only [List.take_succ_cons, List.take_zero]
        repeat (go_big_quiet_step ((intro _; rfl)))
        refine wpQuiet_nil ?_
        exact rfl
      simp only [List.drop_succ_cons, List.drop_zero, Nat.reduceAdd]
      intro e W9 hR hJ hf
      have HB9 := Lib.hid (below_next HB.out (((Below.refl _ _).drew).trans hR))
      clear hR hJ hf X1 X2 X3 Y1 Y2 Y3 HSM
      go_wp2
      go_roundw
      case rel => exact ⟨j + 1, by omega, by go_num, HB9⟩
      case measure => simp [intOf]; omega
    · obtain rfl : j = qs.length := by omega
      go_wp2
      go_ret
      exact ⟨rfl, HB.out⟩
end Go.Proofs.Ytiihemmonncioaa
