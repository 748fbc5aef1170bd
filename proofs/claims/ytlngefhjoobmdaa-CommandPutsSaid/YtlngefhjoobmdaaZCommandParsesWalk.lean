/- The walk of CommandParses. -/
import Derived.Test.YtlngefhjoobmdaaMg6
import Derived.Test.YtlngefhjoobmdaaMg7
import Derived.BigQuiet
namespace Go.Proofs.Ytlngefhjoobmdaa
open Go.RowKit
/-- What Parse came to lies in a box. -/
theorem parse_put {B : Nat} {T E : TypeId} (hE : (Try.prog.info? T).map (·.size) = some 16) {W : World} {r : Option CReq} {u : Value} (ho : OwnOf E COp.cells 5 B W u (reqOf r).ops) : ∃ W', (Instr.storeAt T (.pointer (some ⟨W.heap.size, 0, none⟩)) (.agg ((reqOf r).cells u))).run Try.prog (W.alloc (.cells (CReq.zero.cells nilS) T)) = .ok () W' ∧ W'.heap[W.heap.size]? = some (.cells ((reqOf r).cells u) T (0, 0)) ∧ Below W.heap.size W W' ∧ W.heap.size < W'.heap.size := by
  refine ⟨_, run_storeRow (W.alloc (.cells (CReq.zero.cells nilS) T)) T W.heap.size (CReq.zero.cells nilS) ((reqOf r).cells u) (heap_alloc_new W _) hE rfl (by obtain ⟨a5, c5, h5⟩ := ho.slice; rw [h5]; exact cells_one _ _ _ _), setRow_heap (W.alloc (.cells (CReq.zero.cells nilS) T)) W.heap.size (CReq.zero.cells nilS) _ T (0, 0) (heap_alloc_new W _), below_boxC W (CReq.zero.cells nilS) _ T, by simp [World.setRow]⟩
theorem run_load_box (w : World) (g : Nat) (T : TypeId) (C : Array Value) (fs) (hg : w.heap[g]? = some (.cells C T (0, 0))) (hu : Try.prog.underlying T = some (.struct fs)) (hi : (Try.prog.info? T).map (·.size) = some C.size) : (Instr.loadAt T (.pointer (some ⟨g, 0, none⟩))).run Try.prog w = .ok (.agg C) w := by
  simp only [Instr.loadAt, Instr.sureAddr, Sem.run_bind, Sem.run_pure, Result.andThen_ok, run_loadVar_row w g T T C (0, 0) _ hg hu rfl hi]
def CDone (w : World) (e : Ending) (w' : World) : Prop := e = .returned (.bool true) ∧ Below w.heap.size w w'
set_option maxRecDepth 100000 in
set_option maxHeartbeats 4000000 in
theorem parsesHead (a0 : Option Addr) (m cap0 : Nat) (w : World) (h : 25000 < m) :
    Calls Try.prog 3 #[.slice a0 m cap0] w (CDone w) := by
  have e0 : decide ((25000 : Int) < (m : Int)) = true := by simp; omega
  go_enter Try.func3, Try.ntmps3
  go_wp2_with fail
  refine (cmdUp _).mono ?_
  rintro e W1 ⟨rfl, hb⟩
  go_wp2_with fail
  go_ret
  exact ⟨rfl, hb⟩
set_option maxRecDepth 100000 in
set_option maxHeartbeats 4000000 in
theorem parsesMain (a0 : Option Addr) (cap0 : Nat) (b : List UInt8) (w : World) (h : b.length ≤ 25000) (hr : Reads w (.slice a0 b.length cap0) b) :
    Calls Try.prog 3 #[.slice a0 b.length cap0] w (CDone w) := by
  have d0 : decide ((25000 : Int) < (b.length : Int)) = false := by simp; omega
  have HRD := Lib.hid hr
  have HLB := Lib.hid h
  have HC2 := Lib.hid (fun w => lawCode 2 w (by omega))
  rw [show errV 2 = .iface 57 (.int .i64 2) from rfl] at HC2
  clear hr h
  go_enter Try.func3, Try.ntmps3
  go_wp2_with fail
  refine (cmdUp _).mono ?_
  rintro e W1 ⟨rfl, hb1⟩
  have HRD1 := Lib.hid (HRD.out.bel' hb1)
  have HB1 := Lib.hid hb1
  clear hb1 HRD
  go_wp2_with fail
  refine (crParse a0 cap0 b W1 HRD1.out).mono ?_
  rintro e W2 ⟨⟨u1, rfl, ho1⟩, hb2⟩
  have HRD2 := Lib.hid (HRD1.out.bel' hb2)
  have HB2 := Lib.hid (below_next HB1.out hb2)
  obtain ⟨W3, hs3, hl3, hb3, hz3⟩ := parse_put (T := 32) (by exact req_size) ho1
  have HO1 := Lib.hid (ho1.bel hb3)
  have HS3 := Lib.hid hs3
  have HL3 := Lib.hid (And.intro hl3 hz3)
  have HB3 := Lib.hid (below_next HB2.out hb3)
  have HRD3 := Lib.hid (HRD2.out.bel' hb3)
  clear hs3 hl3 hb2 hb3 hz3 ho1 HRD1 HRD2
  generalize hpp : parseP b = r at *
  have HPP := Lib.hid hpp
  clear hpp
  unfold tupE
  obtain ⟨D, hD⟩ : ∃ D, D = (reqOf r).cells u1 := ⟨_, rfl⟩
  have HD := Lib.hid hD
  rw [← hD] at HS3 HL3 ⊢
  clear hD
  go_wp2_with ((with_reducible refine atStore ?_); refine wpList_store_by rfl 32 (.tmp 4) (.tmp 16) rfl (.pointer (some ⟨W2.heap.size, 0, none⟩)) _ rfl rfl HS3.out ?_)
  refine (prParse a0 cap0 b W3 HRD3.out (by have := HLB.out; omega)).mono ?_
  rw [HPP.out]
  rintro e W4 ⟨⟨u2, rfl, ho2⟩, hb4⟩
  have HB4 := Lib.hid (below_next HB3.out hb4)
  obtain ⟨W5, hs5, hl5, hb5, hz5⟩ := parse_put (T := 39) (by exact rreq_size) ho2
  have HO2 := Lib.hid (ho2.bel hb5)
  have HS5 := Lib.hid hs5
  have HL5 := Lib.hid hl5
  have HB5 := Lib.hid (below_next HB4.out hb5)
  have HB35 := Lib.hid (hb4.trans (hb5.mono hb4.size))
  have HL35 := Lib.hid ((HB35.out.block _ HL3.out.2).trans HL3.out.1)
  have HO15 := Lib.hid (HO1.out.bel HB35.out)
  clear hs5 hl5 hb4 hb5 hz5 ho2 HO1
  unfold tupB
  obtain ⟨E, hE⟩ : ∃ E, E = (reqOf r).cells u2 := ⟨_, rfl⟩
  have HE := Lib.hid hE
  rw [← hE] at HS5 HL5 ⊢
  clear hE
  cases r with
  | none =>
    obtain ⟨a1, c1, rfl⟩ := HO15.out.slice
    have q0 := (cell_of_row W5 W2.heap.size 0 _ _ _ HL35.out).trans (show _ = some (.int .i64 0) from by rw [HD.out]; rfl)
    have q1 := (cell_of_row W5 W2.heap.size 10 _ _ _ HL35.out).trans (show _ = some (.slice a1 0 c1) from by rw [HD.out]; rfl)
    have HQ := Lib.hid (And.intro q0 q1)
    clear q0 q1
    rw [errN_none]
    simp only [Option.isSome_none]
    go_wp2_with ((with_reducible refine atStore ?_); refine wpList_store_by rfl 39 (.tmp 6) (.tmp 21) rfl (.pointer (some ⟨W4.heap.size, 0, none⟩)) _ rfl rfl HS5.out ?_)
    refine (HC2.out W5).mono ?_
    rintro e W6 ⟨rfl, hw6⟩
    rw [hw6]
    clear hw6
    have q0 := HQ.out.1
    have q1 := HQ.out.2
    go_wp2_with fail
    go_ret
    exact ⟨rfl, HB5.out⟩
  | some p =>
    rw [show errV (errN (some p)) = .nilIface from rfl]
    simp only [Option.isSome_some]
    have k1 := code_nil_nil
    have HPF := Lib.hid (parseP_wf HPP.out)
    go_wp2_with ((with_reducible refine atStore ?_); refine wpList_store_by rfl 39 (.tmp 6) (.tmp 21) rfl (.pointer (some ⟨W4.heap.size, 0, none⟩)) _ rfl rfl HS5.out ?_)
    have HDZ := Lib.hid (show (Try.prog.info? 32).map (·.size) = some D.size by rw [HD.out]; exact req_size)
    have HEZ := Lib.hid (show (Try.prog.info? 39).map (·.size) = some E.size by rw [HE.out]; exact rreq_size)
    have HLT := Lib.hid (show W2.heap.size < W5.heap.size ∧ W4.heap.size < W5.heap.size from ⟨Nat.lt_of_lt_of_le HL3.out.2 HB35.out.size, (Array.getElem?_eq_some_iff.1 HL5.out).1⟩)
    refine Reg.wp_region0 (by kernel_rfl) (by kernel_rfl) ?_
    refine Reg.seg0 6 (by kernel_rfl) rfl ?_
    apply Exists.intro
    refine ⟨fun e => ?_, ?_⟩
    · simp only [List.take_succ_cons, List.take_zero]
      repeat (go_big_quiet_step ((intro _; rfl)))
      refine wpQuiet_nil ?_
      exact rfl
    simp only [List.drop_succ_cons, List.drop_zero, Nat.reduceAdd]
    refine Reg.const0 (.agg D) (fun e w2 hR hf => ⟨by rfl, ?_⟩) ?_
    · refine Reg.gives_mono (fun v' w' h => ?_) (gives_load_op 32 (.tmp 4) rfl _ (.agg D) rfl (run_load_box w2 W2.heap.size 32 D _ ((hR.block _ HLT.out.1).trans HL35.out) Try.underlying32 HDZ.out))
      obtain ⟨rfl, rfl⟩ := h
      exact ⟨Reg.bel_refl _, rfl⟩
    simp only [Act.put, List.setIfInBounds_toArray, List.set_cons_zero, List.set_cons_succ, Nat.reduceAdd]
    refine Reg.fact0 (fun v w => ∃ u, v = .agg (p.cells u) ∧ ∃ B, OwnOf 90 COp.cells 5 B w u p.ops) (fun v w w' h hR => by obtain ⟨u, h1, B, h2⟩ := h; exact ⟨u, h1, B, h2.bel hR⟩) (fun e w2 hR hf => ⟨by rfl, ?_⟩) ?_
    · have HIN := Lib.hid (req_rowOf ((HO15.out.bel ((Below.refl _ _).drew)).bel hR))
      clear hf hR
      unfold Reg.gives
      go_simp
      rw [HD.out]
      refine (lawAs p u1 w2 HIN.out (by have := HPF.out.2; omega)).mono ?_
      rintro en w3 ⟨⟨u, rfl, ho⟩, hb⟩
      exact ⟨_, rfl, hb, u, rfl, _, ho⟩
    simp only [Act.put, List.setIfInBounds_toArray, List.set_cons_zero, List.set_cons_succ, Nat.reduceAdd]
    refine Reg.const0 (.agg E) (fun e w2 hR hf => ⟨by rfl, ?_⟩) ?_
    · refine Reg.gives_mono (fun v' w' h => ?_) (gives_load_op 39 (.tmp 6) rfl _ (.agg E) rfl (run_load_box w2 W4.heap.size 39 E _ ((hR.block _ HLT.out.2).trans HL5.out) Try.underlying39 HEZ.out))
      obtain ⟨rfl, rfl⟩ := h
      exact ⟨Reg.bel_refl _, rfl⟩
    simp only [Act.put, List.setIfInBounds_toArray, List.set_cons_zero, List.set_cons_succ, Nat.reduceAdd]
    refine Reg.const0 (.bool true) (fun e w2 hR hf => ⟨by rfl, ?_⟩) ?_
    · obtain ⟨u, hu, B, hou⟩ := Reg.factsAt_here hf (by kernel_rfl)
      have HIN := Lib.hid (req_rowOf ((HO2.out.bel ((Below.refl _ _).drew)).bel hR))
      have HOU := Lib.hid (req_rowOf hou)
      clear hf hR hou
      unfold Reg.gives
      go_simp
      rw [HE.out]
      refine (rSame p p u u2 w2 HOU.out HIN.out (by have := HPF.out.2; omega)).mono ?_
      rw [decide_eq_true rfl]
      rintro en w3 ⟨rfl, hb⟩
      exact ⟨rfl, hb⟩
    simp only [Act.put, List.setIfInBounds_toArray, List.set_cons_zero, List.set_cons_succ, Nat.reduceAdd]
    refine Reg.seg0 2 (by kernel_rfl) rfl ?_
    apply Exists.intro
    refine ⟨fun e => ?_, ?_⟩
    · simp only [List.take_succ_cons, List.take_zero]
      repeat (go_big_quiet_step ((intro _; rfl)))
      refine wpQuiet_nil ?_
      exact rfl
    simp only [List.drop_succ_cons, List.drop_zero, Nat.reduceAdd]
    intro e W9 hR hJ hf
    have HB9 := Lib.hid (below_next HB5.out (((Below.refl _ _).drew).trans hR))
    clear hR hJ hf
    go_wp2_with fail
    go_ret
    exact ⟨rfl, HB9.out⟩
theorem CommandParses_walk (a0 : Option Addr) (len0 cap0 : Nat) (z0 : List Int) (w : World) (w0 : IsRow .u8 w a0 len0 cap0 z0) : LawOk Try.prog 3 #[.slice a0 len0 cap0] w := by
  by_cases h : 25000 < len0
  · exact parsesHead a0 len0 cap0 w h
  obtain ⟨l, rfl, hr⟩ := w0.reads
  exact parsesMain a0 cap0 l w (by omega) hr
end Go.Proofs.Ytlngefhjoobmdaa
