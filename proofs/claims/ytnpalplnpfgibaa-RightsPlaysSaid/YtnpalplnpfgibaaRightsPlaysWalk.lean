/- RightsPlays. -/
import Derived.Test.YtnpalplnpfgibaaRightsSt
import Derived.Test.YtnpalplnpfgibaaWithin
import Derived.Deep.DeepCutAuto
namespace Go.Proofs.Ytnpalplnpfgibaa
open Go.RowKit Go.Maps
set_option linter.unusedSimpArgs false
set_option linter.unusedVariables false
def RDone (w : World) (e : Ending) (w' : World) : Prop := e = .returned (.bool true) ∧ Below w.heap.size w w'
set_option maxRecDepth 100000 in
set_option maxHeartbeats 8000000 in
theorem playsHead (a0 : Option Addr) (len0 cap0 : Nat) (a1 a2 : Int) (w : World) (h : 300 < len0) : Calls Try.prog 6 #[.slice a0 len0 cap0, .int .i64 a1, .int .i64 a2] w (RDone w) := by
  have d0 : decide ((300 : Int) < (len0 : Int)) = true := by rw [decide_eq_true_iff]; omega
  have d0' : decide (300 < len0) = true := decide_eq_true h
  clear h
  go_enter Try.func6, Try.ntmps6
  go_wp2_with fail
  refine (rightsUp w).mono ?_
  rintro e W1 ⟨rfl, hb1⟩
  have HB1 := Lib.hid hb1
  clear hb1
  go_wp2_with fail
  refine (rightsNew W1).mono ?_
  rintro e W2 ⟨rfl, _, hb2⟩
  have HB2 := Lib.hid (HB1.out.trans (hb2.mono HB1.out.size))
  clear hb2
  go_wp2
  go_ret
  exact ⟨rfl, HB2.out⟩
set_option maxRecDepth 100000 in
set_option maxHeartbeats 8000000 in
theorem playsMain (a0 : Option Addr) (cap0 : Nat) (z : List RDeed) (a1 a2 : Int) (w : World) (h : z.length ≤ 300) (hz : IsRowOf RDeed.cells RDeed.wf 4 w a0 z) : Calls Try.prog 6 #[.slice a0 z.length cap0, .int .i64 a1, .int .i64 a2] w (RDone w) := by
  have d0 : decide ((300 : Int) < (z.length : Int)) = false := by rw [decide_eq_false_iff_not]; omega
  have d0' : decide (300 < z.length) = false := by rw [decide_eq_false_iff_not]; omega
  have HZ := Lib.hid hz
  have HZL := Lib.hid h
  have HI := Lib.hid infoRec
  have HLC1 := Lib.hid (show ∀ w, Calls Try.prog 40 #[.iface 58 (.int .i64 1)] w (fun e w' => e = .returned (.int .i64 1) ∧ w' = w) from fun w => lawCode 1 w (by omega))
  have HLC13 := Lib.hid (show ∀ w, Calls Try.prog 40 #[.iface 58 (.int .i64 13)] w (fun e w' => e = .returned (.int .i64 13) ∧ w' = w) from fun w => lawCode 13 w (by omega))
  clear h hz
  go_enter Try.func6, Try.ntmps6
  go_wp2_with fail
  refine (rightsUp w).mono ?_
  rintro e W1 ⟨rfl, hb1⟩
  have HB1 := Lib.hid hb1
  clear hb1
  go_wp2_with fail
  refine (rightsNew W1).mono ?_
  rintro e W2 ⟨rfl, ht2, hb2⟩
  have HB2 := Lib.hid (HB1.out.trans (hb2.mono HB1.out.size))
  have HBM := Lib.hid (show W1.heap.size < W2.heap.size ∧ w.heap.size ≤ W1.heap.size from ⟨Nat.lt_of_succ_lt ht2.lt, HB1.out.size⟩)
  have HS0 := Lib.hid (show RSt W2.heap.size W1.heap.size w [] 0 (.map []) (.slice none 0 0) W2 from ⟨OwnOf.nil _ _, ht2, TokAt.empty, HB2.out, by simp, Nat.le_refl _⟩)
  clear hb2 ht2
  go_upto_region 5 with fail
  go_cut [46] (fun s46 wc => s46 = .bool false ∧ wc = W2)
  case first =>
    by_cases hb0 : 0 ≤ a2
    · have db0 : decide ((0 : Int) ≤ a2) = true := decide_eq_true hb0
      by_cases hb7 : a2 ≤ 7
      · have db7 : decide (a2 ≤ (7 : Int)) = true := decide_eq_true hb7
        obtain ⟨t, h1, h2⟩ := within_same a1 a2 hb0 hb7
        have HW1 := Lib.hid h1
        have HW2 := Lib.hid h2
        clear h1 h2 hb0 hb7
        go_wp2_with fail
        refine (HW1.out _).mono ?_
        rintro e W ⟨rfl, rfl⟩
        go_wp2_with fail
        refine (HW2.out _).mono ?_
        rintro e W ⟨rfl, rfl⟩
        cases t
        · go_wp2_with fail
          go_meet
          exact ⟨by first | rfl | trivial, by first | rfl | trivial⟩
        · go_wp2_with fail
          go_meet
          exact ⟨by first | rfl | trivial, by first | rfl | trivial⟩
      · have db7 : decide (a2 ≤ (7 : Int)) = false := decide_eq_false hb7
        clear hb0 hb7
        go_wp2_with fail
        go_meet
        exact ⟨by first | rfl | trivial, by first | rfl | trivial⟩
    · have db0 : decide ((0 : Int) ≤ a2) = false := decide_eq_false hb0
      clear hb0
      go_wp2_with fail
      go_meet
      exact ⟨by first | rfl | trivial, by first | rfl | trivial⟩
  case rest =>
    obtain ⟨rfl, rfl⟩ := hcut
    obtain ⟨B2, hB2⟩ : ∃ B, B = wc.heap.size := ⟨_, rfl⟩
    rw [← hB2] at HBM HS0
    clear hB2
    go_wp2
    go_loopw [9, 10] (fun mv iv wr => ∃ (i : Nat) (m : List Tk) (n : Nat) (D : DataW Unit), i ≤ z.length ∧ iv = .int .i64 (i : Int) ∧ Hid (RSt B2 W1.heap.size w m n D mv wr) ∧ Hid (n ≤ i)) (fun _ iv _ => z.length - (Go.RowKit.intOf iv).toNat)
    case atStart => exact ⟨0, [], 0, .map [], Nat.zero_le _, rfl, HS0, Lib.hid (Nat.le_refl _)⟩
    case round =>
      obtain ⟨i, m, n, D, hi, rfl, HS, HN⟩ := hrel
      clear HS0
      by_cases hlt : i < z.length
      · have hli : (i : Int) < (z.length : Int) := by omega
        obtain ⟨b, off, rfl, hbl, hcq, hwq⟩ := HZ.out i hlt
        generalize hq : z[i] = q at *
        obtain ⟨qa, qs, qr, qx⟩ := q
        have HIZ := Lib.hid (show i + 1 ≤ z.length from hlt)
        have HNI := Lib.hid (show n ≤ i from HN.out)
        have HNM := Lib.hid (show n < maxLen by have := HNI.out; have := HZL.out; unfold maxLen; omega)
        have HWQ := Lib.hid hwq.2
        have HWA := Lib.hid hwq.1
        have hwi : IntKind.i64.wrap ((i : Int) + 1) = (i : Int) + 1 := by have := HZL.out; rw [IntKind.wrap_i64]; omega
        have HRW := Lib.hid (show wr.rangeAt b (off + i * 4) [.int .i64 qa, .int .u32 qs, .int .i64 qr, .int .u64 qx] from fun j v hv => (HS.out.bel.cell (p := ⟨b, off + i * 4 + j, none⟩) hbl).trans ((hcq j (List.getElem?_eq_some_iff.1 hv).1).trans hv))
        obtain ⟨V3, hV3⟩ : ∃ V, V = (wr.alloc (.cells #[.int .i64 0, .int .u32 0, .int .i64 0, .int .u64 0] 69)).setRow wr.heap.size #[.int .i64 qa, .int .u32 qs, .int .i64 qr, .int .u64 qx] := ⟨_, rfl⟩
        have HS3 := Lib.hid (run_storeRow (wr.alloc (.cells #[.int .i64 0, .int .u32 0, .int .i64 0, .int .u64 0] 69)) 69 wr.heap.size #[.int .i64 0, .int .u32 0, .int .i64 0, .int .u64 0] #[.int .i64 qa, .int .u32 qs, .int .i64 qr, .int .u64 qx] (heap_alloc_new wr _) deed_size rfl (by simp [Value.oneCell']))
        have HL3 := Lib.hid (setRow_heap (wr.alloc (.cells #[.int .i64 0, .int .u32 0, .int .i64 0, .int .u64 0] 69)) wr.heap.size #[.int .i64 0, .int .u32 0, .int .i64 0, .int .u64 0] #[.int .i64 qa, .int .u32 qs, .int .i64 qr, .int .u64 qx] 69 (0, 0) (heap_alloc_new wr _))
        have HB3 := Lib.hid (below_boxT wr #[.int .i64 0, .int .u32 0, .int .i64 0, .int .u64 0] #[.int .i64 qa, .int .u32 qs, .int .i64 qr, .int .u64 qx] 69)
        rw [← hV3] at HS3 HL3 HB3
        have HST3 := Lib.hid (HS.out.bel' HB3.out)
        have x1 := rowT HL3.out 1 (v := .int .u32 qs) rfl
        have HXB := Lib.hid (show W1.heap.size < wr.heap.size from Nat.lt_of_lt_of_le HBM.out.1 HS.out.sz)
        have HTY := Lib.hid (HS.out.tab.2.tidy law32)
        obtain ⟨mv, hmv⟩ : ∃ mv, mv = u9 := ⟨_, rfl⟩
        rw [← hmv] at HST3
        obtain ⟨am, cm0, hmv2, hrow3, _⟩ := OwnOf.rowOf (W := fun _ => True) tk_len (fun _ _ => trivial) HST3.out.own
        have HR3 := Lib.hid hrow3
        have HPL3 := Lib.hid (lawPlace am cm0 m qs V3 hrow3 (by have := HST3.out.len; omega))
        rw [hmv2] at hmv
        subst hmv
        subst hmv2
        clear hV3 hq hcq hwq hbl hrow3 hlt
        go_wp2_with (first | ((with_reducible refine atLoad ?_); refine wpList_load_mid rfl 69 (.tmp 55) rfl b (off + i * 4) rfl [.int .i64 qa, .int .u32 qs, .int .i64 qr, .int .u64 qx] _ HRW.out Try.underlying69 rfl deed_size ?_) | ((with_reducible refine atStore ?_); refine wpList_store_by rfl 69 (.tmp 11) (.tmp 56) rfl (.pointer (some ⟨wr.heap.size, 0, none⟩)) _ rfl rfl HS3.out ?_))
        refine HPL3.out.mono ?_
        rintro e V4 ⟨⟨p, is, rfl, hp⟩, hb4⟩
        have HP := Lib.hid hp
        have HS4 := Lib.hid (HST3.out.bel' hb4)
        have HXL := Lib.hid (show wr.heap.size < V4.heap.size from Nat.lt_of_lt_of_le (Array.getElem?_eq_some_iff.1 HL3.out).1 hb4.size)
        have HX4 := Lib.hid ((hb4.block wr.heap.size (Array.getElem?_eq_some_iff.1 HL3.out).1).trans HL3.out)
        clear hp hb4 x1 HS3 HL3 HB3 HST3 HR3 HPL3 HRW
        have x0 := rowT HX4.out 0 (v := .int .i64 qa) rfl
        have x1 := rowT HX4.out 1 (v := .int .u32 qs) rfl
        have x2 := rowT HX4.out 2 (v := .int .i64 qr) rfl
        have x3 := rowT HX4.out 3 (v := .int .u64 qx) rfl
        go_wp2_with fail
        refine (rightsPick qa V4 HWA.out).mono ?_
        rintro e W ⟨⟨pk, rfl⟩, hE⟩
        have hE := hE.symm
        subst hE
        go_upto_if 67 with fail
        go_cut [9] (fun s9 wc => ∃ (m' : List Tk) (n' : Nat) (D' : DataW Unit), Hid (n' ≤ n + 1) ∧ Hid (RSt B2 W1.heap.size w m' n' D' s9 wc))
        case first =>
          by_cases hpk : pk = 2
          · have hpk' : (pk == 2) = true := by rw [hpk]; rfl
            cases is with
            | false =>
              have HD5 := Lib.hid (show TokAt (D.del (.int .u32 qs)) m by have := HS4.out.at_.del HTY.out HP.out; rwa [delTk_no] at this)
              go_wp2_with fail
              refine (rightsRevokeG W1.heap.size n D qs false V4 HS4.out.tab HWQ.out (HS4.out.at_.isAt HP.out)).mono ?_
              rintro e V5 ⟨rfl, ht5, hg5⟩
              have h5 := HS4.out.turned hg5 HBM.out.1 HBM.out.2
              have HS5 := Lib.hid (show RSt B2 W1.heap.size w m n (D.del (.int .u32 qs)) (.slice am m.length cm0) V5 from ⟨h5.1, ht5, HD5.out, h5.2.1, HS4.out.len, h5.2.2⟩)
              clear ht5 hg5 h5 HS4
              go_wp2
              go_meet
              case rel => exact ⟨m, n, _, Lib.hid (by omega), HS5⟩
            | true =>
              have HD5 := Lib.hid (HS4.out.at_.del HTY.out HP.out)
              obtain ⟨hpl, hpx⟩ := HP.out.yes rfl
              clear hpx
              have HPL := Lib.hid hpl
              have HDL := Lib.hid (show (delTk m p true).length ≤ 100 by have h1 := HP.out.del_len; have h2 := HS4.out.len; rw [if_pos rfl] at h1; omega)
              rcases own_forms HS4.out.own with ⟨_, h0⟩ | ⟨gm, cm, h1, hmc, hcm, hgm, hrow⟩
              · rw [h0] at hpl; cases hpl
              simp only [Value.slice.injEq, true_and] at h1
              obtain ⟨rfl, hcc⟩ := h1
              have hcc := hcc.symm
              subst hcc
              have HR4 := Lib.hid hrow
              clear hpl hrow
              go_wp2_with fail
              refine (rightsRevokeG W1.heap.size n D qs true V4 HS4.out.tab HWQ.out (HS4.out.at_.isAt HP.out)).mono ?_
              rintro e V5 ⟨rfl, ht5, hg5⟩
              have h5 := HS4.out.turned hg5 HBM.out.1 HBM.out.2
              have HT5 := Lib.hid ht5
              have HS5 := Lib.hid h5
              have HML := Lib.hid HS4.out.len
              have HR5 := Lib.hid (show IsTks V5 (some ⟨gm, 0, none⟩) m from by
                rcases own_forms h5.1 with ⟨h1, _⟩ | ⟨g', c', h1, _, _, _, h2⟩
                · cases h1
                · simp only [Value.slice.injEq, Option.some.injEq, Addr.mk.injEq] at h1
                  rw [h1.1.1]; exact h2)
              clear ht5 hg5 h5 HS4 HR4 hgm
              have HPC := Lib.hid (show p ≤ cm by have := HPL.out; omega)
              have bpl : (p : Int) < (m.length : Int) := by have := HPL.out; omega
              have bpl1 : (p : Int) + 1 ≤ (m.length : Int) := by omega
              have bpc : (p : Int) ≤ (cm : Int) := by omega
              have bp0 : (0 : Int) ≤ (p : Int) := by omega
              have bp1 : (0 : Int) ≤ (p : Int) + 1 := by omega
              have bpn : p + 1 ≤ m.length := HPL.out
              have hwp : IntKind.i64.wrap ((p : Int) + 1) = (p : Int) + 1 := by have := HML.out; rw [IntKind.wrap_i64]; omega
              go_wp2_with fail
              by_cases hck : cm = p + 1
              · have HDN := Lib.hid (show (m.drop (p + 1)).length = 0 by simp; omega)
                have HCK := Lib.hid hck
                clear hck
                refine Reg.wp_regionL (liveT V5.heap.size m p) (by kernel_rfl) (by kernel_rfl) ?_
                refine Reg.factL (by kernel_rfl) (fun e w1 L hN hR hJ hf => ⟨by rfl, ?_⟩) ?_
                · refine Reg.gives_mono ?_ (gives_emptyR rfl)
                  rintro v2 w2 ⟨rfl, rfl⟩
                  have hz : V5.heap.size ≤ w1.heap.size := hR.size
                  exact ⟨(Below.refl _ w1).alloc hz _, ⟨(fun _ => OwnOf.empty _ _ hz), (fun h => absurd h (by decide)), (fun h => absurd h (by decide)), trivial⟩⟩
                simp only [Act.put, List.setIfInBounds_toArray, List.set_cons_zero, List.set_cons_succ, Nat.reduceAdd]
                refine Reg.segL 2 (by kernel_rfl) rfl (by kernel_rfl) ?_
                apply Exists.intro
                refine ⟨fun e => ?_, ?_⟩
                · simp only [List.take_succ_cons, List.take_zero]
                  repeat (go_big_quiet_step ((intro _; rfl)))
                  refine wpQuiet_nil ?_
                  exact rfl
                simp only [List.drop_succ_cons, List.drop_zero, Nat.reduceAdd]
                refine Reg.constS (.slice (some ⟨gm, 0, none⟩) p cm) (fun _ => Below.refl _ _) (by kernel_rfl) (fun e w1 L hN hR hJ hf => ⟨by rfl, ?_⟩) ?_
                · unfold Reg.gives
                  clear hf hJ
                  go_simp
                  all_goals (rw [if_pos HPC.out]; exact ⟨rfl, rfl⟩)
                simp only [Act.put, List.setIfInBounds_toArray, List.set_cons_zero, List.set_cons_succ, Nat.reduceAdd]
                refine Reg.factL (by kernel_rfl) (fun e w1 L hN hR hJ hf => ⟨by rfl, ?_⟩) ?_
                · have h5 := Reg.liveJ_get hJ (j := 0) (d := 4) (Φ := fun v w => OwnTk V5.heap.size w v []) (by simp [liveT]) (hN.2.1 0 (by kernel_rfl)) hN.1
                  have hRD : Below V5.heap.size V5 w1 := ((Below.refl _ V5).drew).trans hR
                  refine Reg.gives_mono ?_ (gives_append_of Try.underlying66 HI.out rfl (by omega) (.tmp 75) (.tmp 78) rfl V5.heap.size _ ([] : List Tk) rfl h5 _ (m.take p) rfl (srcTk cm p (by have := HPL.out; rw [List.length_take]; omega) ((HR5.out.bel hRD).takeN p)) hRD.size (by have := HML.out; simp; omega))
                  rintro v2 w2 ⟨ho, hg⟩
                  exact ⟨Grew.bel h5 hRD.size hg, ⟨(fun h => absurd h (by decide)), (fun _ => by simpa using ho), (fun h => absurd h (by decide)), trivial⟩⟩
                simp only [Act.put, List.setIfInBounds_toArray, List.set_cons_zero, List.set_cons_succ, Nat.reduceAdd]
                refine Reg.segL 3 (by kernel_rfl) rfl (by kernel_rfl) ?_
                apply Exists.intro
                refine ⟨fun e => ?_, ?_⟩
                · simp only [List.take_succ_cons, List.take_zero]
                  repeat (go_big_quiet_step ((intro _; rfl)))
                  refine wpQuiet_nil ?_
                  exact rfl
                simp only [List.drop_succ_cons, List.drop_zero, Nat.reduceAdd]
                refine Reg.constS (.slice (some ⟨gm, 0, none⟩) (m.length - (p + 1)) (cm - (p + 1))) (fun _ => Below.refl _ _) (by kernel_rfl) (fun e w1 L hN hR hJ hf => ⟨by rfl, ?_⟩) ?_
                · unfold Reg.gives
                  clear hf hJ
                  go_simp
                  all_goals first | exact ⟨rfl, rfl⟩ | (exact HCK.out)
                simp only [Act.put, List.setIfInBounds_toArray, List.set_cons_zero, List.set_cons_succ, Nat.reduceAdd]
                refine Reg.factL (by kernel_rfl) (fun e w1 L hN hR hJ hf => ⟨by rfl, ?_⟩) ?_
                · have h5 := Reg.liveJ_get hJ (j := 4) (d := 9) (Φ := fun v w => OwnTk V5.heap.size w v (m.take p)) (by simp [liveT]) (hN.2.1 4 (by kernel_rfl)) hN.1
                  have hRD : Below V5.heap.size V5 w1 := ((Below.refl _ V5).drew).trans hR
                  refine Reg.gives_mono ?_ (gives_append_of Try.underlying66 HI.out rfl (by omega) (.tmp 79) (.tmp 83) rfl V5.heap.size _ (m.take p) rfl h5 _ (m.drop (p + 1)) rfl (srcTk _ _ (by simp) (IsRowOf.ofNil HDN.out)) hRD.size (by have := HML.out; simp; omega))
                  rintro v2 w2 ⟨ho, hg⟩
                  exact ⟨Grew.bel h5 hRD.size hg, ⟨(fun h => absurd h (by decide)), (fun h => absurd h (by decide)), (fun _ => ho), trivial⟩⟩
                simp only [Act.put, List.setIfInBounds_toArray, List.set_cons_zero, List.set_cons_succ, Nat.reduceAdd]
                refine Reg.segL 1 (by kernel_rfl) rfl (by kernel_rfl) ?_
                apply Exists.intro
                refine ⟨fun e => ?_, ?_⟩
                · simp only [List.take_succ_cons, List.take_zero]
                  repeat (go_big_quiet_step ((intro _; rfl)))
                  refine wpQuiet_nil ?_
                  exact rfl
                simp only [List.drop_succ_cons, List.drop_zero, Nat.reduceAdd]
                intro e V6 hR hJ hf
                have hRD : Below V5.heap.size V5 V6 := ((Below.refl _ V5).drew).trans hR
                have ho6 := hJ.2.2.1 (by rfl) (by rfl)
                have HS6 := Lib.hid (show RSt B2 W1.heap.size w (delTk m p true) n (D.del (.int .u32 qs)) (e 9) V6 from RSt.fresh HS5.out.2.1 HS5.out.2.2 HT5.out HD5.out HDL.out (by unfold delTk past; exact ho6) hRD)
                clear hR hJ hf hRD ho6
                go_wp2
                go_meet
                case rel => exact ⟨_, n, _, Lib.hid (by omega), HS6⟩
              · have HCK := Lib.hid hck
                clear hck
                refine Reg.wp_regionL (liveT V5.heap.size m p) (by kernel_rfl) (by kernel_rfl) ?_
                refine Reg.factL (by kernel_rfl) (fun e w1 L hN hR hJ hf => ⟨by rfl, ?_⟩) ?_
                · refine Reg.gives_mono ?_ (gives_emptyR rfl)
                  rintro v2 w2 ⟨rfl, rfl⟩
                  have hz : V5.heap.size ≤ w1.heap.size := hR.size
                  exact ⟨(Below.refl _ w1).alloc hz _, ⟨(fun _ => OwnOf.empty _ _ hz), (fun h => absurd h (by decide)), (fun h => absurd h (by decide)), trivial⟩⟩
                simp only [Act.put, List.setIfInBounds_toArray, List.set_cons_zero, List.set_cons_succ, Nat.reduceAdd]
                refine Reg.segL 2 (by kernel_rfl) rfl (by kernel_rfl) ?_
                apply Exists.intro
                refine ⟨fun e => ?_, ?_⟩
                · simp only [List.take_succ_cons, List.take_zero]
                  repeat (go_big_quiet_step ((intro _; rfl)))
                  refine wpQuiet_nil ?_
                  exact rfl
                simp only [List.drop_succ_cons, List.drop_zero, Nat.reduceAdd]
                refine Reg.constS (.slice (some ⟨gm, 0, none⟩) p cm) (fun _ => Below.refl _ _) (by kernel_rfl) (fun e w1 L hN hR hJ hf => ⟨by rfl, ?_⟩) ?_
                · unfold Reg.gives
                  clear hf hJ
                  go_simp
                  all_goals (rw [if_pos HPC.out]; exact ⟨rfl, rfl⟩)
                simp only [Act.put, List.setIfInBounds_toArray, List.set_cons_zero, List.set_cons_succ, Nat.reduceAdd]
                refine Reg.factL (by kernel_rfl) (fun e w1 L hN hR hJ hf => ⟨by rfl, ?_⟩) ?_
                · have h5 := Reg.liveJ_get hJ (j := 0) (d := 4) (Φ := fun v w => OwnTk V5.heap.size w v []) (by simp [liveT]) (hN.2.1 0 (by kernel_rfl)) hN.1
                  have hRD : Below V5.heap.size V5 w1 := ((Below.refl _ V5).drew).trans hR
                  refine Reg.gives_mono ?_ (gives_append_of Try.underlying66 HI.out rfl (by omega) (.tmp 75) (.tmp 78) rfl V5.heap.size _ ([] : List Tk) rfl h5 _ (m.take p) rfl (srcTk cm p (by have := HPL.out; rw [List.length_take]; omega) ((HR5.out.bel hRD).takeN p)) hRD.size (by have := HML.out; simp; omega))
                  rintro v2 w2 ⟨ho, hg⟩
                  exact ⟨Grew.bel h5 hRD.size hg, ⟨(fun h => absurd h (by decide)), (fun _ => by simpa using ho), (fun h => absurd h (by decide)), trivial⟩⟩
                simp only [Act.put, List.setIfInBounds_toArray, List.set_cons_zero, List.set_cons_succ, Nat.reduceAdd]
                refine Reg.segL 3 (by kernel_rfl) rfl (by kernel_rfl) ?_
                apply Exists.intro
                refine ⟨fun e => ?_, ?_⟩
                · simp only [List.take_succ_cons, List.take_zero]
                  repeat (go_big_quiet_step ((intro _; rfl)))
                  refine wpQuiet_nil ?_
                  exact rfl
                simp only [List.drop_succ_cons, List.drop_zero, Nat.reduceAdd]
                refine Reg.constS (.slice (some ⟨gm, 0 + (p + 1) * 14, none⟩) (m.length - (p + 1)) (cm - (p + 1))) (fun _ => Below.refl _ _) (by kernel_rfl) (fun e w1 L hN hR hJ hf => ⟨by rfl, ?_⟩) ?_
                · unfold Reg.gives
                  clear hf hJ
                  go_simp
                  all_goals first | exact ⟨rfl, rfl⟩ | (first | exact HCK.out | (rw [if_neg HCK.out]; done) | (rw [if_neg HCK.out]; simp; done))
                simp only [Act.put, List.setIfInBounds_toArray, List.set_cons_zero, List.set_cons_succ, Nat.reduceAdd]
                refine Reg.factL (by kernel_rfl) (fun e w1 L hN hR hJ hf => ⟨by rfl, ?_⟩) ?_
                · have h5 := Reg.liveJ_get hJ (j := 4) (d := 9) (Φ := fun v w => OwnTk V5.heap.size w v (m.take p)) (by simp [liveT]) (hN.2.1 4 (by kernel_rfl)) hN.1
                  have hRD : Below V5.heap.size V5 w1 := ((Below.refl _ V5).drew).trans hR
                  refine Reg.gives_mono ?_ (gives_append_of Try.underlying66 HI.out rfl (by omega) (.tmp 79) (.tmp 83) rfl V5.heap.size _ (m.take p) rfl h5 _ (m.drop (p + 1)) rfl (srcTk _ _ (by simp) ((HR5.out.bel hRD).dropN (p + 1))) hRD.size (by have := HML.out; simp; omega))
                  rintro v2 w2 ⟨ho, hg⟩
                  exact ⟨Grew.bel h5 hRD.size hg, ⟨(fun h => absurd h (by decide)), (fun h => absurd h (by decide)), (fun _ => ho), trivial⟩⟩
                simp only [Act.put, List.setIfInBounds_toArray, List.set_cons_zero, List.set_cons_succ, Nat.reduceAdd]
                refine Reg.segL 1 (by kernel_rfl) rfl (by kernel_rfl) ?_
                apply Exists.intro
                refine ⟨fun e => ?_, ?_⟩
                · simp only [List.take_succ_cons, List.take_zero]
                  repeat (go_big_quiet_step ((intro _; rfl)))
                  refine wpQuiet_nil ?_
                  exact rfl
                simp only [List.drop_succ_cons, List.drop_zero, Nat.reduceAdd]
                intro e V6 hR hJ hf
                have hRD : Below V5.heap.size V5 V6 := ((Below.refl _ V5).drew).trans hR
                have ho6 := hJ.2.2.1 (by rfl) (by rfl)
                have HS6 := Lib.hid (show RSt B2 W1.heap.size w (delTk m p true) n (D.del (.int .u32 qs)) (e 9) V6 from RSt.fresh HS5.out.2.1 HS5.out.2.2 HT5.out HD5.out HDL.out (by unfold delTk past; exact ho6) hRD)
                clear hR hJ hf hRD ho6
                go_wp2
                go_meet
                case rel => exact ⟨_, n, _, Lib.hid (by omega), HS6⟩
          · have hpk' : (pk == 2) = false := by rw [beq_eq_false_iff_ne]; exact hpk
            cases is with
            | true =>
              have HFL := Lib.hid (show m.length ≤ 100 from HS4.out.len)
              by_cases hr1 : qr < 1
              · have HRL := Lib.hid hr1
                have dr1 : decide (qr < (1 : Int)) = true := decide_eq_true hr1
                clear hr1
                go_wp2_with fail
                refine (put_lowC W1.heap.size n D qs qr qx true V4 HS4.out.tab HWQ.out (HS4.out.at_.isAt HP.out) HRL.out).mono ?_
                rintro e V5 ⟨rfl, ht5, hb5⟩
                have HS5 := Lib.hid (HS4.out.bel' hb5)
                clear ht5 hb5 HS4
                go_wp2_with fail
                refine (HLC1.out V5).mono ?_
                rintro e W ⟨rfl, hE⟩
                have hE := hE.symm
                subst hE
                go_wp2
                go_meet
                case rel => exact ⟨m, n, D, Lib.hid (by omega), HS5⟩
              have dr1 : decide (qr < (1 : Int)) = false := decide_eq_false hr1
              by_cases hr7 : 7 < qr
              · have HRH := Lib.hid hr7
                have dr7 : decide ((7 : Int) < qr) = true := decide_eq_true hr7
                clear hr1 hr7
                go_wp2_with fail
                refine (put_highC W1.heap.size n D qs qr qx true V4 HS4.out.tab HWQ.out (HS4.out.at_.isAt HP.out) HRH.out).mono ?_
                rintro e V5 ⟨rfl, ht5, hb5⟩
                have HS5 := Lib.hid (HS4.out.bel' hb5)
                clear ht5 hb5 HS4
                go_wp2_with fail
                refine (HLC1.out V5).mono ?_
                rintro e W ⟨rfl, hE⟩
                have hE := hE.symm
                subst hE
                go_wp2
                go_meet
                case rel => exact ⟨m, n, D, Lib.hid (by omega), HS5⟩
              have dr7 : decide ((7 : Int) < qr) = false := decide_eq_false hr7
              have HRG := Lib.hid (show 1 ≤ qr ∧ qr ≤ 7 by omega)
              clear hr1 hr7
              have HD5 := Lib.hid (HS4.out.at_.put HTY.out HP.out HWQ.out qr qx)
              have HDL := Lib.hid (show (putTk m p true ⟨qs, qr, qx⟩).length ≤ 100 by rw [HP.out.put_len, if_pos rfl]; exact HS4.out.len)
              have HPS := Lib.hid HP.out.past_le
              have HPL := Lib.hid HP.out.le
              have HML := Lib.hid HS4.out.len
              rcases own_forms HS4.out.own with ⟨h1, h0⟩ | ⟨gm, cm, h1, hmc, hcm, hgm, hrow⟩
              · subst h0
                simp only [Value.slice.injEq, true_and, List.length_nil] at h1
                obtain ⟨rfl, rfl⟩ := h1
                obtain rfl : p = 0 := by have := HP.out.le; simpa using this
                exact absurd (HP.out.yes rfl) (fun h => by obtain ⟨h, _⟩ := h; cases h)
              · simp only [Value.slice.injEq, true_and] at h1
                obtain ⟨rfl, hcc⟩ := h1
                have hcc := hcc.symm
                subst hcc
                clear hrow hgm
                go_wp2_with fail
                refine (put_oldG W1.heap.size n D qs qr qx V4 HS4.out.tab HWQ.out (HS4.out.at_.isAt HP.out) HRG.out.1 HRG.out.2 HNM.out).mono ?_
                rintro e V5 ⟨rfl, ht5, hg5⟩
                have h5 := HS4.out.turned hg5 HBM.out.1 HBM.out.2
                have HT5 := Lib.hid ht5
                have HS5 := Lib.hid h5
                have HX5 := Lib.hid ((hg5.block wr.heap.size HXL.out (by have := HXB.out; simp; omega)).trans HX4.out)
                have HXS := Lib.hid hg5.size
                have HR5 := Lib.hid (show IsTks V5 (some ⟨gm, 0, none⟩) m from by
                  rcases own_forms h5.1 with ⟨h1, _⟩ | ⟨g', c', h1, _, _, _, h2⟩
                  · cases h1
                  · simp only [Value.slice.injEq, Option.some.injEq, Addr.mk.injEq] at h1
                    rw [h1.1.1]; exact h2)
                clear ht5 hg5 h5 HS4 HX4
                have bpl : (p : Int) ≤ (m.length : Int) := by have := HPL.out; omega
                have bpc : (p : Int) ≤ (cm : Int) := by omega
                have bp0 : (0 : Int) ≤ (p : Int) := by omega
                have bpcn : p ≤ cm := by omega
                have bps : (p : Int) + 1 ≤ (m.length : Int) := by have := HPS.out; simp [past] at this; omega
                have bps0 : (0 : Int) ≤ (p : Int) + 1 := by omega
                have bpsn : (p + 1) ≤ m.length := by have := HPS.out; simpa [past] using this
                have hwp : IntKind.i64.wrap ((p : Int) + 1) = (p : Int) + 1 := by have := HML.out; rw [IntKind.wrap_i64]; omega
                go_wp2_with fail
                refine (lawCode 0 _ (by omega)).mono ?_
                rintro e W ⟨rfl, hE⟩
                have hE := hE.symm
                subst hE
                by_cases hck : cm = (p + 1)
                · have HDN := Lib.hid (show (m.drop (p + 1)).length = 0 by simp; omega)
                  have hck := hck.symm
                  subst hck
                  go_wp2_with (at_builtin; refine wpList_append_of Try.underlying66 HI.out rfl (by omega) rfl (.tmp 113) (.tmp 116) rfl V5.heap.size _ ([] : List Tk) rfl (OwnOf.emptyAt V5.heap.size _ _ (by simp) (by simp)) _ (m.take p) rfl (srcTk (p + 1) p (by have := HPL.out; rw [List.length_take]; omega) (((HR5.out).bel ((Below.refl _ _).alloc (Nat.le_refl _) _)).takeN p)) (by simp) (by have := HML.out; first | (simp; done) | (simp; omega)) ?_)
                  intro v6 V6 ho6 hg6
                  have HB6 := Lib.hid (((Below.refl V5.heap.size V5).alloc (Nat.le_refl _) (.cells #[] 78)).trans (Grew.bel (OwnOf.emptyAt (C := Tk.cells) (sz := 14) V5.heap.size V5 _ rfl (Nat.le_refl _)) (by simp) hg6))
                  have HO6 := Lib.hid (show OwnTk V5.heap.size V6 v6 (m.take p) by simpa using ho6)
                  have HX6 := Lib.hid ((HB6.out.block wr.heap.size (Nat.lt_of_lt_of_le HXL.out HXS.out)).trans HX5.out)
                  have x1 := rowT HX6.out 1 (v := .int .u32 qs) rfl
                  have x2 := rowT HX6.out 2 (v := .int .i64 qr) rfl
                  have x3 := rowT HX6.out 3 (v := .int .u64 qx) rfl
                  clear ho6 hg6 HX5
                  go_wp2_with (at_builtin; refine wpList_append_of Try.underlying66 HI.out rfl (by omega) rfl (.tmp 118) (.tmp 126) rfl V5.heap.size v6 (m.take p) rfl (HO6.out.bel ((Below.refl _ _).alloc (Nat.le_refl _) _)) _ [⟨qs, qr, qx⟩] rfl (srcTk 1 1 rfl (rowOf_new (C := Tk.cells) (W := fun _ => True) ⟨qs, qr, qx⟩ trivial rfl (heap_alloc_new V6 _))) (Nat.le_trans HB6.out.size (by simp)) (by have := HML.out; first | (simp; done) | (simp; omega)) ?_)
                  intro v7 V7 ho7 hg7
                  have HB7 := Lib.hid (HB6.out.trans (Grew.bel HO6.out HB6.out.size hg7.after_alloc))
                  have HO7 := Lib.hid ho7
                  clear ho7 hg7 HX6 x1 x2 x3
                  go_wp2_with (at_builtin; refine wpList_append_of Try.underlying66 HI.out rfl (by omega) rfl (.tmp 131) (.tmp 134) rfl V5.heap.size v7 (m.take p ++ [⟨qs, qr, qx⟩]) rfl HO7.out _ (m.drop (p + 1)) rfl (srcTk _ _ (by first | exact HDN.out.symm | (simp; done) | (simp; omega) | (simp at *; omega) | omega) (IsRowOf.ofNil HDN.out)) HB7.out.size (by have := HML.out; first | (simp; done) | (simp; omega)) ?_)
                  intro v8 V8 ho8 hg8
                  have HS8 := Lib.hid (show RSt B2 W1.heap.size w (putTk m p true ⟨qs, qr, qx⟩) (n + 1) (D.put (.int .u32 qs) (tokD qr qx)) v8 V8 from RSt.fresh HS5.out.2.1 HS5.out.2.2 HT5.out HD5.out HDL.out (by first | (unfold putTk past; exact ho8) | (simpa [putTk, past] using ho8)) (HB7.out.trans (Grew.bel HO7.out HB7.out.size hg8)))
                  clear ho8 hg8
                  go_wp2
                  go_meet
                  case rel => exact ⟨_, n + 1, _, Lib.hid (by omega), HS8⟩
                · go_wp2_with (at_builtin; refine wpList_append_of Try.underlying66 HI.out rfl (by omega) rfl (.tmp 113) (.tmp 116) rfl V5.heap.size _ ([] : List Tk) rfl (OwnOf.emptyAt V5.heap.size _ _ (by simp) (by simp)) _ (m.take p) rfl (srcTk cm p (by have := HPL.out; rw [List.length_take]; omega) (((HR5.out).bel ((Below.refl _ _).alloc (Nat.le_refl _) _)).takeN p)) (by simp) (by have := HML.out; first | (simp; done) | (simp; omega)) ?_)
                  intro v6 V6 ho6 hg6
                  have HB6 := Lib.hid (((Below.refl V5.heap.size V5).alloc (Nat.le_refl _) (.cells #[] 78)).trans (Grew.bel (OwnOf.emptyAt (C := Tk.cells) (sz := 14) V5.heap.size V5 _ rfl (Nat.le_refl _)) (by simp) hg6))
                  have HO6 := Lib.hid (show OwnTk V5.heap.size V6 v6 (m.take p) by simpa using ho6)
                  have HX6 := Lib.hid ((HB6.out.block wr.heap.size (Nat.lt_of_lt_of_le HXL.out HXS.out)).trans HX5.out)
                  have x1 := rowT HX6.out 1 (v := .int .u32 qs) rfl
                  have x2 := rowT HX6.out 2 (v := .int .i64 qr) rfl
                  have x3 := rowT HX6.out 3 (v := .int .u64 qx) rfl
                  clear ho6 hg6 HX5
                  go_wp2_with (at_builtin; refine wpList_append_of Try.underlying66 HI.out rfl (by omega) rfl (.tmp 118) (.tmp 126) rfl V5.heap.size v6 (m.take p) rfl (HO6.out.bel ((Below.refl _ _).alloc (Nat.le_refl _) _)) _ [⟨qs, qr, qx⟩] rfl (srcTk 1 1 rfl (rowOf_new (C := Tk.cells) (W := fun _ => True) ⟨qs, qr, qx⟩ trivial rfl (heap_alloc_new V6 _))) (Nat.le_trans HB6.out.size (by simp)) (by have := HML.out; first | (simp; done) | (simp; omega)) ?_)
                  intro v7 V7 ho7 hg7
                  have HB7 := Lib.hid (HB6.out.trans (Grew.bel HO6.out HB6.out.size hg7.after_alloc))
                  have HO7 := Lib.hid ho7
                  clear ho7 hg7 HX6 x1 x2 x3
                  go_wp2_with (at_builtin; refine wpList_append_of Try.underlying66 HI.out rfl (by omega) rfl (.tmp 131) (.tmp 134) rfl V5.heap.size v7 (m.take p ++ [⟨qs, qr, qx⟩]) rfl HO7.out _ (m.drop (p + 1)) rfl (srcTk _ _ (by simp) (tksDrop (HR5.out.bel HB7.out) (p + 1))) HB7.out.size (by have := HML.out; first | (simp; done) | (simp; omega)) ?_)
                  intro v8 V8 ho8 hg8
                  have HS8 := Lib.hid (show RSt B2 W1.heap.size w (putTk m p true ⟨qs, qr, qx⟩) (n + 1) (D.put (.int .u32 qs) (tokD qr qx)) v8 V8 from RSt.fresh HS5.out.2.1 HS5.out.2.2 HT5.out HD5.out HDL.out (by first | (unfold putTk past; exact ho8) | (simpa [putTk, past] using ho8)) (HB7.out.trans (Grew.bel HO7.out HB7.out.size hg8)))
                  clear ho8 hg8
                  go_wp2
                  go_meet
                  case rel => exact ⟨_, n + 1, _, Lib.hid (by omega), HS8⟩
            | false =>
              by_cases hfl : 100 ≤ m.length
              · have HFF := Lib.hid hfl
                have df : decide ((100 : Int) ≤ (m.length : Int)) = true := by rw [decide_eq_true_iff]; omega
                have df' : decide (100 ≤ m.length) = true := decide_eq_true hfl
                clear hfl
                by_cases hr1 : qr < 1
                · have HRL := Lib.hid hr1
                  have dr1 : decide (qr < (1 : Int)) = true := decide_eq_true hr1
                  clear hr1
                  go_wp2_with fail
                  refine (put_lowC W1.heap.size n D qs qr qx false V4 HS4.out.tab HWQ.out (HS4.out.at_.isAt HP.out) HRL.out).mono ?_
                  rintro e V5 ⟨rfl, ht5, hb5⟩
                  have HS5 := Lib.hid (HS4.out.bel' hb5)
                  clear ht5 hb5 HS4
                  go_wp2_with fail
                  refine (HLC1.out V5).mono ?_
                  rintro e W ⟨rfl, hE⟩
                  have hE := hE.symm
                  subst hE
                  go_wp2
                  go_meet
                  case rel => exact ⟨m, n, D, Lib.hid (by omega), HS5⟩
                have dr1 : decide (qr < (1 : Int)) = false := decide_eq_false hr1
                by_cases hr7 : 7 < qr
                · have HRH := Lib.hid hr7
                  have dr7 : decide ((7 : Int) < qr) = true := decide_eq_true hr7
                  clear hr1 hr7
                  go_wp2_with fail
                  refine (put_highC W1.heap.size n D qs qr qx false V4 HS4.out.tab HWQ.out (HS4.out.at_.isAt HP.out) HRH.out).mono ?_
                  rintro e V5 ⟨rfl, ht5, hb5⟩
                  have HS5 := Lib.hid (HS4.out.bel' hb5)
                  clear ht5 hb5 HS4
                  go_wp2_with fail
                  refine (HLC1.out V5).mono ?_
                  rintro e W ⟨rfl, hE⟩
                  have hE := hE.symm
                  subst hE
                  go_wp2
                  go_meet
                  case rel => exact ⟨m, n, D, Lib.hid (by omega), HS5⟩
                have dr7 : decide ((7 : Int) < qr) = false := decide_eq_false hr7
                have HRG := Lib.hid (show 1 ≤ qr ∧ qr ≤ 7 by omega)
                clear hr1 hr7
                go_wp2_with fail
                refine (put_fullC W1.heap.size n D qs qr qx V4 HS4.out.tab HWQ.out (HS4.out.at_.isAt HP.out) HRG.out.1 HRG.out.2 (by rw [HS4.out.at_.size]; exact HFF.out)).mono ?_
                rintro e V5 ⟨rfl, ht5, hb5⟩
                have HS5 := Lib.hid (HS4.out.bel' hb5)
                clear ht5 hb5 HS4
                go_wp2_with fail
                refine (HLC13.out V5).mono ?_
                rintro e W ⟨rfl, hE⟩
                have hE := hE.symm
                subst hE
                go_wp2
                go_meet
                case rel => exact ⟨m, n, D, Lib.hid (by omega), HS5⟩
              · have HFL := Lib.hid (show m.length < 100 by omega)
                have df : decide ((100 : Int) ≤ (m.length : Int)) = false := by rw [decide_eq_false_iff_not]; omega
                have df' : decide (100 ≤ m.length) = false := decide_eq_false hfl
                clear hfl
                by_cases hr1 : qr < 1
                · have HRL := Lib.hid hr1
                  have dr1 : decide (qr < (1 : Int)) = true := decide_eq_true hr1
                  clear hr1
                  go_wp2_with fail
                  refine (put_lowC W1.heap.size n D qs qr qx false V4 HS4.out.tab HWQ.out (HS4.out.at_.isAt HP.out) HRL.out).mono ?_
                  rintro e V5 ⟨rfl, ht5, hb5⟩
                  have HS5 := Lib.hid (HS4.out.bel' hb5)
                  clear ht5 hb5 HS4
                  go_wp2_with fail
                  refine (HLC1.out V5).mono ?_
                  rintro e W ⟨rfl, hE⟩
                  have hE := hE.symm
                  subst hE
                  go_wp2
                  go_meet
                  case rel => exact ⟨m, n, D, Lib.hid (by omega), HS5⟩
                have dr1 : decide (qr < (1 : Int)) = false := decide_eq_false hr1
                by_cases hr7 : 7 < qr
                · have HRH := Lib.hid hr7
                  have dr7 : decide ((7 : Int) < qr) = true := decide_eq_true hr7
                  clear hr1 hr7
                  go_wp2_with fail
                  refine (put_highC W1.heap.size n D qs qr qx false V4 HS4.out.tab HWQ.out (HS4.out.at_.isAt HP.out) HRH.out).mono ?_
                  rintro e V5 ⟨rfl, ht5, hb5⟩
                  have HS5 := Lib.hid (HS4.out.bel' hb5)
                  clear ht5 hb5 HS4
                  go_wp2_with fail
                  refine (HLC1.out V5).mono ?_
                  rintro e W ⟨rfl, hE⟩
                  have hE := hE.symm
                  subst hE
                  go_wp2
                  go_meet
                  case rel => exact ⟨m, n, D, Lib.hid (by omega), HS5⟩
                have dr7 : decide ((7 : Int) < qr) = false := decide_eq_false hr7
                have HRG := Lib.hid (show 1 ≤ qr ∧ qr ≤ 7 by omega)
                clear hr1 hr7
                have HD5 := Lib.hid (HS4.out.at_.put HTY.out HP.out HWQ.out qr qx)
                have HDL := Lib.hid (show (putTk m p false ⟨qs, qr, qx⟩).length ≤ 100 by rw [HP.out.put_len, if_neg (by decide)]; have := HFL.out; omega)
                have HPS := Lib.hid HP.out.past_le
                have HPL := Lib.hid HP.out.le
                have HML := Lib.hid HS4.out.len
                rcases own_forms HS4.out.own with ⟨h1, h0⟩ | ⟨gm, cm, h1, hmc, hcm, hgm, hrow⟩
                · subst h0
                  simp only [Value.slice.injEq, true_and, List.length_nil] at h1
                  obtain ⟨rfl, rfl⟩ := h1
                  obtain rfl : p = 0 := by have := HP.out.le; simpa using this
                  go_wp2_with fail
                  refine (put_newG W1.heap.size n D qs qr qx V4 HS4.out.tab HWQ.out (HS4.out.at_.isAt HP.out) HRG.out.1 HRG.out.2 HNM.out (by rw [HS4.out.at_.size]; exact HFL.out)).mono ?_
                  rintro e V5 ⟨rfl, ht5, hg5⟩
                  have h5 := HS4.out.turned hg5 HBM.out.1 HBM.out.2
                  have HT5 := Lib.hid ht5
                  have HS5 := Lib.hid h5
                  have HX5 := Lib.hid ((hg5.block wr.heap.size HXL.out (by have := HXB.out; simp; omega)).trans HX4.out)
                  have HXS := Lib.hid hg5.size
                  clear ht5 hg5 h5 HS4 HX4
                  go_wp2_with fail
                  refine (lawCode 0 _ (by omega)).mono ?_
                  rintro e W ⟨rfl, hE⟩
                  have hE := hE.symm
                  subst hE
                  go_wp2_with (at_builtin; refine wpList_append_of Try.underlying66 HI.out rfl (by omega) rfl (.tmp 113) (.tmp 116) rfl V5.heap.size _ ([] : List Tk) rfl (OwnOf.emptyAt V5.heap.size _ _ (by simp) (by simp)) _ (([] : List Tk)) rfl (srcTk 0 0 rfl IsRowOf.nil) (by simp) (by have := HML.out; first | (simp; done) | (simp; omega)) ?_)
                  intro v6 V6 ho6 hg6
                  have HB6 := Lib.hid (((Below.refl V5.heap.size V5).alloc (Nat.le_refl _) (.cells #[] 78)).trans (Grew.bel (OwnOf.emptyAt (C := Tk.cells) (sz := 14) V5.heap.size V5 _ rfl (Nat.le_refl _)) (by simp) hg6))
                  have HO6 := Lib.hid (show OwnTk V5.heap.size V6 v6 (([] : List Tk)) by simpa using ho6)
                  have HX6 := Lib.hid ((HB6.out.block wr.heap.size (Nat.lt_of_lt_of_le HXL.out HXS.out)).trans HX5.out)
                  have x1 := rowT HX6.out 1 (v := .int .u32 qs) rfl
                  have x2 := rowT HX6.out 2 (v := .int .i64 qr) rfl
                  have x3 := rowT HX6.out 3 (v := .int .u64 qx) rfl
                  clear ho6 hg6 HX5
                  go_wp2_with (at_builtin; refine wpList_append_of Try.underlying66 HI.out rfl (by omega) rfl (.tmp 118) (.tmp 126) rfl V5.heap.size v6 (([] : List Tk)) rfl (HO6.out.bel ((Below.refl _ _).alloc (Nat.le_refl _) _)) _ [⟨qs, qr, qx⟩] rfl (srcTk 1 1 rfl (rowOf_new (C := Tk.cells) (W := fun _ => True) ⟨qs, qr, qx⟩ trivial rfl (heap_alloc_new V6 _))) (Nat.le_trans HB6.out.size (by simp)) (by have := HML.out; first | (simp; done) | (simp; omega)) ?_)
                  intro v7 V7 ho7 hg7
                  have HB7 := Lib.hid (HB6.out.trans (Grew.bel HO6.out HB6.out.size hg7.after_alloc))
                  have HO7 := Lib.hid ho7
                  clear ho7 hg7 HX6 x1 x2 x3
                  go_wp2_with (at_builtin; refine wpList_append_of Try.underlying66 HI.out rfl (by omega) rfl (.tmp 131) (.tmp 134) rfl V5.heap.size v7 (([] : List Tk) ++ [⟨qs, qr, qx⟩]) rfl HO7.out _ ([] : List Tk) rfl (srcTk 0 0 rfl IsRowOf.nil) HB7.out.size (by have := HML.out; first | (simp; done) | (simp; omega)) ?_)
                  intro v8 V8 ho8 hg8
                  have HS8 := Lib.hid (show RSt B2 W1.heap.size w (putTk ([] : List Tk) 0 false ⟨qs, qr, qx⟩) (n + 1) (D.put (.int .u32 qs) (tokD qr qx)) v8 V8 from RSt.fresh HS5.out.2.1 HS5.out.2.2 HT5.out HD5.out HDL.out (by first | (unfold putTk past; exact ho8) | (simpa [putTk, past] using ho8)) (HB7.out.trans (Grew.bel HO7.out HB7.out.size hg8)))
                  clear ho8 hg8
                  go_wp2
                  go_meet
                  case rel => exact ⟨_, n + 1, _, Lib.hid (by omega), HS8⟩
                · simp only [Value.slice.injEq, true_and] at h1
                  obtain ⟨rfl, hcc⟩ := h1
                  have hcc := hcc.symm
                  subst hcc
                  clear hrow hgm
                  go_wp2_with fail
                  refine (put_newG W1.heap.size n D qs qr qx V4 HS4.out.tab HWQ.out (HS4.out.at_.isAt HP.out) HRG.out.1 HRG.out.2 HNM.out (by rw [HS4.out.at_.size]; exact HFL.out)).mono ?_
                  rintro e V5 ⟨rfl, ht5, hg5⟩
                  have h5 := HS4.out.turned hg5 HBM.out.1 HBM.out.2
                  have HT5 := Lib.hid ht5
                  have HS5 := Lib.hid h5
                  have HX5 := Lib.hid ((hg5.block wr.heap.size HXL.out (by have := HXB.out; simp; omega)).trans HX4.out)
                  have HXS := Lib.hid hg5.size
                  have HR5 := Lib.hid (show IsTks V5 (some ⟨gm, 0, none⟩) m from by
                    rcases own_forms h5.1 with ⟨h1, _⟩ | ⟨g', c', h1, _, _, _, h2⟩
                    · cases h1
                    · simp only [Value.slice.injEq, Option.some.injEq, Addr.mk.injEq] at h1
                      rw [h1.1.1]; exact h2)
                  clear ht5 hg5 h5 HS4 HX4
                  have bpl : (p : Int) ≤ (m.length : Int) := by have := HPL.out; omega
                  have bpc : (p : Int) ≤ (cm : Int) := by omega
                  have bp0 : (0 : Int) ≤ (p : Int) := by omega
                  have bpcn : p ≤ cm := by omega
                  have bps : (p : Int) ≤ (m.length : Int) := by have := HPS.out; simp [past] at this; omega
                  have bps0 : (0 : Int) ≤ (p : Int) := by omega
                  have bpsn : p ≤ m.length := by have := HPS.out; simpa [past] using this
                  have hwp : IntKind.i64.wrap ((p : Int) + 1) = (p : Int) + 1 := by have := HML.out; rw [IntKind.wrap_i64]; omega
                  go_wp2_with fail
                  refine (lawCode 0 _ (by omega)).mono ?_
                  rintro e W ⟨rfl, hE⟩
                  have hE := hE.symm
                  subst hE
                  by_cases hck : cm = p
                  · have HDN := Lib.hid (show (m.drop p).length = 0 by simp; omega)
                    have hck := hck.symm
                    subst hck
                    go_wp2_with (at_builtin; refine wpList_append_of Try.underlying66 HI.out rfl (by omega) rfl (.tmp 113) (.tmp 116) rfl V5.heap.size _ ([] : List Tk) rfl (OwnOf.emptyAt V5.heap.size _ _ (by simp) (by simp)) _ (m.take p) rfl (srcTk p p (by have := HPL.out; rw [List.length_take]; omega) (((HR5.out).bel ((Below.refl _ _).alloc (Nat.le_refl _) _)).takeN p)) (by simp) (by have := HML.out; first | (simp; done) | (simp; omega)) ?_)
                    intro v6 V6 ho6 hg6
                    have HB6 := Lib.hid (((Below.refl V5.heap.size V5).alloc (Nat.le_refl _) (.cells #[] 78)).trans (Grew.bel (OwnOf.emptyAt (C := Tk.cells) (sz := 14) V5.heap.size V5 _ rfl (Nat.le_refl _)) (by simp) hg6))
                    have HO6 := Lib.hid (show OwnTk V5.heap.size V6 v6 (m.take p) by simpa using ho6)
                    have HX6 := Lib.hid ((HB6.out.block wr.heap.size (Nat.lt_of_lt_of_le HXL.out HXS.out)).trans HX5.out)
                    have x1 := rowT HX6.out 1 (v := .int .u32 qs) rfl
                    have x2 := rowT HX6.out 2 (v := .int .i64 qr) rfl
                    have x3 := rowT HX6.out 3 (v := .int .u64 qx) rfl
                    clear ho6 hg6 HX5
                    go_wp2_with (at_builtin; refine wpList_append_of Try.underlying66 HI.out rfl (by omega) rfl (.tmp 118) (.tmp 126) rfl V5.heap.size v6 (m.take p) rfl (HO6.out.bel ((Below.refl _ _).alloc (Nat.le_refl _) _)) _ [⟨qs, qr, qx⟩] rfl (srcTk 1 1 rfl (rowOf_new (C := Tk.cells) (W := fun _ => True) ⟨qs, qr, qx⟩ trivial rfl (heap_alloc_new V6 _))) (Nat.le_trans HB6.out.size (by simp)) (by have := HML.out; first | (simp; done) | (simp; omega)) ?_)
                    intro v7 V7 ho7 hg7
                    have HB7 := Lib.hid (HB6.out.trans (Grew.bel HO6.out HB6.out.size hg7.after_alloc))
                    have HO7 := Lib.hid ho7
                    clear ho7 hg7 HX6 x1 x2 x3
                    go_wp2_with (at_builtin; refine wpList_append_of Try.underlying66 HI.out rfl (by omega) rfl (.tmp 131) (.tmp 134) rfl V5.heap.size v7 (m.take p ++ [⟨qs, qr, qx⟩]) rfl HO7.out _ (m.drop p) rfl (srcTk _ _ (by first | exact HDN.out.symm | (simp; done) | (simp; omega) | (simp at *; omega) | omega) (IsRowOf.ofNil HDN.out)) HB7.out.size (by have := HML.out; first | (simp; done) | (simp; omega)) ?_)
                    intro v8 V8 ho8 hg8
                    have HS8 := Lib.hid (show RSt B2 W1.heap.size w (putTk m p false ⟨qs, qr, qx⟩) (n + 1) (D.put (.int .u32 qs) (tokD qr qx)) v8 V8 from RSt.fresh HS5.out.2.1 HS5.out.2.2 HT5.out HD5.out HDL.out (by first | (unfold putTk past; exact ho8) | (simpa [putTk, past] using ho8)) (HB7.out.trans (Grew.bel HO7.out HB7.out.size hg8)))
                    clear ho8 hg8
                    go_wp2
                    go_meet
                    case rel => exact ⟨_, n + 1, _, Lib.hid (by omega), HS8⟩
                  · go_wp2_with (at_builtin; refine wpList_append_of Try.underlying66 HI.out rfl (by omega) rfl (.tmp 113) (.tmp 116) rfl V5.heap.size _ ([] : List Tk) rfl (OwnOf.emptyAt V5.heap.size _ _ (by simp) (by simp)) _ (m.take p) rfl (srcTk cm p (by have := HPL.out; rw [List.length_take]; omega) (((HR5.out).bel ((Below.refl _ _).alloc (Nat.le_refl _) _)).takeN p)) (by simp) (by have := HML.out; first | (simp; done) | (simp; omega)) ?_)
                    intro v6 V6 ho6 hg6
                    have HB6 := Lib.hid (((Below.refl V5.heap.size V5).alloc (Nat.le_refl _) (.cells #[] 78)).trans (Grew.bel (OwnOf.emptyAt (C := Tk.cells) (sz := 14) V5.heap.size V5 _ rfl (Nat.le_refl _)) (by simp) hg6))
                    have HO6 := Lib.hid (show OwnTk V5.heap.size V6 v6 (m.take p) by simpa using ho6)
                    have HX6 := Lib.hid ((HB6.out.block wr.heap.size (Nat.lt_of_lt_of_le HXL.out HXS.out)).trans HX5.out)
                    have x1 := rowT HX6.out 1 (v := .int .u32 qs) rfl
                    have x2 := rowT HX6.out 2 (v := .int .i64 qr) rfl
                    have x3 := rowT HX6.out 3 (v := .int .u64 qx) rfl
                    clear ho6 hg6 HX5
                    go_wp2_with (at_builtin; refine wpList_append_of Try.underlying66 HI.out rfl (by omega) rfl (.tmp 118) (.tmp 126) rfl V5.heap.size v6 (m.take p) rfl (HO6.out.bel ((Below.refl _ _).alloc (Nat.le_refl _) _)) _ [⟨qs, qr, qx⟩] rfl (srcTk 1 1 rfl (rowOf_new (C := Tk.cells) (W := fun _ => True) ⟨qs, qr, qx⟩ trivial rfl (heap_alloc_new V6 _))) (Nat.le_trans HB6.out.size (by simp)) (by have := HML.out; first | (simp; done) | (simp; omega)) ?_)
                    intro v7 V7 ho7 hg7
                    have HB7 := Lib.hid (HB6.out.trans (Grew.bel HO6.out HB6.out.size hg7.after_alloc))
                    have HO7 := Lib.hid ho7
                    clear ho7 hg7 HX6 x1 x2 x3
                    go_wp2_with (at_builtin; refine wpList_append_of Try.underlying66 HI.out rfl (by omega) rfl (.tmp 131) (.tmp 134) rfl V5.heap.size v7 (m.take p ++ [⟨qs, qr, qx⟩]) rfl HO7.out _ (m.drop p) rfl (srcTk _ _ (by simp) (tksDrop (HR5.out.bel HB7.out) p)) HB7.out.size (by have := HML.out; first | (simp; done) | (simp; omega)) ?_)
                    intro v8 V8 ho8 hg8
                    have HS8 := Lib.hid (show RSt B2 W1.heap.size w (putTk m p false ⟨qs, qr, qx⟩) (n + 1) (D.put (.int .u32 qs) (tokD qr qx)) v8 V8 from RSt.fresh HS5.out.2.1 HS5.out.2.2 HT5.out HD5.out HDL.out (by first | (unfold putTk past; exact ho8) | (simpa [putTk, past] using ho8)) (HB7.out.trans (Grew.bel HO7.out HB7.out.size hg8)))
                    clear ho8 hg8
                    go_wp2
                    go_meet
                    case rel => exact ⟨_, n + 1, _, Lib.hid (by omega), HS8⟩
        case rest =>
          obtain ⟨m', n', D', HN', HSc⟩ := hcut
          clear HS4 HS HN HP HTY
          have HA := Lib.hid (rightsAll W1.heap.size n' D' m' wc HSc.out.tab HSc.out.at_ (by have := HSc.out.len; omega))
          go_wp2_with fail
          refine HA.out.mono ?_
          rintro e W8 ⟨⟨va, rfl, hoa⟩, hba⟩
          have HS8 := Lib.hid (HSc.out.bel' hba)
          have HOA := Lib.hid hoa
          clear hoa hba HSc HA
          obtain ⟨a1, c1, rfl, hr1, _⟩ := OwnOf.rowOf (W := fun _ => True) tk_len (fun _ _ => trivial) HOA.out
          obtain ⟨a2, c2, rfl, hr2, _⟩ := OwnOf.rowOf (W := fun _ => True) tk_len (fun _ _ => trivial) HS8.out.own
          have HR1 := Lib.hid hr1
          have HR2 := Lib.hid hr2
          have HSZ := Lib.hid HS8.out.at_.size
          clear hr1 hr2 HOA
          go_wp2_with fail
          refine (rightsLen W1.heap.size n' D' W8 HS8.out.tab).mono ?_
          rintro e W ⟨rfl, hE⟩
          have hE := hE.symm
          subst hE
          rw [HSZ.out]
          go_wp2
          go_loopw [17] (fun kv wz => ∃ k : Nat, k ≤ m'.length ∧ kv = .int .i64 (k : Int) ∧ Hid (Below W8.heap.size W8 wz)) (fun kv _ => m'.length - (Go.RowKit.intOf kv).toNat)
          case atStart => exact ⟨0, Nat.zero_le _, rfl, Lib.hid (Below.refl _ _)⟩
          case round =>
            obtain ⟨k, hk, rfl, HBz⟩ := hrel
            by_cases hkl : k < m'.length
            · obtain ⟨b1, o1, rfl, hb1, hq1, _⟩ := HR1.out k hkl
              obtain ⟨b2, o2, rfl, hb2, hq2, _⟩ := HR2.out k hkl
              obtain ⟨t, ht⟩ : ∃ t, t = m'[k] := ⟨_, rfl⟩
              rw [← ht] at hq1 hq2
              have HL1 := Lib.hid (fun (w2 : World) (hb : Below W8.heap.size W8 w2) => run_load_tk w2 b1 (o1 + k * 14) t (range_below' (tkRange hq1) hb hb1))
              have HL2 := Lib.hid (fun (w2 : World) (hb : Below W8.heap.size W8 w2) => run_load_tk w2 b2 (o2 + k * 14) t (range_below' (tkRange hq2) hb hb2))
              have HNQ := Lib.hid (fun w => tk_neq w t t)
              have hki : (k : Int) < (m'.length : Int) := by omega
              have HKL := Lib.hid hkl
              have hwk : IntKind.i64.wrap ((k : Int) + 1) = (k : Int) + 1 := by have := HS8.out.len; rw [IntKind.wrap_i64]; omega
              clear ht hq1 hq2 hb1 hb2 hkl
              unfold Tk.v at HL1 HL2 HNQ
              generalize t.cells = C at *
              go_wp2
              refine Reg.wp_region0 (by kernel_rfl) (by kernel_rfl) ?_
              refine Reg.seg0 3 (by kernel_rfl) rfl ?_
              apply Exists.intro
              refine ⟨fun e => ?_, ?_⟩
              · simp only [List.take_succ_cons, List.take_zero]
                repeat (go_big_quiet_step ((intro _; rfl)))
                refine wpQuiet_nil ?_
                exact rfl
              simp only [List.drop_succ_cons, List.drop_zero, Nat.reduceAdd]
              refine Reg.const0 (.agg C.toArray) (fun e w1 hR hf => ⟨by rfl, ?_⟩) ?_
              · refine Reg.gives_mono ?_ (gives_load_tk 78 (.tmp 158) rfl _ _ rfl (HL1.out w1 (HBz.out.trans ((((Below.refl _ wr).drew).trans hR).mono HBz.out.size))))
                rintro v2 w2 ⟨rfl, rfl⟩
                exact ⟨Reg.bel_refl _, rfl⟩
              simp only [Act.put, List.setIfInBounds_toArray, List.set_cons_zero, List.set_cons_succ, Nat.reduceAdd]
              refine Reg.seg0 3 (by kernel_rfl) rfl ?_
              apply Exists.intro
              refine ⟨fun e => ?_, ?_⟩
              · simp only [List.take_succ_cons, List.take_zero]
                repeat (go_big_quiet_step ((intro _; rfl)))
                refine wpQuiet_nil ?_
                exact rfl
              simp only [List.drop_succ_cons, List.drop_zero, Nat.reduceAdd]
              refine Reg.const0 (.agg C.toArray) (fun e w1 hR hf => ⟨by rfl, ?_⟩) ?_
              · refine Reg.gives_mono ?_ (gives_load_tk 78 (.tmp 162) rfl _ _ rfl (HL2.out w1 (HBz.out.trans ((((Below.refl _ wr).drew).trans hR).mono HBz.out.size))))
                rintro v2 w2 ⟨rfl, rfl⟩
                exact ⟨Reg.bel_refl _, rfl⟩
              simp only [Act.put, List.setIfInBounds_toArray, List.set_cons_zero, List.set_cons_succ, Nat.reduceAdd]
              refine Reg.const0 (.bool false) (fun e w1 hR hf => ⟨by rfl, ?_⟩) ?_
              · refine Reg.gives_mono ?_ (gives_tkEq (.tmp 159) (.tmp 163) .neq rfl C.toArray C.toArray _ rfl rfl HNQ.out)
                rintro v2 w2 ⟨rfl, rfl⟩
                exact ⟨Reg.bel_refl _, by simp⟩
              simp only [Act.put, List.setIfInBounds_toArray, List.set_cons_zero, List.set_cons_succ, Nat.reduceAdd]
              intro e W9 hR hJ hf
              have HB9 := Lib.hid (HBz.out.trans ((((Below.refl _ wr).drew).trans hR).mono HBz.out.size))
              clear hR hJ hf
              go_wp2
              go_roundw
              case rel => exact ⟨k + 1, HKL.out, by go_num, HB9⟩
              case measure => have := HKL.out; simp [Go.RowKit.intOf]; omega
            · have hki : decide ((k : Int) < (m'.length : Int)) = false := by rw [decide_eq_false_iff_not]; omega
              have hkn : decide (k < m'.length) = false := decide_eq_false hkl
              have HS9 := Lib.hid (HS8.out.bel' HBz.out)
              clear hkl hk
              go_wp2
              go_roundw
              case rel => exact ⟨i + 1, m', n', D', HIZ.out, by go_num, HS9, Lib.hid (by have := HN'.out; have := HNI.out; omega)⟩
              case measure => have := HIZ.out; simp [Go.RowKit.intOf]; omega
      · have hli : decide ((i : Int) < (z.length : Int)) = false := by rw [decide_eq_false_iff_not]; omega
        have hln : decide (i < z.length) = false := decide_eq_false hlt
        have HX := Lib.hid HS.out.bel
        clear hlt hi
        go_wp2
        go_ret
        exact ⟨rfl, HX.out⟩
theorem RightsPlays_walk (a0 : Option Addr) (len0 cap0 : Nat) (z0 : In_RightsPlays_0.T) (a1 : Int) (a2 : Int) (w : World) (w0 : In_RightsPlays_0 w a0 len0 cap0 z0) (_w1 : (Lit.int .i64 a1).wf = true) (_w2 : (Lit.int .i64 a2).wf = true) :
    LawOk Try.prog 6 #[.slice a0 len0 cap0, .int .i64 a1, .int .i64 a2] w := by
  obtain ⟨rfl, hz, _⟩ := w0
  show Calls _ _ _ w (RDone w)
  by_cases h0 : 300 < z0.length
  · exact playsHead a0 _ cap0 a1 a2 w h0
  exact playsMain a0 cap0 z0 a1 a2 w (by omega) hz
end Go.Proofs.Ytnpalplnpfgibaa
