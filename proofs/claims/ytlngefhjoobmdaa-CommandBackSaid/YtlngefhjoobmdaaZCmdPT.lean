/- command.Parse: a case (layer 16). -/
import Derived.Test.YtlngefhjoobmdaaMg4
namespace Go.Proofs.Ytlngefhjoobmdaa
open Go.RowKit
set_option maxRecDepth 100000 in
set_option maxHeartbeats 4000000 in
theorem crParseT (a : Option Addr) (cap : Nat) (b : List UInt8) (w : World) (h : Reads w (.slice a b.length cap) b) (t : Nat) (s1 : RS) (ht : t = rN 1 (b, false)) (hs1 : s1 = rN' 1 (b, false)) (h6 : 5 < t) : Calls Try.prog 7 #[.slice a b.length cap] w (ParseOk 93 tupE (parseP b) w) := by
  have hb1 : (t : Int) ≤ 255 := by have := rN1 (b, false); omega
  have hw1 : IntKind.i64.wrap (t : Int) = (t : Int) := by rw [IntKind.wrap_i64]; omega
  have HRES := Lib.hid (show parseP b = endP (bodyP t s1) by rw [ht, hs1]; rfl)
  have HQ1 := Lib.hid (fun bq br W (hW : IsCR bq br W (b, false) false) => by have := crNum bq br (b, false) false 1 W hW; rw [← ht, ← hs1] at this; exact this)
  have HS := Lib.hid (parse_start h)
  have hge : decide ((1 : Int) ≤ (t : Int)) = true := by rw [decide_eq_true_iff]; omega
  obtain ⟨ok, hok⟩ : ∃ x, x = decide (t ≤ 13) := ⟨_, rfl⟩
  have h13 : decide ((t : Int) ≤ 13) = ok := by rw [hok, Bool.eq_iff_iff]; simp <;> omega
  have h13' : decide (t ≤ 13) = ok := hok.symm
  have hokd : (!(decide (1 ≤ t) && decide (t ≤ 13))) = (false || !ok) := by rw [decide_eq_true (show 1 ≤ t by omega), hok]; simp
  have h5 : decide ((5 : Int) < (t : Int)) = true := by rw [decide_eq_true_iff]; omega
  have H5 := Lib.hid h6
  have HBP := Lib.hid (show bodyP t s1 = tenP t (({ CReq.zero with tag := (t : Int) } : CReq).withTok s1) (tok' s1) (false || !ok) by unfold bodyP; rw [if_pos h6, hokd])
  clear ht hs1 h h6 hok hokd
  go_enter Try.func7, Try.ntmps7
  go_wp2_with fail
  refine (packNew a b.length cap _).mono ?_
  rintro e Wr ⟨rfl, hWr⟩
  rw [← hWr]
  clear hWr
  go_wp2_with fail
  refine (HQ1.out (w.heap.size + 2) (w.heap.size + 1) _ HS.out.1).mono ?_
  rintro e W1 ⟨rfl, hr, hg⟩
  obtain ⟨WS, hWS⟩ : ∃ WS, WS = (W1.alloc Z32).setRow W1.heap.size (CReq.cells { CReq.zero with tag := (t : Int) } nilS) := ⟨_, rfl⟩
  have HB := Lib.hid (parse_box (CReq.cells { CReq.zero with tag := (t : Int) } nilS) HS.out.2.1 HS.out.2.2 (by omega) (by omega) hr hg)
  have HSR := Lib.hid (run_storeRow (W1.alloc Z32) 32 W1.heap.size (CReq.zero.cells nilS) (CReq.cells { CReq.zero with tag := (t : Int) } nilS) (heap_alloc_new W1 _) req_size rfl (cells_one _ _ _ _))
  rw [← hWS] at HB HSR
  generalize hbq : w.heap.size + 2 = bq at *
  generalize hbr : w.heap.size + 1 = br at *
  have b0 := HB.out.1.rd.cells.c0
  have b1 := HB.out.1.rd.cells.c1
  have t0 := HB.out.1.cell 0 (v := .int .i64 (t : Int)) rfl
  clear hr hg HS HQ1 hbq hbr hWS
  go_wp2_with ((with_reducible refine atStore ?_); refine wpList_store_by rfl 32 (.tmp 5) (.tmp 16) rfl (.pointer (some ⟨W1.heap.size, 0, none⟩)) _ rfl rfl HSR.out ?_)
  have HU := Lib.hid HB.out.1
  refine (crMust bq br _ _ ok _ HU.out.rd).mono ?_
  rintro e W2 ⟨rfl, hr, hg⟩
  have HV := Lib.hid (HU.out.call hr hg)
  clear hr hg HU
  try clear t0 b0 b1
  have HU := Lib.hid HV.out
  clear HV
  have b0 := HU.out.rd.cells.c0
  have b1 := HU.out.rd.cells.c1
  have t0 := HU.out.cell 0 (v := .int .i64 (t : Int)) rfl
  have HB2 := Lib.hid HB.out.2
  clear HB HSR
  generalize W1.heap.size = qb at *
  clear W1
  go_wp2_with fail
  refine (crToken bq br s1 (false || !ok) _ HU.out.rd).mono ?_
  rintro e WQ ⟨rfl, hr, hg⟩
  have HT := Lib.hid (HU.out.call hr hg)
  unfold tokV
  have HSP := Lib.hid (run_storePart WQ 29 32 qb 6 _ #[.int .i64 (rN 1 s1 : Int), .int .u32 (rN 4 (rN' 1 s1) : Int), .int .u32 (rN 4 (rN' 4 (rN' 1 s1)) : Int), .int .u64 (rN 8 (rN' 4 (rN' 4 (rN' 1 s1))) : Int)] (CReq.cells (({ CReq.zero with tag := (t : Int) } : CReq).withTok s1) nilS) HT.out.c tok_size (by show 6 + 4 ≤ 16; omega) (by simp [Value.oneCell']) rfl)
  have HV := Lib.hid (HT.out.row (CReq.cells (({ CReq.zero with tag := (t : Int) } : CReq).withTok s1) nilS))
  clear HU HT hr hg
  try clear t0 b0 b1
  go_wp2_with ((with_reducible refine atStore ?_); refine wpList_store_by rfl 29 (.tmp 32) (.tmp 31) rfl (.pointer (some ⟨qb, 6, none⟩)) _ rfl rfl HSP.out ?_)
  generalize World.setRow WQ _ _ = WA at HV ⊢
  refine (crTen bq br qb (({ CReq.zero with tag := (t : Int) } : CReq).withTok s1) (tok' s1) (false || !ok) WA t H5.out rfl rfl ⟨HV.out.good, HV.out.rd, HV.out.c, T3.refl _ _ _ _, HV.out.lt⟩).mono ?_
  rintro e WT ⟨rfl, v9, hst, hown⟩
  have HW := Lib.hid (show QS bq br qb (IsCR bq br) WS 32 (CReq.cells (tenP t (({ CReq.zero with tag := (t : Int) } : CReq).withTok s1) (tok' s1) (false || !ok)).1 v9) (tenP t (({ CReq.zero with tag := (t : Int) } : CReq).withTok s1) (tok' s1) (false || !ok)).2.1 (tenP t (({ CReq.zero with tag := (t : Int) } : CReq).withTok s1) (tok' s1) (false || !ok)).2.2 WT from ⟨hst.good, hst.rd, hst.c, HV.out.tg.trans hst.tg, hst.lt⟩)
  have HOWN := Lib.hid hown
  clear hst hown HV HSP
  generalize tenP t (({ CReq.zero with tag := (t : Int) } : CReq).withTok s1) (tok' s1) (false || !ok) = r at *
  obtain ⟨q9, s9, d9⟩ := r
  simp only at HW HOWN
  obtain ⟨C9, hC9⟩ : ∃ C, C = q9.cells v9 := ⟨_, rfl⟩
  have HU := Lib.hid (show QS bq br qb (IsCR bq br) WS 32 C9 s9 d9 WT from hC9 ▸ HW.out)
  clear HW
  have HE := Lib.hid (show ParseEnd bq br qb w WS (q9, s9, d9) v9 C9 _ from ⟨hC9, HU.out, HOWN.out, HB2.out.1, HB2.out.2.1, HB2.out.2.2⟩)
  have HRES2 := Lib.hid (HRES.out.trans (congrArg endP HBP.out))
  clear HRES
  have HRES := Lib.hid HRES2.out
  clear HRES2
  clear HU HB2 hC9 HBP HOWN 
  obtain ⟨l9, sh9⟩ := s9
  have b0 := HE.out.st.rd.cells.c0
  have b1 := HE.out.st.rd.cells.c1
  cases d9 with
  | true =>
    go_wp2_with ((with_reducible refine atStore ?_); refine wpList_store_by rfl 32 (.tmp 2) (.tmp 86) rfl (.pointer (some ⟨w.heap.size, 0, none⟩)) _ rfl rfl HE.out.runZ ?_)
    refine bodyPost_ret (v := .tuple #[.agg (CReq.zero.cells nilS), errV 2]) (results_row_tmp rfl _ _ w.heap.size (CReq.zero.cells nilS) rfl (run_loadVar_row _ w.heap.size _ _ _ (0, 0) _ (setRow_heap _ _ _ _ _ _ HE.out.rbW) Try.underlying32 rfl req_size) _ rfl) rfl ?_
    rw [HRES.out]
    exact HE.out.bad rfl
  | false =>
    go_wp2_with fail
    refine (packShort br l9 sh9 _ HE.out.st.rd.rd).mono ?_
    rintro e Wr ⟨rfl, hWr⟩
    rw [← hWr]
    clear hWr
    cases sh9 with
    | true =>
      go_wp2_with ((with_reducible refine atStore ?_); refine wpList_store_by rfl 32 (.tmp 2) (.tmp 86) rfl (.pointer (some ⟨w.heap.size, 0, none⟩)) _ rfl rfl HE.out.runZ ?_)
      refine bodyPost_ret (v := .tuple #[.agg (CReq.zero.cells nilS), errV 2]) (results_row_tmp rfl _ _ w.heap.size (CReq.zero.cells nilS) rfl (run_loadVar_row _ w.heap.size _ _ _ (0, 0) _ (setRow_heap _ _ _ _ _ _ HE.out.rbW) Try.underlying32 rfl req_size) _ rfl) rfl ?_
      rw [HRES.out]
      exact HE.out.bad rfl
    | false =>
      go_wp2_with fail
      refine (packLeft br l9 false _ HE.out.st.rd.rd).mono ?_
      rintro e Wr ⟨rfl, hWr⟩
      rw [← hWr]
      clear hWr
      by_cases hz : l9.length = 0
      · have dz : decide ((0 : Int) < (rdLeft l9 false : Int)) = false := by rw [decide_eq_false_iff_not, show rdLeft l9 false = l9.length from rfl]; omega
        have dz2 : decide (0 < rdLeft l9 false) = false := by rw [decide_eq_false_iff_not, show rdLeft l9 false = l9.length from rfl]; omega
        have HDZ := Lib.hid dz2
        have HC := Lib.hid HE.out.st.c
        clear hz
        go_wp2_with (first | ((with_reducible refine atLoad ?_); refine wpList_load_row rfl 32 (.tmp 5) rfl qb rfl 32 C9 (0, 0) _ HC.out Try.underlying32 rfl HE.out.size ?_) | ((with_reducible refine atStore ?_); refine wpList_store_by rfl 32 (.tmp 2) (.tmp 88) rfl (.pointer (some ⟨w.heap.size, 0, none⟩)) _ rfl rfl HE.out.runC ?_))
        refine bodyPost_ret (v := .tuple #[.agg C9, .nilIface]) (results_row_tmp rfl _ _ w.heap.size C9 rfl (run_loadVar_row _ w.heap.size _ _ _ (0, 0) _ (setRow_heap _ _ _ _ _ _ HE.out.rbW) Try.underlying32 rfl HE.out.size) _ rfl) rfl ?_
        rw [HRES.out]
        exact HE.out.good HDZ.out
      · have dz : decide ((0 : Int) < (rdLeft l9 false : Int)) = true := by rw [decide_eq_true_iff, show rdLeft l9 false = l9.length from rfl]; omega
        have dz2 : decide (0 < rdLeft l9 false) = true := by rw [decide_eq_true_iff, show rdLeft l9 false = l9.length from rfl]; omega
        have HDZ := Lib.hid dz2
        clear hz
        go_wp2_with ((with_reducible refine atStore ?_); refine wpList_store_by rfl 32 (.tmp 2) (.tmp 86) rfl (.pointer (some ⟨w.heap.size, 0, none⟩)) _ rfl rfl HE.out.runZ ?_)
        refine bodyPost_ret (v := .tuple #[.agg (CReq.zero.cells nilS), errV 2]) (results_row_tmp rfl _ _ w.heap.size (CReq.zero.cells nilS) rfl (run_loadVar_row _ w.heap.size _ _ _ (0, 0) _ (setRow_heap _ _ _ _ _ _ HE.out.rbW) Try.underlying32 rfl req_size) _ rfl) rfl ?_
        rw [HRES.out]
        exact HE.out.bad HDZ.out
end Go.Proofs.Ytlngefhjoobmdaa
