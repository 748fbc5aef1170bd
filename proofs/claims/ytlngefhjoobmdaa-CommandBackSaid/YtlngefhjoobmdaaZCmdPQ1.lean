/- command.Parse: a case (layer 16). -/
import Derived.Test.YtlngefhjoobmdaaMg4
namespace Go.Proofs.Ytlngefhjoobmdaa
open Go.RowKit
set_option maxRecDepth 100000 in
set_option maxHeartbeats 4000000 in
theorem crParseQ1 (a : Option Addr) (cap : Nat) (b : List UInt8) (w : World) (h : Reads w (.slice a b.length cap) b) (t : Nat) (s1 : RS) (ht : t = rN 1 (b, false)) (hs1 : s1 = rN' 1 (b, false)) (h2 : t = 1) : Calls Try.prog 7 #[.slice a b.length cap] w (ParseOk 93 tupE (parseP b) w) := by
  have hb1 : (t : Int) ≤ 255 := by have := rN1 (b, false); omega
  have hw1 : IntKind.i64.wrap (t : Int) = (t : Int) := by rw [IntKind.wrap_i64]; omega
  have HRES := Lib.hid (show parseP b = endP (bodyP t s1) by rw [ht, hs1]; rfl)
  have HQ1 := Lib.hid (fun bq br W (hW : IsCR bq br W (b, false) false) => by have := crNum bq br (b, false) false 1 W hW; rw [← ht, ← hs1] at this; exact this)
  have HS := Lib.hid (parse_start h)
  have hge : decide ((1 : Int) ≤ (t : Int)) = true := by rw [decide_eq_true_iff]; omega
  obtain ⟨ok, hok⟩ : ∃ x, x = decide (t ≤ 13) := ⟨_, rfl⟩
  have h13 : decide ((t : Int) ≤ 13) = ok := by rw [hok, Bool.eq_iff_iff]; simp <;> omega
  have h13' : decide (t ≤ 13) = ok := hok.symm
  have hokd : (!(decide (1 ≤ t) && decide (t ≤ 13))) = (false || !ok) := by rw [decide_eq_true (show 1 ≤ t by omega), hok]; simp
  have h5 : decide ((5 : Int) < (t : Int)) = false := by rw [decide_eq_false_iff_not]; omega
  have h4 : decide ((t : Int) < 4) = true := by rw [decide_eq_true_iff]; omega
  have e1 : ((t : Int) == 1) = true := by rw [beq_iff_eq]; omega
  have e3 : ((t : Int) == 3) = false := by rw [beq_eq_false_iff_ne]; omega
  obtain ⟨n2, hn2⟩ : ∃ x, x = rN 8 s1 := ⟨_, rfl⟩
  obtain ⟨s2, hs2⟩ : ∃ x, x = rN' 8 s1 := ⟨_, rfl⟩
  have HQ2 := Lib.hid (fun bq br W (hW : IsCR bq br W s1 (false || !ok)) => by have := crNum bq br s1 (false || !ok) 8 W hW; rw [← hn2, ← hs2] at this; exact this)
  have hb2 : (n2 : Int) ≤ 18446744073709551615 := by have := rN8 s1; omega
  have _hw2 : True := trivial
  obtain ⟨n3, hn3⟩ : ∃ x, x = rN 1 s2 := ⟨_, rfl⟩
  obtain ⟨s3, hs3⟩ : ∃ x, x = rN' 1 s2 := ⟨_, rfl⟩
  have HQ3 := Lib.hid (fun bq br W (hW : IsCR bq br W s2 (false || !ok)) => by have := crNum bq br s2 (false || !ok) 1 W hW; rw [← hn3, ← hs3] at this; exact this)
  have hb3 : (n3 : Int) ≤ 255 := by have := rN1 s2; omega
  have hw3 : IntKind.i64.wrap (n3 : Int) = (n3 : Int) := by rw [IntKind.wrap_i64]; omega
  obtain ⟨k64, hk64⟩ : ∃ x, x = decide (n3 < 64) := ⟨_, rfl⟩
  have h64 : decide ((n3 : Int) < 64) = k64 := by rw [hk64, Bool.eq_iff_iff]; simp <;> omega
  have h64' : decide (n3 < 64) = k64 := hk64.symm
  obtain ⟨zk, hzk⟩ : ∃ x, x = quoK s3 := ⟨_, rfl⟩
  obtain ⟨zb, hzb⟩ : ∃ x, x = quoB s3 := ⟨_, rfl⟩
  obtain ⟨zg, hzg⟩ : ∃ x, x = quoG s3 := ⟨_, rfl⟩
  obtain ⟨s4, hs4⟩ : ∃ x, x = quo' s3 := ⟨_, rfl⟩
  obtain ⟨kq, hkq⟩ : ∃ x, x = quoOk s3 := ⟨_, rfl⟩
  have HQQ := Lib.hid (fun bq br W (hW : IsCR bq br W s3 ((false || !ok) || !k64)) => by have := crQuota bq br s3 ((false || !ok) || !k64) W hW; rw [← hzk, ← hzb, ← hzg, ← hs4, ← hkq] at this; exact this)
  have HBP := Lib.hid (show bodyP t s1 = (({ CReq.zero with tag := (t : Int), admin := n2, bucket := (n3 : Int), qk := zk, qb := zb, qg := zg } : CReq), s4, (((false || !ok) || !k64) || !kq)) by unfold bodyP; rw [if_neg (by omega), if_pos (by omega), if_pos (by omega), hzk, hzb, hzg, hs4, hkq, hk64, hn3, hs3, hn2, hs2, hokd])
  clear ht hs1 h h2 hok hokd hn2 hs2 hn3 hs3 hk64 hzk hzb hzg hs4 hkq
  go_enter Try.func7, Try.ntmps7
  go_wp2_with fail
  refine (packNew a b.length cap _).mono ?_
  rintro e Wr ⟨rfl, hWr⟩
  rw [← hWr]
  clear hWr
  go_wp2_with fail
  refine (HQ1.out (w.heap.size + 2) (w.heap.size + 1) _ HS.out.1).mono ?_
  rintro e W1 ⟨rfl, hr, hg⟩
  obtain ⟨WS, hWS⟩ : ∃ WS, WS = (W1.alloc Z32).setRow W1.heap.size (CReq.cells { CReq.zero with tag := (t : Int) } nilS) := ⟨_, rfl⟩
  have HB := Lib.hid (parse_box (CReq.cells { CReq.zero with tag := (t : Int) } nilS) HS.out.2.1 HS.out.2.2 (by omega) (by omega) hr hg)
  have HSR := Lib.hid (run_storeRow (W1.alloc Z32) 32 W1.heap.size (CReq.zero.cells nilS) (CReq.cells { CReq.zero with tag := (t : Int) } nilS) (heap_alloc_new W1 _) req_size rfl (cells_one _ _ _ _))
  rw [← hWS] at HB HSR
  generalize hbq : w.heap.size + 2 = bq at *
  generalize hbr : w.heap.size + 1 = br at *
  have b0 := HB.out.1.rd.cells.c0
  have b1 := HB.out.1.rd.cells.c1
  have t0 := HB.out.1.cell 0 (v := .int .i64 (t : Int)) rfl
  clear hr hg HS HQ1 hbq hbr hWS
  go_wp2_with ((with_reducible refine atStore ?_); refine wpList_store_by rfl 32 (.tmp 5) (.tmp 16) rfl (.pointer (some ⟨W1.heap.size, 0, none⟩)) _ rfl rfl HSR.out ?_)
  have HU := Lib.hid HB.out.1
  refine (crMust bq br _ _ ok _ HU.out.rd).mono ?_
  rintro e W2 ⟨rfl, hr, hg⟩
  have HV := Lib.hid (HU.out.call hr hg)
  clear hr hg HU
  try clear t0 b0 b1
  have HU := Lib.hid HV.out
  clear HV
  have b0 := HU.out.rd.cells.c0
  have b1 := HU.out.rd.cells.c1
  have t0 := HU.out.cell 0 (v := .int .i64 (t : Int)) rfl
  have HB2 := Lib.hid HB.out.2
  clear HB HSR
  generalize W1.heap.size = qb at *
  clear W1
  go_wp2_with fail
  refine (HQ2.out _ _ _ HU.out.rd).mono ?_
  rintro e W2 ⟨rfl, hr, hg⟩
  have HT := Lib.hid (HU.out.call hr hg)
  have hc := HT.out.cell 1 (v := .int .u64 0) rfl
  have hf := HT.out.fro 1
  have hq : ∀ v, (W2.setCell ⟨qb, 1, none⟩ v).cell? ⟨bq, 0, none⟩ = some (.pointer (some ⟨br, 0, none⟩)) := fun v => (World.cell?_of_block (Below.heap_setCell _ _ _ _ (by have := HT.out.lt; simp only; omega))).trans hr.cells.c0
  have ht0 := HT.out.cell 0 (v := .int .i64 (t : Int)) rfl
  clear HU HQ2
  have HU := Lib.hid (HT.out.store (C' := CReq.cells { CReq.zero with tag := (t : Int), admin := n2 } nilS) 1 (.int .u64 (n2 : Int)) rfl)
  clear hr hg HT
  try clear t0 b0 b1
  go_wp2_with fail
  refine (HQ3.out _ _ _ HU.out.rd).mono ?_
  rintro e W3 ⟨rfl, hr, hg⟩
  have HT := Lib.hid (HU.out.call hr hg)
  have hc := HT.out.cell 2 (v := .int .i64 0) rfl
  have hf := HT.out.fro 2
  have hq : ∀ v, (W3.setCell ⟨qb, 2, none⟩ v).cell? ⟨bq, 0, none⟩ = some (.pointer (some ⟨br, 0, none⟩)) := fun v => (World.cell?_of_block (Below.heap_setCell _ _ _ _ (by have := HT.out.lt; simp only; omega))).trans hr.cells.c0
  have ht0 := HT.out.cell 0 (v := .int .i64 (t : Int)) rfl
  clear HU HQ3
  have HU := Lib.hid (HT.out.store (C' := CReq.cells { CReq.zero with tag := (t : Int), admin := n2, bucket := (n3 : Int) } nilS) 2 (.int .i64 (n3 : Int)) rfl)
  clear hr hg HT
  try clear t0 b0 b1
  go_wp2_with fail
  refine (crMust bq br _ _ k64 _ HU.out.rd).mono ?_
  rintro e W4 ⟨rfl, hr, hg⟩
  have HV := Lib.hid (HU.out.call hr hg)
  clear hr hg HU
  try clear t0 b0 b1
  have HU := Lib.hid HV.out
  clear HV
  have b0 := HU.out.rd.cells.c0
  have b1 := HU.out.rd.cells.c1
  have t0 := HU.out.cell 0 (v := .int .i64 (t : Int)) rfl
  clear hc hf hq ht0 hw3
  go_wp2_with fail
  obtain ⟨C9, hC9⟩ : ∃ C, C = CReq.cells ({ CReq.zero with tag := (t : Int), admin := n2, bucket := (n3 : Int), qk := zk, qb := zb, qg := zg } : CReq) nilS := ⟨_, rfl⟩
  refine (HQQ.out _ _ _ HU.out.rd).mono ?_
  rintro e WQ ⟨rfl, hr, hg⟩
  have HT := Lib.hid (HU.out.call hr hg)
  have HSP := Lib.hid (run_storePart WQ 26 32 qb 3 _ #[.int .i64 zk, .int .i64 zb, .int .i64 zg] C9 HT.out.c quo_size (by show 3 + 3 ≤ 16; omega) (by simp [Value.oneCell']) (by rw [hC9]; rfl))
  have HV := Lib.hid (HT.out.row C9)
  clear HU HT hr hg HQQ
  try clear t0 b0 b1
  have HU := Lib.hid HV.out
  clear HV
  have HE := Lib.hid (show ParseEnd bq br qb w WS (({ CReq.zero with tag := (t : Int), admin := n2, bucket := (n3 : Int), qk := zk, qb := zb, qg := zg } : CReq), s4, (((false || !ok) || !k64) || !kq)) nilS C9 _ from ⟨hC9, HU.out, OwnOf.nil _ _, HB2.out.1, HB2.out.2.1, HB2.out.2.2⟩)
  have HRES2 := Lib.hid (HRES.out.trans (congrArg endP HBP.out))
  clear HRES
  have HRES := Lib.hid HRES2.out
  clear HRES2
  clear HU HB2 hC9 HBP 
  generalize s4 = s9 at *
  generalize (((false || !ok) || !k64) || !kq) = d9 at *
  obtain ⟨l9, sh9⟩ := s9
  have b0 := HE.out.st.rd.cells.c0
  have b1 := HE.out.st.rd.cells.c1
  cases d9 with
  | true =>
    go_wp2_with (first | ((with_reducible refine atStore ?_); refine wpList_store_by rfl 26 (.tmp 66) (.tmp 65) rfl (.pointer (some ⟨qb, 3, none⟩)) _ rfl rfl HSP.out ?_) | refine wpList_store_by rfl 32 (.tmp 2) (.tmp 86) rfl (.pointer (some ⟨w.heap.size, 0, none⟩)) _ rfl rfl HE.out.runZ ?_)
    refine bodyPost_ret (v := .tuple #[.agg (CReq.zero.cells nilS), errV 2]) (results_row_tmp rfl _ _ w.heap.size (CReq.zero.cells nilS) rfl (run_loadVar_row _ w.heap.size _ _ _ (0, 0) _ (setRow_heap _ _ _ _ _ _ HE.out.rbW) Try.underlying32 rfl req_size) _ rfl) rfl ?_
    rw [HRES.out]
    exact HE.out.bad rfl
  | false =>
    go_wp2_with ((with_reducible refine atStore ?_); refine wpList_store_by rfl 26 (.tmp 66) (.tmp 65) rfl (.pointer (some ⟨qb, 3, none⟩)) _ rfl rfl HSP.out ?_)
    refine (packShort br l9 sh9 _ HE.out.st.rd.rd).mono ?_
    rintro e Wr ⟨rfl, hWr⟩
    rw [← hWr]
    clear hWr
    cases sh9 with
    | true =>
      go_wp2_with ((with_reducible refine atStore ?_); refine wpList_store_by rfl 32 (.tmp 2) (.tmp 86) rfl (.pointer (some ⟨w.heap.size, 0, none⟩)) _ rfl rfl HE.out.runZ ?_)
      refine bodyPost_ret (v := .tuple #[.agg (CReq.zero.cells nilS), errV 2]) (results_row_tmp rfl _ _ w.heap.size (CReq.zero.cells nilS) rfl (run_loadVar_row _ w.heap.size _ _ _ (0, 0) _ (setRow_heap _ _ _ _ _ _ HE.out.rbW) Try.underlying32 rfl req_size) _ rfl) rfl ?_
      rw [HRES.out]
      exact HE.out.bad rfl
    | false =>
      go_wp2_with fail
      refine (packLeft br l9 false _ HE.out.st.rd.rd).mono ?_
      rintro e Wr ⟨rfl, hWr⟩
      rw [← hWr]
      clear hWr
      by_cases hz : l9.length = 0
      · have dz : decide ((0 : Int) < (rdLeft l9 false : Int)) = false := by rw [decide_eq_false_iff_not, show rdLeft l9 false = l9.length from rfl]; omega
        have dz2 : decide (0 < rdLeft l9 false) = false := by rw [decide_eq_false_iff_not, show rdLeft l9 false = l9.length from rfl]; omega
        have HDZ := Lib.hid dz2
        have HC := Lib.hid HE.out.st.c
        clear hz
        go_wp2_with (first | ((with_reducible refine atLoad ?_); refine wpList_load_row rfl 32 (.tmp 5) rfl qb rfl 32 C9 (0, 0) _ HC.out Try.underlying32 rfl HE.out.size ?_) | ((with_reducible refine atStore ?_); refine wpList_store_by rfl 32 (.tmp 2) (.tmp 88) rfl (.pointer (some ⟨w.heap.size, 0, none⟩)) _ rfl rfl HE.out.runC ?_))
        refine bodyPost_ret (v := .tuple #[.agg C9, .nilIface]) (results_row_tmp rfl _ _ w.heap.size C9 rfl (run_loadVar_row _ w.heap.size _ _ _ (0, 0) _ (setRow_heap _ _ _ _ _ _ HE.out.rbW) Try.underlying32 rfl HE.out.size) _ rfl) rfl ?_
        rw [HRES.out]
        exact HE.out.good HDZ.out
      · have dz : decide ((0 : Int) < (rdLeft l9 false : Int)) = true := by rw [decide_eq_true_iff, show rdLeft l9 false = l9.length from rfl]; omega
        have dz2 : decide (0 < rdLeft l9 false) = true := by rw [decide_eq_true_iff, show rdLeft l9 false = l9.length from rfl]; omega
        have HDZ := Lib.hid dz2
        clear hz
        go_wp2_with ((with_reducible refine atStore ?_); refine wpList_store_by rfl 32 (.tmp 2) (.tmp 86) rfl (.pointer (some ⟨w.heap.size, 0, none⟩)) _ rfl rfl HE.out.runZ ?_)
        refine bodyPost_ret (v := .tuple #[.agg (CReq.zero.cells nilS), errV 2]) (results_row_tmp rfl _ _ w.heap.size (CReq.zero.cells nilS) rfl (run_loadVar_row _ w.heap.size _ _ _ (0, 0) _ (setRow_heap _ _ _ _ _ _ HE.out.rbW) Try.underlying32 rfl req_size) _ rfl) rfl ?_
        rw [HRES.out]
        exact HE.out.bad HDZ.out
end Go.Proofs.Ytlngefhjoobmdaa
