/- The reference's Parse: a case (layer 16). -/
import Derived.Test.YtlngefhjoobmdaaMg6
namespace Go.Proofs.Ytlngefhjoobmdaa
open Go.RowKit
set_option maxRecDepth 100000 in
set_option maxHeartbeats 40000000 in
theorem prParse10 (a : Option Addr) (cap : Nat) (b : List UInt8) (w : World) (h : Reads w (.slice a b.length cap) b) (hl : b.length ≤ 100000000000) (s1 : RS) (ht : 10 = rN 1 (b, false)) (hs1 : s1 = rN' 1 (b, false)) : Calls Try.prog 8 #[.slice a b.length cap] w (ParseOk 90 tupB (parseP b) w) := by
  have hw1 : IntKind.i64.wrap 10 = 10 := by rw [IntKind.wrap_i64]; omega
  have HRES := Lib.hid (show parseP b = endP (bodyP 10 s1) by rw [ht, hs1]; rfl)
  have HQ1 := Lib.hid (fun bq br W (hW : IsPR bq br W (b, false) false) => by have := prNum bq br (b, false) false 1 W hW; rw [← ht, ← hs1] at this; exact this)
  have HS := Lib.hid (show QS (w.heap.size + 1 + 1) (w.heap.size + 1) (w.heap.size + 1 + 1 + 1) (IsPR (w.heap.size + 1 + 1) (w.heap.size + 1)) (World.alloc (pr3 w a b.length cap) Z39) 39 (CReq.zero.cells nilS) (b, false) false (World.alloc (pr3 w a b.length cap) Z39) ∧ Below w.heap.size w (World.alloc (pr3 w a b.length cap) Z39) ∧ (World.alloc (pr3 w a b.length cap) Z39).heap[w.heap.size]? = some Z39 from rparse_qs h hl)
  obtain ⟨x3, hn3⟩ : ∃ x, x = rT (tok' s1) := ⟨_, rfl⟩
  obtain ⟨s3, hs3⟩ : ∃ x, x = rT' (tok' s1) := ⟨_, rfl⟩
  obtain ⟨d3, hd3⟩ : ∃ x, x = (false || !okT 0 64 x3) := ⟨_, rfl⟩
  have HQ3 := Lib.hid (fun bq br W (hW : IsPR bq br W (tok' s1) false) => by have := prText bq br (tok' s1) false 0 64 W hW; rw [← hn3, ← hs3, ← hd3] at this; exact this)
  obtain ⟨f4, hn4⟩ : ∃ x, x = decide (rN 1 s3 = 1) := ⟨_, rfl⟩
  obtain ⟨s4, hs4⟩ : ∃ x, x = rN' 1 s3 := ⟨_, rfl⟩
  obtain ⟨d4, hd4⟩ : ∃ x, x = (d3 || !decide (rN 1 s3 ≤ 1)) := ⟨_, rfl⟩
  have HQ4 := Lib.hid (fun bq br W (hW : IsPR bq br W s3 d3) => by have := prFlag bq br s3 d3 W hW; rw [← hn4, ← hs4, ← hd4] at this; exact this)
  obtain ⟨n5, hn5⟩ : ∃ x, x = rN 1 s4 := ⟨_, rfl⟩
  obtain ⟨s5, hs5⟩ : ∃ x, x = rN' 1 s4 := ⟨_, rfl⟩
  have HQ5 := Lib.hid (fun bq br W (hW : IsPR bq br W s4 d4) => by have := prNum bq br s4 d4 1 W hW; rw [← hn5, ← hs5] at this; exact this)
  have hb5 : (n5 : Int) ≤ 255 := by have := rN1 s4; omega
  have hw5 : IntKind.i64.wrap (n5 : Int) = (n5 : Int) := by rw [IntKind.wrap_i64]; omega
  obtain ⟨k50, hk50⟩ : ∃ x, x = decide (50 < n5) := ⟨_, rfl⟩
  have h50 : decide ((50 : Int) < (n5 : Int)) = k50 := by rw [hk50, Bool.eq_iff_iff]; simp <;> omega
  have h50' : decide (50 < n5) = k50 := hk50.symm
  have hkb : (!decide (n5 ≤ 50)) = k50 := by rw [hk50, Bool.eq_iff_iff]; simp <;> omega
  have HBP := Lib.hid (show bodyP 10 s1 = (({ ((({ CReq.zero with tag := (10 : Int) } : CReq)).withTok s1) with after := x3, first := f4, count := (n5 : Int) } : CReq), s5, (d4 || k50)) by rw [← hkb, hn5, hs5, hd4, hs4, hn4, hd3, hs3, hn3]; rfl)
  clear ht hs1 h hl hn3 hs3 hd3 hn4 hs4 hd4 hn5 hs5 hk50 hkb
  go_enter Try.func8, Try.ntmps8
  go_wp2_with fail
  refine (HQ1.out _ _ _ HS.out.1.rd).mono ?_
  rintro e W1 ⟨rfl, hr, hg⟩
  have HT := Lib.hid (HS.out.1.call hr hg)
  have HB2 := Lib.hid HS.out.2
  have HLO := Lib.hid (show w.heap.size < w.heap.size + 1 ∧ w.heap.size < w.heap.size + 1 + 1 ∧ w.heap.size < w.heap.size + 1 + 1 + 1 by omega)
  generalize World.alloc (pr3 w a b.length cap) Z39 = WS at HT HB2
  clear HS HQ1 hr hg
  generalize w.heap.size + 1 + 1 + 1 = qb at *
  generalize w.heap.size + 1 + 1 = bq at *
  generalize w.heap.size + 1 = br at *
  obtain ⟨V1, hV1⟩ : ∃ V, V = W1.setRow qb (CReq.cells ({ CReq.zero with tag := (10 : Int) } : CReq) nilS) := ⟨_, rfl⟩
  have HS1 := Lib.hid (run_storeOne W1 3 39 qb 0 _ (CReq.cells ({ CReq.zero with tag := (10 : Int) } : CReq) nilS) (.int .i64 10) HT.out.c int_size (by show 0 < 16; omega) rfl rfl rfl)
  have HU := Lib.hid (HT.out.row (CReq.cells ({ CReq.zero with tag := (10 : Int) } : CReq) nilS))
  rw [← hV1] at HS1 HU
  clear HT hV1
  try clear b0 b1 t0 sh
  try clear cn
  have cn := HU.out.cell 0 (v := .int .i64 10) rfl
  have b0 := HU.out.rd.cells.c0
  have b1 := HU.out.rd.cells.c1
  have t0 := HU.out.cell 0 (v := .int .i64 10) rfl
  have sh := HU.out.rd.short
  go_wp2_with ((with_reducible refine atStore ?_); refine wpList_store_by rfl 3 (.tmp 22) (.tmp 21) rfl (.pointer (some ⟨qb, 0, none⟩)) _ rfl rfl HS1.out ?_)
  refine (prToken bq br s1 false _ HU.out.rd).mono ?_
  rintro e W2 ⟨rfl, hr, hg⟩
  have HT := Lib.hid (HU.out.call hr hg)
  clear HU hr hg
  unfold tokV
  obtain ⟨V2, hV2⟩ : ∃ V, V = W2.setRow qb (CReq.cells ((({ CReq.zero with tag := (10 : Int) } : CReq)).withTok s1) nilS) := ⟨_, rfl⟩
  have HS2 := Lib.hid (run_storePart W2 29 39 qb 6 _ #[.int .i64 (rN 1 s1 : Int), .int .u32 (rN 4 (rN' 1 s1) : Int), .int .u32 (rN 4 (rN' 4 (rN' 1 s1)) : Int), .int .u64 (rN 8 (rN' 4 (rN' 4 (rN' 1 s1))) : Int)] (CReq.cells ((({ CReq.zero with tag := (10 : Int) } : CReq)).withTok s1) nilS) HT.out.c tok_size (by show 6 + 4 ≤ 16; omega) (by simp [Value.oneCell']) rfl)
  have HU := Lib.hid (HT.out.row (CReq.cells ((({ CReq.zero with tag := (10 : Int) } : CReq)).withTok s1) nilS))
  rw [← hV2] at HS2 HU
  clear HT hV2
  try clear b0 b1 t0 sh
  have b0 := HU.out.rd.cells.c0
  have b1 := HU.out.rd.cells.c1
  have t0 := HU.out.cell 0 (v := .int .i64 10) rfl
  have sh := HU.out.rd.short
  go_wp2_with ((with_reducible refine atStore ?_); refine wpList_store_by rfl 29 (.tmp 43) (.tmp 42) rfl (.pointer (some ⟨qb, 6, none⟩)) _ rfl rfl HS2.out ?_)
  refine (HQ3.out _ _ _ HU.out.rd).mono ?_
  rintro e W3 ⟨rfl, hr, hg⟩
  have HT := Lib.hid (HU.out.call hr hg)
  clear HU HQ3 hr hg
  obtain ⟨V3, hV3⟩ : ∃ V, V = W3.setRow qb (CReq.cells ({ ((({ CReq.zero with tag := (10 : Int) } : CReq)).withTok s1) with after := x3 } : CReq) nilS) := ⟨_, rfl⟩
  have HS3 := Lib.hid (run_storeOne W3 9 39 qb 11 _ (CReq.cells ({ ((({ CReq.zero with tag := (10 : Int) } : CReq)).withTok s1) with after := x3 } : CReq) nilS) (.string x3) HT.out.c str_size (by show 11 < 16; omega) rfl rfl rfl)
  have HU := Lib.hid (HT.out.row (CReq.cells ({ ((({ CReq.zero with tag := (10 : Int) } : CReq)).withTok s1) with after := x3 } : CReq) nilS))
  rw [← hV3] at HS3 HU
  clear HT hV3
  try clear b0 b1 t0 sh
  try clear cn
  have cn := HU.out.cell 11 (v := .string x3) rfl
  have b0 := HU.out.rd.cells.c0
  have b1 := HU.out.rd.cells.c1
  have t0 := HU.out.cell 0 (v := .int .i64 10) rfl
  have sh := HU.out.rd.short
  go_wp2_with ((with_reducible refine atStore ?_); refine wpList_store_by rfl 9 (.tmp 167) (.tmp 166) rfl (.pointer (some ⟨qb, 11, none⟩)) _ rfl rfl HS3.out ?_)
  refine (HQ4.out _ _ _ HU.out.rd).mono ?_
  rintro e W4 ⟨rfl, hr, hg⟩
  have HT := Lib.hid (HU.out.call hr hg)
  clear HU HQ4 hr hg
  obtain ⟨V4, hV4⟩ : ∃ V, V = W4.setRow qb (CReq.cells ({ ((({ CReq.zero with tag := (10 : Int) } : CReq)).withTok s1) with after := x3, first := f4 } : CReq) nilS) := ⟨_, rfl⟩
  have HS4 := Lib.hid (run_storeOne W4 4 39 qb 12 _ (CReq.cells ({ ((({ CReq.zero with tag := (10 : Int) } : CReq)).withTok s1) with after := x3, first := f4 } : CReq) nilS) (.bool f4) HT.out.c bool_size (by show 12 < 16; omega) rfl rfl rfl)
  have HU := Lib.hid (HT.out.row (CReq.cells ({ ((({ CReq.zero with tag := (10 : Int) } : CReq)).withTok s1) with after := x3, first := f4 } : CReq) nilS))
  rw [← hV4] at HS4 HU
  clear HT hV4
  try clear b0 b1 t0 sh
  try clear cn
  have cn := HU.out.cell 12 (v := .bool f4) rfl
  have b0 := HU.out.rd.cells.c0
  have b1 := HU.out.rd.cells.c1
  have t0 := HU.out.cell 0 (v := .int .i64 10) rfl
  have sh := HU.out.rd.short
  go_wp2_with ((with_reducible refine atStore ?_); refine wpList_store_by rfl 4 (.tmp 170) (.tmp 169) rfl (.pointer (some ⟨qb, 12, none⟩)) _ rfl rfl HS4.out ?_)
  refine (HQ5.out _ _ _ HU.out.rd).mono ?_
  rintro e W5 ⟨rfl, hr, hg⟩
  have HT := Lib.hid (HU.out.call hr hg)
  clear HU HQ5 hr hg
  obtain ⟨V5, hV5⟩ : ∃ V, V = W5.setRow qb (CReq.cells ({ ((({ CReq.zero with tag := (10 : Int) } : CReq)).withTok s1) with after := x3, first := f4, count := (n5 : Int) } : CReq) nilS) := ⟨_, rfl⟩
  have HS5 := Lib.hid (run_storeOne W5 3 39 qb 13 _ (CReq.cells ({ ((({ CReq.zero with tag := (10 : Int) } : CReq)).withTok s1) with after := x3, first := f4, count := (n5 : Int) } : CReq) nilS) (.int .i64 (n5 : Int)) HT.out.c int_size (by show 13 < 16; omega) rfl rfl rfl)
  have HU := Lib.hid (HT.out.row (CReq.cells ({ ((({ CReq.zero with tag := (10 : Int) } : CReq)).withTok s1) with after := x3, first := f4, count := (n5 : Int) } : CReq) nilS))
  rw [← hV5] at HS5 HU
  clear HT hV5
  try clear b0 b1 t0 sh
  try clear cn
  have cn := HU.out.cell 13 (v := .int .i64 (n5 : Int)) rfl
  have b0 := HU.out.rd.cells.c0
  have b1 := HU.out.rd.cells.c1
  have t0 := HU.out.cell 0 (v := .int .i64 10) rfl
  have sh := HU.out.rd.short
  cases d4 with
  | true =>
    have HNB := Lib.hid (HU.out.runBad true)
    have HV := Lib.hid (HU.out.setBad true)
    obtain ⟨VB, hVB⟩ : ∃ V, V = World.setRow V5 bq (pBox br true) := ⟨_, rfl⟩
    rw [← hVB] at HNB HV
    clear HU hVB
    have HU := Lib.hid HV.out
    clear HV
    have b0' := HU.out.rd.cells.c0
    have b1' := HU.out.rd.cells.c1
    have t0' := HU.out.cell 0 (v := .int .i64 10) rfl
    have sh' := HU.out.rd.short
    obtain ⟨C9, hC9⟩ : ∃ C, C = CReq.cells ({ ((({ CReq.zero with tag := (10 : Int) } : CReq)).withTok s1) with after := x3, first := f4, count := (n5 : Int) } : CReq) nilS := ⟨_, rfl⟩
    have HE := Lib.hid (show REnd bq br qb w WS (({ ((({ CReq.zero with tag := (10 : Int) } : CReq)).withTok s1) with after := x3, first := f4, count := (n5 : Int) } : CReq), s5, true) nilS C9 _ from ⟨hC9, hC9 ▸ HU.out, OwnOf.nil _ _, HB2.out.1, HB2.out.2, by have := HLO.out; omega⟩)
    have HRES2 := Lib.hid (HRES.out.trans (congrArg endP HBP.out))
    clear HRES
    have HRES := Lib.hid HRES2.out
    clear HRES2 HU HB2 HBP hC9
    generalize s5 = s9 at *
    obtain ⟨l9, sh9⟩ := s9
    go_wp2_with (first | ((with_reducible refine atStore ?_); refine wpList_store_by rfl 3 (.tmp 177) (.tmp 176) rfl (.pointer (some ⟨qb, 13, none⟩)) _ rfl rfl HS5.out ?_) | ((with_reducible refine atStore ?_); refine wpList_store_by rfl 4 (.tmp 189) (.tmp 187) rfl (.pointer (some ⟨bq, 1, none⟩)) _ rfl rfl HNB.out ?_) | ((with_reducible refine atStore ?_); refine wpList_store_by rfl 39 (.tmp 2) (.tmp 246) rfl (.pointer (some ⟨w.heap.size, 0, none⟩)) _ rfl rfl HE.out.runZ ?_))
    refine bodyPost_ret (v := .tuple #[.agg (CReq.zero.cells nilS), .bool false]) (results_row_tmp rfl _ _ w.heap.size (CReq.zero.cells nilS) rfl (run_loadVar_row _ w.heap.size _ _ _ (0, 0) _ (setRow_heap _ _ _ _ _ _ HE.out.rbW) Try.underlying39 rfl rreq_size) _ rfl) rfl ?_
    rw [HRES.out]
    exact HE.out.bad rfl
  | false =>
    have HNB := Lib.hid (HU.out.runBad k50)
    have HV := Lib.hid (HU.out.setBad k50)
    obtain ⟨VB, hVB⟩ : ∃ V, V = World.setRow V5 bq (pBox br k50) := ⟨_, rfl⟩
    rw [← hVB] at HNB HV
    clear HU hVB
    have HU := Lib.hid HV.out
    clear HV
    have b0' := HU.out.rd.cells.c0
    have b1' := HU.out.rd.cells.c1
    have t0' := HU.out.cell 0 (v := .int .i64 10) rfl
    have sh' := HU.out.rd.short
    obtain ⟨C9, hC9⟩ : ∃ C, C = CReq.cells ({ ((({ CReq.zero with tag := (10 : Int) } : CReq)).withTok s1) with after := x3, first := f4, count := (n5 : Int) } : CReq) nilS := ⟨_, rfl⟩
    have HE := Lib.hid (show REnd bq br qb w WS (({ ((({ CReq.zero with tag := (10 : Int) } : CReq)).withTok s1) with after := x3, first := f4, count := (n5 : Int) } : CReq), s5, k50) nilS C9 _ from ⟨hC9, hC9 ▸ HU.out, OwnOf.nil _ _, HB2.out.1, HB2.out.2, by have := HLO.out; omega⟩)
    have HRES2 := Lib.hid (HRES.out.trans (congrArg endP HBP.out))
    clear HRES
    have HRES := Lib.hid HRES2.out
    clear HRES2 HU HB2 HBP hC9
    generalize s5 = s9 at *
    generalize k50 = d9 at *
    obtain ⟨l9, sh9⟩ := s9
    cases d9 with
    | true =>
      go_wp2_with (first | ((with_reducible refine atStore ?_); refine wpList_store_by rfl 3 (.tmp 177) (.tmp 176) rfl (.pointer (some ⟨qb, 13, none⟩)) _ rfl rfl HS5.out ?_) | ((with_reducible refine atStore ?_); refine wpList_store_by rfl 4 (.tmp 189) (.tmp 187) rfl (.pointer (some ⟨bq, 1, none⟩)) _ rfl rfl HNB.out ?_) | ((with_reducible refine atStore ?_); refine wpList_store_by rfl 39 (.tmp 2) (.tmp 246) rfl (.pointer (some ⟨w.heap.size, 0, none⟩)) _ rfl rfl HE.out.runZ ?_))
      refine bodyPost_ret (v := .tuple #[.agg (CReq.zero.cells nilS), .bool false]) (results_row_tmp rfl _ _ w.heap.size (CReq.zero.cells nilS) rfl (run_loadVar_row _ w.heap.size _ _ _ (0, 0) _ (setRow_heap _ _ _ _ _ _ HE.out.rbW) Try.underlying39 rfl rreq_size) _ rfl) rfl ?_
      rw [HRES.out]
      exact HE.out.bad rfl
    | false =>
      cases sh9 with
      | true =>
        go_wp2_with (first | ((with_reducible refine atStore ?_); refine wpList_store_by rfl 3 (.tmp 177) (.tmp 176) rfl (.pointer (some ⟨qb, 13, none⟩)) _ rfl rfl HS5.out ?_) | ((with_reducible refine atStore ?_); refine wpList_store_by rfl 4 (.tmp 189) (.tmp 187) rfl (.pointer (some ⟨bq, 1, none⟩)) _ rfl rfl HNB.out ?_) | ((with_reducible refine atStore ?_); refine wpList_store_by rfl 39 (.tmp 2) (.tmp 246) rfl (.pointer (some ⟨w.heap.size, 0, none⟩)) _ rfl rfl HE.out.runZ ?_))
        refine bodyPost_ret (v := .tuple #[.agg (CReq.zero.cells nilS), .bool false]) (results_row_tmp rfl _ _ w.heap.size (CReq.zero.cells nilS) rfl (run_loadVar_row _ w.heap.size _ _ _ (0, 0) _ (setRow_heap _ _ _ _ _ _ HE.out.rbW) Try.underlying39 rfl rreq_size) _ rfl) rfl ?_
        rw [HRES.out]
        exact HE.out.bad rfl
      | false =>
        go_wp2_with (first | ((with_reducible refine atStore ?_); refine wpList_store_by rfl 3 (.tmp 177) (.tmp 176) rfl (.pointer (some ⟨qb, 13, none⟩)) _ rfl rfl HS5.out ?_) | ((with_reducible refine atStore ?_); refine wpList_store_by rfl 4 (.tmp 189) (.tmp 187) rfl (.pointer (some ⟨bq, 1, none⟩)) _ rfl rfl HNB.out ?_))
        refine HE.out.left.mono ?_
        rintro e _ ⟨rfl, nd, rfl⟩
        have HE2 := Lib.hid (HE.out.bel' (below_drewN (Below.refl _ _) nd))
        generalize World.drewN _ nd = WD at HE2 ⊢
        by_cases hz : l9.length = 0
        · have dz : decide ((0 : Int) < (rdLeft l9 false : Int)) = false := by rw [decide_eq_false_iff_not, show rdLeft l9 false = l9.length from rfl]; omega
          have dz2 : decide (0 < rdLeft l9 false) = false := by rw [decide_eq_false_iff_not, show rdLeft l9 false = l9.length from rfl]; omega
          have HDZ := Lib.hid dz2
          have HC := Lib.hid HE2.out.st.c
          clear hz
          go_wp2_with (first | ((with_reducible refine atLoad ?_); refine wpList_load_row rfl 39 (.tmp 5) rfl qb rfl 39 C9 (0, 0) _ HC.out Try.underlying39 rfl HE2.out.size ?_) | ((with_reducible refine atStore ?_); refine wpList_store_by rfl 39 (.tmp 2) (.tmp 247) rfl (.pointer (some ⟨w.heap.size, 0, none⟩)) _ rfl rfl HE2.out.runC ?_))
          refine bodyPost_ret (v := .tuple #[.agg C9, .bool true]) (results_row_tmp rfl _ _ w.heap.size C9 rfl (run_loadVar_row _ w.heap.size _ _ _ (0, 0) _ (setRow_heap _ _ _ _ _ _ HE2.out.rbW) Try.underlying39 rfl HE2.out.size) _ rfl) rfl ?_
          rw [HRES.out]
          exact HE2.out.good HDZ.out
        · have dz : decide ((0 : Int) < (rdLeft l9 false : Int)) = true := by rw [decide_eq_true_iff, show rdLeft l9 false = l9.length from rfl]; omega
          have dz2 : decide (0 < rdLeft l9 false) = true := by rw [decide_eq_true_iff, show rdLeft l9 false = l9.length from rfl]; omega
          have HDZ := Lib.hid dz2
          clear hz
          go_wp2_with ((with_reducible refine atStore ?_); refine wpList_store_by rfl 39 (.tmp 2) (.tmp 246) rfl (.pointer (some ⟨w.heap.size, 0, none⟩)) _ rfl rfl HE2.out.runZ ?_)
          refine bodyPost_ret (v := .tuple #[.agg (CReq.zero.cells nilS), .bool false]) (results_row_tmp rfl _ _ w.heap.size (CReq.zero.cells nilS) rfl (run_loadVar_row _ w.heap.size _ _ _ (0, 0) _ (setRow_heap _ _ _ _ _ _ HE2.out.rbW) Try.underlying39 rfl rreq_size) _ rfl) rfl ?_
          rw [HRES.out]
          exact HE2.out.bad HDZ.out
end Go.Proofs.Ytlngefhjoobmdaa
