/- The reference's Parse: a case (layer 16). -/
import Derived.Test.YtlngefhjoobmdaaMg6
namespace Go.Proofs.Ytlngefhjoobmdaa
open Go.RowKit
set_option maxRecDepth 100000 in
set_option maxHeartbeats 40000000 in
theorem prParse8 (a : Option Addr) (cap : Nat) (b : List UInt8) (w : World) (h : Reads w (.slice a b.length cap) b) (hl : b.length ≤ 100000000000) (s1 : RS) (ht : 8 = rN 1 (b, false)) (hs1 : s1 = rN' 1 (b, false)) : Calls Try.prog 8 #[.slice a b.length cap] w (ParseOk 90 tupB (parseP b) w) := by
  have hw1 : IntKind.i64.wrap 8 = 8 := by rw [IntKind.wrap_i64]; omega
  have HRES := Lib.hid (show parseP b = endP (bodyP 8 s1) by rw [ht, hs1]; rfl)
  have HQ1 := Lib.hid (fun bq br W (hW : IsPR bq br W (b, false) false) => by have := prNum bq br (b, false) false 1 W hW; rw [← ht, ← hs1] at this; exact this)
  have HS := Lib.hid (show QS (w.heap.size + 1 + 1) (w.heap.size + 1) (w.heap.size + 1 + 1 + 1) (IsPR (w.heap.size + 1 + 1) (w.heap.size + 1)) (World.alloc (pr3 w a b.length cap) Z39) 39 (CReq.zero.cells nilS) (b, false) false (World.alloc (pr3 w a b.length cap) Z39) ∧ Below w.heap.size w (World.alloc (pr3 w a b.length cap) Z39) ∧ (World.alloc (pr3 w a b.length cap) Z39).heap[w.heap.size]? = some Z39 from rparse_qs h hl)
  obtain ⟨r, hr⟩ : ∃ r, r = opN 8 (tok' s1) false := ⟨_, rfl⟩
  have HQO := Lib.hid (fun bq br W (hW : IsPR bq br W (tok' s1) false) => by have := prOp bq br 8 (tok' s1) false W hW (by omega); rw [← hr] at this; exact this)
  have HBP := Lib.hid (show bodyP 8 s1 = ({ ((({ CReq.zero with tag := (8 : Int) } : CReq)).withTok s1) with ops := [r.1] }, r.2.1, r.2.2) by rw [hr]; rfl)
  clear hr
  obtain ⟨⟨rd, rk, rv, rc, rl⟩, s9, d9⟩ := r
  simp only [COp.v, COp.cells] at HQO
  clear ht hs1 h hl 
  go_enter Try.func8, Try.ntmps8
  go_wp2_with fail
  refine (HQ1.out _ _ _ HS.out.1.rd).mono ?_
  rintro e W1 ⟨rfl, hr, hg⟩
  have HT := Lib.hid (HS.out.1.call hr hg)
  have HB2 := Lib.hid HS.out.2
  have HLO := Lib.hid (show w.heap.size < w.heap.size + 1 ∧ w.heap.size < w.heap.size + 1 + 1 ∧ w.heap.size < w.heap.size + 1 + 1 + 1 by omega)
  generalize World.alloc (pr3 w a b.length cap) Z39 = WS at HT HB2
  clear HS HQ1 hr hg
  generalize w.heap.size + 1 + 1 + 1 = qb at *
  generalize w.heap.size + 1 + 1 = bq at *
  generalize w.heap.size + 1 = br at *
  obtain ⟨V1, hV1⟩ : ∃ V, V = W1.setRow qb (CReq.cells ({ CReq.zero with tag := (8 : Int) } : CReq) nilS) := ⟨_, rfl⟩
  have HS1 := Lib.hid (run_storeOne W1 3 39 qb 0 _ (CReq.cells ({ CReq.zero with tag := (8 : Int) } : CReq) nilS) (.int .i64 8) HT.out.c int_size (by show 0 < 16; omega) rfl rfl rfl)
  have HU := Lib.hid (HT.out.row (CReq.cells ({ CReq.zero with tag := (8 : Int) } : CReq) nilS))
  rw [← hV1] at HS1 HU
  clear HT hV1
  try clear b0 b1 t0 sh
  try clear cn
  have cn := HU.out.cell 0 (v := .int .i64 8) rfl
  have b0 := HU.out.rd.cells.c0
  have b1 := HU.out.rd.cells.c1
  have t0 := HU.out.cell 0 (v := .int .i64 8) rfl
  have sh := HU.out.rd.short
  go_wp2_with ((with_reducible refine atStore ?_); refine wpList_store_by rfl 3 (.tmp 22) (.tmp 21) rfl (.pointer (some ⟨qb, 0, none⟩)) _ rfl rfl HS1.out ?_)
  refine (prToken bq br s1 false _ HU.out.rd).mono ?_
  rintro e W2 ⟨rfl, hr, hg⟩
  have HT := Lib.hid (HU.out.call hr hg)
  clear HU hr hg
  unfold tokV
  obtain ⟨V2, hV2⟩ : ∃ V, V = W2.setRow qb (CReq.cells ((({ CReq.zero with tag := (8 : Int) } : CReq)).withTok s1) nilS) := ⟨_, rfl⟩
  have HS2 := Lib.hid (run_storePart W2 29 39 qb 6 _ #[.int .i64 (rN 1 s1 : Int), .int .u32 (rN 4 (rN' 1 s1) : Int), .int .u32 (rN 4 (rN' 4 (rN' 1 s1)) : Int), .int .u64 (rN 8 (rN' 4 (rN' 4 (rN' 1 s1))) : Int)] (CReq.cells ((({ CReq.zero with tag := (8 : Int) } : CReq)).withTok s1) nilS) HT.out.c tok_size (by show 6 + 4 ≤ 16; omega) (by simp [Value.oneCell']) rfl)
  have HU := Lib.hid (HT.out.row (CReq.cells ((({ CReq.zero with tag := (8 : Int) } : CReq)).withTok s1) nilS))
  rw [← hV2] at HS2 HU
  clear HT hV2
  try clear b0 b1 t0 sh
  have b0 := HU.out.rd.cells.c0
  have b1 := HU.out.rd.cells.c1
  have t0 := HU.out.cell 0 (v := .int .i64 8) rfl
  have sh := HU.out.rd.short
  go_wp2_with ((with_reducible refine atStore ?_); refine wpList_store_by rfl 29 (.tmp 43) (.tmp 42) rfl (.pointer (some ⟨qb, 6, none⟩)) _ rfl rfl HS2.out ?_)
  refine (HQO.out _ _ _ HU.out.rd).mono ?_
  rintro e W3 ⟨rfl, hr, hg⟩
  have HT := Lib.hid (HU.out.call hr hg)
  clear HU HQO hr hg
  try clear b0 b1 t0 sh
  obtain ⟨V3, hV3⟩ : ∃ V, V = (W3.alloc (.cells #[.bool false, .string ByteArray.empty, .string ByteArray.empty, .int .u64 0, .int .u64 0] 90)).setRow W3.heap.size #[.bool rd, .string rk, .string rv, .int .u64 (rc : Int), .int .u64 (rl : Int)] := ⟨_, rfl⟩
  have HS3 := Lib.hid (run_storeRow (W3.alloc (.cells #[.bool false, .string ByteArray.empty, .string ByteArray.empty, .int .u64 0, .int .u64 0] 90)) 90 W3.heap.size #[.bool false, .string ByteArray.empty, .string ByteArray.empty, .int .u64 0, .int .u64 0] #[.bool rd, .string rk, .string rv, .int .u64 (rc : Int), .int .u64 (rl : Int)] (heap_alloc_new W3 _) rop_size rfl (by simp [Value.oneCell']))
  have HL3 := Lib.hid (setRow_heap (W3.alloc (.cells #[.bool false, .string ByteArray.empty, .string ByteArray.empty, .int .u64 0, .int .u64 0] 90)) W3.heap.size #[.bool false, .string ByteArray.empty, .string ByteArray.empty, .int .u64 0, .int .u64 0] #[.bool rd, .string rk, .string rv, .int .u64 (rc : Int), .int .u64 (rl : Int)] 90 (0, 0) (heap_alloc_new W3 _))
  have HX := Lib.hid (HT.out.bel' (below_box W3 #[.bool false, .string ByteArray.empty, .string ByteArray.empty, .int .u64 0, .int .u64 0] #[.bool rd, .string rk, .string rv, .int .u64 (rc : Int), .int .u64 (rl : Int)] 90))
  rw [← hV3] at HS3 HL3 HX
  obtain ⟨V4, hV4⟩ : ∃ V, V = (V3.alloc (.cells #[.bool rd, .string rk, .string rv, .int .u64 (rc : Int), .int .u64 (rl : Int)] 90)).setRow qb (CReq.cells { ((({ CReq.zero with tag := (8 : Int) } : CReq)).withTok s1) with ops := [⟨rd, rk, rv, rc, rl⟩] } (.slice (some ⟨V3.heap.size, 0, none⟩) 1 1)) := ⟨_, rfl⟩
  have HY := Lib.hid (HX.out.bel' ((Below.refl V3.heap.size V3).alloc (Nat.le_refl _) (.cells #[.bool rd, .string rk, .string rv, .int .u64 (rc : Int), .int .u64 (rl : Int)] 90)))
  have HS4 := Lib.hid (run_storeOne (V3.alloc (.cells #[.bool rd, .string rk, .string rv, .int .u64 (rc : Int), .int .u64 (rl : Int)] 90)) 37 39 qb 10 _ (CReq.cells { ((({ CReq.zero with tag := (8 : Int) } : CReq)).withTok s1) with ops := [⟨rd, rk, rv, rc, rl⟩] } (.slice (some ⟨V3.heap.size, 0, none⟩) 1 1)) (.slice (some ⟨V3.heap.size, 0, none⟩) 1 1) HY.out.c sl_size (by show 10 < 16; omega) rfl rfl rfl)
  have HOWN := Lib.hid (OwnOf.t3 (br := br) (bq := bq) (ownOf_one 90 ⟨rd, rk, rv, rc, rl⟩ (qb + 1) V3 ((Array.getElem?_eq_some_iff.1 HX.out.c).1)) HX.out.lt (T3.setRow _ (CReq.cells { ((({ CReq.zero with tag := (8 : Int) } : CReq)).withTok s1) with ops := [⟨rd, rk, rv, rc, rl⟩] } (.slice (some ⟨V3.heap.size, 0, none⟩) 1 1))))
  have HU := Lib.hid (HY.out.row (CReq.cells { ((({ CReq.zero with tag := (8 : Int) } : CReq)).withTok s1) with ops := [⟨rd, rk, rv, rc, rl⟩] } (.slice (some ⟨V3.heap.size, 0, none⟩) 1 1)))
  have p0 := HX.out.rd.cells.c0
  have p1 := HX.out.rd.cells.c1
  rw [← hV4] at HS4 HU
  have HOWN2 := Lib.hid (show OwnOf 90 COp.cells 5 (qb + 1) V4 (.slice (some ⟨V3.heap.size, 0, none⟩) 1 1) [⟨rd, rk, rv, rc, rl⟩] by rw [hV4]; exact HOWN.out)
  clear HT hV3 hV4 HX HY HOWN
  have b0 := HU.out.rd.cells.c0
  have b1 := HU.out.rd.cells.c1
  have t0 := HU.out.cell 0 (v := .int .i64 8) rfl
  have sh := HU.out.rd.short
  obtain ⟨C9, hC9⟩ : ∃ C, C = CReq.cells { ((({ CReq.zero with tag := (8 : Int) } : CReq)).withTok s1) with ops := [⟨rd, rk, rv, rc, rl⟩] } (.slice (some ⟨V3.heap.size, 0, none⟩) 1 1) := ⟨_, rfl⟩
  have HE := Lib.hid (show REnd bq br qb w WS ({ ((({ CReq.zero with tag := (8 : Int) } : CReq)).withTok s1) with ops := [⟨rd, rk, rv, rc, rl⟩] }, s9, d9) (.slice (some ⟨V3.heap.size, 0, none⟩) 1 1) C9 _ from ⟨hC9, hC9 ▸ HU.out, HOWN2.out, HB2.out.1, HB2.out.2, by have := HLO.out; omega⟩)
  have HRES2 := Lib.hid (HRES.out.trans (congrArg endP HBP.out))
  clear HRES
  have HRES := Lib.hid HRES2.out
  clear HRES2 HU HB2 HBP hC9
  obtain ⟨l9, sh9⟩ := s9
  cases d9 with
  | true =>
    go_wp2_with (first | ((with_reducible refine atStore ?_); refine wpList_store_by rfl 90 (.tmp 7) (.tmp 116) rfl (.pointer (some ⟨W3.heap.size, 0, none⟩)) _ rfl rfl HS3.out ?_) | ((with_reducible refine atLoad ?_); refine wpList_load_row rfl 90 (.tmp 7) rfl W3.heap.size rfl 90 #[.bool rd, .string rk, .string rv, .int .u64 (rc : Int), .int .u64 (rl : Int)] (0, 0) _ HL3.out Try.underlying90 rfl rop_size ?_) | ((with_reducible refine atStore ?_); refine wpList_store_by rfl 37 (.tmp 119) (.tmp 118) rfl (.pointer (some ⟨qb, 10, none⟩)) _ rfl rfl HS4.out ?_) | ((with_reducible refine atStore ?_); refine wpList_store_by rfl 39 (.tmp 2) (.tmp 246) rfl (.pointer (some ⟨w.heap.size, 0, none⟩)) _ rfl rfl HE.out.runZ ?_))
    refine bodyPost_ret (v := .tuple #[.agg (CReq.zero.cells nilS), .bool false]) (results_row_tmp rfl _ _ w.heap.size (CReq.zero.cells nilS) rfl (run_loadVar_row _ w.heap.size _ _ _ (0, 0) _ (setRow_heap _ _ _ _ _ _ HE.out.rbW) Try.underlying39 rfl rreq_size) _ rfl) rfl ?_
    rw [HRES.out]
    exact HE.out.bad rfl
  | false =>
    cases sh9 with
    | true =>
      go_wp2_with (first | ((with_reducible refine atStore ?_); refine wpList_store_by rfl 90 (.tmp 7) (.tmp 116) rfl (.pointer (some ⟨W3.heap.size, 0, none⟩)) _ rfl rfl HS3.out ?_) | ((with_reducible refine atLoad ?_); refine wpList_load_row rfl 90 (.tmp 7) rfl W3.heap.size rfl 90 #[.bool rd, .string rk, .string rv, .int .u64 (rc : Int), .int .u64 (rl : Int)] (0, 0) _ HL3.out Try.underlying90 rfl rop_size ?_) | ((with_reducible refine atStore ?_); refine wpList_store_by rfl 37 (.tmp 119) (.tmp 118) rfl (.pointer (some ⟨qb, 10, none⟩)) _ rfl rfl HS4.out ?_) | ((with_reducible refine atStore ?_); refine wpList_store_by rfl 39 (.tmp 2) (.tmp 246) rfl (.pointer (some ⟨w.heap.size, 0, none⟩)) _ rfl rfl HE.out.runZ ?_))
      refine bodyPost_ret (v := .tuple #[.agg (CReq.zero.cells nilS), .bool false]) (results_row_tmp rfl _ _ w.heap.size (CReq.zero.cells nilS) rfl (run_loadVar_row _ w.heap.size _ _ _ (0, 0) _ (setRow_heap _ _ _ _ _ _ HE.out.rbW) Try.underlying39 rfl rreq_size) _ rfl) rfl ?_
      rw [HRES.out]
      exact HE.out.bad rfl
    | false =>
      go_wp2_with (first | ((with_reducible refine atStore ?_); refine wpList_store_by rfl 90 (.tmp 7) (.tmp 116) rfl (.pointer (some ⟨W3.heap.size, 0, none⟩)) _ rfl rfl HS3.out ?_) | ((with_reducible refine atLoad ?_); refine wpList_load_row rfl 90 (.tmp 7) rfl W3.heap.size rfl 90 #[.bool rd, .string rk, .string rv, .int .u64 (rc : Int), .int .u64 (rl : Int)] (0, 0) _ HL3.out Try.underlying90 rfl rop_size ?_) | ((with_reducible refine atStore ?_); refine wpList_store_by rfl 37 (.tmp 119) (.tmp 118) rfl (.pointer (some ⟨qb, 10, none⟩)) _ rfl rfl HS4.out ?_))
      refine HE.out.left.mono ?_
      rintro e _ ⟨rfl, nd, rfl⟩
      have HE2 := Lib.hid (HE.out.bel' (below_drewN (Below.refl _ _) nd))
      generalize World.drewN _ nd = WD at HE2 ⊢
      by_cases hz : l9.length = 0
      · have dz : decide ((0 : Int) < (rdLeft l9 false : Int)) = false := by rw [decide_eq_false_iff_not, show rdLeft l9 false = l9.length from rfl]; omega
        have dz2 : decide (0 < rdLeft l9 false) = false := by rw [decide_eq_false_iff_not, show rdLeft l9 false = l9.length from rfl]; omega
        have HDZ := Lib.hid dz2
        have HC := Lib.hid HE2.out.st.c
        clear hz
        go_wp2_with (first | ((with_reducible refine atLoad ?_); refine wpList_load_row rfl 39 (.tmp 5) rfl qb rfl 39 C9 (0, 0) _ HC.out Try.underlying39 rfl HE2.out.size ?_) | ((with_reducible refine atStore ?_); refine wpList_store_by rfl 39 (.tmp 2) (.tmp 247) rfl (.pointer (some ⟨w.heap.size, 0, none⟩)) _ rfl rfl HE2.out.runC ?_))
        refine bodyPost_ret (v := .tuple #[.agg C9, .bool true]) (results_row_tmp rfl _ _ w.heap.size C9 rfl (run_loadVar_row _ w.heap.size _ _ _ (0, 0) _ (setRow_heap _ _ _ _ _ _ HE2.out.rbW) Try.underlying39 rfl HE2.out.size) _ rfl) rfl ?_
        rw [HRES.out]
        exact HE2.out.good HDZ.out
      · have dz : decide ((0 : Int) < (rdLeft l9 false : Int)) = true := by rw [decide_eq_true_iff, show rdLeft l9 false = l9.length from rfl]; omega
        have dz2 : decide (0 < rdLeft l9 false) = true := by rw [decide_eq_true_iff, show rdLeft l9 false = l9.length from rfl]; omega
        have HDZ := Lib.hid dz2
        clear hz
        go_wp2_with ((with_reducible refine atStore ?_); refine wpList_store_by rfl 39 (.tmp 2) (.tmp 246) rfl (.pointer (some ⟨w.heap.size, 0, none⟩)) _ rfl rfl HE2.out.runZ ?_)
        refine bodyPost_ret (v := .tuple #[.agg (CReq.zero.cells nilS), .bool false]) (results_row_tmp rfl _ _ w.heap.size (CReq.zero.cells nilS) rfl (run_loadVar_row _ w.heap.size _ _ _ (0, 0) _ (setRow_heap _ _ _ _ _ _ HE2.out.rbW) Try.underlying39 rfl rreq_size) _ rfl) rfl ?_
        rw [HRES.out]
        exact HE2.out.bad HDZ.out
end Go.Proofs.Ytlngefhjoobmdaa
