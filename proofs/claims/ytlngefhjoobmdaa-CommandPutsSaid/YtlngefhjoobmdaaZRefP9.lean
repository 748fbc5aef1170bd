/- The reference's Parse: a case (layer 16). -/
import Derived.Test.YtlngefhjoobmdaaMg6
import Derived.Test.YtlngefhjoobmdaaMg3
namespace Go.Proofs.Ytlngefhjoobmdaa
open Go.RowKit
set_option maxRecDepth 100000 in
set_option maxHeartbeats 40000000 in
theorem prParse9 (a : Option Addr) (cap : Nat) (b : List UInt8) (w : World) (h : Reads w (.slice a b.length cap) b) (hl : b.length ≤ 100000000000) (s1 : RS) (ht : 9 = rN 1 (b, false)) (hs1 : s1 = rN' 1 (b, false)) : Calls Try.prog 8 #[.slice a b.length cap] w (ParseOk 90 tupB (parseP b) w) := by
  have hw1 : IntKind.i64.wrap 9 = 9 := by rw [IntKind.wrap_i64]; omega
  have HRES := Lib.hid (show parseP b = endP (bodyP 9 s1) by rw [ht, hs1]; rfl)
  have HQ1 := Lib.hid (fun bq br W (hW : IsPR bq br W (b, false) false) => by have := prNum bq br (b, false) false 1 W hW; rw [← ht, ← hs1] at this; exact this)
  have HS := Lib.hid (show QS (w.heap.size + 1 + 1) (w.heap.size + 1) (w.heap.size + 1 + 1 + 1) (IsPR (w.heap.size + 1 + 1) (w.heap.size + 1)) (World.alloc (pr3 w a b.length cap) Z39) 39 (CReq.zero.cells nilS) (b, false) false (World.alloc (pr3 w a b.length cap) Z39) ∧ Below w.heap.size w (World.alloc (pr3 w a b.length cap) Z39) ∧ (World.alloc (pr3 w a b.length cap) Z39).heap[w.heap.size]? = some Z39 from rparse_qs h hl)
  obtain ⟨n3, hn3⟩ : ∃ x, x = rN 1 (tok' s1) := ⟨_, rfl⟩
  obtain ⟨s3, hs3⟩ : ∃ x, x = rN' 1 (tok' s1) := ⟨_, rfl⟩
  have HQ3 := Lib.hid (fun bq br W (hW : IsPR bq br W (tok' s1) false) => by have := prNum bq br (tok' s1) false 1 W hW; rw [← hn3, ← hs3] at this; exact this)
  have hb3 : (n3 : Int) ≤ 255 := by have := rN1 (tok' s1); omega
  have hw3 : IntKind.i64.wrap (n3 : Int) = (n3 : Int) := by rw [IntKind.wrap_i64]; omega
  obtain ⟨R, hR⟩ : ∃ R, R = batchN n3 s3 (false || !(decide (1 ≤ n3) && decide (n3 ≤ 16))) := ⟨_, rfl⟩
  have HR0 := Lib.hid (show (([] : List COp) ++ (batchN (n3 - 0) s3 (false || !(decide (1 ≤ n3) && decide (n3 ≤ 16)))).1, (batchN (n3 - 0) s3 (false || !(decide (1 ≤ n3) && decide (n3 ≤ 16)))).2) = R by rw [hR]; rfl)
  have HBP := Lib.hid (show bodyP 9 s1 = ({ ((({ CReq.zero with tag := (9 : Int) } : CReq)).withTok s1) with ops := R.1 }, R.2.1, R.2.2) by rw [hR, hn3, hs3]; rfl)
  clear ht hs1 h hl hn3 hs3 hR
  go_enter Try.func8, Try.ntmps8
  go_wp2_with fail
  refine (HQ1.out _ _ _ HS.out.1.rd).mono ?_
  rintro e W1 ⟨rfl, hr, hg⟩
  have HT := Lib.hid (HS.out.1.call hr hg)
  have HB2 := Lib.hid HS.out.2
  have HQB0 := Lib.hid (show w.heap.size + 1 + 1 + 1 < (World.alloc (pr3 w a b.length cap) Z39).heap.size from (Array.getElem?_eq_some_iff.1 HS.out.1.c).1)
  have HLO := Lib.hid (show w.heap.size < w.heap.size + 1 ∧ w.heap.size < w.heap.size + 1 + 1 ∧ w.heap.size < w.heap.size + 1 + 1 + 1 by omega)
  generalize World.alloc (pr3 w a b.length cap) Z39 = WS at HT HB2 HQB0
  clear HS HQ1 hr hg
  generalize w.heap.size + 1 + 1 + 1 = qb at *
  generalize w.heap.size + 1 + 1 = bq at *
  generalize w.heap.size + 1 = br at *
  obtain ⟨V1, hV1⟩ : ∃ V, V = W1.setRow qb (CReq.cells ({ CReq.zero with tag := (9 : Int) } : CReq) nilS) := ⟨_, rfl⟩
  have HS1 := Lib.hid (run_storeOne W1 3 39 qb 0 _ (CReq.cells ({ CReq.zero with tag := (9 : Int) } : CReq) nilS) (.int .i64 9) HT.out.c int_size (by show 0 < 16; omega) rfl rfl rfl)
  have HU := Lib.hid (HT.out.row (CReq.cells ({ CReq.zero with tag := (9 : Int) } : CReq) nilS))
  rw [← hV1] at HS1 HU
  clear HT hV1
  try clear b0 b1 t0 sh
  try clear cn
  have cn := HU.out.cell 0 (v := .int .i64 9) rfl
  have b0 := HU.out.rd.cells.c0
  have b1 := HU.out.rd.cells.c1
  have t0 := HU.out.cell 0 (v := .int .i64 9) rfl
  have sh := HU.out.rd.short
  go_wp2_with ((with_reducible refine atStore ?_); refine wpList_store_by rfl 3 (.tmp 22) (.tmp 21) rfl (.pointer (some ⟨qb, 0, none⟩)) _ rfl rfl HS1.out ?_)
  refine (prToken bq br s1 false _ HU.out.rd).mono ?_
  rintro e W2 ⟨rfl, hr, hg⟩
  have HT := Lib.hid (HU.out.call hr hg)
  clear HU hr hg
  unfold tokV
  obtain ⟨V2, hV2⟩ : ∃ V, V = W2.setRow qb (CReq.cells ((({ CReq.zero with tag := (9 : Int) } : CReq)).withTok s1) nilS) := ⟨_, rfl⟩
  have HS2 := Lib.hid (run_storePart W2 29 39 qb 6 _ #[.int .i64 (rN 1 s1 : Int), .int .u32 (rN 4 (rN' 1 s1) : Int), .int .u32 (rN 4 (rN' 4 (rN' 1 s1)) : Int), .int .u64 (rN 8 (rN' 4 (rN' 4 (rN' 1 s1))) : Int)] (CReq.cells ((({ CReq.zero with tag := (9 : Int) } : CReq)).withTok s1) nilS) HT.out.c tok_size (by show 6 + 4 ≤ 16; omega) (by simp [Value.oneCell']) rfl)
  have HU := Lib.hid (HT.out.row (CReq.cells ((({ CReq.zero with tag := (9 : Int) } : CReq)).withTok s1) nilS))
  rw [← hV2] at HS2 HU
  clear HT hV2
  try clear b0 b1 t0 sh
  have b0 := HU.out.rd.cells.c0
  have b1 := HU.out.rd.cells.c1
  have t0 := HU.out.cell 0 (v := .int .i64 9) rfl
  have sh := HU.out.rd.short
  go_wp2_with ((with_reducible refine atStore ?_); refine wpList_store_by rfl 29 (.tmp 43) (.tmp 42) rfl (.pointer (some ⟨qb, 6, none⟩)) _ rfl rfl HS2.out ?_)
  refine (HQ3.out _ _ _ HU.out.rd).mono ?_
  rintro e W3 ⟨rfl, hr, hg⟩
  have HV := Lib.hid (HU.out.call hr hg)
  clear HU HQ3 hr hg cn
  try clear b0 b1 t0 sh
  have HU := Lib.hid HV.out
  clear HV
  have b0 := HU.out.rd.cells.c0
  have b1 := HU.out.rd.cells.c1
  have t0 := HU.out.cell 0 (v := .int .i64 9) rfl
  have sh := HU.out.rd.short
  have HQB := Lib.hid (show qb < WS.heap.size from HQB0.out)
  by_cases h0 : n3 = 0
  · have dn : decide ((n3 : Int) < 1) = true := by rw [decide_eq_true_iff]; omega
    have HN0 := Lib.hid h0
    have HE0 := Lib.hid (show ([], s3, true) = R by have := HR0.out; rw [h0] at this; rw [← this]; rfl)
    clear h0
    have HNB := Lib.hid (HU.out.runBad true)
    have HV := Lib.hid (HU.out.setBad true)
    obtain ⟨VB, hVB⟩ : ∃ V, V = World.setRow W3 bq (pBox br true) := ⟨_, rfl⟩
    rw [← hVB] at HNB HV
    clear HU hVB
    have HU := Lib.hid HV.out
    clear HV
    have b0' := HU.out.rd.cells.c0
    have b1' := HU.out.rd.cells.c1
    have t0' := HU.out.cell 0 (v := .int .i64 9) rfl
    have sh' := HU.out.rd.short
    go_wp2_with ((with_reducible refine atStore ?_); refine wpList_store_by rfl 4 (.tmp 142) (.tmp 140) rfl (.pointer (some ⟨bq, 1, none⟩)) _ rfl rfl HNB.out ?_)
    have hz : n3 = 0 := HN0.out
    have dz : decide ((0 : Int) < (n3 : Int)) = false := by rw [decide_eq_false_iff_not]; omega
    clear hz
    refine wp_loop_rounds 1 ?_
    rw [rounds_succ]
    have HBQ := Lib.hid (HBP.out.trans (show _ = ({ ((({ CReq.zero with tag := (9 : Int) } : CReq)).withTok s1) with ops := [] }, s3, true) by rw [← HE0.out]))
    clear HBP
    have HBP := Lib.hid HBQ.out
    clear HBQ
    obtain ⟨C9, hC9⟩ : ∃ C, C = CReq.cells { ((({ CReq.zero with tag := (9 : Int) } : CReq)).withTok s1) with ops := [] } nilS := ⟨_, rfl⟩
    have HE := Lib.hid (show REnd bq br qb w WS ({ ((({ CReq.zero with tag := (9 : Int) } : CReq)).withTok s1) with ops := [] }, s3, true) nilS C9 _ from ⟨hC9, hC9 ▸ HU.out, OwnOf.nil _ _, HB2.out.1, HB2.out.2, by have := HLO.out; omega⟩)
    have HRES2 := Lib.hid (HRES.out.trans (congrArg endP HBP.out))
    clear HRES
    have HRES := Lib.hid HRES2.out
    clear HRES2 HU HB2 HBP hC9
    generalize s3 = s9 at *
    obtain ⟨l9, sh9⟩ := s9
    go_wp2_with ((with_reducible refine atStore ?_); refine wpList_store_by rfl 39 (.tmp 2) (.tmp 246) rfl (.pointer (some ⟨w.heap.size, 0, none⟩)) _ rfl rfl HE.out.runZ ?_)
    all_goals refine bodyPost_ret (v := .tuple #[.agg (CReq.zero.cells nilS), .bool false]) (results_row_tmp rfl _ _ w.heap.size (CReq.zero.cells nilS) rfl (run_loadVar_row _ w.heap.size _ _ _ (0, 0) _ (setRow_heap _ _ _ _ _ _ HE.out.rbW) Try.underlying39 rfl rreq_size) _ rfl) rfl ?_
    all_goals rw [HRES.out]
    all_goals exact HE.out.bad rfl
  · have dn : decide ((n3 : Int) < 1) = false := by rw [decide_eq_false_iff_not]; omega
    obtain ⟨k16, hk16⟩ : ∃ x, x = decide (16 < n3) := ⟨_, rfl⟩
    have h16 : decide ((16 : Int) < (n3 : Int)) = k16 := by rw [hk16, Bool.eq_iff_iff]; simp <;> omega
    have h16' : decide (16 < n3) = k16 := hk16.symm
    have HR1 := Lib.hid (show (([] : List COp) ++ (batchN (n3 - 0) s3 k16).1, (batchN (n3 - 0) s3 k16).2) = R by rw [show k16 = (false || !(decide (1 ≤ n3) && decide (n3 ≤ 16))) by rw [hk16, Bool.eq_iff_iff]; simp <;> omega]; exact HR0.out)
    clear h0 HR0 hk16
    have HNB := Lib.hid (HU.out.runBad k16)
    have HV := Lib.hid (HU.out.setBad k16)
    obtain ⟨VB, hVB⟩ : ∃ V, V = World.setRow W3 bq (pBox br k16) := ⟨_, rfl⟩
    rw [← hVB] at HNB HV
    clear HU hVB
    have HU := Lib.hid HV.out
    clear HV
    have b0' := HU.out.rd.cells.c0
    have b1' := HU.out.rd.cells.c1
    have t0' := HU.out.cell 0 (v := .int .i64 9) rfl
    have sh' := HU.out.rd.short
    go_wp2_with ((with_reducible refine atStore ?_); refine wpList_store_by rfl 4 (.tmp 142) (.tmp 140) rfl (.pointer (some ⟨bq, 1, none⟩)) _ rfl rfl HNB.out ?_)
    clear h16 h16' dn b0 b1 t0 sh b0' b1' t0' sh' hw3
    go_loopw [9] (fun i wr => ∃ (k : Nat) (l : List COp) (v : Value) (s' : RS) (bad' : Bool), k ≤ n3 ∧ i = .int .i64 k ∧ Hid (l.length = k) ∧ Hid ((l ++ (batchN (n3 - k) s' bad').1, (batchN (n3 - k) s' bad').2) = R) ∧ Hid (QS bq br qb (IsPR bq br) WS 39 (CReq.cells ((({ CReq.zero with tag := (9 : Int) } : CReq)).withTok s1) v) s' bad' wr) ∧ Hid (OwnOf 90 COp.cells 5 (qb + 1) wr v l ∧ (∀ k, v.ownBlock = some k → WS.heap.size ≤ k) ∧ qb < WS.heap.size)) (fun i _ => n3 - (intOf i).toNat)
    case atStart => exact ⟨0, [], nilS, s3, k16, Nat.zero_le _, rfl, rfl, HR1, HU, ⟨OwnOf.nil _ _, (fun k hk => by cases hk), HQB.out⟩⟩
    case round =>
      obtain ⟨k, l, v, s', bad', hk, rfl, HLL, HRR, HST, HOW⟩ := hrel
      clear HU HR1
      have b0 := HST.out.rd.cells.c0
      have b1 := HST.out.rd.cells.c1
      have t0 := HST.out.cell 0 (v := .int .i64 9) rfl
      have sh := HST.out.rd.short
      by_cases hlt : k < n3
      · have hki : (k : Int) < (n3 : Int) := by omega
        cases bad' with
        | true =>
          have HE0 := Lib.hid (batch_bad _ _ _ _ HRR.out)
          clear HRR hlt
          have HBQ := Lib.hid (HBP.out.trans (show _ = ({ ((({ CReq.zero with tag := (9 : Int) } : CReq)).withTok s1) with ops := l }, s', true) by rw [← HE0.out]))
          clear HBP
          have HBP := Lib.hid HBQ.out
          clear HBQ
          have HU := Lib.hid HST.out
          clear HST
          obtain ⟨C9, hC9⟩ : ∃ C, C = CReq.cells { ((({ CReq.zero with tag := (9 : Int) } : CReq)).withTok s1) with ops := l } v := ⟨_, rfl⟩
          have HE := Lib.hid (show REnd bq br qb w WS ({ ((({ CReq.zero with tag := (9 : Int) } : CReq)).withTok s1) with ops := l }, s', true) v C9 _ from ⟨hC9, hC9 ▸ HU.out, HOW.out.1, HB2.out.1, HB2.out.2, by have := HLO.out; omega⟩)
          have HRES2 := Lib.hid (HRES.out.trans (congrArg endP HBP.out))
          clear HRES
          have HRES := Lib.hid HRES2.out
          clear HRES2 HU HB2 HBP hC9
          generalize s' = s9 at *
          obtain ⟨l9, sh9⟩ := s9
          go_wp2_with ((with_reducible refine atStore ?_); refine wpList_store_by rfl 39 (.tmp 2) (.tmp 246) rfl (.pointer (some ⟨w.heap.size, 0, none⟩)) _ rfl rfl HE.out.runZ ?_)
          refine bodyPost_ret (v := .tuple #[.agg (CReq.zero.cells nilS), .bool false]) (results_row_tmp rfl _ _ w.heap.size (CReq.zero.cells nilS) rfl (run_loadVar_row _ w.heap.size _ _ _ (0, 0) _ (setRow_heap _ _ _ _ _ _ HE.out.rbW) Try.underlying39 rfl rreq_size) _ rfl) rfl ?_
          rw [HRES.out]
          exact HE.out.bad rfl
        | false =>
          have HE0 := Lib.hid (batch_step (n3 - (k + 1)) s' l R (by rw [show n3 - (k + 1) + 1 = n3 - k by omega]; exact HRR.out))
          have HKN := Lib.hid hlt
          clear HRR hlt
          obtain ⟨r, hr⟩ : ∃ r, r = opN 9 s' false := ⟨_, rfl⟩
          have HQO := Lib.hid (fun W (hW : IsPR bq br W s' false) => by have := prOp bq br 9 s' false W hW (by omega); rw [← hr] at this; exact this)
          rw [← hr] at HE0
          clear hr
          obtain ⟨⟨rd, rk, rv, rc, rl⟩, s2, d2⟩ := r
          simp only [COp.v, COp.cells] at HQO
          simp only at HE0
          obtain ⟨av, cv, hv⟩ := HOW.out.1.slice
          have HVS := Lib.hid hv
          have HQBX := Lib.hid HOW.out.2.2
          clear hv
          go_wp2_with fail
          refine (HQO.out _ HST.out.rd).mono ?_
          rintro e W4 ⟨rfl, hr, hg⟩
          have HT := Lib.hid (HST.out.call hr hg)
          have HO4 := Lib.hid (HOW.out.1.tg (bq := bq) (br := br) HT.out.lt hg)
          clear hr hg HQO HST b0 b1 t0 sh
          obtain ⟨V4, hV4⟩ : ∃ V, V = (W4.alloc (.cells #[.bool false, .string ByteArray.empty, .string ByteArray.empty, .int .u64 0, .int .u64 0] 90)).setRow W4.heap.size #[.bool rd, .string rk, .string rv, .int .u64 (rc : Int), .int .u64 (rl : Int)] := ⟨_, rfl⟩
          have HS4 := Lib.hid (run_storeRow (W4.alloc (.cells #[.bool false, .string ByteArray.empty, .string ByteArray.empty, .int .u64 0, .int .u64 0] 90)) 90 W4.heap.size #[.bool false, .string ByteArray.empty, .string ByteArray.empty, .int .u64 0, .int .u64 0] #[.bool rd, .string rk, .string rv, .int .u64 (rc : Int), .int .u64 (rl : Int)] (heap_alloc_new W4 _) rop_size rfl (by simp [Value.oneCell']))
          have HL4 := Lib.hid (setRow_heap (W4.alloc (.cells #[.bool false, .string ByteArray.empty, .string ByteArray.empty, .int .u64 0, .int .u64 0] 90)) W4.heap.size #[.bool false, .string ByteArray.empty, .string ByteArray.empty, .int .u64 0, .int .u64 0] #[.bool rd, .string rk, .string rv, .int .u64 (rc : Int), .int .u64 (rl : Int)] 90 (0, 0) (heap_alloc_new W4 _))
          have HX := Lib.hid (HT.out.bel' (below_box W4 #[.bool false, .string ByteArray.empty, .string ByteArray.empty, .int .u64 0, .int .u64 0] #[.bool rd, .string rk, .string rv, .int .u64 (rc : Int), .int .u64 (rl : Int)] 90))
          have HO5 := Lib.hid (HO4.out.bel (below_box W4 #[.bool false, .string ByteArray.empty, .string ByteArray.empty, .int .u64 0, .int .u64 0] #[.bool rd, .string rk, .string rv, .int .u64 (rc : Int), .int .u64 (rl : Int)] 90))
          rw [← hV4] at HS4 HL4 HX HO5
          clear hV4 HT HO4
          have hc10 := HX.out.cell 10 (v := v) rfl
          rw [HVS.out] at hc10
          have HOPI := Lib.hid rop_info
          have hb1 : (Below.refl V4.heap.size V4).alloc (Nat.le_refl _) (.cells #[.bool rd, .string rk, .string rv, .int .u64 (rc : Int), .int .u64 (rl : Int)] 90) = (Below.refl V4.heap.size V4).alloc (Nat.le_refl _) (.cells #[.bool rd, .string rk, .string rv, .int .u64 (rc : Int), .int .u64 (rl : Int)] 90) := rfl
          clear hb1
          have HY := Lib.hid (HX.out.bel' ((Below.refl V4.heap.size V4).alloc (Nat.le_refl _) (.cells #[.bool rd, .string rk, .string rv, .int .u64 (rc : Int), .int .u64 (rl : Int)] 90)))
          have HO6 := Lib.hid (HO5.out.bel ((Below.refl V4.heap.size V4).alloc (Nat.le_refl _) (.cells #[.bool rd, .string rk, .string rv, .int .u64 (rc : Int), .int .u64 (rl : Int)] 90)))
          have HSRC := Lib.hid (src_rowOf (W := fun _ => True) (S := 37) (E := 90) (C := COp.cells) (sz := 5) Try.underlying37 cop_len cop_one (by omega) 1 (rowOf_new (w := V4.alloc (.cells #[.bool rd, .string rk, .string rv, .int .u64 (rc : Int), .int .u64 (rl : Int)] 90)) (g := V4.heap.size) (t := 90) (fr := (0, 0)) ⟨rd, rk, rv, rc, rl⟩ trivial rfl (heap_alloc_new V4 _)))
          go_wp2_with (first | ((with_reducible refine atStore ?_); refine wpList_store_by rfl 90 (.tmp 10) (.tmp 156) rfl (.pointer (some ⟨W4.heap.size, 0, none⟩)) _ rfl rfl HS4.out ?_) | ((with_reducible refine atLoad ?_); refine wpList_load_row rfl 90 (.tmp 10) rfl W4.heap.size rfl 90 #[.bool rd, .string rk, .string rv, .int .u64 (rc : Int), .int .u64 (rl : Int)] (0, 0) _ HL4.out Try.underlying90 rfl rop_size ?_) | (at_builtin; refine wpList_append_of Try.underlying37 HOPI.out rfl (by omega) rfl (.tmp 158) (.tmp 160) rfl (qb + 1) (.slice av l.length cv) l rfl (HVS.out ▸ HO6.out) _ [⟨rd, rk, rv, rc, rl⟩] rfl HSRC.out (Nat.le_trans (show qb + 1 ≤ V4.heap.size from (Array.getElem?_eq_some_iff.1 HX.out.c).1) (by simp)) (by have := HLL.out; simp; omega) ?_))
          intro v' W5 ho5 hg5
          obtain ⟨a5, c5, hv5⟩ := ho5.slice
          have HQ5 := Lib.hid (HY.out.grown hg5 (fun k hk => ⟨by have := (HO6.out.block k (by rw [HVS.out]; exact hk)).1; omega, HOW.out.2.1 k (by rw [HVS.out]; exact hk)⟩))
          have HW5 := Lib.hid hg5
          rw [show (l ++ [(⟨rd, rk, rv, rc, rl⟩ : COp)]).length = l.length + 1 by simp] at hv5
          subst hv5
          have HO7 := Lib.hid ho5
          obtain ⟨V6, hV6⟩ : ∃ V, V = W5.setRow qb (CReq.cells ((({ CReq.zero with tag := (9 : Int) } : CReq)).withTok s1) (.slice a5 (l.length + 1) c5)) := ⟨_, rfl⟩
          have HS6 := Lib.hid (run_storeOne W5 37 39 qb 10 _ (CReq.cells ((({ CReq.zero with tag := (9 : Int) } : CReq)).withTok s1) (.slice a5 (l.length + 1) c5)) (.slice a5 (l.length + 1) c5) HQ5.out.c sl_size (by show 10 < 16; omega) rfl rfl rfl)
          have HR6 := Lib.hid (HQ5.out.row (CReq.cells ((({ CReq.zero with tag := (9 : Int) } : CReq)).withTok s1) (.slice a5 (l.length + 1) c5)))
          have HO8 := Lib.hid (OwnOf.t3 (br := br) (bq := bq) HO7.out HQ5.out.lt (T3.setRow _ (CReq.cells ((({ CReq.zero with tag := (9 : Int) } : CReq)).withTok s1) (.slice a5 (l.length + 1) c5))))
          rw [← hV6] at HS6 HR6 HO8
          have HNEW := Lib.hid (show ∀ k, (Value.slice a5 (l.length + 1) c5).ownBlock = some k → WS.heap.size ≤ k from fun k hk => by
            rcases HW5.out.2 k hk with h | h
            · exact HOW.out.2.1 k (by rw [HVS.out]; exact h)
            · exact Nat.le_trans (Nat.le_trans HX.out.tg.size (by simp)) h)
          clear hV6 HQ5 HO7 HY HO6 HOW HO5 HX HSRC hg5 ho5 HW5 HS4 HL4 HVS hc10
          go_wp2_with ((with_reducible refine atStore ?_); refine wpList_store_by rfl 37 (.tmp 162) (.tmp 161) rfl (.pointer (some ⟨qb, 10, none⟩)) _ rfl rfl HS6.out ?_)
          go_roundw
          case rel => exact ⟨k + 1, l ++ [(⟨rd, rk, rv, rc, rl⟩ : COp)], _, s2, d2, by have := HKN.out; omega, by go_num, (show (l ++ [(⟨rd, rk, rv, rc, rl⟩ : COp)]).length = k + 1 by rw [List.length_append, HLL.out]; rfl), HE0.out, HR6.out, ⟨HO8.out, HNEW.out, HQBX.out⟩⟩
          case measure => simp [intOf]; omega
      · obtain rfl : k = n3 := by omega
        have HE0 := Lib.hid (show (l, s', bad') = R from batch_none s' bad' l R (by have h9 := HRR.out; rw [Nat.sub_self] at h9; exact h9))
        clear HRR hlt
        have HBQ := Lib.hid (HBP.out.trans (show _ = ({ ((({ CReq.zero with tag := (9 : Int) } : CReq)).withTok s1) with ops := l }, s', bad') by rw [← HE0.out]))
        clear HBP
        have HBP := Lib.hid HBQ.out
        clear HBQ
        have HU := Lib.hid HST.out
        clear HST
        obtain ⟨C9, hC9⟩ : ∃ C, C = CReq.cells { ((({ CReq.zero with tag := (9 : Int) } : CReq)).withTok s1) with ops := l } v := ⟨_, rfl⟩
        have HE := Lib.hid (show REnd bq br qb w WS ({ ((({ CReq.zero with tag := (9 : Int) } : CReq)).withTok s1) with ops := l }, s', bad') v C9 _ from ⟨hC9, hC9 ▸ HU.out, HOW.out.1, HB2.out.1, HB2.out.2, by have := HLO.out; omega⟩)
        have HRES2 := Lib.hid (HRES.out.trans (congrArg endP HBP.out))
        clear HRES
        have HRES := Lib.hid HRES2.out
        clear HRES2 HU HB2 HBP hC9
        generalize s' = s9 at *
        generalize bad' = d9 at *
        obtain ⟨l9, sh9⟩ := s9
        cases d9 with
        | true =>
          go_wp2_with ((with_reducible refine atStore ?_); refine wpList_store_by rfl 39 (.tmp 2) (.tmp 246) rfl (.pointer (some ⟨w.heap.size, 0, none⟩)) _ rfl rfl HE.out.runZ ?_)
          refine bodyPost_ret (v := .tuple #[.agg (CReq.zero.cells nilS), .bool false]) (results_row_tmp rfl _ _ w.heap.size (CReq.zero.cells nilS) rfl (run_loadVar_row _ w.heap.size _ _ _ (0, 0) _ (setRow_heap _ _ _ _ _ _ HE.out.rbW) Try.underlying39 rfl rreq_size) _ rfl) rfl ?_
          rw [HRES.out]
          exact HE.out.bad rfl
        | false =>
          cases sh9 with
          | true =>
            go_wp2_with ((with_reducible refine atStore ?_); refine wpList_store_by rfl 39 (.tmp 2) (.tmp 246) rfl (.pointer (some ⟨w.heap.size, 0, none⟩)) _ rfl rfl HE.out.runZ ?_)
            refine bodyPost_ret (v := .tuple #[.agg (CReq.zero.cells nilS), .bool false]) (results_row_tmp rfl _ _ w.heap.size (CReq.zero.cells nilS) rfl (run_loadVar_row _ w.heap.size _ _ _ (0, 0) _ (setRow_heap _ _ _ _ _ _ HE.out.rbW) Try.underlying39 rfl rreq_size) _ rfl) rfl ?_
            rw [HRES.out]
            exact HE.out.bad rfl
          | false =>
            go_wp2_with (fail)
            refine HE.out.left.mono ?_
            rintro e _ ⟨rfl, nd, rfl⟩
            have HE2 := Lib.hid (HE.out.bel' (below_drewN (Below.refl _ _) nd))
            generalize World.drewN _ nd = WD at HE2 ⊢
            by_cases hz : l9.length = 0
            · have dz : decide ((0 : Int) < (rdLeft l9 false : Int)) = false := by rw [decide_eq_false_iff_not, show rdLeft l9 false = l9.length from rfl]; omega
              have dz2 : decide (0 < rdLeft l9 false) = false := by rw [decide_eq_false_iff_not, show rdLeft l9 false = l9.length from rfl]; omega
              have HDZ := Lib.hid dz2
              have HC := Lib.hid HE2.out.st.c
              clear hz
              go_wp2_with (first | ((with_reducible refine atLoad ?_); refine wpList_load_row rfl 39 (.tmp 5) rfl qb rfl 39 C9 (0, 0) _ HC.out Try.underlying39 rfl HE2.out.size ?_) | ((with_reducible refine atStore ?_); refine wpList_store_by rfl 39 (.tmp 2) (.tmp 247) rfl (.pointer (some ⟨w.heap.size, 0, none⟩)) _ rfl rfl HE2.out.runC ?_))
              refine bodyPost_ret (v := .tuple #[.agg C9, .bool true]) (results_row_tmp rfl _ _ w.heap.size C9 rfl (run_loadVar_row _ w.heap.size _ _ _ (0, 0) _ (setRow_heap _ _ _ _ _ _ HE2.out.rbW) Try.underlying39 rfl HE2.out.size) _ rfl) rfl ?_
              rw [HRES.out]
              exact HE2.out.good HDZ.out
            · have dz : decide ((0 : Int) < (rdLeft l9 false : Int)) = true := by rw [decide_eq_true_iff, show rdLeft l9 false = l9.length from rfl]; omega
              have dz2 : decide (0 < rdLeft l9 false) = true := by rw [decide_eq_true_iff, show rdLeft l9 false = l9.length from rfl]; omega
              have HDZ := Lib.hid dz2
              clear hz
              go_wp2_with ((with_reducible refine atStore ?_); refine wpList_store_by rfl 39 (.tmp 2) (.tmp 246) rfl (.pointer (some ⟨w.heap.size, 0, none⟩)) _ rfl rfl HE2.out.runZ ?_)
              refine bodyPost_ret (v := .tuple #[.agg (CReq.zero.cells nilS), .bool false]) (results_row_tmp rfl _ _ w.heap.size (CReq.zero.cells nilS) rfl (run_loadVar_row _ w.heap.size _ _ _ (0, 0) _ (setRow_heap _ _ _ _ _ _ HE2.out.rbW) Try.underlying39 rfl rreq_size) _ rfl) rfl ?_
              rw [HRES.out]
              exact HE2.out.bad HDZ.out
end Go.Proofs.Ytlngefhjoobmdaa
