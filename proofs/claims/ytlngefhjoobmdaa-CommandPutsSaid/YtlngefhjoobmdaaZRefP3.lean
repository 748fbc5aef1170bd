/- The reference's Parse: a case (layer 16). -/
import Derived.Test.YtlngefhjoobmdaaMg6
namespace Go.Proofs.Ytlngefhjoobmdaa
open Go.RowKit
set_option maxRecDepth 100000 in
set_option maxHeartbeats 40000000 in
theorem prParse3 (a : Option Addr) (cap : Nat) (b : List UInt8) (w : World) (h : Reads w (.slice a b.length cap) b) (hl : b.length ≤ 100000000000) (s1 : RS) (ht : 3 = rN 1 (b, false)) (hs1 : s1 = rN' 1 (b, false)) : Calls Try.prog 8 #[.slice a b.length cap] w (ParseOk 90 tupB (parseP b) w) := by
  have hw1 : IntKind.i64.wrap 3 = 3 := by rw [IntKind.wrap_i64]; omega
  have HRES := Lib.hid (show parseP b = endP (bodyP 3 s1) by rw [ht, hs1]; rfl)
  have HQ1 := Lib.hid (fun bq br W (hW : IsPR bq br W (b, false) false) => by have := prNum bq br (b, false) false 1 W hW; rw [← ht, ← hs1] at this; exact this)
  have HS := Lib.hid (show QS (w.heap.size + 1 + 1) (w.heap.size + 1) (w.heap.size + 1 + 1 + 1) (IsPR (w.heap.size + 1 + 1) (w.heap.size + 1)) (World.alloc (pr3 w a b.length cap) Z39) 39 (CReq.zero.cells nilS) (b, false) false (World.alloc (pr3 w a b.length cap) Z39) ∧ Below w.heap.size w (World.alloc (pr3 w a b.length cap) Z39) ∧ (World.alloc (pr3 w a b.length cap) Z39).heap[w.heap.size]? = some Z39 from rparse_qs h hl)
  obtain ⟨n2, hn2⟩ : ∃ x, x = rN 8 s1 := ⟨_, rfl⟩
  obtain ⟨s2, hs2⟩ : ∃ x, x = rN' 8 s1 := ⟨_, rfl⟩
  have HQ2 := Lib.hid (fun bq br W (hW : IsPR bq br W s1 false) => by have := prNum bq br s1 false 8 W hW; rw [← hn2, ← hs2] at this; exact this)
  have hb2 : (n2 : Int) ≤ 18446744073709551615 := by have := rN8 s1; omega
  obtain ⟨n3, hn3⟩ : ∃ x, x = rN 1 s2 := ⟨_, rfl⟩
  obtain ⟨s3, hs3⟩ : ∃ x, x = rN' 1 s2 := ⟨_, rfl⟩
  have HQ3 := Lib.hid (fun bq br W (hW : IsPR bq br W s2 false) => by have := prNum bq br s2 false 1 W hW; rw [← hn3, ← hs3] at this; exact this)
  have hb3 : (n3 : Int) ≤ 255 := by have := rN1 s2; omega
  have hw3 : IntKind.i64.wrap (n3 : Int) = (n3 : Int) := by rw [IntKind.wrap_i64]; omega
  obtain ⟨k63, hk63⟩ : ∃ x, x = decide (63 < n3) := ⟨_, rfl⟩
  have h63 : decide ((63 : Int) < (n3 : Int)) = k63 := by rw [hk63, Bool.eq_iff_iff]; simp <;> omega
  have h63' : decide (63 < n3) = k63 := hk63.symm
  have hk64 : (!decide (n3 < 64)) = k63 := by rw [hk63, Bool.eq_iff_iff]; simp <;> omega
  have hz3 : ((63 : Int) < (n3 : Int)) ↔ k63 = true := by rw [← h63]; simp
  obtain ⟨n4, hn4⟩ : ∃ x, x = rN 8 s3 := ⟨_, rfl⟩
  obtain ⟨s4, hs4⟩ : ∃ x, x = rN' 8 s3 := ⟨_, rfl⟩
  have HQ4 := Lib.hid (fun bq br W (hW : IsPR bq br W s3 k63) => by have := prNum bq br s3 k63 8 W hW; rw [← hn4, ← hs4] at this; exact this)
  have hb4 : (n4 : Int) ≤ 18446744073709551615 := by have := rN8 s3; omega
  obtain ⟨z4, hw4⟩ : ∃ z, IntKind.i64.wrap (n4 : Int) = z := ⟨_, rfl⟩
  obtain ⟨n5, hn5⟩ : ∃ x, x = rN 8 s4 := ⟨_, rfl⟩
  obtain ⟨s5, hs5⟩ : ∃ x, x = rN' 8 s4 := ⟨_, rfl⟩
  have HQ5 := Lib.hid (fun bq br W (hW : IsPR bq br W s4 k63) => by have := prNum bq br s4 k63 8 W hW; rw [← hn5, ← hs5] at this; exact this)
  have hb5 : (n5 : Int) ≤ 18446744073709551615 := by have := rN8 s4; omega
  obtain ⟨z5, hw5⟩ : ∃ z, IntKind.i64.wrap (n5 : Int) = z := ⟨_, rfl⟩
  obtain ⟨n6, hn6⟩ : ∃ x, x = rN 8 s5 := ⟨_, rfl⟩
  obtain ⟨s6, hs6⟩ : ∃ x, x = rN' 8 s5 := ⟨_, rfl⟩
  have HQ6 := Lib.hid (fun bq br W (hW : IsPR bq br W s5 k63) => by have := prNum bq br s5 k63 8 W hW; rw [← hn6, ← hs6] at this; exact this)
  have hb6 : (n6 : Int) ≤ 18446744073709551615 := by have := rN8 s5; omega
  obtain ⟨z6, hw6⟩ : ∃ z, IntKind.i64.wrap (n6 : Int) = z := ⟨_, rfl⟩
  obtain ⟨nk, hkq⟩ : ∃ x, x = !quotaB z4 z5 z6 := ⟨_, rfl⟩
  have hqn : quotaB z4 z5 z6 = !nk := by rw [hkq]; simp
  have HQQ := Lib.hid (fun W => by have := refQuota z4 z5 z6 W; unfold QuotaOk at this; rw [hqn] at this; exact this)
  clear hqn
  have HBP := Lib.hid (show bodyP 3 s1 = (({ CReq.zero with tag := (3 : Int), admin := n2, bucket := (n3 : Int), qk := z4, qb := z5, qg := z6 } : CReq), s6, (k63 || nk)) by rw [hkq, ← hw4, ← hw5, ← hw6, hn6, hs6, hn5, hs5, hn4, hs4, ← hk64, hn3, hs3, hn2, hs2]; rfl)
  clear ht hs1 h hl hn2 hs2 hn3 hs3 hk63 hk64 hz3 hn4 hs4 hn5 hs5 hn6 hs6 hkq
  go_enter Try.func8, Try.ntmps8
  go_wp2_with fail
  refine (HQ1.out _ _ _ HS.out.1.rd).mono ?_
  rintro e W1 ⟨rfl, hr, hg⟩
  have HT := Lib.hid (HS.out.1.call hr hg)
  have HB2 := Lib.hid HS.out.2
  have HLO := Lib.hid (show w.heap.size < w.heap.size + 1 ∧ w.heap.size < w.heap.size + 1 + 1 ∧ w.heap.size < w.heap.size + 1 + 1 + 1 by omega)
  generalize World.alloc (pr3 w a b.length cap) Z39 = WS at HT HB2
  clear HS HQ1 hr hg
  generalize w.heap.size + 1 + 1 + 1 = qb at *
  generalize w.heap.size + 1 + 1 = bq at *
  generalize w.heap.size + 1 = br at *
  obtain ⟨V1, hV1⟩ : ∃ V, V = W1.setRow qb (CReq.cells ({ CReq.zero with tag := (3 : Int) } : CReq) nilS) := ⟨_, rfl⟩
  have HS1 := Lib.hid (run_storeOne W1 3 39 qb 0 _ (CReq.cells ({ CReq.zero with tag := (3 : Int) } : CReq) nilS) (.int .i64 3) HT.out.c int_size (by show 0 < 16; omega) rfl rfl rfl)
  have HU := Lib.hid (HT.out.row (CReq.cells ({ CReq.zero with tag := (3 : Int) } : CReq) nilS))
  rw [← hV1] at HS1 HU
  clear HT hV1
  try clear b0 b1 t0 sh
  try clear cn
  have cn := HU.out.cell 0 (v := .int .i64 3) rfl
  have b0 := HU.out.rd.cells.c0
  have b1 := HU.out.rd.cells.c1
  have t0 := HU.out.cell 0 (v := .int .i64 3) rfl
  have sh := HU.out.rd.short
  go_wp2_with ((with_reducible refine atStore ?_); refine wpList_store_by rfl 3 (.tmp 22) (.tmp 21) rfl (.pointer (some ⟨qb, 0, none⟩)) _ rfl rfl HS1.out ?_)
  refine (HQ2.out _ _ _ HU.out.rd).mono ?_
  rintro e W2 ⟨rfl, hr, hg⟩
  have HT := Lib.hid (HU.out.call hr hg)
  clear HU HQ2 hr hg
  obtain ⟨V2, hV2⟩ : ∃ V, V = W2.setRow qb (CReq.cells ({ CReq.zero with tag := (3 : Int), admin := n2 } : CReq) nilS) := ⟨_, rfl⟩
  have HS2 := Lib.hid (run_storeOne W2 24 39 qb 1 _ (CReq.cells ({ CReq.zero with tag := (3 : Int), admin := n2 } : CReq) nilS) (.int .u64 (n2 : Int)) HT.out.c u64_size (by show 1 < 16; omega) rfl rfl rfl)
  have HU := Lib.hid (HT.out.row (CReq.cells ({ CReq.zero with tag := (3 : Int), admin := n2 } : CReq) nilS))
  rw [← hV2] at HS2 HU
  clear HT hV2
  try clear b0 b1 t0 sh
  try clear cn
  have cn := HU.out.cell 1 (v := .int .u64 (n2 : Int)) rfl
  have b0 := HU.out.rd.cells.c0
  have b1 := HU.out.rd.cells.c1
  have t0 := HU.out.cell 0 (v := .int .i64 3) rfl
  have sh := HU.out.rd.short
  go_wp2_with ((with_reducible refine atStore ?_); refine wpList_store_by rfl 24 (.tmp 40) (.tmp 39) rfl (.pointer (some ⟨qb, 1, none⟩)) _ rfl rfl HS2.out ?_)
  refine (HQ3.out _ _ _ HU.out.rd).mono ?_
  rintro e W3 ⟨rfl, hr, hg⟩
  have HT := Lib.hid (HU.out.call hr hg)
  clear HU HQ3 hr hg
  obtain ⟨V3, hV3⟩ : ∃ V, V = W3.setRow qb (CReq.cells ({ CReq.zero with tag := (3 : Int), admin := n2, bucket := (n3 : Int) } : CReq) nilS) := ⟨_, rfl⟩
  have HS3 := Lib.hid (run_storeOne W3 3 39 qb 2 _ (CReq.cells ({ CReq.zero with tag := (3 : Int), admin := n2, bucket := (n3 : Int) } : CReq) nilS) (.int .i64 (n3 : Int)) HT.out.c int_size (by show 2 < 16; omega) rfl rfl rfl)
  have HU := Lib.hid (HT.out.row (CReq.cells ({ CReq.zero with tag := (3 : Int), admin := n2, bucket := (n3 : Int) } : CReq) nilS))
  rw [← hV3] at HS3 HU
  clear HT hV3
  try clear b0 b1 t0 sh
  try clear cn
  have cn := HU.out.cell 2 (v := .int .i64 (n3 : Int)) rfl
  have b0 := HU.out.rd.cells.c0
  have b1 := HU.out.rd.cells.c1
  have t0 := HU.out.cell 0 (v := .int .i64 3) rfl
  have sh := HU.out.rd.short
  have HNB := Lib.hid (HU.out.runBad k63)
  have HV := Lib.hid (HU.out.setBad k63)
  obtain ⟨VB, hVB⟩ : ∃ V, V = World.setRow V3 bq (pBox br k63) := ⟨_, rfl⟩
  rw [← hVB] at HNB HV
  clear HU hVB
  have HU := Lib.hid HV.out
  clear HV
  have b0' := HU.out.rd.cells.c0
  have b1' := HU.out.rd.cells.c1
  have t0' := HU.out.cell 0 (v := .int .i64 3) rfl
  have sh' := HU.out.rd.short
  go_wp2_with (first | ((with_reducible refine atStore ?_); refine wpList_store_by rfl 3 (.tmp 53) (.tmp 52) rfl (.pointer (some ⟨qb, 2, none⟩)) _ rfl rfl HS3.out ?_) | ((with_reducible refine atStore ?_); refine wpList_store_by rfl 4 (.tmp 65) (.tmp 63) rfl (.pointer (some ⟨bq, 1, none⟩)) _ rfl rfl HNB.out ?_))
  refine (HQ4.out _ _ _ HU.out.rd).mono ?_
  rintro e W4 ⟨rfl, hr, hg⟩
  have HT := Lib.hid (HU.out.call hr hg)
  clear HU HQ4 hr hg
  obtain ⟨V4, hV4⟩ : ∃ V, V = W4.setRow qb (CReq.cells ({ CReq.zero with tag := (3 : Int), admin := n2, bucket := (n3 : Int), qk := z4 } : CReq) nilS) := ⟨_, rfl⟩
  have HS4 := Lib.hid (run_storeOne W4 2 39 qb 3 _ (CReq.cells ({ CReq.zero with tag := (3 : Int), admin := n2, bucket := (n3 : Int), qk := z4 } : CReq) nilS) (.int .i64 z4) HT.out.c i64_size (by show 3 < 16; omega) rfl rfl rfl)
  have HU := Lib.hid (HT.out.row (CReq.cells ({ CReq.zero with tag := (3 : Int), admin := n2, bucket := (n3 : Int), qk := z4 } : CReq) nilS))
  rw [← hV4] at HS4 HU
  clear HT hV4
  try clear b0 b1 t0 sh
  try clear cn
  have cn := HU.out.cell 3 (v := .int .i64 z4) rfl
  have b0 := HU.out.rd.cells.c0
  have b1 := HU.out.rd.cells.c1
  have t0 := HU.out.cell 0 (v := .int .i64 3) rfl
  have sh := HU.out.rd.short
  go_wp2_with ((with_reducible refine atStore ?_); refine wpList_store_by rfl 2 (.tmp 78) (.tmp 76) rfl (.pointer (some ⟨qb, 3, none⟩)) _ rfl rfl HS4.out ?_)
  refine (HQ5.out _ _ _ HU.out.rd).mono ?_
  rintro e W5 ⟨rfl, hr, hg⟩
  have HT := Lib.hid (HU.out.call hr hg)
  clear HU HQ5 hr hg
  obtain ⟨V5, hV5⟩ : ∃ V, V = W5.setRow qb (CReq.cells ({ CReq.zero with tag := (3 : Int), admin := n2, bucket := (n3 : Int), qk := z4, qb := z5 } : CReq) nilS) := ⟨_, rfl⟩
  have HS5 := Lib.hid (run_storeOne W5 2 39 qb 4 _ (CReq.cells ({ CReq.zero with tag := (3 : Int), admin := n2, bucket := (n3 : Int), qk := z4, qb := z5 } : CReq) nilS) (.int .i64 z5) HT.out.c i64_size (by show 4 < 16; omega) rfl rfl rfl)
  have HU := Lib.hid (HT.out.row (CReq.cells ({ CReq.zero with tag := (3 : Int), admin := n2, bucket := (n3 : Int), qk := z4, qb := z5 } : CReq) nilS))
  rw [← hV5] at HS5 HU
  clear HT hV5
  try clear b0 b1 t0 sh
  try clear cn
  have cn := HU.out.cell 4 (v := .int .i64 z5) rfl
  have b0 := HU.out.rd.cells.c0
  have b1 := HU.out.rd.cells.c1
  have t0 := HU.out.cell 0 (v := .int .i64 3) rfl
  have sh := HU.out.rd.short
  go_wp2_with ((with_reducible refine atStore ?_); refine wpList_store_by rfl 2 (.tmp 86) (.tmp 84) rfl (.pointer (some ⟨qb, 4, none⟩)) _ rfl rfl HS5.out ?_)
  refine (HQ6.out _ _ _ HU.out.rd).mono ?_
  rintro e W6 ⟨rfl, hr, hg⟩
  have HT := Lib.hid (HU.out.call hr hg)
  clear HU HQ6 hr hg
  obtain ⟨V6, hV6⟩ : ∃ V, V = W6.setRow qb (CReq.cells ({ CReq.zero with tag := (3 : Int), admin := n2, bucket := (n3 : Int), qk := z4, qb := z5, qg := z6 } : CReq) nilS) := ⟨_, rfl⟩
  have HS6 := Lib.hid (run_storeOne W6 2 39 qb 5 _ (CReq.cells ({ CReq.zero with tag := (3 : Int), admin := n2, bucket := (n3 : Int), qk := z4, qb := z5, qg := z6 } : CReq) nilS) (.int .i64 z6) HT.out.c i64_size (by show 5 < 16; omega) rfl rfl rfl)
  have HU := Lib.hid (HT.out.row (CReq.cells ({ CReq.zero with tag := (3 : Int), admin := n2, bucket := (n3 : Int), qk := z4, qb := z5, qg := z6 } : CReq) nilS))
  rw [← hV6] at HS6 HU
  clear HT hV6
  try clear b0 b1 t0 sh
  try clear cn
  have cn := HU.out.cell 5 (v := .int .i64 z6) rfl
  have b0 := HU.out.rd.cells.c0
  have b1 := HU.out.rd.cells.c1
  have t0 := HU.out.cell 0 (v := .int .i64 3) rfl
  have sh := HU.out.rd.short
  have HRG := Lib.hid (range_of_row HU.out.c (o := 3) [.int .i64 z4, .int .i64 z5, .int .i64 z6] (by intro j v hv; rcases j with _ | _ | _ | j <;> simp at hv <;> subst hv <;> rfl))
  go_wp2_with (first | ((with_reducible refine atStore ?_); refine wpList_store_by rfl 2 (.tmp 94) (.tmp 92) rfl (.pointer (some ⟨qb, 5, none⟩)) _ rfl rfl HS6.out ?_) | ((with_reducible refine atLoad ?_); refine wpList_load_mid rfl 26 (.tmp 95) rfl qb 3 rfl [.int .i64 z4, .int .i64 z5, .int .i64 z6] _ HRG.out Try.underlying26 rfl quo_size ?_))
  refine (HQQ.out _).mono ?_
  rintro e W7 ⟨rfl, hW7⟩
  have HV := Lib.hid (HU.out.bel' (show Below _ _ W7 by rw [← hW7]; exact (Below.refl _ _).alloc (Nat.le_refl _) _))
  clear HU hW7 HQQ HRG cn
  try clear b0 b1 t0 sh
  have HU := Lib.hid HV.out
  clear HV
  have b0 := HU.out.rd.cells.c0
  have b1 := HU.out.rd.cells.c1
  have t0 := HU.out.cell 0 (v := .int .i64 3) rfl
  have sh := HU.out.rd.short
  cases k63 with
  | true =>
    have HNB := Lib.hid (HU.out.runBad true)
    have HV := Lib.hid (HU.out.setBad true)
    obtain ⟨VB, hVB⟩ : ∃ V, V = World.setRow W7 bq (pBox br true) := ⟨_, rfl⟩
    rw [← hVB] at HNB HV
    clear HU hVB
    have HU := Lib.hid HV.out
    clear HV
    have b0' := HU.out.rd.cells.c0
    have b1' := HU.out.rd.cells.c1
    have t0' := HU.out.cell 0 (v := .int .i64 3) rfl
    have sh' := HU.out.rd.short
    obtain ⟨C9, hC9⟩ : ∃ C, C = CReq.cells ({ CReq.zero with tag := (3 : Int), admin := n2, bucket := (n3 : Int), qk := z4, qb := z5, qg := z6 } : CReq) nilS := ⟨_, rfl⟩
    have HE := Lib.hid (show REnd bq br qb w WS (({ CReq.zero with tag := (3 : Int), admin := n2, bucket := (n3 : Int), qk := z4, qb := z5, qg := z6 } : CReq), s6, true) nilS C9 _ from ⟨hC9, hC9 ▸ HU.out, OwnOf.nil _ _, HB2.out.1, HB2.out.2, by have := HLO.out; omega⟩)
    have HRES2 := Lib.hid (HRES.out.trans (congrArg endP HBP.out))
    clear HRES
    have HRES := Lib.hid HRES2.out
    clear HRES2 HU HB2 HBP hC9
    generalize s6 = s9 at *
    obtain ⟨l9, sh9⟩ := s9
    go_wp2_with (first | ((with_reducible refine atStore ?_); refine wpList_store_by rfl 4 (.tmp 108) (.tmp 106) rfl (.pointer (some ⟨bq, 1, none⟩)) _ rfl rfl HNB.out ?_) | ((with_reducible refine atStore ?_); refine wpList_store_by rfl 39 (.tmp 2) (.tmp 246) rfl (.pointer (some ⟨w.heap.size, 0, none⟩)) _ rfl rfl HE.out.runZ ?_))
    refine bodyPost_ret (v := .tuple #[.agg (CReq.zero.cells nilS), .bool false]) (results_row_tmp rfl _ _ w.heap.size (CReq.zero.cells nilS) rfl (run_loadVar_row _ w.heap.size _ _ _ (0, 0) _ (setRow_heap _ _ _ _ _ _ HE.out.rbW) Try.underlying39 rfl rreq_size) _ rfl) rfl ?_
    rw [HRES.out]
    exact HE.out.bad rfl
  | false =>
    have HNB := Lib.hid (HU.out.runBad nk)
    have HV := Lib.hid (HU.out.setBad nk)
    obtain ⟨VB, hVB⟩ : ∃ V, V = World.setRow W7 bq (pBox br nk) := ⟨_, rfl⟩
    rw [← hVB] at HNB HV
    clear HU hVB
    have HU := Lib.hid HV.out
    clear HV
    have b0' := HU.out.rd.cells.c0
    have b1' := HU.out.rd.cells.c1
    have t0' := HU.out.cell 0 (v := .int .i64 3) rfl
    have sh' := HU.out.rd.short
    obtain ⟨C9, hC9⟩ : ∃ C, C = CReq.cells ({ CReq.zero with tag := (3 : Int), admin := n2, bucket := (n3 : Int), qk := z4, qb := z5, qg := z6 } : CReq) nilS := ⟨_, rfl⟩
    have HE := Lib.hid (show REnd bq br qb w WS (({ CReq.zero with tag := (3 : Int), admin := n2, bucket := (n3 : Int), qk := z4, qb := z5, qg := z6 } : CReq), s6, nk) nilS C9 _ from ⟨hC9, hC9 ▸ HU.out, OwnOf.nil _ _, HB2.out.1, HB2.out.2, by have := HLO.out; omega⟩)
    have HRES2 := Lib.hid (HRES.out.trans (congrArg endP HBP.out))
    clear HRES
    have HRES := Lib.hid HRES2.out
    clear HRES2 HU HB2 HBP hC9
    generalize s6 = s9 at *
    generalize nk = d9 at *
    obtain ⟨l9, sh9⟩ := s9
    cases d9 with
    | true =>
      go_wp2_with (first | ((with_reducible refine atStore ?_); refine wpList_store_by rfl 4 (.tmp 108) (.tmp 106) rfl (.pointer (some ⟨bq, 1, none⟩)) _ rfl rfl HNB.out ?_) | ((with_reducible refine atStore ?_); refine wpList_store_by rfl 39 (.tmp 2) (.tmp 246) rfl (.pointer (some ⟨w.heap.size, 0, none⟩)) _ rfl rfl HE.out.runZ ?_))
      refine bodyPost_ret (v := .tuple #[.agg (CReq.zero.cells nilS), .bool false]) (results_row_tmp rfl _ _ w.heap.size (CReq.zero.cells nilS) rfl (run_loadVar_row _ w.heap.size _ _ _ (0, 0) _ (setRow_heap _ _ _ _ _ _ HE.out.rbW) Try.underlying39 rfl rreq_size) _ rfl) rfl ?_
      rw [HRES.out]
      exact HE.out.bad rfl
    | false =>
      cases sh9 with
      | true =>
        go_wp2_with (first | ((with_reducible refine atStore ?_); refine wpList_store_by rfl 4 (.tmp 108) (.tmp 106) rfl (.pointer (some ⟨bq, 1, none⟩)) _ rfl rfl HNB.out ?_) | ((with_reducible refine atStore ?_); refine wpList_store_by rfl 39 (.tmp 2) (.tmp 246) rfl (.pointer (some ⟨w.heap.size, 0, none⟩)) _ rfl rfl HE.out.runZ ?_))
        refine bodyPost_ret (v := .tuple #[.agg (CReq.zero.cells nilS), .bool false]) (results_row_tmp rfl _ _ w.heap.size (CReq.zero.cells nilS) rfl (run_loadVar_row _ w.heap.size _ _ _ (0, 0) _ (setRow_heap _ _ _ _ _ _ HE.out.rbW) Try.underlying39 rfl rreq_size) _ rfl) rfl ?_
        rw [HRES.out]
        exact HE.out.bad rfl
      | false =>
        go_wp2_with ((with_reducible refine atStore ?_); refine wpList_store_by rfl 4 (.tmp 108) (.tmp 106) rfl (.pointer (some ⟨bq, 1, none⟩)) _ rfl rfl HNB.out ?_)
        refine HE.out.left.mono ?_
        rintro e _ ⟨rfl, nd, rfl⟩
        have HE2 := Lib.hid (HE.out.bel' (below_drewN (Below.refl _ _) nd))
        generalize World.drewN _ nd = WD at HE2 ⊢
        by_cases hz : l9.length = 0
        · have dz : decide ((0 : Int) < (rdLeft l9 false : Int)) = false := by rw [decide_eq_false_iff_not, show rdLeft l9 false = l9.length from rfl]; omega
          have dz2 : decide (0 < rdLeft l9 false) = false := by rw [decide_eq_false_iff_not, show rdLeft l9 false = l9.length from rfl]; omega
          have HDZ := Lib.hid dz2
          have HC := Lib.hid HE2.out.st.c
          clear hz
          go_wp2_with (first | ((with_reducible refine atLoad ?_); refine wpList_load_row rfl 39 (.tmp 5) rfl qb rfl 39 C9 (0, 0) _ HC.out Try.underlying39 rfl HE2.out.size ?_) | ((with_reducible refine atStore ?_); refine wpList_store_by rfl 39 (.tmp 2) (.tmp 247) rfl (.pointer (some ⟨w.heap.size, 0, none⟩)) _ rfl rfl HE2.out.runC ?_))
          refine bodyPost_ret (v := .tuple #[.agg C9, .bool true]) (results_row_tmp rfl _ _ w.heap.size C9 rfl (run_loadVar_row _ w.heap.size _ _ _ (0, 0) _ (setRow_heap _ _ _ _ _ _ HE2.out.rbW) Try.underlying39 rfl HE2.out.size) _ rfl) rfl ?_
          rw [HRES.out]
          exact HE2.out.good HDZ.out
        · have dz : decide ((0 : Int) < (rdLeft l9 false : Int)) = true := by rw [decide_eq_true_iff, show rdLeft l9 false = l9.length from rfl]; omega
          have dz2 : decide (0 < rdLeft l9 false) = true := by rw [decide_eq_true_iff, show rdLeft l9 false = l9.length from rfl]; omega
          have HDZ := Lib.hid dz2
          clear hz
          go_wp2_with ((with_reducible refine atStore ?_); refine wpList_store_by rfl 39 (.tmp 2) (.tmp 246) rfl (.pointer (some ⟨w.heap.size, 0, none⟩)) _ rfl rfl HE2.out.runZ ?_)
          refine bodyPost_ret (v := .tuple #[.agg (CReq.zero.cells nilS), .bool false]) (results_row_tmp rfl _ _ w.heap.size (CReq.zero.cells nilS) rfl (run_loadVar_row _ w.heap.size _ _ _ (0, 0) _ (setRow_heap _ _ _ _ _ _ HE2.out.rbW) Try.underlying39 rfl rreq_size) _ rfl) rfl ?_
          rw [HRES.out]
          exact HE2.out.bad HDZ.out
end Go.Proofs.Ytlngefhjoobmdaa
