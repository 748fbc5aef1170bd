/- The reference's Bytes (layer 16). -/
import Derived.Test.YtlngefhjoobmdaaMg8
namespace Go.Proofs.Ytlngefhjoobmdaa
open Go.RowKit
set_option maxRecDepth 100000 in
set_option maxHeartbeats 4000000 in
theorem rBytes9 (ad : Nat) (bu qk qb qg tb : Int) (tg ts tc : Nat) (ops : List COp) (af : ByteArray) (fi : Bool) (co ri : Int) (se : Nat) (a : Option Addr) (cap : Nat) (w : World) (hrow : IsRowOf COp.cells (fun _ => True) 5 w a ops) (had : ad < 18446744073709551616) (htg : tg < 4294967296) (hts : ts < 4294967296) (htc : tc < 18446744073709551616) (hse : se < 4294967296) (haf : af.size ≤ maxLen) (hop : ∀ x ∈ ops, x.wf) (hn : ops.length ≤ 1000) :
    Calls Try.prog 37 #[.agg #[.int .i64 9, .int .u64 (ad : Int), .int .i64 bu, .int .i64 qk, .int .i64 qb, .int .i64 qg, .int .i64 tb, .int .u32 (tg : Int), .int .u32 (ts : Int), .int .u64 (tc : Int), .slice a ops.length cap, .string af, .bool fi, .int .i64 co, .int .i64 ri, .int .u32 (se : Int)]] w (Makes w (bytesR ⟨9, ad, bu, qk, qb, qg, tb, tg, ts, tc, ops, af, fi, co, ri, se⟩)) := by
  have HEQ := Lib.hid (show bytesR ⟨9, ad, bu, qk, qb, qg, tb, tg, ts, tc, ops, af, fi, co, ri, se⟩ = (putL 9 1 ++ tokL tb tg ts tc ++ [UInt8.ofNat ops.length]) ++ opsL 9 ops by unfold bytesR headR tailQ; simp [show u64N 9 = 9 from rfl, putL_one])
  have HB := Lib.hid (show 0 ≤ 1000000000 ∧ ad < 18446744073709551616 ∧ tg < 4294967296 ∧ ts < 4294967296 ∧ tc < 18446744073709551616 ∧ se < 4294967296 ∧ af.size ≤ maxLen ∧ ops.length ≤ 1000 from ⟨by omega, had, htg, hts, htc, hse, haf, hn⟩)
  have HROW := Lib.hid hrow
  have HOP := Lib.hid hop
  have hwk := wrap_u64N qk
  have hwq := wrap_u64N qb
  have hwg := wrap_u64N qg
  have hws : IntKind.u64.wrap (se : Int) = (se : Int) := by rw [IntKind.wrap_u64]; omega
  clear had htg hts htc hse haf hop hrow hn
  generalize hnn : ops.length = n at HB ⊢
  have HNN := Lib.hid hnn
  clear hnn
  obtain ⟨v0, hv0⟩ : ∃ v, v = Value.slice (some ⟨(w.alloc (.cells #[.int .i64 9, .int .u64 (ad : Int), .int .i64 bu, .int .i64 qk, .int .i64 qb, .int .i64 qg, .int .i64 tb, .int .u32 (tg : Int), .int .u32 (ts : Int), .int .u64 (tc : Int), .slice a n cap, .string af, .bool fi, .int .i64 co, .int .i64 ri, .int .u32 (se : Int)] 39)).heap.size, 0, none⟩) 1 1 := ⟨_, rfl⟩
  have HS0 := Lib.hid (BS.start (B := w.heap.size) (OwnB.one w.heap.size (w.alloc (.cells #[.int .i64 9, .int .u64 (ad : Int), .int .i64 bu, .int .i64 qk, .int .i64 qb, .int .i64 qg, .int .i64 tb, .int .u32 (tg : Int), .int .u32 (ts : Int), .int .u64 (tc : Int), .slice a n cap, .string af, .bool fi, .int .i64 co, .int .i64 ri, .int .u32 (se : Int)] 39)) 9 (UInt8.ofNat 9) (by rfl) (by simp)) (by simp; omega))
  rw [← putL_one, ← hv0] at HS0
  have HR0 := Lib.hid ((Below.heap_alloc (w.alloc (.cells #[.int .i64 9, .int .u64 (ad : Int), .int .i64 bu, .int .i64 qk, .int .i64 qb, .int .i64 qg, .int .i64 tb, .int .u32 (tg : Int), .int .u32 (ts : Int), .int .u64 (tc : Int), .slice a n cap, .string af, .bool fi, .int .i64 co, .int .i64 ri, .int .u32 (se : Int)] 39)) (.cells #[.int .u8 9] 5) w.heap.size (by simp)).trans (heap_alloc_new w (.cells #[.int .i64 9, .int .u64 (ad : Int), .int .i64 bu, .int .i64 qk, .int .i64 qb, .int .i64 qg, .int .i64 tb, .int .u32 (tg : Int), .int .u32 (ts : Int), .int .u64 (tc : Int), .slice a n cap, .string af, .bool fi, .int .i64 co, .int .i64 ri, .int .u32 (se : Int)] 39)))
  have HBA := Lib.hid (((Below.refl w.heap.size w).alloc (Nat.le_refl _) (.cells #[.int .i64 9, .int .u64 (ad : Int), .int .i64 bu, .int .i64 qk, .int .i64 qb, .int .i64 qg, .int .i64 tb, .int .u32 (tg : Int), .int .u32 (ts : Int), .int .u64 (tc : Int), .slice a n cap, .string af, .bool fi, .int .i64 co, .int .i64 ri, .int .u32 (se : Int)] 39)).alloc (by simp) (.cells #[.int .u8 9] 5))
  have HT0 := Lib.hid (range_row HR0.out (o := 6) [.int .i64 tb, .int .u32 (tg : Int), .int .u32 (ts : Int), .int .u64 (tc : Int)] (by intro j v hv; rcases j with _ | _ | _ | _ | j <;> simp at hv <;> subst hv <;> rfl))
  rw [World.size_alloc] at hv0
  go_enter Try.func37, Try.ntmps37
  go_wp2_with ((with_reducible refine atLoad ?_); refine wpList_load_mid rfl 29 (.tmp 18) rfl w.heap.size 6 rfl [.int .i64 tb, .int .u32 (tg : Int), .int .u32 (ts : Int), .int .u64 (tc : Int)] _ HT0.out Try.underlying29 rfl tok_size' ?_)
  rw [← hv0]
  clear hv0 HT0
  generalize ((w.alloc (.cells #[.int .i64 9, .int .u64 (ad : Int), .int .i64 bu, .int .i64 qk, .int .i64 qb, .int .i64 qg, .int .i64 tb, .int .u32 (tg : Int), .int .u32 (ts : Int), .int .u64 (tc : Int), .slice a n cap, .string af, .bool fi, .int .i64 co, .int .i64 ri, .int .u32 (se : Int)] 39)).alloc (.cells #[.int .u8 9] 5)) = W0 at *
  refine (rTok _ _ _ tb tg ts tc _ HS0.out.own HS0.out.le (by have := HB.out.1; have := textL_len9 af.data.toList; first | omega | (simp; done) | (simp; omega)) HB.out.2.2.1 HB.out.2.2.2.1 HB.out.2.2.2.2.1).mono ?_
  intro e W1 hp
  obtain ⟨v1, rfl, hs⟩ := HS0.out.put hp
  have HS1 := Lib.hid hs
  have HR1 := Lib.hid (HS1.out.row (by decide) HR0.out)
  clear hp hs HS0
  have hcl0 := (cell_of_row W1 w.heap.size 0 _ _ _ HR1.out).trans (show _ = some (.int .i64 9) from rfl)
  have hcl10 := (cell_of_row W1 w.heap.size 10 _ _ _ HR1.out).trans (show _ = some (.slice a n cap) from rfl)
  go_wp2_with (at_builtin; go_must (refine wpList_append_bytes rfl (.tmp 55) (.tmp 60) 22 rfl w.heap.size _ _ rfl (HS1.out.own.alloc _) _ [UInt8.ofNat n] rfl (srcB_one W1 _ _ (by first | exact u8_nat n | simpa using u8_nat n)) ?c2_1 ?c2_2 ?_))
  case c2_1 => exact Nat.le_trans HS1.out.le (by simp)
  case c2_2 => have := HB.out.1; have := textL_len9 af.data.toList; first | omega | (simp; done) | (simp; omega)
  intro v2 W2 ho hg
  have h9 := (HS1.out.alloc _).step ho hg
  have HS2 := Lib.hid (show BS w.heap.size W0 v0 W2 v2 (putL 9 1 ++ tokL tb tg ts tc ++ [UInt8.ofNat n]) by first | exact h9 | simpa [List.append_assoc] using h9)
  clear h9
  have HR2 := Lib.hid (HS2.out.row (by decide) HR0.out)
  clear ho hg HS1 hcl0 hcl10
  have hcl0 := (cell_of_row W2 w.heap.size 0 _ _ _ HR2.out).trans (show _ = some (.int .i64 9) from rfl)
  have hcl10 := (cell_of_row W2 w.heap.size 10 _ _ _ HR2.out).trans (show _ = some (.slice a n cap) from rfl)
  go_wp2_with fail
  clear hcl0 hcl10
  have HL0 := Lib.hid (show (putL 9 1 ++ tokL tb tg ts tc ++ [UInt8.ofNat n]).length ≤ 400000 by have := textL_len9 af.data.toList; first | omega | (simp; done) | (simp; omega))
  obtain ⟨L0, hL0⟩ : ∃ L, L = putL 9 1 ++ tokL tb tg ts tc ++ [UInt8.ofNat n] := ⟨_, rfl⟩
  rw [← hL0] at HS2 HL0
  have HGL := Lib.hid hL0
  clear hL0
  go_loopw [3, 4] (fun o i wr => ∃ k : Nat, k ≤ n ∧ i = .int .i64 k ∧ Hid (BS w.heap.size W0 v0 wr o (L0 ++ opsL 9 (ops.take k)))) (fun _ i _ => n - (intOf i).toNat)
  case atStart => exact ⟨0, Nat.zero_le _, rfl, by have := HS2; simpa [opsL] using this⟩
  case round =>
    obtain ⟨k, hk, rfl, HST⟩ := hrel
    clear HS2 HR2
    have HR9 := Lib.hid (HST.out.row (by decide) HR0.out)
    have hc10 := (cell_of_row wr w.heap.size 10 _ _ _ HR9.out).trans (show _ = some (.slice a n cap) from rfl)
    by_cases hlt : k < n
    · have hki : (k : Int) < (n : Int) := by omega
      have hk9 : k < 1000 := by have := HB.out.2.2.2.2.2.2.2; omega
      have hkl : k < ops.length := by have := HNN.out; omega
      obtain ⟨b, off, rfl, hb, hc, _⟩ := HROW.out k hkl
      have HX := Lib.hid (range_of (W := w) hc)
      have HBL := Lib.hid hb
      have HOX := Lib.hid (HOP.out _ (List.getElem_mem hkl))
      have HTK := Lib.hid (opsL_take 9 ops k hkl)
      have HLN := Lib.hid (show (L0 ++ opsL 9 (ops.take k)).length ≤ 200000000 by have := HL0.out; have := opsL_len 9 (ops.take k); have := HB.out.2.2.2.2.2.2.2; rw [List.length_append]; rw [List.length_take] at *; omega)
      clear hc hb
      generalize ops[k] = x at *
      obtain ⟨xd, xk, xv, xc, xu⟩ := x
      have HRW0 := Lib.hid (fun (j : Nat) (v : Value) (hv : (COp.cells ⟨xd, xk, xv, xc, xu⟩)[j]? = some v) => ((HBA.out.trans HST.out.rk.bel).cell (p := ⟨b, off + k * 5 + j, none⟩) HBL.out).trans (HX.out j v hv))
      clear hkl HX
      cases xd with
      | true =>
        have HRW := Lib.hid (show wr.rangeAt b (off + k * 5) [.bool true, .string xk, .string xv, .int .u64 (xc : Int), .int .u64 (xu : Int)] from HRW0.out)
        obtain ⟨V3, hV3⟩ : ∃ V, V = (wr.alloc (.cells #[.bool false, .string ByteArray.empty, .string ByteArray.empty, .int .u64 0, .int .u64 0] 90)).setRow wr.heap.size #[.bool true, .string xk, .string xv, .int .u64 (xc : Int), .int .u64 (xu : Int)] := ⟨_, rfl⟩
        have HS3 := Lib.hid (run_storeRow (wr.alloc (.cells #[.bool false, .string ByteArray.empty, .string ByteArray.empty, .int .u64 0, .int .u64 0] 90)) 90 wr.heap.size #[.bool false, .string ByteArray.empty, .string ByteArray.empty, .int .u64 0, .int .u64 0] #[.bool true, .string xk, .string xv, .int .u64 (xc : Int), .int .u64 (xu : Int)] (heap_alloc_new wr _) rop_size rfl (by simp [Value.oneCell']))
        have HL3 := Lib.hid (setRow_heap (wr.alloc (.cells #[.bool false, .string ByteArray.empty, .string ByteArray.empty, .int .u64 0, .int .u64 0] 90)) wr.heap.size #[.bool false, .string ByteArray.empty, .string ByteArray.empty, .int .u64 0, .int .u64 0] #[.bool true, .string xk, .string xv, .int .u64 (xc : Int), .int .u64 (xu : Int)] 90 (0, 0) (heap_alloc_new wr _))
        have HST3 := Lib.hid (HST.out.bel (below_boxC wr #[.bool false, .string ByteArray.empty, .string ByteArray.empty, .int .u64 0, .int .u64 0] #[.bool true, .string xk, .string xv, .int .u64 (xc : Int), .int .u64 (xu : Int)] 90))
        rw [← hV3] at HS3 HL3 HST3
        have htg := (cell_of_row V3 w.heap.size 0 _ _ _ (HST3.out.row (by decide) HR0.out)).trans (show _ = some (.int .i64 9) from rfl)
        clear hV3 HST HRW0 HR9
        obtain ⟨LK, hLK⟩ : ∃ L, L = L0 ++ opsL 9 (ops.take k) := ⟨_, rfl⟩
        rw [← hLK] at HST3 HLN
        have HLK := Lib.hid hLK
        clear hLK
        have hx1 := (cell_of_row V3 wr.heap.size 1 _ _ _ HL3.out).trans (show _ = some (.string xk) from rfl)
        have hx0 := (cell_of_row V3 wr.heap.size 0 _ _ _ HL3.out).trans (show _ = some (.bool true) from rfl)
        go_wp2_with (first | ((with_reducible refine atLoad ?_); refine wpList_load_mid rfl 90 (.tmp 102) rfl b (off + k * 5) rfl [.bool true, .string xk, .string xv, .int .u64 (xc : Int), .int .u64 (xu : Int)] _ HRW.out Try.underlying90 rfl rop_size ?_) | ((with_reducible refine atStore ?_); refine wpList_store_by rfl 90 (.tmp 5) (.tmp 103) rfl (.pointer (some ⟨wr.heap.size, 0, none⟩)) _ rfl rfl HS3.out ?_))
        refine (rBit true _).mono ?_
        rintro e Wx ⟨rfl, hq⟩
        rw [hq]
        clear hq Wx
        go_wp2_with (at_builtin; go_must (refine wpList_append_bytes rfl (.tmp 107) (.tmp 111) 22 rfl w.heap.size _ _ rfl (HST3.out.own.alloc _) _ [UInt8.ofNat (bitN true)] rfl (srcB_one V3 _ _ (by rfl)) ?cb1 ?cb2 ?_))
        case cb1 => exact Nat.le_trans HST3.out.le (by simp)
        case cb2 => have := HLN.out; simp; omega
        intro va Wa ho hg
        have HSa := Lib.hid ((HST3.out.alloc _).step ho hg)
        have HRa := Lib.hid ((HST3.out.alloc _).own.rkOf (HST3.out.alloc _).le hg)
        have HXa := Lib.hid (HRa.out.row _ _ _ _ (by decide) ((Below.heap_alloc _ _ _ (Array.getElem?_eq_some_iff.1 HL3.out).1).trans HL3.out))
        have HTa := Lib.hid (HSa.out.row (by decide) HR0.out)
        clear ho hg HRa hx0 hx1
        have hx1 := (cell_of_row Wa wr.heap.size 1 _ _ _ HXa.out).trans (show _ = some (.string xk) from rfl)
        go_wp2_with fail
        clear hx1
        refine (refText _ _ _ xk _ HSa.out.own HSa.out.le (by have := HLN.out; have := textL_len9 xk.data.toList; first | omega | (simp; omega)) HOX.out.2.2.1).mono ?_
        intro e Wb hp
        obtain ⟨vb, rfl, hk, hs⟩ := HSa.out.put2 hp
        have HSb := Lib.hid hs
        have HXb := Lib.hid (hk.row _ _ _ _ (by decide) HXa.out)
        have HTb := Lib.hid (HSb.out.row (by decide) HR0.out)
        clear hp hs hk HSa HXa
        have htg := (cell_of_row Wb w.heap.size 0 _ _ _ HTb.out).trans (show _ = some (.int .i64 9) from rfl)
        have hx3 := (cell_of_row Wb wr.heap.size 3 _ _ _ HXb.out).trans (show _ = some (.int .u64 (xc : Int)) from rfl)
        go_wp2_with fail
        clear hx3 htg
        refine (refPut _ _ _ xc 8 _ HSb.out.own HSb.out.le (by have := HLN.out; have := textL_len9 xk.data.toList; first | omega | (simp; omega)) HOX.out.1 (by omega)).mono ?_
        intro e Wc hp
        obtain ⟨vc, rfl, hk, hs⟩ := HSb.out.put2 hp
        have HSc := Lib.hid hs
        have HXc := Lib.hid (hk.row _ _ _ _ (by decide) HXb.out)
        have HTc := Lib.hid (HSc.out.row (by decide) HR0.out)
        clear hp hs hk HSb HXb
        have hx0 := (cell_of_row Wc wr.heap.size 0 _ _ _ HXc.out).trans (show _ = some (.bool true) from rfl)
        go_wp2
        go_roundw
        case rel => exact ⟨k + 1, by omega, by go_num, show BS _ _ _ _ _ _ by
          rw [HTK.out, ← List.append_assoc, ← HLK.out]
          have h9 := HSc.out
          simpa [opL, putL_one] using h9⟩
        case measure => simp [intOf]; omega
      | false =>
        have HRW := Lib.hid (show wr.rangeAt b (off + k * 5) [.bool false, .string xk, .string xv, .int .u64 (xc : Int), .int .u64 (xu : Int)] from HRW0.out)
        obtain ⟨V3, hV3⟩ : ∃ V, V = (wr.alloc (.cells #[.bool false, .string ByteArray.empty, .string ByteArray.empty, .int .u64 0, .int .u64 0] 90)).setRow wr.heap.size #[.bool false, .string xk, .string xv, .int .u64 (xc : Int), .int .u64 (xu : Int)] := ⟨_, rfl⟩
        have HS3 := Lib.hid (run_storeRow (wr.alloc (.cells #[.bool false, .string ByteArray.empty, .string ByteArray.empty, .int .u64 0, .int .u64 0] 90)) 90 wr.heap.size #[.bool false, .string ByteArray.empty, .string ByteArray.empty, .int .u64 0, .int .u64 0] #[.bool false, .string xk, .string xv, .int .u64 (xc : Int), .int .u64 (xu : Int)] (heap_alloc_new wr _) rop_size rfl (by simp [Value.oneCell']))
        have HL3 := Lib.hid (setRow_heap (wr.alloc (.cells #[.bool false, .string ByteArray.empty, .string ByteArray.empty, .int .u64 0, .int .u64 0] 90)) wr.heap.size #[.bool false, .string ByteArray.empty, .string ByteArray.empty, .int .u64 0, .int .u64 0] #[.bool false, .string xk, .string xv, .int .u64 (xc : Int), .int .u64 (xu : Int)] 90 (0, 0) (heap_alloc_new wr _))
        have HST3 := Lib.hid (HST.out.bel (below_boxC wr #[.bool false, .string ByteArray.empty, .string ByteArray.empty, .int .u64 0, .int .u64 0] #[.bool false, .string xk, .string xv, .int .u64 (xc : Int), .int .u64 (xu : Int)] 90))
        rw [← hV3] at HS3 HL3 HST3
        have htg := (cell_of_row V3 w.heap.size 0 _ _ _ (HST3.out.row (by decide) HR0.out)).trans (show _ = some (.int .i64 9) from rfl)
        clear hV3 HST HRW0 HR9
        obtain ⟨LK, hLK⟩ : ∃ L, L = L0 ++ opsL 9 (ops.take k) := ⟨_, rfl⟩
        rw [← hLK] at HST3 HLN
        have HLK := Lib.hid hLK
        clear hLK
        have hx1 := (cell_of_row V3 wr.heap.size 1 _ _ _ HL3.out).trans (show _ = some (.string xk) from rfl)
        have hx0 := (cell_of_row V3 wr.heap.size 0 _ _ _ HL3.out).trans (show _ = some (.bool false) from rfl)
        go_wp2_with (first | ((with_reducible refine atLoad ?_); refine wpList_load_mid rfl 90 (.tmp 102) rfl b (off + k * 5) rfl [.bool false, .string xk, .string xv, .int .u64 (xc : Int), .int .u64 (xu : Int)] _ HRW.out Try.underlying90 rfl rop_size ?_) | ((with_reducible refine atStore ?_); refine wpList_store_by rfl 90 (.tmp 5) (.tmp 103) rfl (.pointer (some ⟨wr.heap.size, 0, none⟩)) _ rfl rfl HS3.out ?_))
        refine (rBit false _).mono ?_
        rintro e Wx ⟨rfl, hq⟩
        rw [hq]
        clear hq Wx
        go_wp2_with (at_builtin; go_must (refine wpList_append_bytes rfl (.tmp 107) (.tmp 111) 22 rfl w.heap.size _ _ rfl (HST3.out.own.alloc _) _ [UInt8.ofNat (bitN false)] rfl (srcB_one V3 _ _ (by rfl)) ?cb1 ?cb2 ?_))
        case cb1 => exact Nat.le_trans HST3.out.le (by simp)
        case cb2 => have := HLN.out; simp; omega
        intro va Wa ho hg
        have HSa := Lib.hid ((HST3.out.alloc _).step ho hg)
        have HRa := Lib.hid ((HST3.out.alloc _).own.rkOf (HST3.out.alloc _).le hg)
        have HXa := Lib.hid (HRa.out.row _ _ _ _ (by decide) ((Below.heap_alloc _ _ _ (Array.getElem?_eq_some_iff.1 HL3.out).1).trans HL3.out))
        have HTa := Lib.hid (HSa.out.row (by decide) HR0.out)
        clear ho hg HRa hx0 hx1
        have hx1 := (cell_of_row Wa wr.heap.size 1 _ _ _ HXa.out).trans (show _ = some (.string xk) from rfl)
        go_wp2_with fail
        clear hx1
        refine (refText _ _ _ xk _ HSa.out.own HSa.out.le (by have := HLN.out; have := textL_len9 xk.data.toList; first | omega | (simp; omega)) HOX.out.2.2.1).mono ?_
        intro e Wb hp
        obtain ⟨vb, rfl, hk, hs⟩ := HSa.out.put2 hp
        have HSb := Lib.hid hs
        have HXb := Lib.hid (hk.row _ _ _ _ (by decide) HXa.out)
        have HTb := Lib.hid (HSb.out.row (by decide) HR0.out)
        clear hp hs hk HSa HXa
        have htg := (cell_of_row Wb w.heap.size 0 _ _ _ HTb.out).trans (show _ = some (.int .i64 9) from rfl)
        have hx3 := (cell_of_row Wb wr.heap.size 3 _ _ _ HXb.out).trans (show _ = some (.int .u64 (xc : Int)) from rfl)
        go_wp2_with fail
        clear hx3 htg
        refine (refPut _ _ _ xc 8 _ HSb.out.own HSb.out.le (by have := HLN.out; have := textL_len9 xk.data.toList; first | omega | (simp; omega)) HOX.out.1 (by omega)).mono ?_
        intro e Wc hp
        obtain ⟨vc, rfl, hk, hs⟩ := HSb.out.put2 hp
        have HSc := Lib.hid hs
        have HXc := Lib.hid (hk.row _ _ _ _ (by decide) HXb.out)
        have HTc := Lib.hid (HSc.out.row (by decide) HR0.out)
        clear hp hs hk HSb HXb
        have hx0 := (cell_of_row Wc wr.heap.size 0 _ _ _ HXc.out).trans (show _ = some (.bool false) from rfl)
        go_wp2_with fail
        clear hx0
        obtain ⟨L9, hL9⟩ : ∃ L, L = LK ++ [UInt8.ofNat (bitN false)] ++ textL xk.data.toList ++ putL xc 8 := ⟨_, rfl⟩
        rw [← hL9] at HSc
        have HL9 := Lib.hid (show L9.length ≤ 300000000 by have := HLN.out; have := textL_len9 xk.data.toList; rw [hL9]; first | omega | (simp; omega))
        have HL9E := Lib.hid hL9
        clear hL9
        refine Reg.wp_regionH (RK w.heap.size) (RK.refl _) (fun _ _ _ h k => h.trans k) 3 6 (fun W => BS w.heap.size W0 v0 W vc L9) (fun x W => BS w.heap.size W0 v0 W x (L9 ++ textL xv.data.toList)) (fun x W => BS w.heap.size W0 v0 W x (L9 ++ (textL xv.data.toList ++ putL xu 8))) (by kernel_rfl) (by kernel_rfl) (HSc.out.drew 1) ?_
        refine Reg.segH 2 (by kernel_rfl) rfl (by kernel_rfl) ?_
        apply Exists.intro
        refine ⟨fun e => ?_, ?_⟩
        · simp only [List.take_succ_cons, List.take_zero]
          repeat (go_big_quiet_step ((intro _; rfl)))
          refine wpQuiet_nil ?_
          exact rfl
        simp only [List.drop_succ_cons, List.drop_zero, Nat.reduceAdd]
        refine Reg.stillH (.string xv) (RK.refl _) (by kernel_rfl) (fun e W hR => ⟨by rfl, ?_⟩) ?_
        · have hcb := (cell_of_row W wr.heap.size 2 _ _ _ (hR.row _ _ _ _ (by decide) HXc.out)).trans (show _ = some (.string xv) from rfl)
          unfold Reg.gives
          go_simp
        simp only [Act.put, List.setIfInBounds_toArray, List.set_cons_zero, List.set_cons_succ, Nat.reduceAdd]
        refine Reg.callH (by kernel_rfl) (fun e W hR h0 => ⟨by rfl, ?_⟩) ?_
        · unfold Reg.gives
          go_simp
          refine (refText _ _ _ xv W h0.own h0.le (by have := HL9.out; omega) HOX.out.2.2.2).mono ?_
          intro en W' hp
          obtain ⟨v', rfl, hk, hs⟩ := h0.put2 hp
          exact ⟨v', rfl, hk, hs⟩
        simp only [Act.put, List.setIfInBounds_toArray, List.set_cons_zero, List.set_cons_succ, Nat.reduceAdd]
        refine Reg.segH 1 (by kernel_rfl) rfl (by kernel_rfl) ?_
        apply Exists.intro
        refine ⟨fun e => ?_, ?_⟩
        · simp only [List.take_succ_cons, List.take_zero]
          repeat (go_big_quiet_step ((intro _; rfl)))
          refine wpQuiet_nil ?_
          exact rfl
        simp only [List.drop_succ_cons, List.drop_zero, Nat.reduceAdd]
        refine Reg.stillH (.int .u64 (xu : Int)) (RK.refl _) (by kernel_rfl) (fun e W hR => ⟨by rfl, ?_⟩) ?_
        · have hcb := (cell_of_row W wr.heap.size 4 _ _ _ (hR.row _ _ _ _ (by decide) HXc.out)).trans (show _ = some (.int .u64 (xu : Int)) from rfl)
          unfold Reg.gives
          go_simp
        simp only [Act.put, List.setIfInBounds_toArray, List.set_cons_zero, List.set_cons_succ, Nat.reduceAdd]
        refine Reg.callH2 (by kernel_rfl) (fun e W hR h0 => ⟨by rfl, ?_⟩) ?_
        · unfold Reg.gives
          go_simp
          refine (refPut _ _ _ xu 8 W h0.own h0.le (by have := HL9.out; have := textL_len9 xv.data.toList; simp only [List.length_append]; omega) HOX.out.2.1 (by omega)).mono ?_
          intro en W' hp
          obtain ⟨v', rfl, hk, hs⟩ := h0.put2 hp
          exact ⟨v', rfl, hk, by rwa [List.append_assoc] at hs⟩
        simp only [Act.put, List.setIfInBounds_toArray, List.set_cons_zero, List.set_cons_succ, Nat.reduceAdd]
        refine Reg.segH 1 (by kernel_rfl) rfl (by kernel_rfl) ?_
        apply Exists.intro
        refine ⟨fun e => ?_, ?_⟩
        · simp only [List.take_succ_cons, List.take_zero]
          repeat (go_big_quiet_step ((intro _; rfl)))
          refine wpQuiet_nil ?_
          exact rfl
        simp only [List.drop_succ_cons, List.drop_zero, Nat.reduceAdd]
        intro e W hR hJ hf
        have hJ2 := Lib.hid (hJ.2.2 (by rfl))
        clear hf hR hJ
        go_wp2
        go_roundw
        case rel => exact ⟨k + 1, by omega, by go_num, show BS _ _ _ _ _ _ by
          rw [HTK.out, ← List.append_assoc, ← HLK.out]
          have h9 := hJ2.out
          rw [HL9E.out] at h9
          simpa [opL, putL_one] using h9⟩
        case measure => simp [intOf]; omega
    · obtain rfl : k = n := by omega
      have HSA := Lib.hid (show BS w.heap.size W0 v0 wr u3 (L0 ++ opsL 9 ops) by have := HST.out; rwa [List.take_of_length_le (show ops.length ≤ k by rw [HNN.out]; exact Nat.le_refl _)] at this)
      clear HST
      go_wp2
      go_ret
      rw [HEQ.out]
      exact HSA.out.makes HBA.out (by rw [HGL.out]; rw [HNN.out])
set_option maxRecDepth 100000 in
set_option maxHeartbeats 4000000 in
theorem rBytes11 (ad : Nat) (bu qk qb qg tb : Int) (tg ts tc : Nat) (ops : List COp) (af : ByteArray) (fi : Bool) (co ri : Int) (se : Nat) (a : Option Addr) (cap : Nat) (w : World) (hrow : IsRowOf COp.cells (fun _ => True) 5 w a ops) (had : ad < 18446744073709551616) (htg : tg < 4294967296) (hts : ts < 4294967296) (htc : tc < 18446744073709551616) (hse : se < 4294967296) (haf : af.size ≤ maxLen) (hop : ∀ x ∈ ops, x.wf) (hn : ops.length ≤ 1000) :
    Calls Try.prog 37 #[.agg #[.int .i64 11, .int .u64 (ad : Int), .int .i64 bu, .int .i64 qk, .int .i64 qb, .int .i64 qg, .int .i64 tb, .int .u32 (tg : Int), .int .u32 (ts : Int), .int .u64 (tc : Int), .slice a ops.length cap, .string af, .bool fi, .int .i64 co, .int .i64 ri, .int .u32 (se : Int)]] w (Makes w (bytesR ⟨11, ad, bu, qk, qb, qg, tb, tg, ts, tc, ops, af, fi, co, ri, se⟩)) := by
  have HEQ := Lib.hid (show bytesR ⟨11, ad, bu, qk, qb, qg, tb, tg, ts, tc, ops, af, fi, co, ri, se⟩ = (putL 11 1 ++ tokL tb tg ts tc) ++ opsL 11 ops by unfold bytesR headR tailQ; simp [show u64N 11 = 11 from rfl, putL_one])
  have HB := Lib.hid (show 0 ≤ 1000000000 ∧ ad < 18446744073709551616 ∧ tg < 4294967296 ∧ ts < 4294967296 ∧ tc < 18446744073709551616 ∧ se < 4294967296 ∧ af.size ≤ maxLen ∧ ops.length ≤ 1000 from ⟨by omega, had, htg, hts, htc, hse, haf, hn⟩)
  have HROW := Lib.hid hrow
  have HOP := Lib.hid hop
  have hwk := wrap_u64N qk
  have hwq := wrap_u64N qb
  have hwg := wrap_u64N qg
  have hws : IntKind.u64.wrap (se : Int) = (se : Int) := by rw [IntKind.wrap_u64]; omega
  clear had htg hts htc hse haf hop hrow hn
  generalize hnn : ops.length = n at HB ⊢
  have HNN := Lib.hid hnn
  clear hnn
  obtain ⟨v0, hv0⟩ : ∃ v, v = Value.slice (some ⟨(w.alloc (.cells #[.int .i64 11, .int .u64 (ad : Int), .int .i64 bu, .int .i64 qk, .int .i64 qb, .int .i64 qg, .int .i64 tb, .int .u32 (tg : Int), .int .u32 (ts : Int), .int .u64 (tc : Int), .slice a n cap, .string af, .bool fi, .int .i64 co, .int .i64 ri, .int .u32 (se : Int)] 39)).heap.size, 0, none⟩) 1 1 := ⟨_, rfl⟩
  have HS0 := Lib.hid (BS.start (B := w.heap.size) (OwnB.one w.heap.size (w.alloc (.cells #[.int .i64 11, .int .u64 (ad : Int), .int .i64 bu, .int .i64 qk, .int .i64 qb, .int .i64 qg, .int .i64 tb, .int .u32 (tg : Int), .int .u32 (ts : Int), .int .u64 (tc : Int), .slice a n cap, .string af, .bool fi, .int .i64 co, .int .i64 ri, .int .u32 (se : Int)] 39)) 11 (UInt8.ofNat 11) (by rfl) (by simp)) (by simp; omega))
  rw [← putL_one, ← hv0] at HS0
  have HR0 := Lib.hid ((Below.heap_alloc (w.alloc (.cells #[.int .i64 11, .int .u64 (ad : Int), .int .i64 bu, .int .i64 qk, .int .i64 qb, .int .i64 qg, .int .i64 tb, .int .u32 (tg : Int), .int .u32 (ts : Int), .int .u64 (tc : Int), .slice a n cap, .string af, .bool fi, .int .i64 co, .int .i64 ri, .int .u32 (se : Int)] 39)) (.cells #[.int .u8 11] 5) w.heap.size (by simp)).trans (heap_alloc_new w (.cells #[.int .i64 11, .int .u64 (ad : Int), .int .i64 bu, .int .i64 qk, .int .i64 qb, .int .i64 qg, .int .i64 tb, .int .u32 (tg : Int), .int .u32 (ts : Int), .int .u64 (tc : Int), .slice a n cap, .string af, .bool fi, .int .i64 co, .int .i64 ri, .int .u32 (se : Int)] 39)))
  have HBA := Lib.hid (((Below.refl w.heap.size w).alloc (Nat.le_refl _) (.cells #[.int .i64 11, .int .u64 (ad : Int), .int .i64 bu, .int .i64 qk, .int .i64 qb, .int .i64 qg, .int .i64 tb, .int .u32 (tg : Int), .int .u32 (ts : Int), .int .u64 (tc : Int), .slice a n cap, .string af, .bool fi, .int .i64 co, .int .i64 ri, .int .u32 (se : Int)] 39)).alloc (by simp) (.cells #[.int .u8 11] 5))
  have HT0 := Lib.hid (range_row HR0.out (o := 6) [.int .i64 tb, .int .u32 (tg : Int), .int .u32 (ts : Int), .int .u64 (tc : Int)] (by intro j v hv; rcases j with _ | _ | _ | _ | j <;> simp at hv <;> subst hv <;> rfl))
  rw [World.size_alloc] at hv0
  go_enter Try.func37, Try.ntmps37
  go_wp2_with ((with_reducible refine atLoad ?_); refine wpList_load_mid rfl 29 (.tmp 18) rfl w.heap.size 6 rfl [.int .i64 tb, .int .u32 (tg : Int), .int .u32 (ts : Int), .int .u64 (tc : Int)] _ HT0.out Try.underlying29 rfl tok_size' ?_)
  rw [← hv0]
  clear hv0 HT0
  generalize ((w.alloc (.cells #[.int .i64 11, .int .u64 (ad : Int), .int .i64 bu, .int .i64 qk, .int .i64 qb, .int .i64 qg, .int .i64 tb, .int .u32 (tg : Int), .int .u32 (ts : Int), .int .u64 (tc : Int), .slice a n cap, .string af, .bool fi, .int .i64 co, .int .i64 ri, .int .u32 (se : Int)] 39)).alloc (.cells #[.int .u8 11] 5)) = W0 at *
  refine (rTok _ _ _ tb tg ts tc _ HS0.out.own HS0.out.le (by have := HB.out.1; have := textL_len9 af.data.toList; first | omega | (simp; done) | (simp; omega)) HB.out.2.2.1 HB.out.2.2.2.1 HB.out.2.2.2.2.1).mono ?_
  intro e W1 hp
  obtain ⟨v1, rfl, hs⟩ := HS0.out.put hp
  have HS1 := Lib.hid hs
  have HR1 := Lib.hid (HS1.out.row (by decide) HR0.out)
  clear hp hs HS0
  have hcl0 := (cell_of_row W1 w.heap.size 0 _ _ _ HR1.out).trans (show _ = some (.int .i64 11) from rfl)
  have hcl10 := (cell_of_row W1 w.heap.size 10 _ _ _ HR1.out).trans (show _ = some (.slice a n cap) from rfl)
  go_wp2_with fail
  clear hcl0 hcl10
  have HL0 := Lib.hid (show (putL 11 1 ++ tokL tb tg ts tc).length ≤ 400000 by have := textL_len9 af.data.toList; first | omega | (simp; done) | (simp; omega))
  obtain ⟨L0, hL0⟩ : ∃ L, L = putL 11 1 ++ tokL tb tg ts tc := ⟨_, rfl⟩
  rw [← hL0] at HS1 HL0
  have HGL := Lib.hid hL0
  clear hL0
  go_loopw [3, 4] (fun o i wr => ∃ k : Nat, k ≤ n ∧ i = .int .i64 k ∧ Hid (BS w.heap.size W0 v0 wr o (L0 ++ opsL 11 (ops.take k)))) (fun _ i _ => n - (intOf i).toNat)
  case atStart => exact ⟨0, Nat.zero_le _, rfl, by have := HS1; simpa [opsL] using this⟩
  case round =>
    obtain ⟨k, hk, rfl, HST⟩ := hrel
    clear HS1 HR1
    have HR9 := Lib.hid (HST.out.row (by decide) HR0.out)
    have hc10 := (cell_of_row wr w.heap.size 10 _ _ _ HR9.out).trans (show _ = some (.slice a n cap) from rfl)
    by_cases hlt : k < n
    · have hki : (k : Int) < (n : Int) := by omega
      have hk9 : k < 1000 := by have := HB.out.2.2.2.2.2.2.2; omega
      have hkl : k < ops.length := by have := HNN.out; omega
      obtain ⟨b, off, rfl, hb, hc, _⟩ := HROW.out k hkl
      have HX := Lib.hid (range_of (W := w) hc)
      have HBL := Lib.hid hb
      have HOX := Lib.hid (HOP.out _ (List.getElem_mem hkl))
      have HTK := Lib.hid (opsL_take 11 ops k hkl)
      have HLN := Lib.hid (show (L0 ++ opsL 11 (ops.take k)).length ≤ 200000000 by have := HL0.out; have := opsL_len 11 (ops.take k); have := HB.out.2.2.2.2.2.2.2; rw [List.length_append]; rw [List.length_take] at *; omega)
      clear hc hb
      generalize ops[k] = x at *
      obtain ⟨xd, xk, xv, xc, xu⟩ := x
      have HRW0 := Lib.hid (fun (j : Nat) (v : Value) (hv : (COp.cells ⟨xd, xk, xv, xc, xu⟩)[j]? = some v) => ((HBA.out.trans HST.out.rk.bel).cell (p := ⟨b, off + k * 5 + j, none⟩) HBL.out).trans (HX.out j v hv))
      clear hkl HX
      cases xd with
      | true =>
        have HRW := Lib.hid (show wr.rangeAt b (off + k * 5) [.bool true, .string xk, .string xv, .int .u64 (xc : Int), .int .u64 (xu : Int)] from HRW0.out)
        obtain ⟨V3, hV3⟩ : ∃ V, V = (wr.alloc (.cells #[.bool false, .string ByteArray.empty, .string ByteArray.empty, .int .u64 0, .int .u64 0] 90)).setRow wr.heap.size #[.bool true, .string xk, .string xv, .int .u64 (xc : Int), .int .u64 (xu : Int)] := ⟨_, rfl⟩
        have HS3 := Lib.hid (run_storeRow (wr.alloc (.cells #[.bool false, .string ByteArray.empty, .string ByteArray.empty, .int .u64 0, .int .u64 0] 90)) 90 wr.heap.size #[.bool false, .string ByteArray.empty, .string ByteArray.empty, .int .u64 0, .int .u64 0] #[.bool true, .string xk, .string xv, .int .u64 (xc : Int), .int .u64 (xu : Int)] (heap_alloc_new wr _) rop_size rfl (by simp [Value.oneCell']))
        have HL3 := Lib.hid (setRow_heap (wr.alloc (.cells #[.bool false, .string ByteArray.empty, .string ByteArray.empty, .int .u64 0, .int .u64 0] 90)) wr.heap.size #[.bool false, .string ByteArray.empty, .string ByteArray.empty, .int .u64 0, .int .u64 0] #[.bool true, .string xk, .string xv, .int .u64 (xc : Int), .int .u64 (xu : Int)] 90 (0, 0) (heap_alloc_new wr _))
        have HST3 := Lib.hid (HST.out.bel (below_boxC wr #[.bool false, .string ByteArray.empty, .string ByteArray.empty, .int .u64 0, .int .u64 0] #[.bool true, .string xk, .string xv, .int .u64 (xc : Int), .int .u64 (xu : Int)] 90))
        rw [← hV3] at HS3 HL3 HST3
        have htg := (cell_of_row V3 w.heap.size 0 _ _ _ (HST3.out.row (by decide) HR0.out)).trans (show _ = some (.int .i64 11) from rfl)
        clear hV3 HST HRW0 HR9
        obtain ⟨LK, hLK⟩ : ∃ L, L = L0 ++ opsL 11 (ops.take k) := ⟨_, rfl⟩
        rw [← hLK] at HST3 HLN
        have HLK := Lib.hid hLK
        clear hLK
        have hx1 := (cell_of_row V3 wr.heap.size 1 _ _ _ HL3.out).trans (show _ = some (.string xk) from rfl)
        go_wp2_with (first | ((with_reducible refine atLoad ?_); refine wpList_load_mid rfl 90 (.tmp 102) rfl b (off + k * 5) rfl [.bool true, .string xk, .string xv, .int .u64 (xc : Int), .int .u64 (xu : Int)] _ HRW.out Try.underlying90 rfl rop_size ?_) | ((with_reducible refine atStore ?_); refine wpList_store_by rfl 90 (.tmp 5) (.tmp 103) rfl (.pointer (some ⟨wr.heap.size, 0, none⟩)) _ rfl rfl HS3.out ?_))
        clear hx1
        refine (refText _ _ _ xk _ HST3.out.own HST3.out.le (by have := HLN.out; have := textL_len9 xk.data.toList; first | omega | (simp; omega)) HOX.out.2.2.1).mono ?_
        intro e Wb hp
        obtain ⟨vb, rfl, hk, hs⟩ := HST3.out.put2 hp
        have HSb := Lib.hid hs
        have HXb := Lib.hid (hk.row _ _ _ _ (by decide) HL3.out)
        have HTb := Lib.hid (HSb.out.row (by decide) HR0.out)
        clear hp hs hk HST3 HL3
        have htg := (cell_of_row Wb w.heap.size 0 _ _ _ HTb.out).trans (show _ = some (.int .i64 11) from rfl)
        have hx3 := (cell_of_row Wb wr.heap.size 3 _ _ _ HXb.out).trans (show _ = some (.int .u64 (xc : Int)) from rfl)
        go_wp2_with fail
        clear hx3 htg
        refine (refPut _ _ _ xc 8 _ HSb.out.own HSb.out.le (by have := HLN.out; have := textL_len9 xk.data.toList; first | omega | (simp; omega)) HOX.out.1 (by omega)).mono ?_
        intro e Wc hp
        obtain ⟨vc, rfl, hk, hs⟩ := HSb.out.put2 hp
        have HSc := Lib.hid hs
        have HXc := Lib.hid (hk.row _ _ _ _ (by decide) HXb.out)
        have HTc := Lib.hid (HSc.out.row (by decide) HR0.out)
        clear hp hs hk HSb HXb
        have hx0 := (cell_of_row Wc wr.heap.size 0 _ _ _ HXc.out).trans (show _ = some (.bool true) from rfl)
        go_wp2
        go_roundw
        case rel => exact ⟨k + 1, by omega, by go_num, show BS _ _ _ _ _ _ by
          rw [HTK.out, ← List.append_assoc, ← HLK.out]
          have h9 := HSc.out
          simpa [opL, putL_one] using h9⟩
        case measure => simp [intOf]; omega
      | false =>
        have HRW := Lib.hid (show wr.rangeAt b (off + k * 5) [.bool false, .string xk, .string xv, .int .u64 (xc : Int), .int .u64 (xu : Int)] from HRW0.out)
        obtain ⟨V3, hV3⟩ : ∃ V, V = (wr.alloc (.cells #[.bool false, .string ByteArray.empty, .string ByteArray.empty, .int .u64 0, .int .u64 0] 90)).setRow wr.heap.size #[.bool false, .string xk, .string xv, .int .u64 (xc : Int), .int .u64 (xu : Int)] := ⟨_, rfl⟩
        have HS3 := Lib.hid (run_storeRow (wr.alloc (.cells #[.bool false, .string ByteArray.empty, .string ByteArray.empty, .int .u64 0, .int .u64 0] 90)) 90 wr.heap.size #[.bool false, .string ByteArray.empty, .string ByteArray.empty, .int .u64 0, .int .u64 0] #[.bool false, .string xk, .string xv, .int .u64 (xc : Int), .int .u64 (xu : Int)] (heap_alloc_new wr _) rop_size rfl (by simp [Value.oneCell']))
        have HL3 := Lib.hid (setRow_heap (wr.alloc (.cells #[.bool false, .string ByteArray.empty, .string ByteArray.empty, .int .u64 0, .int .u64 0] 90)) wr.heap.size #[.bool false, .string ByteArray.empty, .string ByteArray.empty, .int .u64 0, .int .u64 0] #[.bool false, .string xk, .string xv, .int .u64 (xc : Int), .int .u64 (xu : Int)] 90 (0, 0) (heap_alloc_new wr _))
        have HST3 := Lib.hid (HST.out.bel (below_boxC wr #[.bool false, .string ByteArray.empty, .string ByteArray.empty, .int .u64 0, .int .u64 0] #[.bool false, .string xk, .string xv, .int .u64 (xc : Int), .int .u64 (xu : Int)] 90))
        rw [← hV3] at HS3 HL3 HST3
        have htg := (cell_of_row V3 w.heap.size 0 _ _ _ (HST3.out.row (by decide) HR0.out)).trans (show _ = some (.int .i64 11) from rfl)
        clear hV3 HST HRW0 HR9
        obtain ⟨LK, hLK⟩ : ∃ L, L = L0 ++ opsL 11 (ops.take k) := ⟨_, rfl⟩
        rw [← hLK] at HST3 HLN
        have HLK := Lib.hid hLK
        clear hLK
        have hx1 := (cell_of_row V3 wr.heap.size 1 _ _ _ HL3.out).trans (show _ = some (.string xk) from rfl)
        go_wp2_with (first | ((with_reducible refine atLoad ?_); refine wpList_load_mid rfl 90 (.tmp 102) rfl b (off + k * 5) rfl [.bool false, .string xk, .string xv, .int .u64 (xc : Int), .int .u64 (xu : Int)] _ HRW.out Try.underlying90 rfl rop_size ?_) | ((with_reducible refine atStore ?_); refine wpList_store_by rfl 90 (.tmp 5) (.tmp 103) rfl (.pointer (some ⟨wr.heap.size, 0, none⟩)) _ rfl rfl HS3.out ?_))
        clear hx1
        refine (refText _ _ _ xk _ HST3.out.own HST3.out.le (by have := HLN.out; have := textL_len9 xk.data.toList; first | omega | (simp; omega)) HOX.out.2.2.1).mono ?_
        intro e Wb hp
        obtain ⟨vb, rfl, hk, hs⟩ := HST3.out.put2 hp
        have HSb := Lib.hid hs
        have HXb := Lib.hid (hk.row _ _ _ _ (by decide) HL3.out)
        have HTb := Lib.hid (HSb.out.row (by decide) HR0.out)
        clear hp hs hk HST3 HL3
        have htg := (cell_of_row Wb w.heap.size 0 _ _ _ HTb.out).trans (show _ = some (.int .i64 11) from rfl)
        have hx3 := (cell_of_row Wb wr.heap.size 3 _ _ _ HXb.out).trans (show _ = some (.int .u64 (xc : Int)) from rfl)
        go_wp2_with fail
        clear hx3 htg
        refine (refPut _ _ _ xc 8 _ HSb.out.own HSb.out.le (by have := HLN.out; have := textL_len9 xk.data.toList; first | omega | (simp; omega)) HOX.out.1 (by omega)).mono ?_
        intro e Wc hp
        obtain ⟨vc, rfl, hk, hs⟩ := HSb.out.put2 hp
        have HSc := Lib.hid hs
        have HXc := Lib.hid (hk.row _ _ _ _ (by decide) HXb.out)
        have HTc := Lib.hid (HSc.out.row (by decide) HR0.out)
        clear hp hs hk HSb HXb
        have hx0 := (cell_of_row Wc wr.heap.size 0 _ _ _ HXc.out).trans (show _ = some (.bool false) from rfl)
        go_wp2_with fail
        clear hx0
        obtain ⟨L9, hL9⟩ : ∃ L, L = LK ++ textL xk.data.toList ++ putL xc 8 := ⟨_, rfl⟩
        rw [← hL9] at HSc
        have HL9 := Lib.hid (show L9.length ≤ 300000000 by have := HLN.out; have := textL_len9 xk.data.toList; rw [hL9]; first | omega | (simp; omega))
        have HL9E := Lib.hid hL9
        clear hL9
        refine Reg.wp_regionH (RK w.heap.size) (RK.refl _) (fun _ _ _ h k => h.trans k) 3 6 (fun W => BS w.heap.size W0 v0 W vc L9) (fun x W => BS w.heap.size W0 v0 W x (L9 ++ textL xv.data.toList)) (fun x W => BS w.heap.size W0 v0 W x (L9 ++ (textL xv.data.toList ++ putL xu 8))) (by kernel_rfl) (by kernel_rfl) (HSc.out.drew 1) ?_
        refine Reg.segH 2 (by kernel_rfl) rfl (by kernel_rfl) ?_
        apply Exists.intro
        refine ⟨fun e => ?_, ?_⟩
        · simp only [List.take_succ_cons, List.take_zero]
          repeat (go_big_quiet_step ((intro _; rfl)))
          refine wpQuiet_nil ?_
          exact rfl
        simp only [List.drop_succ_cons, List.drop_zero, Nat.reduceAdd]
        refine Reg.stillH (.string xv) (RK.refl _) (by kernel_rfl) (fun e W hR => ⟨by rfl, ?_⟩) ?_
        · have hcb := (cell_of_row W wr.heap.size 2 _ _ _ (hR.row _ _ _ _ (by decide) HXc.out)).trans (show _ = some (.string xv) from rfl)
          unfold Reg.gives
          go_simp
        simp only [Act.put, List.setIfInBounds_toArray, List.set_cons_zero, List.set_cons_succ, Nat.reduceAdd]
        refine Reg.callH (by kernel_rfl) (fun e W hR h0 => ⟨by rfl, ?_⟩) ?_
        · unfold Reg.gives
          go_simp
          refine (refText _ _ _ xv W h0.own h0.le (by have := HL9.out; omega) HOX.out.2.2.2).mono ?_
          intro en W' hp
          obtain ⟨v', rfl, hk, hs⟩ := h0.put2 hp
          exact ⟨v', rfl, hk, hs⟩
        simp only [Act.put, List.setIfInBounds_toArray, List.set_cons_zero, List.set_cons_succ, Nat.reduceAdd]
        refine Reg.segH 1 (by kernel_rfl) rfl (by kernel_rfl) ?_
        apply Exists.intro
        refine ⟨fun e => ?_, ?_⟩
        · simp only [List.take_succ_cons, List.take_zero]
          repeat (go_big_quiet_step ((intro _; rfl)))
          refine wpQuiet_nil ?_
          exact rfl
        simp only [List.drop_succ_cons, List.drop_zero, Nat.reduceAdd]
        refine Reg.stillH (.int .u64 (xu : Int)) (RK.refl _) (by kernel_rfl) (fun e W hR => ⟨by rfl, ?_⟩) ?_
        · have hcb := (cell_of_row W wr.heap.size 4 _ _ _ (hR.row _ _ _ _ (by decide) HXc.out)).trans (show _ = some (.int .u64 (xu : Int)) from rfl)
          unfold Reg.gives
          go_simp
        simp only [Act.put, List.setIfInBounds_toArray, List.set_cons_zero, List.set_cons_succ, Nat.reduceAdd]
        refine Reg.callH2 (by kernel_rfl) (fun e W hR h0 => ⟨by rfl, ?_⟩) ?_
        · unfold Reg.gives
          go_simp
          refine (refPut _ _ _ xu 8 W h0.own h0.le (by have := HL9.out; have := textL_len9 xv.data.toList; simp only [List.length_append]; omega) HOX.out.2.1 (by omega)).mono ?_
          intro en W' hp
          obtain ⟨v', rfl, hk, hs⟩ := h0.put2 hp
          exact ⟨v', rfl, hk, by rwa [List.append_assoc] at hs⟩
        simp only [Act.put, List.setIfInBounds_toArray, List.set_cons_zero, List.set_cons_succ, Nat.reduceAdd]
        refine Reg.segH 1 (by kernel_rfl) rfl (by kernel_rfl) ?_
        apply Exists.intro
        refine ⟨fun e => ?_, ?_⟩
        · simp only [List.take_succ_cons, List.take_zero]
          repeat (go_big_quiet_step ((intro _; rfl)))
          refine wpQuiet_nil ?_
          exact rfl
        simp only [List.drop_succ_cons, List.drop_zero, Nat.reduceAdd]
        intro e W hR hJ hf
        have hJ2 := Lib.hid (hJ.2.2 (by rfl))
        clear hf hR hJ
        go_wp2
        go_roundw
        case rel => exact ⟨k + 1, by omega, by go_num, show BS _ _ _ _ _ _ by
          rw [HTK.out, ← List.append_assoc, ← HLK.out]
          have h9 := hJ2.out
          rw [HL9E.out] at h9
          simpa [opL, putL_one] using h9⟩
        case measure => simp [intOf]; omega
    · obtain rfl : k = n := by omega
      have HSA := Lib.hid (show BS w.heap.size W0 v0 wr u3 (L0 ++ opsL 11 ops) by have := HST.out; rwa [List.take_of_length_le (show ops.length ≤ k by rw [HNN.out]; exact Nat.le_refl _)] at this)
      clear HST
      go_wp2
      go_ret
      rw [HEQ.out]
      exact HSA.out.makes HBA.out (by rw [HGL.out])
set_option maxRecDepth 100000 in
set_option maxHeartbeats 4000000 in
theorem rBytes12 (ad : Nat) (bu qk qb qg tb : Int) (tg ts tc : Nat) (ops : List COp) (af : ByteArray) (fi : Bool) (co ri : Int) (se : Nat) (a : Option Addr) (cap : Nat) (w : World) (hrow : IsRowOf COp.cells (fun _ => True) 5 w a ops) (had : ad < 18446744073709551616) (htg : tg < 4294967296) (hts : ts < 4294967296) (htc : tc < 18446744073709551616) (hse : se < 4294967296) (haf : af.size ≤ maxLen) (hop : ∀ x ∈ ops, x.wf) (hn : ops.length ≤ 1000) :
    Calls Try.prog 37 #[.agg #[.int .i64 12, .int .u64 (ad : Int), .int .i64 bu, .int .i64 qk, .int .i64 qb, .int .i64 qg, .int .i64 tb, .int .u32 (tg : Int), .int .u32 (ts : Int), .int .u64 (tc : Int), .slice a ops.length cap, .string af, .bool fi, .int .i64 co, .int .i64 ri, .int .u32 (se : Int)]] w (Makes w (bytesR ⟨12, ad, bu, qk, qb, qg, tb, tg, ts, tc, ops, af, fi, co, ri, se⟩)) := by
  have HEQ := Lib.hid (show bytesR ⟨12, ad, bu, qk, qb, qg, tb, tg, ts, tc, ops, af, fi, co, ri, se⟩ = (putL 12 1 ++ tokL tb tg ts tc ++ [UInt8.ofNat (u64N ri)]) ++ opsL 12 ops by unfold bytesR headR tailQ; simp [show u64N 12 = 12 from rfl, putL_one])
  have HB := Lib.hid (show 0 ≤ 1000000000 ∧ ad < 18446744073709551616 ∧ tg < 4294967296 ∧ ts < 4294967296 ∧ tc < 18446744073709551616 ∧ se < 4294967296 ∧ af.size ≤ maxLen ∧ ops.length ≤ 1000 from ⟨by omega, had, htg, hts, htc, hse, haf, hn⟩)
  have HROW := Lib.hid hrow
  have HOP := Lib.hid hop
  have hwk := wrap_u64N qk
  have hwq := wrap_u64N qb
  have hwg := wrap_u64N qg
  have hws : IntKind.u64.wrap (se : Int) = (se : Int) := by rw [IntKind.wrap_u64]; omega
  clear had htg hts htc hse haf hop hrow hn
  generalize hnn : ops.length = n at HB ⊢
  have HNN := Lib.hid hnn
  clear hnn
  obtain ⟨v0, hv0⟩ : ∃ v, v = Value.slice (some ⟨(w.alloc (.cells #[.int .i64 12, .int .u64 (ad : Int), .int .i64 bu, .int .i64 qk, .int .i64 qb, .int .i64 qg, .int .i64 tb, .int .u32 (tg : Int), .int .u32 (ts : Int), .int .u64 (tc : Int), .slice a n cap, .string af, .bool fi, .int .i64 co, .int .i64 ri, .int .u32 (se : Int)] 39)).heap.size, 0, none⟩) 1 1 := ⟨_, rfl⟩
  have HS0 := Lib.hid (BS.start (B := w.heap.size) (OwnB.one w.heap.size (w.alloc (.cells #[.int .i64 12, .int .u64 (ad : Int), .int .i64 bu, .int .i64 qk, .int .i64 qb, .int .i64 qg, .int .i64 tb, .int .u32 (tg : Int), .int .u32 (ts : Int), .int .u64 (tc : Int), .slice a n cap, .string af, .bool fi, .int .i64 co, .int .i64 ri, .int .u32 (se : Int)] 39)) 12 (UInt8.ofNat 12) (by rfl) (by simp)) (by simp; omega))
  rw [← putL_one, ← hv0] at HS0
  have HR0 := Lib.hid ((Below.heap_alloc (w.alloc (.cells #[.int .i64 12, .int .u64 (ad : Int), .int .i64 bu, .int .i64 qk, .int .i64 qb, .int .i64 qg, .int .i64 tb, .int .u32 (tg : Int), .int .u32 (ts : Int), .int .u64 (tc : Int), .slice a n cap, .string af, .bool fi, .int .i64 co, .int .i64 ri, .int .u32 (se : Int)] 39)) (.cells #[.int .u8 12] 5) w.heap.size (by simp)).trans (heap_alloc_new w (.cells #[.int .i64 12, .int .u64 (ad : Int), .int .i64 bu, .int .i64 qk, .int .i64 qb, .int .i64 qg, .int .i64 tb, .int .u32 (tg : Int), .int .u32 (ts : Int), .int .u64 (tc : Int), .slice a n cap, .string af, .bool fi, .int .i64 co, .int .i64 ri, .int .u32 (se : Int)] 39)))
  have HBA := Lib.hid (((Below.refl w.heap.size w).alloc (Nat.le_refl _) (.cells #[.int .i64 12, .int .u64 (ad : Int), .int .i64 bu, .int .i64 qk, .int .i64 qb, .int .i64 qg, .int .i64 tb, .int .u32 (tg : Int), .int .u32 (ts : Int), .int .u64 (tc : Int), .slice a n cap, .string af, .bool fi, .int .i64 co, .int .i64 ri, .int .u32 (se : Int)] 39)).alloc (by simp) (.cells #[.int .u8 12] 5))
  have HT0 := Lib.hid (range_row HR0.out (o := 6) [.int .i64 tb, .int .u32 (tg : Int), .int .u32 (ts : Int), .int .u64 (tc : Int)] (by intro j v hv; rcases j with _ | _ | _ | _ | j <;> simp at hv <;> subst hv <;> rfl))
  rw [World.size_alloc] at hv0
  go_enter Try.func37, Try.ntmps37
  go_wp2_with ((with_reducible refine atLoad ?_); refine wpList_load_mid rfl 29 (.tmp 18) rfl w.heap.size 6 rfl [.int .i64 tb, .int .u32 (tg : Int), .int .u32 (ts : Int), .int .u64 (tc : Int)] _ HT0.out Try.underlying29 rfl tok_size' ?_)
  rw [← hv0]
  clear hv0 HT0
  generalize ((w.alloc (.cells #[.int .i64 12, .int .u64 (ad : Int), .int .i64 bu, .int .i64 qk, .int .i64 qb, .int .i64 qg, .int .i64 tb, .int .u32 (tg : Int), .int .u32 (ts : Int), .int .u64 (tc : Int), .slice a n cap, .string af, .bool fi, .int .i64 co, .int .i64 ri, .int .u32 (se : Int)] 39)).alloc (.cells #[.int .u8 12] 5)) = W0 at *
  refine (rTok _ _ _ tb tg ts tc _ HS0.out.own HS0.out.le (by have := HB.out.1; have := textL_len9 af.data.toList; first | omega | (simp; done) | (simp; omega)) HB.out.2.2.1 HB.out.2.2.2.1 HB.out.2.2.2.2.1).mono ?_
  intro e W1 hp
  obtain ⟨v1, rfl, hs⟩ := HS0.out.put hp
  have HS1 := Lib.hid hs
  have HR1 := Lib.hid (HS1.out.row (by decide) HR0.out)
  clear hp hs HS0
  have hcl0 := (cell_of_row W1 w.heap.size 0 _ _ _ HR1.out).trans (show _ = some (.int .i64 12) from rfl)
  have hcl14 := (cell_of_row W1 w.heap.size 14 _ _ _ HR1.out).trans (show _ = some (.int .i64 ri) from rfl)
  go_wp2_with (at_builtin; go_must (refine wpList_append_bytes rfl (.tmp 79) (.tmp 83) 22 rfl w.heap.size _ _ rfl (HS1.out.own.alloc _) _ [UInt8.ofNat (u64N ri)] rfl (srcB_one W1 _ _ (by first | exact u8_u64N ri | simpa using u8_u64N ri)) ?c2_1 ?c2_2 ?_))
  case c2_1 => exact Nat.le_trans HS1.out.le (by simp)
  case c2_2 => have := HB.out.1; have := textL_len9 af.data.toList; first | omega | (simp; done) | (simp; omega)
  intro v2 W2 ho hg
  have h9 := (HS1.out.alloc _).step ho hg
  have HS2 := Lib.hid (show BS w.heap.size W0 v0 W2 v2 (putL 12 1 ++ tokL tb tg ts tc ++ [UInt8.ofNat (u64N ri)]) by first | exact h9 | simpa [List.append_assoc] using h9)
  clear h9
  have HR2 := Lib.hid (HS2.out.row (by decide) HR0.out)
  clear ho hg HS1 hcl0 hcl14
  have hcl0 := (cell_of_row W2 w.heap.size 0 _ _ _ HR2.out).trans (show _ = some (.int .i64 12) from rfl)
  have hcl10 := (cell_of_row W2 w.heap.size 10 _ _ _ HR2.out).trans (show _ = some (.slice a n cap) from rfl)
  go_wp2_with fail
  clear hcl0 hcl10
  have HL0 := Lib.hid (show (putL 12 1 ++ tokL tb tg ts tc ++ [UInt8.ofNat (u64N ri)]).length ≤ 400000 by have := textL_len9 af.data.toList; first | omega | (simp; done) | (simp; omega))
  obtain ⟨L0, hL0⟩ : ∃ L, L = putL 12 1 ++ tokL tb tg ts tc ++ [UInt8.ofNat (u64N ri)] := ⟨_, rfl⟩
  rw [← hL0] at HS2 HL0
  have HGL := Lib.hid hL0
  clear hL0
  go_loopw [3, 4] (fun o i wr => ∃ k : Nat, k ≤ n ∧ i = .int .i64 k ∧ Hid (BS w.heap.size W0 v0 wr o (L0 ++ opsL 12 (ops.take k)))) (fun _ i _ => n - (intOf i).toNat)
  case atStart => exact ⟨0, Nat.zero_le _, rfl, by have := HS2; simpa [opsL] using this⟩
  case round =>
    obtain ⟨k, hk, rfl, HST⟩ := hrel
    clear HS2 HR2
    have HR9 := Lib.hid (HST.out.row (by decide) HR0.out)
    have hc10 := (cell_of_row wr w.heap.size 10 _ _ _ HR9.out).trans (show _ = some (.slice a n cap) from rfl)
    by_cases hlt : k < n
    · have hki : (k : Int) < (n : Int) := by omega
      have hk9 : k < 1000 := by have := HB.out.2.2.2.2.2.2.2; omega
      have hkl : k < ops.length := by have := HNN.out; omega
      obtain ⟨b, off, rfl, hb, hc, _⟩ := HROW.out k hkl
      have HX := Lib.hid (range_of (W := w) hc)
      have HBL := Lib.hid hb
      have HOX := Lib.hid (HOP.out _ (List.getElem_mem hkl))
      have HTK := Lib.hid (opsL_take 12 ops k hkl)
      have HLN := Lib.hid (show (L0 ++ opsL 12 (ops.take k)).length ≤ 200000000 by have := HL0.out; have := opsL_len 12 (ops.take k); have := HB.out.2.2.2.2.2.2.2; rw [List.length_append]; rw [List.length_take] at *; omega)
      clear hc hb
      generalize ops[k] = x at *
      obtain ⟨xd, xk, xv, xc, xu⟩ := x
      have HRW0 := Lib.hid (fun (j : Nat) (v : Value) (hv : (COp.cells ⟨xd, xk, xv, xc, xu⟩)[j]? = some v) => ((HBA.out.trans HST.out.rk.bel).cell (p := ⟨b, off + k * 5 + j, none⟩) HBL.out).trans (HX.out j v hv))
      clear hkl HX
      cases xd with
      | true =>
        have HRW := Lib.hid (show wr.rangeAt b (off + k * 5) [.bool true, .string xk, .string xv, .int .u64 (xc : Int), .int .u64 (xu : Int)] from HRW0.out)
        obtain ⟨V3, hV3⟩ : ∃ V, V = (wr.alloc (.cells #[.bool false, .string ByteArray.empty, .string ByteArray.empty, .int .u64 0, .int .u64 0] 90)).setRow wr.heap.size #[.bool true, .string xk, .string xv, .int .u64 (xc : Int), .int .u64 (xu : Int)] := ⟨_, rfl⟩
        have HS3 := Lib.hid (run_storeRow (wr.alloc (.cells #[.bool false, .string ByteArray.empty, .string ByteArray.empty, .int .u64 0, .int .u64 0] 90)) 90 wr.heap.size #[.bool false, .string ByteArray.empty, .string ByteArray.empty, .int .u64 0, .int .u64 0] #[.bool true, .string xk, .string xv, .int .u64 (xc : Int), .int .u64 (xu : Int)] (heap_alloc_new wr _) rop_size rfl (by simp [Value.oneCell']))
        have HL3 := Lib.hid (setRow_heap (wr.alloc (.cells #[.bool false, .string ByteArray.empty, .string ByteArray.empty, .int .u64 0, .int .u64 0] 90)) wr.heap.size #[.bool false, .string ByteArray.empty, .string ByteArray.empty, .int .u64 0, .int .u64 0] #[.bool true, .string xk, .string xv, .int .u64 (xc : Int), .int .u64 (xu : Int)] 90 (0, 0) (heap_alloc_new wr _))
        have HST3 := Lib.hid (HST.out.bel (below_boxC wr #[.bool false, .string ByteArray.empty, .string ByteArray.empty, .int .u64 0, .int .u64 0] #[.bool true, .string xk, .string xv, .int .u64 (xc : Int), .int .u64 (xu : Int)] 90))
        rw [← hV3] at HS3 HL3 HST3
        have htg := (cell_of_row V3 w.heap.size 0 _ _ _ (HST3.out.row (by decide) HR0.out)).trans (show _ = some (.int .i64 12) from rfl)
        clear hV3 HST HRW0 HR9
        obtain ⟨LK, hLK⟩ : ∃ L, L = L0 ++ opsL 12 (ops.take k) := ⟨_, rfl⟩
        rw [← hLK] at HST3 HLN
        have HLK := Lib.hid hLK
        clear hLK
        have hx1 := (cell_of_row V3 wr.heap.size 1 _ _ _ HL3.out).trans (show _ = some (.string xk) from rfl)
        go_wp2_with (first | ((with_reducible refine atLoad ?_); refine wpList_load_mid rfl 90 (.tmp 102) rfl b (off + k * 5) rfl [.bool true, .string xk, .string xv, .int .u64 (xc : Int), .int .u64 (xu : Int)] _ HRW.out Try.underlying90 rfl rop_size ?_) | ((with_reducible refine atStore ?_); refine wpList_store_by rfl 90 (.tmp 5) (.tmp 103) rfl (.pointer (some ⟨wr.heap.size, 0, none⟩)) _ rfl rfl HS3.out ?_))
        clear hx1
        refine (refText _ _ _ xk _ HST3.out.own HST3.out.le (by have := HLN.out; have := textL_len9 xk.data.toList; first | omega | (simp; omega)) HOX.out.2.2.1).mono ?_
        intro e Wb hp
        obtain ⟨vb, rfl, hk, hs⟩ := HST3.out.put2 hp
        have HSb := Lib.hid hs
        have HXb := Lib.hid (hk.row _ _ _ _ (by decide) HL3.out)
        have HTb := Lib.hid (HSb.out.row (by decide) HR0.out)
        clear hp hs hk HST3 HL3
        have htg := (cell_of_row Wb w.heap.size 0 _ _ _ HTb.out).trans (show _ = some (.int .i64 12) from rfl)
        have hx3 := (cell_of_row Wb wr.heap.size 3 _ _ _ HXb.out).trans (show _ = some (.int .u64 (xc : Int)) from rfl)
        go_wp2_with fail
        clear hx3 htg
        refine (refPut _ _ _ xc 8 _ HSb.out.own HSb.out.le (by have := HLN.out; have := textL_len9 xk.data.toList; first | omega | (simp; omega)) HOX.out.1 (by omega)).mono ?_
        intro e Wc hp
        obtain ⟨vc, rfl, hk, hs⟩ := HSb.out.put2 hp
        have HSc := Lib.hid hs
        have HXc := Lib.hid (hk.row _ _ _ _ (by decide) HXb.out)
        have HTc := Lib.hid (HSc.out.row (by decide) HR0.out)
        clear hp hs hk HSb HXb
        have hx0 := (cell_of_row Wc wr.heap.size 0 _ _ _ HXc.out).trans (show _ = some (.bool true) from rfl)
        go_wp2
        go_roundw
        case rel => exact ⟨k + 1, by omega, by go_num, show BS _ _ _ _ _ _ by
          rw [HTK.out, ← List.append_assoc, ← HLK.out]
          have h9 := HSc.out
          simpa [opL, putL_one] using h9⟩
        case measure => simp [intOf]; omega
      | false =>
        have HRW := Lib.hid (show wr.rangeAt b (off + k * 5) [.bool false, .string xk, .string xv, .int .u64 (xc : Int), .int .u64 (xu : Int)] from HRW0.out)
        obtain ⟨V3, hV3⟩ : ∃ V, V = (wr.alloc (.cells #[.bool false, .string ByteArray.empty, .string ByteArray.empty, .int .u64 0, .int .u64 0] 90)).setRow wr.heap.size #[.bool false, .string xk, .string xv, .int .u64 (xc : Int), .int .u64 (xu : Int)] := ⟨_, rfl⟩
        have HS3 := Lib.hid (run_storeRow (wr.alloc (.cells #[.bool false, .string ByteArray.empty, .string ByteArray.empty, .int .u64 0, .int .u64 0] 90)) 90 wr.heap.size #[.bool false, .string ByteArray.empty, .string ByteArray.empty, .int .u64 0, .int .u64 0] #[.bool false, .string xk, .string xv, .int .u64 (xc : Int), .int .u64 (xu : Int)] (heap_alloc_new wr _) rop_size rfl (by simp [Value.oneCell']))
        have HL3 := Lib.hid (setRow_heap (wr.alloc (.cells #[.bool false, .string ByteArray.empty, .string ByteArray.empty, .int .u64 0, .int .u64 0] 90)) wr.heap.size #[.bool false, .string ByteArray.empty, .string ByteArray.empty, .int .u64 0, .int .u64 0] #[.bool false, .string xk, .string xv, .int .u64 (xc : Int), .int .u64 (xu : Int)] 90 (0, 0) (heap_alloc_new wr _))
        have HST3 := Lib.hid (HST.out.bel (below_boxC wr #[.bool false, .string ByteArray.empty, .string ByteArray.empty, .int .u64 0, .int .u64 0] #[.bool false, .string xk, .string xv, .int .u64 (xc : Int), .int .u64 (xu : Int)] 90))
        rw [← hV3] at HS3 HL3 HST3
        have htg := (cell_of_row V3 w.heap.size 0 _ _ _ (HST3.out.row (by decide) HR0.out)).trans (show _ = some (.int .i64 12) from rfl)
        clear hV3 HST HRW0 HR9
        obtain ⟨LK, hLK⟩ : ∃ L, L = L0 ++ opsL 12 (ops.take k) := ⟨_, rfl⟩
        rw [← hLK] at HST3 HLN
        have HLK := Lib.hid hLK
        clear hLK
        have hx1 := (cell_of_row V3 wr.heap.size 1 _ _ _ HL3.out).trans (show _ = some (.string xk) from rfl)
        go_wp2_with (first | ((with_reducible refine atLoad ?_); refine wpList_load_mid rfl 90 (.tmp 102) rfl b (off + k * 5) rfl [.bool false, .string xk, .string xv, .int .u64 (xc : Int), .int .u64 (xu : Int)] _ HRW.out Try.underlying90 rfl rop_size ?_) | ((with_reducible refine atStore ?_); refine wpList_store_by rfl 90 (.tmp 5) (.tmp 103) rfl (.pointer (some ⟨wr.heap.size, 0, none⟩)) _ rfl rfl HS3.out ?_))
        clear hx1
        refine (refText _ _ _ xk _ HST3.out.own HST3.out.le (by have := HLN.out; have := textL_len9 xk.data.toList; first | omega | (simp; omega)) HOX.out.2.2.1).mono ?_
        intro e Wb hp
        obtain ⟨vb, rfl, hk, hs⟩ := HST3.out.put2 hp
        have HSb := Lib.hid hs
        have HXb := Lib.hid (hk.row _ _ _ _ (by decide) HL3.out)
        have HTb := Lib.hid (HSb.out.row (by decide) HR0.out)
        clear hp hs hk HST3 HL3
        have htg := (cell_of_row Wb w.heap.size 0 _ _ _ HTb.out).trans (show _ = some (.int .i64 12) from rfl)
        have hx3 := (cell_of_row Wb wr.heap.size 3 _ _ _ HXb.out).trans (show _ = some (.int .u64 (xc : Int)) from rfl)
        go_wp2_with fail
        clear hx3 htg
        refine (refPut _ _ _ xc 8 _ HSb.out.own HSb.out.le (by have := HLN.out; have := textL_len9 xk.data.toList; first | omega | (simp; omega)) HOX.out.1 (by omega)).mono ?_
        intro e Wc hp
        obtain ⟨vc, rfl, hk, hs⟩ := HSb.out.put2 hp
        have HSc := Lib.hid hs
        have HXc := Lib.hid (hk.row _ _ _ _ (by decide) HXb.out)
        have HTc := Lib.hid (HSc.out.row (by decide) HR0.out)
        clear hp hs hk HSb HXb
        have hx0 := (cell_of_row Wc wr.heap.size 0 _ _ _ HXc.out).trans (show _ = some (.bool false) from rfl)
        go_wp2_with fail
        clear hx0
        obtain ⟨L9, hL9⟩ : ∃ L, L = LK ++ textL xk.data.toList ++ putL xc 8 := ⟨_, rfl⟩
        rw [← hL9] at HSc
        have HL9 := Lib.hid (show L9.length ≤ 300000000 by have := HLN.out; have := textL_len9 xk.data.toList; rw [hL9]; first | omega | (simp; omega))
        have HL9E := Lib.hid hL9
        clear hL9
        refine Reg.wp_regionH (RK w.heap.size) (RK.refl _) (fun _ _ _ h k => h.trans k) 3 6 (fun W => BS w.heap.size W0 v0 W vc L9) (fun x W => BS w.heap.size W0 v0 W x (L9 ++ textL xv.data.toList)) (fun x W => BS w.heap.size W0 v0 W x (L9 ++ (textL xv.data.toList ++ putL xu 8))) (by kernel_rfl) (by kernel_rfl) (HSc.out.drew 1) ?_
        refine Reg.segH 2 (by kernel_rfl) rfl (by kernel_rfl) ?_
        apply Exists.intro
        refine ⟨fun e => ?_, ?_⟩
        · simp only [List.take_succ_cons, List.take_zero]
          repeat (go_big_quiet_step ((intro _; rfl)))
          refine wpQuiet_nil ?_
          exact rfl
        simp only [List.drop_succ_cons, List.drop_zero, Nat.reduceAdd]
        refine Reg.stillH (.string xv) (RK.refl _) (by kernel_rfl) (fun e W hR => ⟨by rfl, ?_⟩) ?_
        · have hcb := (cell_of_row W wr.heap.size 2 _ _ _ (hR.row _ _ _ _ (by decide) HXc.out)).trans (show _ = some (.string xv) from rfl)
          unfold Reg.gives
          go_simp
        simp only [Act.put, List.setIfInBounds_toArray, List.set_cons_zero, List.set_cons_succ, Nat.reduceAdd]
        refine Reg.callH (by kernel_rfl) (fun e W hR h0 => ⟨by rfl, ?_⟩) ?_
        · unfold Reg.gives
          go_simp
          refine (refText _ _ _ xv W h0.own h0.le (by have := HL9.out; omega) HOX.out.2.2.2).mono ?_
          intro en W' hp
          obtain ⟨v', rfl, hk, hs⟩ := h0.put2 hp
          exact ⟨v', rfl, hk, hs⟩
        simp only [Act.put, List.setIfInBounds_toArray, List.set_cons_zero, List.set_cons_succ, Nat.reduceAdd]
        refine Reg.segH 1 (by kernel_rfl) rfl (by kernel_rfl) ?_
        apply Exists.intro
        refine ⟨fun e => ?_, ?_⟩
        · simp only [List.take_succ_cons, List.take_zero]
          repeat (go_big_quiet_step ((intro _; rfl)))
          refine wpQuiet_nil ?_
          exact rfl
        simp only [List.drop_succ_cons, List.drop_zero, Nat.reduceAdd]
        refine Reg.stillH (.int .u64 (xu : Int)) (RK.refl _) (by kernel_rfl) (fun e W hR => ⟨by rfl, ?_⟩) ?_
        · have hcb := (cell_of_row W wr.heap.size 4 _ _ _ (hR.row _ _ _ _ (by decide) HXc.out)).trans (show _ = some (.int .u64 (xu : Int)) from rfl)
          unfold Reg.gives
          go_simp
        simp only [Act.put, List.setIfInBounds_toArray, List.set_cons_zero, List.set_cons_succ, Nat.reduceAdd]
        refine Reg.callH2 (by kernel_rfl) (fun e W hR h0 => ⟨by rfl, ?_⟩) ?_
        · unfold Reg.gives
          go_simp
          refine (refPut _ _ _ xu 8 W h0.own h0.le (by have := HL9.out; have := textL_len9 xv.data.toList; simp only [List.length_append]; omega) HOX.out.2.1 (by omega)).mono ?_
          intro en W' hp
          obtain ⟨v', rfl, hk, hs⟩ := h0.put2 hp
          exact ⟨v', rfl, hk, by rwa [List.append_assoc] at hs⟩
        simp only [Act.put, List.setIfInBounds_toArray, List.set_cons_zero, List.set_cons_succ, Nat.reduceAdd]
        refine Reg.segH 1 (by kernel_rfl) rfl (by kernel_rfl) ?_
        apply Exists.intro
        refine ⟨fun e => ?_, ?_⟩
        · simp only [List.take_succ_cons, List.take_zero]
          repeat (go_big_quiet_step ((intro _; rfl)))
          refine wpQuiet_nil ?_
          exact rfl
        simp only [List.drop_succ_cons, List.drop_zero, Nat.reduceAdd]
        intro e W hR hJ hf
        have hJ2 := Lib.hid (hJ.2.2 (by rfl))
        clear hf hR hJ
        go_wp2
        go_roundw
        case rel => exact ⟨k + 1, by omega, by go_num, show BS _ _ _ _ _ _ by
          rw [HTK.out, ← List.append_assoc, ← HLK.out]
          have h9 := hJ2.out
          rw [HL9E.out] at h9
          simpa [opL, putL_one] using h9⟩
        case measure => simp [intOf]; omega
    · obtain rfl : k = n := by omega
      have HSA := Lib.hid (show BS w.heap.size W0 v0 wr u3 (L0 ++ opsL 12 ops) by have := HST.out; rwa [List.take_of_length_le (show ops.length ≤ k by rw [HNN.out]; exact Nat.le_refl _)] at this)
      clear HST
      go_wp2
      go_ret
      rw [HEQ.out]
      exact HSA.out.makes HBA.out (by rw [HGL.out])
end Go.Proofs.Ytlngefhjoobmdaa
