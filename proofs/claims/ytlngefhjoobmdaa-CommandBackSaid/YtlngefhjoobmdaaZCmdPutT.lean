/- command.put: tenants (layer 16). -/
import Derived.Test.YtlngefhjoobmdaaMg4
import Derived.BigQuiet
namespace Go.Proofs.Ytlngefhjoobmdaa
open Go.RowKit
set_option maxRecDepth 100000 in
set_option maxHeartbeats 4000000 in
theorem put10 (ad : Nat) (bu qk qb qg tb : Int) (tg ts tc : Nat) (ops : List COp) (af : ByteArray) (fi : Bool) (co ri : Int) (se : Nat) (a : Option Addr) (cap : Nat) (w : World) (hrow : IsRowOf COp.cells (fun _ => True) 5 w a ops) (had : ad < 18446744073709551616) (htg : tg < 4294967296) (hts : ts < 4294967296) (htc : tc < 18446744073709551616) (hse : se < 4294967296) (haf : af.size ≤ maxLen) (hop : ∀ x ∈ ops, x.wf) (hn : ops.length ≤ 1000) :
    Calls Try.prog 35 #[.agg #[.int .i64 10, .int .u64 (ad : Int), .int .i64 bu, .int .i64 qk, .int .i64 qb, .int .i64 qg, .int .i64 tb, .int .u32 (tg : Int), .int .u32 (ts : Int), .int .u64 (tc : Int), .slice a ops.length cap, .string af, .bool fi, .int .i64 co, .int .i64 ri, .int .u32 (se : Int)]] w (Makes w (reqL ⟨10, ad, bu, qk, qb, qg, tb, tg, ts, tc, ops, af, fi, co, ri, se⟩)) := by
  have HEQ := Lib.hid (show reqL ⟨10, ad, bu, qk, qb, qg, tb, tg, ts, tc, ops, af, fi, co, ri, se⟩ = (([] ++ putL 10 1 ++ tokL tb tg ts tc) ++ opsL 10 ops) ++ textL af.data.toList ++ (putL (bitN fi) 1 ++ putL (u64N co) 1) by unfold reqL headQ tailQ; simp [show u64N 10 = 10 from rfl])
  have HB := Lib.hid (show 0 ≤ 1000000000 ∧ ad < 18446744073709551616 ∧ tg < 4294967296 ∧ ts < 4294967296 ∧ tc < 18446744073709551616 ∧ se < 4294967296 ∧ af.size ≤ maxLen ∧ ops.length ≤ 1000 from ⟨by omega, had, htg, hts, htc, hse, haf, hn⟩)
  have HROW := Lib.hid hrow
  have HOP := Lib.hid hop
  have hwt := wrap_u64N 10
  have hwb := wrap_u64N bu
  have hwk := wrap_u64N qk
  have hwq := wrap_u64N qb
  have hwg := wrap_u64N qg
  have hwc := wrap_u64N co
  have hwr := wrap_u64N ri
  have hws : IntKind.u64.wrap (se : Int) = (se : Int) := by rw [IntKind.wrap_u64]; omega
  have hwn : IntKind.u64.wrap (ops.length : Int) = (ops.length : Int) := by rw [IntKind.wrap_u64]; omega
  clear had htg hts htc hse haf hop hrow hn
  have HN := Lib.hid (show ops.length = ops.length from rfl)
  generalize hnn : ops.length = n at HB hwn ⊢
  have HNN := Lib.hid hnn
  clear hnn HN
  have HS0 := Lib.hid (BS.start (B := w.heap.size) (OwnB.nil w.heap.size (w.alloc (.cells #[.int .i64 10, .int .u64 (ad : Int), .int .i64 bu, .int .i64 qk, .int .i64 qb, .int .i64 qg, .int .i64 tb, .int .u32 (tg : Int), .int .u32 (ts : Int), .int .u64 (tc : Int), .slice a n cap, .string af, .bool fi, .int .i64 co, .int .i64 ri, .int .u32 (se : Int)] 32))) (by simp))
  have HR0 := Lib.hid (heap_alloc_new w (.cells #[.int .i64 10, .int .u64 (ad : Int), .int .i64 bu, .int .i64 qk, .int .i64 qb, .int .i64 qg, .int .i64 tb, .int .u32 (tg : Int), .int .u32 (ts : Int), .int .u64 (tc : Int), .slice a n cap, .string af, .bool fi, .int .i64 co, .int .i64 ri, .int .u32 (se : Int)] 32))
  have HBA := Lib.hid ((Below.refl w.heap.size w).alloc (Nat.le_refl _) (.cells #[.int .i64 10, .int .u64 (ad : Int), .int .i64 bu, .int .i64 qk, .int .i64 qb, .int .i64 qg, .int .i64 tb, .int .u32 (tg : Int), .int .u32 (ts : Int), .int .u64 (tc : Int), .slice a n cap, .string af, .bool fi, .int .i64 co, .int .i64 ri, .int .u32 (se : Int)] 32))
  go_enter Try.func35, Try.ntmps35
  go_wp2_with fail
  generalize (w.alloc (.cells #[.int .i64 10, .int .u64 (ad : Int), .int .i64 bu, .int .i64 qk, .int .i64 qb, .int .i64 qg, .int .i64 tb, .int .u32 (tg : Int), .int .u32 (ts : Int), .int .u64 (tc : Int), .slice a n cap, .string af, .bool fi, .int .i64 co, .int .i64 ri, .int .u32 (se : Int)] 32)) = W0 at *
  refine (packPut _ _ _ 10 1 _ HS0.out.own HS0.out.le (by have := HB.out.1; have := textL_len9 af.data.toList; first | omega | (simp; done) | (simp; omega)) (by omega) (by omega) (by omega)).mono ?_
  intro e W1 hp
  obtain ⟨v1, rfl, hs⟩ := HS0.out.put hp
  have HS1 := Lib.hid hs
  have HR1 := Lib.hid (HS1.out.row (by decide) HR0.out)
  clear hp hs HS0
  have hcl0 := (cell_of_row W1 w.heap.size 0 _ _ _ HR1.out).trans (show _ = some (.int .i64 10) from rfl)
  have HT1 := Lib.hid (range_row HR1.out (o := 6) [.int .i64 tb, .int .u32 (tg : Int), .int .u32 (ts : Int), .int .u64 (tc : Int)] (by intro j v hv; rcases j with _ | _ | _ | _ | j <;> simp at hv <;> subst hv <;> rfl))
  go_wp2_with ((with_reducible refine atLoad ?_); refine wpList_load_mid rfl 29 (.tmp 53) rfl w.heap.size 6 rfl [.int .i64 tb, .int .u32 (tg : Int), .int .u32 (ts : Int), .int .u64 (tc : Int)] _ HT1.out Try.underlying29 rfl tok_size' ?_)
  clear hcl0 HT1
  refine (cTok _ _ _ tb tg ts tc _ HS1.out.own HS1.out.le (by have := HB.out.1; have := textL_len9 af.data.toList; first | omega | (simp; done) | (simp; omega)) HB.out.2.2.1 HB.out.2.2.2.1 HB.out.2.2.2.2.1).mono ?_
  intro e W2 hp
  obtain ⟨v2, rfl, hs⟩ := HS1.out.put hp
  have HS2 := Lib.hid hs
  have HR2 := Lib.hid (HS2.out.row (by decide) HR0.out)
  clear hp hs HS1
  have hcl0 := (cell_of_row W2 w.heap.size 0 _ _ _ HR2.out).trans (show _ = some (.int .i64 10) from rfl)
  have hcl10 := (cell_of_row W2 w.heap.size 10 _ _ _ HR2.out).trans (show _ = some (.slice a n cap) from rfl)
  go_wp2_with fail
  clear hcl10 hcl0
  have HL0 := Lib.hid (show ([] ++ putL 10 1 ++ tokL tb tg ts tc).length ≤ 1000 by simp)
  obtain ⟨L0, hL0⟩ : ∃ L, L = [] ++ putL 10 1 ++ tokL tb tg ts tc := ⟨_, rfl⟩
  rw [← hL0] at HS2 HL0
  have HGL := Lib.hid hL0
  clear hL0
  go_loopw [3, 68] (fun o i wr => ∃ k : Nat, k ≤ n ∧ i = .int .i64 k ∧ Hid (BS w.heap.size W0 (.slice none 0 0) wr o (L0 ++ opsL 10 (ops.take k)))) (fun _ i _ => n - (intOf i).toNat)
  case atStart => exact ⟨0, Nat.zero_le _, rfl, by have := HS2; simpa [opsL] using this⟩
  case round =>
    obtain ⟨k, hk, rfl, HST⟩ := hrel
    clear HS2 HR2
    by_cases hlt : k < n
    · have hki : (k : Int) < (n : Int) := by omega
      have hkl : k < ops.length := by have := HNN.out; omega
      obtain ⟨b, off, rfl, hb, hc, _⟩ := HROW.out k hkl
      have HX := Lib.hid (range_of (W := w) hc)
      have HBL := Lib.hid hb
      have HOX := Lib.hid (HOP.out _ (List.getElem_mem hkl))
      have HTK := Lib.hid (opsL_take 10 ops k hkl)
      have HLN := Lib.hid (show (L0 ++ opsL 10 (ops.take k)).length ≤ 200000000 by have := HL0.out; have := opsL_len 10 (ops.take k); have := HB.out.2.2.2.2.2.2.2; rw [List.length_append]; rw [List.length_take] at *; omega)
      clear hc hb
      generalize ops[k] = x at *
      obtain ⟨xd, xk, xv, xc, xu⟩ := x
      have HRW := Lib.hid (show wr.rangeAt b (off + k * 5) [.bool xd, .string xk, .string xv, .int .u64 (xc : Int), .int .u64 (xu : Int)] from fun (j : Nat) (v : Value) hv => ((HBA.out.trans HST.out.rk.bel).cell (p := ⟨b, off + k * 5 + j, none⟩) HBL.out).trans (HX.out j v hv))
      obtain ⟨V3, hV3⟩ : ∃ V, V = (wr.alloc (.cells #[.bool false, .string ByteArray.empty, .string ByteArray.empty, .int .u64 0, .int .u64 0] 93)).setRow wr.heap.size #[.bool xd, .string xk, .string xv, .int .u64 (xc : Int), .int .u64 (xu : Int)] := ⟨_, rfl⟩
      have HS3 := Lib.hid (run_storeRow (wr.alloc (.cells #[.bool false, .string ByteArray.empty, .string ByteArray.empty, .int .u64 0, .int .u64 0] 93)) 93 wr.heap.size #[.bool false, .string ByteArray.empty, .string ByteArray.empty, .int .u64 0, .int .u64 0] #[.bool xd, .string xk, .string xv, .int .u64 (xc : Int), .int .u64 (xu : Int)] (heap_alloc_new wr _) cop_size rfl (by simp [Value.oneCell']))
      have HL3 := Lib.hid (setRow_heap (wr.alloc (.cells #[.bool false, .string ByteArray.empty, .string ByteArray.empty, .int .u64 0, .int .u64 0] 93)) wr.heap.size #[.bool false, .string ByteArray.empty, .string ByteArray.empty, .int .u64 0, .int .u64 0] #[.bool xd, .string xk, .string xv, .int .u64 (xc : Int), .int .u64 (xu : Int)] 93 (0, 0) (heap_alloc_new wr _))
      have HST3 := Lib.hid (HST.out.bel (below_boxC wr #[.bool false, .string ByteArray.empty, .string ByteArray.empty, .int .u64 0, .int .u64 0] #[.bool xd, .string xk, .string xv, .int .u64 (xc : Int), .int .u64 (xu : Int)] 93))
      rw [← hV3] at HS3 HL3 HST3
      have htg := (cell_of_row V3 w.heap.size 0 _ _ _ (HST3.out.row (by decide) HR0.out)).trans (show _ = some (.int .i64 10) from rfl)
      clear hV3 HST hkl HX
      go_wp2_with (first | ((with_reducible refine atLoad ?_); refine wpList_load_mid rfl 93 (.tmp 70) rfl b (off + k * 5) rfl [.bool xd, .string xk, .string xv, .int .u64 (xc : Int), .int .u64 (xu : Int)] _ HRW.out Try.underlying93 rfl cop_size ?_) | ((with_reducible refine atStore ?_); refine wpList_store_by rfl 93 (.tmp 5) (.tmp 71) rfl (.pointer (some ⟨wr.heap.size, 0, none⟩)) _ rfl rfl HS3.out ?_) | ((with_reducible refine atLoad ?_); refine wpList_load_row rfl 93 (.tmp 5) rfl wr.heap.size rfl 93 #[.bool xd, .string xk, .string xv, .int .u64 (xc : Int), .int .u64 (xu : Int)] (0, 0) _ HL3.out Try.underlying93 rfl cop_size ?_))
      refine (putOp w.heap.size _ _ 10 ⟨xd, xk, xv, xc, xu⟩ _ HST3.out.own HST3.out.le (by have := HLN.out; omega) HOX.out).mono ?_
      intro e W4 hp
      obtain ⟨v4, rfl, hs⟩ := HST3.out.put hp
      have HST4 := Lib.hid hs
      clear hp hs HST3 HS3 HL3 htg HRW
      have hk9 : k < 1000 := by have := HB.out.2.2.2.2.2.2.2; omega
      go_wp2
      go_roundw
      case rel => exact ⟨k + 1, by omega, by go_num, show BS _ _ _ _ _ _ by rw [HTK.out, ← List.append_assoc]; exact HST4.out⟩
      case measure => simp [intOf]; omega
    · obtain rfl : k = n := by omega
      have HSA := Lib.hid (show BS w.heap.size W0 (.slice none 0 0) wr u3 (L0 ++ opsL 10 ops) by have := HST.out; rwa [← HNN.out, List.take_length] at this)
      have HRA := Lib.hid (HSA.out.row (by decide) HR0.out)
      have HLA := Lib.hid (show (L0 ++ opsL 10 ops).length ≤ 200000000 by have := HL0.out; have := opsL_len 10 ops; have := HB.out.2.2.2.2.2.2.2; have := HNN.out; rw [List.length_append]; omega)
      have HEQ2 := Lib.hid (HEQ.out.trans (by rw [← HGL.out]))
      clear HST HEQ
      obtain ⟨LA, hLA⟩ : ∃ L, L = L0 ++ opsL 10 ops := ⟨_, rfl⟩
      rw [← hLA] at HSA HLA HEQ2
      clear hLA
      have htg := (cell_of_row wr w.heap.size 0 _ _ _ HRA.out).trans (show _ = some (.int .i64 10) from rfl)
      have hcl11 := (cell_of_row wr w.heap.size 11 _ _ _ HRA.out).trans (show _ = some (.string af) from rfl)
      go_wp2_with fail
      clear hcl11 htg
      refine (packPutText _ _ _ af _ HSA.out.own HSA.out.le (by have := HLA.out; have := textL_len9 af.data.toList; first | omega | (simp; done) | (simp; omega)) HB.out.2.2.2.2.2.2.1).mono ?_
      intro e W20 hp
      obtain ⟨v20, rfl, hs⟩ := HSA.out.put hp
      have HS20 := Lib.hid hs
      have HR20 := Lib.hid (HS20.out.row (by decide) HR0.out)
      clear hp hs HSA
      obtain ⟨LB, hLB⟩ : ∃ L, L = LA ++ textL af.data.toList := ⟨_, rfl⟩
      have HLB := Lib.hid (show LB.length ≤ 300000000 by have := HLA.out; have := textL_len9 af.data.toList; rw [hLB, List.length_append]; omega)
      rw [← List.append_assoc, ← hLB] at HEQ2
      rw [← hLB] at HS20
      clear hLB
      go_wp2_with fail
      refine Reg.wp_regionH (RK w.heap.size) (RK.refl _) (fun _ _ _ h k => h.trans k) 4 8 (fun W => BS w.heap.size W0 (.slice none 0 0) W v20 LB) (fun x W => BS w.heap.size W0 (.slice none 0 0) W x (LB ++ putL (bitN fi) 1)) (fun x W => BS w.heap.size W0 (.slice none 0 0) W x (LB ++ (putL (bitN fi) 1 ++ putL (u64N co) 1))) (by kernel_rfl) (by kernel_rfl) (HS20.out.drew 1) ?_
      refine Reg.segH 2 (by kernel_rfl) rfl (by kernel_rfl) ?_
      apply Exists.intro
      refine ⟨fun e => ?_, ?_⟩
      · simp only [List.take_succ_cons, List.take_zero]
        repeat (go_big_quiet_step ((intro _; rfl)))
        refine wpQuiet_nil ?_
        exact rfl
      simp only [List.drop_succ_cons, List.drop_zero, Nat.reduceAdd]
      refine Reg.stillH (.bool fi) (RK.refl _) (by kernel_rfl) (fun e W hR => ⟨by rfl, ?_⟩) ?_
      · have hcb := (cell_of_row W w.heap.size 12 _ _ _ (hR.row _ _ _ _ (by decide) HR20.out)).trans (show _ = some (.bool fi) from rfl)
        unfold Reg.gives
        go_simp
      simp only [Act.put, List.setIfInBounds_toArray, List.set_cons_zero, List.set_cons_succ, Nat.reduceAdd]
      refine Reg.stillH (.int .u64 (bitN fi : Int)) (RK.refl _) (by kernel_rfl) (fun e W hR => ⟨by rfl, ?_⟩) ?_
      · unfold Reg.gives
        go_simp
        refine (cBit fi W).mono ?_
        rintro en W' ⟨rfl, rfl⟩
        simp
      simp only [Act.put, List.setIfInBounds_toArray, List.set_cons_zero, List.set_cons_succ, Nat.reduceAdd]
      refine Reg.callH (by kernel_rfl) (fun e W hR h0 => ⟨by rfl, ?_⟩) ?_
      · unfold Reg.gives
        go_simp
        refine (packPut _ _ _ (bitN fi) 1 W h0.own h0.le (by have := HLB.out; omega) (bitN_lt _) (by omega) (by omega)).mono ?_
        intro en W' hp
        obtain ⟨v', rfl, hk, hs⟩ := h0.put2 hp
        exact ⟨v', rfl, hk, hs⟩
      simp only [Act.put, List.setIfInBounds_toArray, List.set_cons_zero, List.set_cons_succ, Nat.reduceAdd]
      refine Reg.segH 1 (by kernel_rfl) rfl (by kernel_rfl) ?_
      apply Exists.intro
      refine ⟨fun e => ?_, ?_⟩
      · simp only [List.take_succ_cons, List.take_zero]
        repeat (go_big_quiet_step ((intro _; rfl)))
        refine wpQuiet_nil ?_
        exact rfl
      simp only [List.drop_succ_cons, List.drop_zero, Nat.reduceAdd]
      refine Reg.stillH (.int .i64 co) (RK.refl _) (by kernel_rfl) (fun e W hR => ⟨by rfl, ?_⟩) ?_
      · have hcb := (cell_of_row W w.heap.size 13 _ _ _ (hR.row _ _ _ _ (by decide) HR20.out)).trans (show _ = some (.int .i64 co) from rfl)
        unfold Reg.gives
        go_simp
      simp only [Act.put, List.setIfInBounds_toArray, List.set_cons_zero, List.set_cons_succ, Nat.reduceAdd]
      refine Reg.stillH (.int .u64 (u64N co : Int)) (RK.refl _) (by kernel_rfl) (fun e W hR => ⟨by rfl, ?_⟩) ?_
      · unfold Reg.gives
        go_simp
      simp only [Act.put, List.setIfInBounds_toArray, List.set_cons_zero, List.set_cons_succ, Nat.reduceAdd]
      refine Reg.callH2 (by kernel_rfl) (fun e W hR h0 => ⟨by rfl, ?_⟩) ?_
      · unfold Reg.gives
        go_simp
        refine (packPut _ _ _ (u64N co) 1 W h0.own h0.le (by have := HLB.out; simp only [List.length_append, putL_length]; omega) (u64N_lt _) (by omega) (by omega)).mono ?_
        intro en W' hp
        obtain ⟨v', rfl, hk, hs⟩ := h0.put2 hp
        exact ⟨v', rfl, hk, by rwa [List.append_assoc] at hs⟩
      simp only [Act.put, List.setIfInBounds_toArray, List.set_cons_zero, List.set_cons_succ, Nat.reduceAdd]
      refine Reg.segH 1 (by kernel_rfl) rfl (by kernel_rfl) ?_
      apply Exists.intro
      refine ⟨fun e => ?_, ?_⟩
      · simp only [List.take_succ_cons, List.take_zero]
        repeat (go_big_quiet_step ((intro _; rfl)))
        refine wpQuiet_nil ?_
        exact rfl
      simp only [List.drop_succ_cons, List.drop_zero, Nat.reduceAdd]
      intro e W hR hJ hf
      have hJ2 := hJ.2.2 (by rfl)
      clear hf
      go_wp2
      go_ret
      rw [HEQ2.out]
      exact hJ2.makes HBA.out (List.append_assoc _ _ _).symm
set_option maxRecDepth 100000 in
set_option maxHeartbeats 4000000 in
theorem put12 (ad : Nat) (bu qk qb qg tb : Int) (tg ts tc : Nat) (ops : List COp) (af : ByteArray) (fi : Bool) (co ri : Int) (se : Nat) (a : Option Addr) (cap : Nat) (w : World) (hrow : IsRowOf COp.cells (fun _ => True) 5 w a ops) (had : ad < 18446744073709551616) (htg : tg < 4294967296) (hts : ts < 4294967296) (htc : tc < 18446744073709551616) (hse : se < 4294967296) (haf : af.size ≤ maxLen) (hop : ∀ x ∈ ops, x.wf) (hn : ops.length ≤ 1000) :
    Calls Try.prog 35 #[.agg #[.int .i64 12, .int .u64 (ad : Int), .int .i64 bu, .int .i64 qk, .int .i64 qb, .int .i64 qg, .int .i64 tb, .int .u32 (tg : Int), .int .u32 (ts : Int), .int .u64 (tc : Int), .slice a ops.length cap, .string af, .bool fi, .int .i64 co, .int .i64 ri, .int .u32 (se : Int)]] w (Makes w (reqL ⟨12, ad, bu, qk, qb, qg, tb, tg, ts, tc, ops, af, fi, co, ri, se⟩)) := by
  have HEQ := Lib.hid (show reqL ⟨12, ad, bu, qk, qb, qg, tb, tg, ts, tc, ops, af, fi, co, ri, se⟩ = (([] ++ putL 12 1 ++ tokL tb tg ts tc) ++ opsL 12 ops) ++ putL (u64N ri) 1 by unfold reqL headQ tailQ; simp [show u64N 12 = 12 from rfl])
  have HB := Lib.hid (show 0 ≤ 1000000000 ∧ ad < 18446744073709551616 ∧ tg < 4294967296 ∧ ts < 4294967296 ∧ tc < 18446744073709551616 ∧ se < 4294967296 ∧ af.size ≤ maxLen ∧ ops.length ≤ 1000 from ⟨by omega, had, htg, hts, htc, hse, haf, hn⟩)
  have HROW := Lib.hid hrow
  have HOP := Lib.hid hop
  have hwt := wrap_u64N 12
  have hwb := wrap_u64N bu
  have hwk := wrap_u64N qk
  have hwq := wrap_u64N qb
  have hwg := wrap_u64N qg
  have hwc := wrap_u64N co
  have hwr := wrap_u64N ri
  have hws : IntKind.u64.wrap (se : Int) = (se : Int) := by rw [IntKind.wrap_u64]; omega
  have hwn : IntKind.u64.wrap (ops.length : Int) = (ops.length : Int) := by rw [IntKind.wrap_u64]; omega
  clear had htg hts htc hse haf hop hrow hn
  have HN := Lib.hid (show ops.length = ops.length from rfl)
  generalize hnn : ops.length = n at HB hwn ⊢
  have HNN := Lib.hid hnn
  clear hnn HN
  have HS0 := Lib.hid (BS.start (B := w.heap.size) (OwnB.nil w.heap.size (w.alloc (.cells #[.int .i64 12, .int .u64 (ad : Int), .int .i64 bu, .int .i64 qk, .int .i64 qb, .int .i64 qg, .int .i64 tb, .int .u32 (tg : Int), .int .u32 (ts : Int), .int .u64 (tc : Int), .slice a n cap, .string af, .bool fi, .int .i64 co, .int .i64 ri, .int .u32 (se : Int)] 32))) (by simp))
  have HR0 := Lib.hid (heap_alloc_new w (.cells #[.int .i64 12, .int .u64 (ad : Int), .int .i64 bu, .int .i64 qk, .int .i64 qb, .int .i64 qg, .int .i64 tb, .int .u32 (tg : Int), .int .u32 (ts : Int), .int .u64 (tc : Int), .slice a n cap, .string af, .bool fi, .int .i64 co, .int .i64 ri, .int .u32 (se : Int)] 32))
  have HBA := Lib.hid ((Below.refl w.heap.size w).alloc (Nat.le_refl _) (.cells #[.int .i64 12, .int .u64 (ad : Int), .int .i64 bu, .int .i64 qk, .int .i64 qb, .int .i64 qg, .int .i64 tb, .int .u32 (tg : Int), .int .u32 (ts : Int), .int .u64 (tc : Int), .slice a n cap, .string af, .bool fi, .int .i64 co, .int .i64 ri, .int .u32 (se : Int)] 32))
  go_enter Try.func35, Try.ntmps35
  go_wp2_with fail
  generalize (w.alloc (.cells #[.int .i64 12, .int .u64 (ad : Int), .int .i64 bu, .int .i64 qk, .int .i64 qb, .int .i64 qg, .int .i64 tb, .int .u32 (tg : Int), .int .u32 (ts : Int), .int .u64 (tc : Int), .slice a n cap, .string af, .bool fi, .int .i64 co, .int .i64 ri, .int .u32 (se : Int)] 32)) = W0 at *
  refine (packPut _ _ _ 12 1 _ HS0.out.own HS0.out.le (by have := HB.out.1; have := textL_len9 af.data.toList; first | omega | (simp; done) | (simp; omega)) (by omega) (by omega) (by omega)).mono ?_
  intro e W1 hp
  obtain ⟨v1, rfl, hs⟩ := HS0.out.put hp
  have HS1 := Lib.hid hs
  have HR1 := Lib.hid (HS1.out.row (by decide) HR0.out)
  clear hp hs HS0
  have hcl0 := (cell_of_row W1 w.heap.size 0 _ _ _ HR1.out).trans (show _ = some (.int .i64 12) from rfl)
  have HT1 := Lib.hid (range_row HR1.out (o := 6) [.int .i64 tb, .int .u32 (tg : Int), .int .u32 (ts : Int), .int .u64 (tc : Int)] (by intro j v hv; rcases j with _ | _ | _ | _ | j <;> simp at hv <;> subst hv <;> rfl))
  go_wp2_with ((with_reducible refine atLoad ?_); refine wpList_load_mid rfl 29 (.tmp 53) rfl w.heap.size 6 rfl [.int .i64 tb, .int .u32 (tg : Int), .int .u32 (ts : Int), .int .u64 (tc : Int)] _ HT1.out Try.underlying29 rfl tok_size' ?_)
  clear hcl0 HT1
  refine (cTok _ _ _ tb tg ts tc _ HS1.out.own HS1.out.le (by have := HB.out.1; have := textL_len9 af.data.toList; first | omega | (simp; done) | (simp; omega)) HB.out.2.2.1 HB.out.2.2.2.1 HB.out.2.2.2.2.1).mono ?_
  intro e W2 hp
  obtain ⟨v2, rfl, hs⟩ := HS1.out.put hp
  have HS2 := Lib.hid hs
  have HR2 := Lib.hid (HS2.out.row (by decide) HR0.out)
  clear hp hs HS1
  have hcl0 := (cell_of_row W2 w.heap.size 0 _ _ _ HR2.out).trans (show _ = some (.int .i64 12) from rfl)
  have hcl10 := (cell_of_row W2 w.heap.size 10 _ _ _ HR2.out).trans (show _ = some (.slice a n cap) from rfl)
  go_wp2_with fail
  clear hcl10 hcl0
  have HL0 := Lib.hid (show ([] ++ putL 12 1 ++ tokL tb tg ts tc).length ≤ 1000 by simp)
  obtain ⟨L0, hL0⟩ : ∃ L, L = [] ++ putL 12 1 ++ tokL tb tg ts tc := ⟨_, rfl⟩
  rw [← hL0] at HS2 HL0
  have HGL := Lib.hid hL0
  clear hL0
  go_loopw [3, 68] (fun o i wr => ∃ k : Nat, k ≤ n ∧ i = .int .i64 k ∧ Hid (BS w.heap.size W0 (.slice none 0 0) wr o (L0 ++ opsL 12 (ops.take k)))) (fun _ i _ => n - (intOf i).toNat)
  case atStart => exact ⟨0, Nat.zero_le _, rfl, by have := HS2; simpa [opsL] using this⟩
  case round =>
    obtain ⟨k, hk, rfl, HST⟩ := hrel
    clear HS2 HR2
    by_cases hlt : k < n
    · have hki : (k : Int) < (n : Int) := by omega
      have hkl : k < ops.length := by have := HNN.out; omega
      obtain ⟨b, off, rfl, hb, hc, _⟩ := HROW.out k hkl
      have HX := Lib.hid (range_of (W := w) hc)
      have HBL := Lib.hid hb
      have HOX := Lib.hid (HOP.out _ (List.getElem_mem hkl))
      have HTK := Lib.hid (opsL_take 12 ops k hkl)
      have HLN := Lib.hid (show (L0 ++ opsL 12 (ops.take k)).length ≤ 200000000 by have := HL0.out; have := opsL_len 12 (ops.take k); have := HB.out.2.2.2.2.2.2.2; rw [List.length_append]; rw [List.length_take] at *; omega)
      clear hc hb
      generalize ops[k] = x at *
      obtain ⟨xd, xk, xv, xc, xu⟩ := x
      have HRW := Lib.hid (show wr.rangeAt b (off + k * 5) [.bool xd, .string xk, .string xv, .int .u64 (xc : Int), .int .u64 (xu : Int)] from fun (j : Nat) (v : Value) hv => ((HBA.out.trans HST.out.rk.bel).cell (p := ⟨b, off + k * 5 + j, none⟩) HBL.out).trans (HX.out j v hv))
      obtain ⟨V3, hV3⟩ : ∃ V, V = (wr.alloc (.cells #[.bool false, .string ByteArray.empty, .string ByteArray.empty, .int .u64 0, .int .u64 0] 93)).setRow wr.heap.size #[.bool xd, .string xk, .string xv, .int .u64 (xc : Int), .int .u64 (xu : Int)] := ⟨_, rfl⟩
      have HS3 := Lib.hid (run_storeRow (wr.alloc (.cells #[.bool false, .string ByteArray.empty, .string ByteArray.empty, .int .u64 0, .int .u64 0] 93)) 93 wr.heap.size #[.bool false, .string ByteArray.empty, .string ByteArray.empty, .int .u64 0, .int .u64 0] #[.bool xd, .string xk, .string xv, .int .u64 (xc : Int), .int .u64 (xu : Int)] (heap_alloc_new wr _) cop_size rfl (by simp [Value.oneCell']))
      have HL3 := Lib.hid (setRow_heap (wr.alloc (.cells #[.bool false, .string ByteArray.empty, .string ByteArray.empty, .int .u64 0, .int .u64 0] 93)) wr.heap.size #[.bool false, .string ByteArray.empty, .string ByteArray.empty, .int .u64 0, .int .u64 0] #[.bool xd, .string xk, .string xv, .int .u64 (xc : Int), .int .u64 (xu : Int)] 93 (0, 0) (heap_alloc_new wr _))
      have HST3 := Lib.hid (HST.out.bel (below_boxC wr #[.bool false, .string ByteArray.empty, .string ByteArray.empty, .int .u64 0, .int .u64 0] #[.bool xd, .string xk, .string xv, .int .u64 (xc : Int), .int .u64 (xu : Int)] 93))
      rw [← hV3] at HS3 HL3 HST3
      have htg := (cell_of_row V3 w.heap.size 0 _ _ _ (HST3.out.row (by decide) HR0.out)).trans (show _ = some (.int .i64 12) from rfl)
      clear hV3 HST hkl HX
      go_wp2_with (first | ((with_reducible refine atLoad ?_); refine wpList_load_mid rfl 93 (.tmp 70) rfl b (off + k * 5) rfl [.bool xd, .string xk, .string xv, .int .u64 (xc : Int), .int .u64 (xu : Int)] _ HRW.out Try.underlying93 rfl cop_size ?_) | ((with_reducible refine atStore ?_); refine wpList_store_by rfl 93 (.tmp 5) (.tmp 71) rfl (.pointer (some ⟨wr.heap.size, 0, none⟩)) _ rfl rfl HS3.out ?_) | ((with_reducible refine atLoad ?_); refine wpList_load_row rfl 93 (.tmp 5) rfl wr.heap.size rfl 93 #[.bool xd, .string xk, .string xv, .int .u64 (xc : Int), .int .u64 (xu : Int)] (0, 0) _ HL3.out Try.underlying93 rfl cop_size ?_))
      refine (putOp w.heap.size _ _ 12 ⟨xd, xk, xv, xc, xu⟩ _ HST3.out.own HST3.out.le (by have := HLN.out; omega) HOX.out).mono ?_
      intro e W4 hp
      obtain ⟨v4, rfl, hs⟩ := HST3.out.put hp
      have HST4 := Lib.hid hs
      clear hp hs HST3 HS3 HL3 htg HRW
      have hk9 : k < 1000 := by have := HB.out.2.2.2.2.2.2.2; omega
      go_wp2
      go_roundw
      case rel => exact ⟨k + 1, by omega, by go_num, show BS _ _ _ _ _ _ by rw [HTK.out, ← List.append_assoc]; exact HST4.out⟩
      case measure => simp [intOf]; omega
    · obtain rfl : k = n := by omega
      have HSA := Lib.hid (show BS w.heap.size W0 (.slice none 0 0) wr u3 (L0 ++ opsL 12 ops) by have := HST.out; rwa [← HNN.out, List.take_length] at this)
      have HRA := Lib.hid (HSA.out.row (by decide) HR0.out)
      have HLA := Lib.hid (show (L0 ++ opsL 12 ops).length ≤ 200000000 by have := HL0.out; have := opsL_len 12 ops; have := HB.out.2.2.2.2.2.2.2; have := HNN.out; rw [List.length_append]; omega)
      have HEQ2 := Lib.hid (HEQ.out.trans (by rw [← HGL.out]))
      clear HST HEQ
      obtain ⟨LA, hLA⟩ : ∃ L, L = L0 ++ opsL 12 ops := ⟨_, rfl⟩
      rw [← hLA] at HSA HLA HEQ2
      clear hLA
      have htg := (cell_of_row wr w.heap.size 0 _ _ _ HRA.out).trans (show _ = some (.int .i64 12) from rfl)
      have hcl14 := (cell_of_row wr w.heap.size 14 _ _ _ HRA.out).trans (show _ = some (.int .i64 ri) from rfl)
      go_wp2_with fail
      clear hcl14 htg
      refine (packPut _ _ _ (u64N ri) 1 _ HSA.out.own HSA.out.le (by have := HLA.out; have := textL_len9 af.data.toList; first | omega | (simp; done) | (simp; omega)) (u64N_lt _) (by omega) (by omega)).mono ?_
      intro e W20 hp
      obtain ⟨v20, rfl, hs⟩ := HSA.out.put hp
      have HS20 := Lib.hid hs
      have HR20 := Lib.hid (HS20.out.row (by decide) HR0.out)
      clear hp hs HSA
      go_wp2
      go_ret
      rw [HEQ2.out]
      exact HS20.out.makes HBA.out rfl
set_option maxRecDepth 100000 in
set_option maxHeartbeats 4000000 in
theorem put13 (ad : Nat) (bu qk qb qg tb : Int) (tg ts tc : Nat) (ops : List COp) (af : ByteArray) (fi : Bool) (co ri : Int) (se : Nat) (a : Option Addr) (cap : Nat) (w : World) (hrow : IsRowOf COp.cells (fun _ => True) 5 w a ops) (had : ad < 18446744073709551616) (htg : tg < 4294967296) (hts : ts < 4294967296) (htc : tc < 18446744073709551616) (hse : se < 4294967296) (haf : af.size ≤ maxLen) (hop : ∀ x ∈ ops, x.wf) (hn : ops.length ≤ 1000) :
    Calls Try.prog 35 #[.agg #[.int .i64 13, .int .u64 (ad : Int), .int .i64 bu, .int .i64 qk, .int .i64 qb, .int .i64 qg, .int .i64 tb, .int .u32 (tg : Int), .int .u32 (ts : Int), .int .u64 (tc : Int), .slice a ops.length cap, .string af, .bool fi, .int .i64 co, .int .i64 ri, .int .u32 (se : Int)]] w (Makes w (reqL ⟨13, ad, bu, qk, qb, qg, tb, tg, ts, tc, ops, af, fi, co, ri, se⟩)) := by
  have HEQ := Lib.hid (show reqL ⟨13, ad, bu, qk, qb, qg, tb, tg, ts, tc, ops, af, fi, co, ri, se⟩ = (([] ++ putL 13 1 ++ tokL tb tg ts tc) ++ opsL 13 ops) ++ putL se 4 by unfold reqL headQ tailQ; simp [show u64N 13 = 13 from rfl])
  have HB := Lib.hid (show 0 ≤ 1000000000 ∧ ad < 18446744073709551616 ∧ tg < 4294967296 ∧ ts < 4294967296 ∧ tc < 18446744073709551616 ∧ se < 4294967296 ∧ af.size ≤ maxLen ∧ ops.length ≤ 1000 from ⟨by omega, had, htg, hts, htc, hse, haf, hn⟩)
  have HROW := Lib.hid hrow
  have HOP := Lib.hid hop
  have hwt := wrap_u64N 13
  have hwb := wrap_u64N bu
  have hwk := wrap_u64N qk
  have hwq := wrap_u64N qb
  have hwg := wrap_u64N qg
  have hwc := wrap_u64N co
  have hwr := wrap_u64N ri
  have hws : IntKind.u64.wrap (se : Int) = (se : Int) := by rw [IntKind.wrap_u64]; omega
  have hwn : IntKind.u64.wrap (ops.length : Int) = (ops.length : Int) := by rw [IntKind.wrap_u64]; omega
  clear had htg hts htc hse haf hop hrow hn
  have HN := Lib.hid (show ops.length = ops.length from rfl)
  generalize hnn : ops.length = n at HB hwn ⊢
  have HNN := Lib.hid hnn
  clear hnn HN
  have HS0 := Lib.hid (BS.start (B := w.heap.size) (OwnB.nil w.heap.size (w.alloc (.cells #[.int .i64 13, .int .u64 (ad : Int), .int .i64 bu, .int .i64 qk, .int .i64 qb, .int .i64 qg, .int .i64 tb, .int .u32 (tg : Int), .int .u32 (ts : Int), .int .u64 (tc : Int), .slice a n cap, .string af, .bool fi, .int .i64 co, .int .i64 ri, .int .u32 (se : Int)] 32))) (by simp))
  have HR0 := Lib.hid (heap_alloc_new w (.cells #[.int .i64 13, .int .u64 (ad : Int), .int .i64 bu, .int .i64 qk, .int .i64 qb, .int .i64 qg, .int .i64 tb, .int .u32 (tg : Int), .int .u32 (ts : Int), .int .u64 (tc : Int), .slice a n cap, .string af, .bool fi, .int .i64 co, .int .i64 ri, .int .u32 (se : Int)] 32))
  have HBA := Lib.hid ((Below.refl w.heap.size w).alloc (Nat.le_refl _) (.cells #[.int .i64 13, .int .u64 (ad : Int), .int .i64 bu, .int .i64 qk, .int .i64 qb, .int .i64 qg, .int .i64 tb, .int .u32 (tg : Int), .int .u32 (ts : Int), .int .u64 (tc : Int), .slice a n cap, .string af, .bool fi, .int .i64 co, .int .i64 ri, .int .u32 (se : Int)] 32))
  go_enter Try.func35, Try.ntmps35
  go_wp2_with fail
  generalize (w.alloc (.cells #[.int .i64 13, .int .u64 (ad : Int), .int .i64 bu, .int .i64 qk, .int .i64 qb, .int .i64 qg, .int .i64 tb, .int .u32 (tg : Int), .int .u32 (ts : Int), .int .u64 (tc : Int), .slice a n cap, .string af, .bool fi, .int .i64 co, .int .i64 ri, .int .u32 (se : Int)] 32)) = W0 at *
  refine (packPut _ _ _ 13 1 _ HS0.out.own HS0.out.le (by have := HB.out.1; have := textL_len9 af.data.toList; first | omega | (simp; done) | (simp; omega)) (by omega) (by omega) (by omega)).mono ?_
  intro e W1 hp
  obtain ⟨v1, rfl, hs⟩ := HS0.out.put hp
  have HS1 := Lib.hid hs
  have HR1 := Lib.hid (HS1.out.row (by decide) HR0.out)
  clear hp hs HS0
  have hcl0 := (cell_of_row W1 w.heap.size 0 _ _ _ HR1.out).trans (show _ = some (.int .i64 13) from rfl)
  have HT1 := Lib.hid (range_row HR1.out (o := 6) [.int .i64 tb, .int .u32 (tg : Int), .int .u32 (ts : Int), .int .u64 (tc : Int)] (by intro j v hv; rcases j with _ | _ | _ | _ | j <;> simp at hv <;> subst hv <;> rfl))
  go_wp2_with ((with_reducible refine atLoad ?_); refine wpList_load_mid rfl 29 (.tmp 53) rfl w.heap.size 6 rfl [.int .i64 tb, .int .u32 (tg : Int), .int .u32 (ts : Int), .int .u64 (tc : Int)] _ HT1.out Try.underlying29 rfl tok_size' ?_)
  clear hcl0 HT1
  refine (cTok _ _ _ tb tg ts tc _ HS1.out.own HS1.out.le (by have := HB.out.1; have := textL_len9 af.data.toList; first | omega | (simp; done) | (simp; omega)) HB.out.2.2.1 HB.out.2.2.2.1 HB.out.2.2.2.2.1).mono ?_
  intro e W2 hp
  obtain ⟨v2, rfl, hs⟩ := HS1.out.put hp
  have HS2 := Lib.hid hs
  have HR2 := Lib.hid (HS2.out.row (by decide) HR0.out)
  clear hp hs HS1
  have hcl0 := (cell_of_row W2 w.heap.size 0 _ _ _ HR2.out).trans (show _ = some (.int .i64 13) from rfl)
  have hcl10 := (cell_of_row W2 w.heap.size 10 _ _ _ HR2.out).trans (show _ = some (.slice a n cap) from rfl)
  go_wp2_with fail
  clear hcl10 hcl0
  have HL0 := Lib.hid (show ([] ++ putL 13 1 ++ tokL tb tg ts tc).length ≤ 1000 by simp)
  obtain ⟨L0, hL0⟩ : ∃ L, L = [] ++ putL 13 1 ++ tokL tb tg ts tc := ⟨_, rfl⟩
  rw [← hL0] at HS2 HL0
  have HGL := Lib.hid hL0
  clear hL0
  go_loopw [3, 68] (fun o i wr => ∃ k : Nat, k ≤ n ∧ i = .int .i64 k ∧ Hid (BS w.heap.size W0 (.slice none 0 0) wr o (L0 ++ opsL 13 (ops.take k)))) (fun _ i _ => n - (intOf i).toNat)
  case atStart => exact ⟨0, Nat.zero_le _, rfl, by have := HS2; simpa [opsL] using this⟩
  case round =>
    obtain ⟨k, hk, rfl, HST⟩ := hrel
    clear HS2 HR2
    by_cases hlt : k < n
    · have hki : (k : Int) < (n : Int) := by omega
      have hkl : k < ops.length := by have := HNN.out; omega
      obtain ⟨b, off, rfl, hb, hc, _⟩ := HROW.out k hkl
      have HX := Lib.hid (range_of (W := w) hc)
      have HBL := Lib.hid hb
      have HOX := Lib.hid (HOP.out _ (List.getElem_mem hkl))
      have HTK := Lib.hid (opsL_take 13 ops k hkl)
      have HLN := Lib.hid (show (L0 ++ opsL 13 (ops.take k)).length ≤ 200000000 by have := HL0.out; have := opsL_len 13 (ops.take k); have := HB.out.2.2.2.2.2.2.2; rw [List.length_append]; rw [List.length_take] at *; omega)
      clear hc hb
      generalize ops[k] = x at *
      obtain ⟨xd, xk, xv, xc, xu⟩ := x
      have HRW := Lib.hid (show wr.rangeAt b (off + k * 5) [.bool xd, .string xk, .string xv, .int .u64 (xc : Int), .int .u64 (xu : Int)] from fun (j : Nat) (v : Value) hv => ((HBA.out.trans HST.out.rk.bel).cell (p := ⟨b, off + k * 5 + j, none⟩) HBL.out).trans (HX.out j v hv))
      obtain ⟨V3, hV3⟩ : ∃ V, V = (wr.alloc (.cells #[.bool false, .string ByteArray.empty, .string ByteArray.empty, .int .u64 0, .int .u64 0] 93)).setRow wr.heap.size #[.bool xd, .string xk, .string xv, .int .u64 (xc : Int), .int .u64 (xu : Int)] := ⟨_, rfl⟩
      have HS3 := Lib.hid (run_storeRow (wr.alloc (.cells #[.bool false, .string ByteArray.empty, .string ByteArray.empty, .int .u64 0, .int .u64 0] 93)) 93 wr.heap.size #[.bool false, .string ByteArray.empty, .string ByteArray.empty, .int .u64 0, .int .u64 0] #[.bool xd, .string xk, .string xv, .int .u64 (xc : Int), .int .u64 (xu : Int)] (heap_alloc_new wr _) cop_size rfl (by simp [Value.oneCell']))
      have HL3 := Lib.hid (setRow_heap (wr.alloc (.cells #[.bool false, .string ByteArray.empty, .string ByteArray.empty, .int .u64 0, .int .u64 0] 93)) wr.heap.size #[.bool false, .string ByteArray.empty, .string ByteArray.empty, .int .u64 0, .int .u64 0] #[.bool xd, .string xk, .string xv, .int .u64 (xc : Int), .int .u64 (xu : Int)] 93 (0, 0) (heap_alloc_new wr _))
      have HST3 := Lib.hid (HST.out.bel (below_boxC wr #[.bool false, .string ByteArray.empty, .string ByteArray.empty, .int .u64 0, .int .u64 0] #[.bool xd, .string xk, .string xv, .int .u64 (xc : Int), .int .u64 (xu : Int)] 93))
      rw [← hV3] at HS3 HL3 HST3
      have htg := (cell_of_row V3 w.heap.size 0 _ _ _ (HST3.out.row (by decide) HR0.out)).trans (show _ = some (.int .i64 13) from rfl)
      clear hV3 HST hkl HX
      go_wp2_with (first | ((with_reducible refine atLoad ?_); refine wpList_load_mid rfl 93 (.tmp 70) rfl b (off + k * 5) rfl [.bool xd, .string xk, .string xv, .int .u64 (xc : Int), .int .u64 (xu : Int)] _ HRW.out Try.underlying93 rfl cop_size ?_) | ((with_reducible refine atStore ?_); refine wpList_store_by rfl 93 (.tmp 5) (.tmp 71) rfl (.pointer (some ⟨wr.heap.size, 0, none⟩)) _ rfl rfl HS3.out ?_) | ((with_reducible refine atLoad ?_); refine wpList_load_row rfl 93 (.tmp 5) rfl wr.heap.size rfl 93 #[.bool xd, .string xk, .string xv, .int .u64 (xc : Int), .int .u64 (xu : Int)] (0, 0) _ HL3.out Try.underlying93 rfl cop_size ?_))
      refine (putOp w.heap.size _ _ 13 ⟨xd, xk, xv, xc, xu⟩ _ HST3.out.own HST3.out.le (by have := HLN.out; omega) HOX.out).mono ?_
      intro e W4 hp
      obtain ⟨v4, rfl, hs⟩ := HST3.out.put hp
      have HST4 := Lib.hid hs
      clear hp hs HST3 HS3 HL3 htg HRW
      have hk9 : k < 1000 := by have := HB.out.2.2.2.2.2.2.2; omega
      go_wp2
      go_roundw
      case rel => exact ⟨k + 1, by omega, by go_num, show BS _ _ _ _ _ _ by rw [HTK.out, ← List.append_assoc]; exact HST4.out⟩
      case measure => simp [intOf]; omega
    · obtain rfl : k = n := by omega
      have HSA := Lib.hid (show BS w.heap.size W0 (.slice none 0 0) wr u3 (L0 ++ opsL 13 ops) by have := HST.out; rwa [← HNN.out, List.take_length] at this)
      have HRA := Lib.hid (HSA.out.row (by decide) HR0.out)
      have HLA := Lib.hid (show (L0 ++ opsL 13 ops).length ≤ 200000000 by have := HL0.out; have := opsL_len 13 ops; have := HB.out.2.2.2.2.2.2.2; have := HNN.out; rw [List.length_append]; omega)
      have HEQ2 := Lib.hid (HEQ.out.trans (by rw [← HGL.out]))
      clear HST HEQ
      obtain ⟨LA, hLA⟩ : ∃ L, L = L0 ++ opsL 13 ops := ⟨_, rfl⟩
      rw [← hLA] at HSA HLA HEQ2
      clear hLA
      have htg := (cell_of_row wr w.heap.size 0 _ _ _ HRA.out).trans (show _ = some (.int .i64 13) from rfl)
      have hcl15 := (cell_of_row wr w.heap.size 15 _ _ _ HRA.out).trans (show _ = some (.int .u32 (se : Int)) from rfl)
      go_wp2_with fail
      clear hcl15 htg
      refine (packPut _ _ _ se 4 _ HSA.out.own HSA.out.le (by have := HLA.out; have := textL_len9 af.data.toList; first | omega | (simp; done) | (simp; omega)) (by have := HB.out; omega) (by omega) (by omega)).mono ?_
      intro e W20 hp
      obtain ⟨v20, rfl, hs⟩ := HSA.out.put hp
      have HS20 := Lib.hid hs
      have HR20 := Lib.hid (HS20.out.row (by decide) HR0.out)
      clear hp hs HSA
      go_wp2
      go_ret
      rw [HEQ2.out]
      exact HS20.out.makes HBA.out rfl
set_option maxRecDepth 100000 in
set_option maxHeartbeats 4000000 in
theorem put9 (ad : Nat) (bu qk qb qg tb : Int) (tg ts tc : Nat) (ops : List COp) (af : ByteArray) (fi : Bool) (co ri : Int) (se : Nat) (a : Option Addr) (cap : Nat) (w : World) (hrow : IsRowOf COp.cells (fun _ => True) 5 w a ops) (had : ad < 18446744073709551616) (htg : tg < 4294967296) (hts : ts < 4294967296) (htc : tc < 18446744073709551616) (hse : se < 4294967296) (haf : af.size ≤ maxLen) (hop : ∀ x ∈ ops, x.wf) (hn : ops.length ≤ 1000) :
    Calls Try.prog 35 #[.agg #[.int .i64 9, .int .u64 (ad : Int), .int .i64 bu, .int .i64 qk, .int .i64 qb, .int .i64 qg, .int .i64 tb, .int .u32 (tg : Int), .int .u32 (ts : Int), .int .u64 (tc : Int), .slice a ops.length cap, .string af, .bool fi, .int .i64 co, .int .i64 ri, .int .u32 (se : Int)]] w (Makes w (reqL ⟨9, ad, bu, qk, qb, qg, tb, tg, ts, tc, ops, af, fi, co, ri, se⟩)) := by
  have HEQ := Lib.hid (show reqL ⟨9, ad, bu, qk, qb, qg, tb, tg, ts, tc, ops, af, fi, co, ri, se⟩ = (([] ++ putL 9 1 ++ tokL tb tg ts tc ++ putL ops.length 1) ++ opsL 9 ops) by unfold reqL headQ tailQ; simp [show u64N 9 = 9 from rfl])
  have HB := Lib.hid (show 0 ≤ 1000000000 ∧ ad < 18446744073709551616 ∧ tg < 4294967296 ∧ ts < 4294967296 ∧ tc < 18446744073709551616 ∧ se < 4294967296 ∧ af.size ≤ maxLen ∧ ops.length ≤ 1000 from ⟨by omega, had, htg, hts, htc, hse, haf, hn⟩)
  have HROW := Lib.hid hrow
  have HOP := Lib.hid hop
  have hwt := wrap_u64N 9
  have hwb := wrap_u64N bu
  have hwk := wrap_u64N qk
  have hwq := wrap_u64N qb
  have hwg := wrap_u64N qg
  have hwc := wrap_u64N co
  have hwr := wrap_u64N ri
  have hws : IntKind.u64.wrap (se : Int) = (se : Int) := by rw [IntKind.wrap_u64]; omega
  have hwn : IntKind.u64.wrap (ops.length : Int) = (ops.length : Int) := by rw [IntKind.wrap_u64]; omega
  clear had htg hts htc hse haf hop hrow hn
  have HN := Lib.hid (show ops.length = ops.length from rfl)
  generalize hnn : ops.length = n at HB hwn ⊢
  have HNN := Lib.hid hnn
  clear hnn HN
  have HS0 := Lib.hid (BS.start (B := w.heap.size) (OwnB.nil w.heap.size (w.alloc (.cells #[.int .i64 9, .int .u64 (ad : Int), .int .i64 bu, .int .i64 qk, .int .i64 qb, .int .i64 qg, .int .i64 tb, .int .u32 (tg : Int), .int .u32 (ts : Int), .int .u64 (tc : Int), .slice a n cap, .string af, .bool fi, .int .i64 co, .int .i64 ri, .int .u32 (se : Int)] 32))) (by simp))
  have HR0 := Lib.hid (heap_alloc_new w (.cells #[.int .i64 9, .int .u64 (ad : Int), .int .i64 bu, .int .i64 qk, .int .i64 qb, .int .i64 qg, .int .i64 tb, .int .u32 (tg : Int), .int .u32 (ts : Int), .int .u64 (tc : Int), .slice a n cap, .string af, .bool fi, .int .i64 co, .int .i64 ri, .int .u32 (se : Int)] 32))
  have HBA := Lib.hid ((Below.refl w.heap.size w).alloc (Nat.le_refl _) (.cells #[.int .i64 9, .int .u64 (ad : Int), .int .i64 bu, .int .i64 qk, .int .i64 qb, .int .i64 qg, .int .i64 tb, .int .u32 (tg : Int), .int .u32 (ts : Int), .int .u64 (tc : Int), .slice a n cap, .string af, .bool fi, .int .i64 co, .int .i64 ri, .int .u32 (se : Int)] 32))
  go_enter Try.func35, Try.ntmps35
  go_wp2_with fail
  generalize (w.alloc (.cells #[.int .i64 9, .int .u64 (ad : Int), .int .i64 bu, .int .i64 qk, .int .i64 qb, .int .i64 qg, .int .i64 tb, .int .u32 (tg : Int), .int .u32 (ts : Int), .int .u64 (tc : Int), .slice a n cap, .string af, .bool fi, .int .i64 co, .int .i64 ri, .int .u32 (se : Int)] 32)) = W0 at *
  refine (packPut _ _ _ 9 1 _ HS0.out.own HS0.out.le (by have := HB.out.1; have := textL_len9 af.data.toList; first | omega | (simp; done) | (simp; omega)) (by omega) (by omega) (by omega)).mono ?_
  intro e W1 hp
  obtain ⟨v1, rfl, hs⟩ := HS0.out.put hp
  have HS1 := Lib.hid hs
  have HR1 := Lib.hid (HS1.out.row (by decide) HR0.out)
  clear hp hs HS0
  have hcl0 := (cell_of_row W1 w.heap.size 0 _ _ _ HR1.out).trans (show _ = some (.int .i64 9) from rfl)
  have HT1 := Lib.hid (range_row HR1.out (o := 6) [.int .i64 tb, .int .u32 (tg : Int), .int .u32 (ts : Int), .int .u64 (tc : Int)] (by intro j v hv; rcases j with _ | _ | _ | _ | j <;> simp at hv <;> subst hv <;> rfl))
  go_wp2_with ((with_reducible refine atLoad ?_); refine wpList_load_mid rfl 29 (.tmp 53) rfl w.heap.size 6 rfl [.int .i64 tb, .int .u32 (tg : Int), .int .u32 (ts : Int), .int .u64 (tc : Int)] _ HT1.out Try.underlying29 rfl tok_size' ?_)
  clear hcl0 HT1
  refine (cTok _ _ _ tb tg ts tc _ HS1.out.own HS1.out.le (by have := HB.out.1; have := textL_len9 af.data.toList; first | omega | (simp; done) | (simp; omega)) HB.out.2.2.1 HB.out.2.2.2.1 HB.out.2.2.2.2.1).mono ?_
  intro e W2 hp
  obtain ⟨v2, rfl, hs⟩ := HS1.out.put hp
  have HS2 := Lib.hid hs
  have HR2 := Lib.hid (HS2.out.row (by decide) HR0.out)
  clear hp hs HS1
  have hcl0 := (cell_of_row W2 w.heap.size 0 _ _ _ HR2.out).trans (show _ = some (.int .i64 9) from rfl)
  have hcl10 := (cell_of_row W2 w.heap.size 10 _ _ _ HR2.out).trans (show _ = some (.slice a n cap) from rfl)
  go_wp2_with fail
  clear hcl0 hcl10
  refine (packPut _ _ _ n 1 _ HS2.out.own HS2.out.le (by have := HB.out.1; have := textL_len9 af.data.toList; first | omega | (simp; done) | (simp; omega)) (by have := HB.out; omega) (by omega) (by omega)).mono ?_
  intro e W3 hp
  obtain ⟨v3, rfl, hs⟩ := HS2.out.put hp
  have HS3 := Lib.hid hs
  have HR3 := Lib.hid (HS3.out.row (by decide) HR0.out)
  clear hp hs HS2
  have hcl10 := (cell_of_row W3 w.heap.size 10 _ _ _ HR3.out).trans (show _ = some (.slice a n cap) from rfl)
  go_wp2_with fail
  clear hcl10
  have HL0 := Lib.hid (show ([] ++ putL 9 1 ++ tokL tb tg ts tc ++ putL n 1).length ≤ 1000 by simp)
  obtain ⟨L0, hL0⟩ : ∃ L, L = [] ++ putL 9 1 ++ tokL tb tg ts tc ++ putL n 1 := ⟨_, rfl⟩
  rw [← hL0] at HS3 HL0
  have HGL := Lib.hid hL0
  clear hL0
  go_loopw [3, 68] (fun o i wr => ∃ k : Nat, k ≤ n ∧ i = .int .i64 k ∧ Hid (BS w.heap.size W0 (.slice none 0 0) wr o (L0 ++ opsL 9 (ops.take k)))) (fun _ i _ => n - (intOf i).toNat)
  case atStart => exact ⟨0, Nat.zero_le _, rfl, by have := HS3; simpa [opsL] using this⟩
  case round =>
    obtain ⟨k, hk, rfl, HST⟩ := hrel
    clear HS3 HR3
    by_cases hlt : k < n
    · have hki : (k : Int) < (n : Int) := by omega
      have hkl : k < ops.length := by have := HNN.out; omega
      obtain ⟨b, off, rfl, hb, hc, _⟩ := HROW.out k hkl
      have HX := Lib.hid (range_of (W := w) hc)
      have HBL := Lib.hid hb
      have HOX := Lib.hid (HOP.out _ (List.getElem_mem hkl))
      have HTK := Lib.hid (opsL_take 9 ops k hkl)
      have HLN := Lib.hid (show (L0 ++ opsL 9 (ops.take k)).length ≤ 200000000 by have := HL0.out; have := opsL_len 9 (ops.take k); have := HB.out.2.2.2.2.2.2.2; rw [List.length_append]; rw [List.length_take] at *; omega)
      clear hc hb
      generalize ops[k] = x at *
      obtain ⟨xd, xk, xv, xc, xu⟩ := x
      have HRW := Lib.hid (show wr.rangeAt b (off + k * 5) [.bool xd, .string xk, .string xv, .int .u64 (xc : Int), .int .u64 (xu : Int)] from fun (j : Nat) (v : Value) hv => ((HBA.out.trans HST.out.rk.bel).cell (p := ⟨b, off + k * 5 + j, none⟩) HBL.out).trans (HX.out j v hv))
      obtain ⟨V3, hV3⟩ : ∃ V, V = (wr.alloc (.cells #[.bool false, .string ByteArray.empty, .string ByteArray.empty, .int .u64 0, .int .u64 0] 93)).setRow wr.heap.size #[.bool xd, .string xk, .string xv, .int .u64 (xc : Int), .int .u64 (xu : Int)] := ⟨_, rfl⟩
      have HS3 := Lib.hid (run_storeRow (wr.alloc (.cells #[.bool false, .string ByteArray.empty, .string ByteArray.empty, .int .u64 0, .int .u64 0] 93)) 93 wr.heap.size #[.bool false, .string ByteArray.empty, .string ByteArray.empty, .int .u64 0, .int .u64 0] #[.bool xd, .string xk, .string xv, .int .u64 (xc : Int), .int .u64 (xu : Int)] (heap_alloc_new wr _) cop_size rfl (by simp [Value.oneCell']))
      have HL3 := Lib.hid (setRow_heap (wr.alloc (.cells #[.bool false, .string ByteArray.empty, .string ByteArray.empty, .int .u64 0, .int .u64 0] 93)) wr.heap.size #[.bool false, .string ByteArray.empty, .string ByteArray.empty, .int .u64 0, .int .u64 0] #[.bool xd, .string xk, .string xv, .int .u64 (xc : Int), .int .u64 (xu : Int)] 93 (0, 0) (heap_alloc_new wr _))
      have HST3 := Lib.hid (HST.out.bel (below_boxC wr #[.bool false, .string ByteArray.empty, .string ByteArray.empty, .int .u64 0, .int .u64 0] #[.bool xd, .string xk, .string xv, .int .u64 (xc : Int), .int .u64 (xu : Int)] 93))
      rw [← hV3] at HS3 HL3 HST3
      have htg := (cell_of_row V3 w.heap.size 0 _ _ _ (HST3.out.row (by decide) HR0.out)).trans (show _ = some (.int .i64 9) from rfl)
      clear hV3 HST hkl HX
      go_wp2_with (first | ((with_reducible refine atLoad ?_); refine wpList_load_mid rfl 93 (.tmp 70) rfl b (off + k * 5) rfl [.bool xd, .string xk, .string xv, .int .u64 (xc : Int), .int .u64 (xu : Int)] _ HRW.out Try.underlying93 rfl cop_size ?_) | ((with_reducible refine atStore ?_); refine wpList_store_by rfl 93 (.tmp 5) (.tmp 71) rfl (.pointer (some ⟨wr.heap.size, 0, none⟩)) _ rfl rfl HS3.out ?_) | ((with_reducible refine atLoad ?_); refine wpList_load_row rfl 93 (.tmp 5) rfl wr.heap.size rfl 93 #[.bool xd, .string xk, .string xv, .int .u64 (xc : Int), .int .u64 (xu : Int)] (0, 0) _ HL3.out Try.underlying93 rfl cop_size ?_))
      refine (putOp w.heap.size _ _ 9 ⟨xd, xk, xv, xc, xu⟩ _ HST3.out.own HST3.out.le (by have := HLN.out; omega) HOX.out).mono ?_
      intro e W4 hp
      obtain ⟨v4, rfl, hs⟩ := HST3.out.put hp
      have HST4 := Lib.hid hs
      clear hp hs HST3 HS3 HL3 htg HRW
      have hk9 : k < 1000 := by have := HB.out.2.2.2.2.2.2.2; omega
      go_wp2
      go_roundw
      case rel => exact ⟨k + 1, by omega, by go_num, show BS _ _ _ _ _ _ by rw [HTK.out, ← List.append_assoc]; exact HST4.out⟩
      case measure => simp [intOf]; omega
    · obtain rfl : k = n := by omega
      have HSA := Lib.hid (show BS w.heap.size W0 (.slice none 0 0) wr u3 (L0 ++ opsL 9 ops) by have := HST.out; rwa [← HNN.out, List.take_length] at this)
      have HRA := Lib.hid (HSA.out.row (by decide) HR0.out)
      have HLA := Lib.hid (show (L0 ++ opsL 9 ops).length ≤ 200000000 by have := HL0.out; have := opsL_len 9 ops; have := HB.out.2.2.2.2.2.2.2; have := HNN.out; rw [List.length_append]; omega)
      have HEQ2 := Lib.hid (HEQ.out.trans (by rw [HNN.out, ← HGL.out]))
      clear HST HEQ
      obtain ⟨LA, hLA⟩ : ∃ L, L = L0 ++ opsL 9 ops := ⟨_, rfl⟩
      rw [← hLA] at HSA HLA HEQ2
      clear hLA
      have htg := (cell_of_row wr w.heap.size 0 _ _ _ HRA.out).trans (show _ = some (.int .i64 9) from rfl)
      go_wp2
      go_ret
      rw [HEQ2.out]
      exact HSA.out.makes HBA.out rfl
set_option maxRecDepth 100000 in
set_option maxHeartbeats 4000000 in
theorem putHi (t : Int) (ad : Nat) (bu qk qb qg tb : Int) (tg ts tc : Nat) (ops : List COp) (af : ByteArray) (fi : Bool) (co ri : Int) (se : Nat) (a : Option Addr) (cap : Nat) (w : World) (hrow : IsRowOf COp.cells (fun _ => True) 5 w a ops) (had : ad < 18446744073709551616) (htg : tg < 4294967296) (hts : ts < 4294967296) (htc : tc < 18446744073709551616) (hse : se < 4294967296) (haf : af.size ≤ maxLen) (hop : ∀ x ∈ ops, x.wf) (hn : ops.length ≤ 1000) (h5 : 5 < t) (h9 : t ≠ 9) (h10 : t ≠ 10) (h12 : t ≠ 12) (h13 : t ≠ 13) :
    Calls Try.prog 35 #[.agg #[.int .i64 t, .int .u64 (ad : Int), .int .i64 bu, .int .i64 qk, .int .i64 qb, .int .i64 qg, .int .i64 tb, .int .u32 (tg : Int), .int .u32 (ts : Int), .int .u64 (tc : Int), .slice a ops.length cap, .string af, .bool fi, .int .i64 co, .int .i64 ri, .int .u32 (se : Int)]] w (Makes w (reqL ⟨t, ad, bu, qk, qb, qg, tb, tg, ts, tc, ops, af, fi, co, ri, se⟩)) := by
  have HEQ := Lib.hid (show reqL ⟨t, ad, bu, qk, qb, qg, tb, tg, ts, tc, ops, af, fi, co, ri, se⟩ = (([] ++ putL (u64N t) 1 ++ tokL tb tg ts tc) ++ opsL t ops) by unfold reqL headQ tailQ; rw [if_neg (show ¬ t ≤ 5 by omega)]; simp [h9, h10, h12, h13])
  have HB := Lib.hid (show 0 ≤ 1000000000 ∧ ad < 18446744073709551616 ∧ tg < 4294967296 ∧ ts < 4294967296 ∧ tc < 18446744073709551616 ∧ se < 4294967296 ∧ af.size ≤ maxLen ∧ ops.length ≤ 1000 from ⟨by omega, had, htg, hts, htc, hse, haf, hn⟩)
  have HROW := Lib.hid hrow
  have HOP := Lib.hid hop
  have hwt := wrap_u64N t
  have hwb := wrap_u64N bu
  have hwk := wrap_u64N qk
  have hwq := wrap_u64N qb
  have hwg := wrap_u64N qg
  have hwc := wrap_u64N co
  have hwr := wrap_u64N ri
  have hws : IntKind.u64.wrap (se : Int) = (se : Int) := by rw [IntKind.wrap_u64]; omega
  have hwn : IntKind.u64.wrap (ops.length : Int) = (ops.length : Int) := by rw [IntKind.wrap_u64]; omega
  have d5 : decide (t ≤ 5) = false := by rw [decide_eq_false_iff_not]; omega
  have e9 : (t == 9) = false := by simpa using h9
  have e10 : (t == 10) = false := by simpa using h10
  have e12 : (t == 12) = false := by simpa using h12
  have e13 : (t == 13) = false := by simpa using h13
  clear h5 h9 h10 h12 h13
  clear had htg hts htc hse haf hop hrow hn
  have HN := Lib.hid (show ops.length = ops.length from rfl)
  generalize hnn : ops.length = n at HB hwn ⊢
  have HNN := Lib.hid hnn
  clear hnn HN
  have HS0 := Lib.hid (BS.start (B := w.heap.size) (OwnB.nil w.heap.size (w.alloc (.cells #[.int .i64 t, .int .u64 (ad : Int), .int .i64 bu, .int .i64 qk, .int .i64 qb, .int .i64 qg, .int .i64 tb, .int .u32 (tg : Int), .int .u32 (ts : Int), .int .u64 (tc : Int), .slice a n cap, .string af, .bool fi, .int .i64 co, .int .i64 ri, .int .u32 (se : Int)] 32))) (by simp))
  have HR0 := Lib.hid (heap_alloc_new w (.cells #[.int .i64 t, .int .u64 (ad : Int), .int .i64 bu, .int .i64 qk, .int .i64 qb, .int .i64 qg, .int .i64 tb, .int .u32 (tg : Int), .int .u32 (ts : Int), .int .u64 (tc : Int), .slice a n cap, .string af, .bool fi, .int .i64 co, .int .i64 ri, .int .u32 (se : Int)] 32))
  have HBA := Lib.hid ((Below.refl w.heap.size w).alloc (Nat.le_refl _) (.cells #[.int .i64 t, .int .u64 (ad : Int), .int .i64 bu, .int .i64 qk, .int .i64 qb, .int .i64 qg, .int .i64 tb, .int .u32 (tg : Int), .int .u32 (ts : Int), .int .u64 (tc : Int), .slice a n cap, .string af, .bool fi, .int .i64 co, .int .i64 ri, .int .u32 (se : Int)] 32))
  go_enter Try.func35, Try.ntmps35
  go_wp2_with fail
  generalize (w.alloc (.cells #[.int .i64 t, .int .u64 (ad : Int), .int .i64 bu, .int .i64 qk, .int .i64 qb, .int .i64 qg, .int .i64 tb, .int .u32 (tg : Int), .int .u32 (ts : Int), .int .u64 (tc : Int), .slice a n cap, .string af, .bool fi, .int .i64 co, .int .i64 ri, .int .u32 (se : Int)] 32)) = W0 at *
  refine (packPut _ _ _ (u64N t) 1 _ HS0.out.own HS0.out.le (by have := HB.out.1; have := textL_len9 af.data.toList; first | omega | (simp; done) | (simp; omega)) (u64N_lt _) (by omega) (by omega)).mono ?_
  intro e W1 hp
  obtain ⟨v1, rfl, hs⟩ := HS0.out.put hp
  have HS1 := Lib.hid hs
  have HR1 := Lib.hid (HS1.out.row (by decide) HR0.out)
  clear hp hs HS0
  have hcl0 := (cell_of_row W1 w.heap.size 0 _ _ _ HR1.out).trans (show _ = some (.int .i64 t) from rfl)
  have HT1 := Lib.hid (range_row HR1.out (o := 6) [.int .i64 tb, .int .u32 (tg : Int), .int .u32 (ts : Int), .int .u64 (tc : Int)] (by intro j v hv; rcases j with _ | _ | _ | _ | j <;> simp at hv <;> subst hv <;> rfl))
  go_wp2_with ((with_reducible refine atLoad ?_); refine wpList_load_mid rfl 29 (.tmp 53) rfl w.heap.size 6 rfl [.int .i64 tb, .int .u32 (tg : Int), .int .u32 (ts : Int), .int .u64 (tc : Int)] _ HT1.out Try.underlying29 rfl tok_size' ?_)
  clear hcl0 HT1
  refine (cTok _ _ _ tb tg ts tc _ HS1.out.own HS1.out.le (by have := HB.out.1; have := textL_len9 af.data.toList; first | omega | (simp; done) | (simp; omega)) HB.out.2.2.1 HB.out.2.2.2.1 HB.out.2.2.2.2.1).mono ?_
  intro e W2 hp
  obtain ⟨v2, rfl, hs⟩ := HS1.out.put hp
  have HS2 := Lib.hid hs
  have HR2 := Lib.hid (HS2.out.row (by decide) HR0.out)
  clear hp hs HS1
  have hcl0 := (cell_of_row W2 w.heap.size 0 _ _ _ HR2.out).trans (show _ = some (.int .i64 t) from rfl)
  have hcl10 := (cell_of_row W2 w.heap.size 10 _ _ _ HR2.out).trans (show _ = some (.slice a n cap) from rfl)
  go_wp2_with fail
  clear hcl10 hcl0
  have HL0 := Lib.hid (show ([] ++ putL (u64N t) 1 ++ tokL tb tg ts tc).length ≤ 1000 by simp)
  obtain ⟨L0, hL0⟩ : ∃ L, L = [] ++ putL (u64N t) 1 ++ tokL tb tg ts tc := ⟨_, rfl⟩
  rw [← hL0] at HS2 HL0
  have HGL := Lib.hid hL0
  clear hL0
  go_loopw [3, 68] (fun o i wr => ∃ k : Nat, k ≤ n ∧ i = .int .i64 k ∧ Hid (BS w.heap.size W0 (.slice none 0 0) wr o (L0 ++ opsL t (ops.take k)))) (fun _ i _ => n - (intOf i).toNat)
  case atStart => exact ⟨0, Nat.zero_le _, rfl, by have := HS2; simpa [opsL] using this⟩
  case round =>
    obtain ⟨k, hk, rfl, HST⟩ := hrel
    clear HS2 HR2
    by_cases hlt : k < n
    · have hki : (k : Int) < (n : Int) := by omega
      have hkl : k < ops.length := by have := HNN.out; omega
      obtain ⟨b, off, rfl, hb, hc, _⟩ := HROW.out k hkl
      have HX := Lib.hid (range_of (W := w) hc)
      have HBL := Lib.hid hb
      have HOX := Lib.hid (HOP.out _ (List.getElem_mem hkl))
      have HTK := Lib.hid (opsL_take t ops k hkl)
      have HLN := Lib.hid (show (L0 ++ opsL t (ops.take k)).length ≤ 200000000 by have := HL0.out; have := opsL_len t (ops.take k); have := HB.out.2.2.2.2.2.2.2; rw [List.length_append]; rw [List.length_take] at *; omega)
      clear hc hb
      generalize ops[k] = x at *
      obtain ⟨xd, xk, xv, xc, xu⟩ := x
      have HRW := Lib.hid (show wr.rangeAt b (off + k * 5) [.bool xd, .string xk, .string xv, .int .u64 (xc : Int), .int .u64 (xu : Int)] from fun (j : Nat) (v : Value) hv => ((HBA.out.trans HST.out.rk.bel).cell (p := ⟨b, off + k * 5 + j, none⟩) HBL.out).trans (HX.out j v hv))
      obtain ⟨V3, hV3⟩ : ∃ V, V = (wr.alloc (.cells #[.bool false, .string ByteArray.empty, .string ByteArray.empty, .int .u64 0, .int .u64 0] 93)).setRow wr.heap.size #[.bool xd, .string xk, .string xv, .int .u64 (xc : Int), .int .u64 (xu : Int)] := ⟨_, rfl⟩
      have HS3 := Lib.hid (run_storeRow (wr.alloc (.cells #[.bool false, .string ByteArray.empty, .string ByteArray.empty, .int .u64 0, .int .u64 0] 93)) 93 wr.heap.size #[.bool false, .string ByteArray.empty, .string ByteArray.empty, .int .u64 0, .int .u64 0] #[.bool xd, .string xk, .string xv, .int .u64 (xc : Int), .int .u64 (xu : Int)] (heap_alloc_new wr _) cop_size rfl (by simp [Value.oneCell']))
      have HL3 := Lib.hid (setRow_heap (wr.alloc (.cells #[.bool false, .string ByteArray.empty, .string ByteArray.empty, .int .u64 0, .int .u64 0] 93)) wr.heap.size #[.bool false, .string ByteArray.empty, .string ByteArray.empty, .int .u64 0, .int .u64 0] #[.bool xd, .string xk, .string xv, .int .u64 (xc : Int), .int .u64 (xu : Int)] 93 (0, 0) (heap_alloc_new wr _))
      have HST3 := Lib.hid (HST.out.bel (below_boxC wr #[.bool false, .string ByteArray.empty, .string ByteArray.empty, .int .u64 0, .int .u64 0] #[.bool xd, .string xk, .string xv, .int .u64 (xc : Int), .int .u64 (xu : Int)] 93))
      rw [← hV3] at HS3 HL3 HST3
      have htg := (cell_of_row V3 w.heap.size 0 _ _ _ (HST3.out.row (by decide) HR0.out)).trans (show _ = some (.int .i64 t) from rfl)
      clear hV3 HST hkl HX
      go_wp2_with (first | ((with_reducible refine atLoad ?_); refine wpList_load_mid rfl 93 (.tmp 70) rfl b (off + k * 5) rfl [.bool xd, .string xk, .string xv, .int .u64 (xc : Int), .int .u64 (xu : Int)] _ HRW.out Try.underlying93 rfl cop_size ?_) | ((with_reducible refine atStore ?_); refine wpList_store_by rfl 93 (.tmp 5) (.tmp 71) rfl (.pointer (some ⟨wr.heap.size, 0, none⟩)) _ rfl rfl HS3.out ?_) | ((with_reducible refine atLoad ?_); refine wpList_load_row rfl 93 (.tmp 5) rfl wr.heap.size rfl 93 #[.bool xd, .string xk, .string xv, .int .u64 (xc : Int), .int .u64 (xu : Int)] (0, 0) _ HL3.out Try.underlying93 rfl cop_size ?_))
      refine (putOp w.heap.size _ _ t ⟨xd, xk, xv, xc, xu⟩ _ HST3.out.own HST3.out.le (by have := HLN.out; omega) HOX.out).mono ?_
      intro e W4 hp
      obtain ⟨v4, rfl, hs⟩ := HST3.out.put hp
      have HST4 := Lib.hid hs
      clear hp hs HST3 HS3 HL3 htg HRW
      have hk9 : k < 1000 := by have := HB.out.2.2.2.2.2.2.2; omega
      go_wp2
      go_roundw
      case rel => exact ⟨k + 1, by omega, by go_num, show BS _ _ _ _ _ _ by rw [HTK.out, ← List.append_assoc]; exact HST4.out⟩
      case measure => simp [intOf]; omega
    · obtain rfl : k = n := by omega
      have HSA := Lib.hid (show BS w.heap.size W0 (.slice none 0 0) wr u3 (L0 ++ opsL t ops) by have := HST.out; rwa [← HNN.out, List.take_length] at this)
      have HRA := Lib.hid (HSA.out.row (by decide) HR0.out)
      have HLA := Lib.hid (show (L0 ++ opsL t ops).length ≤ 200000000 by have := HL0.out; have := opsL_len t ops; have := HB.out.2.2.2.2.2.2.2; have := HNN.out; rw [List.length_append]; omega)
      have HEQ2 := Lib.hid (HEQ.out.trans (by rw [← HGL.out]))
      clear HST HEQ
      obtain ⟨LA, hLA⟩ : ∃ L, L = L0 ++ opsL t ops := ⟨_, rfl⟩
      rw [← hLA] at HSA HLA HEQ2
      clear hLA
      have htg := (cell_of_row wr w.heap.size 0 _ _ _ HRA.out).trans (show _ = some (.int .i64 t) from rfl)
      go_wp2
      go_ret
      rw [HEQ2.out]
      exact HSA.out.makes HBA.out rfl
theorem cPut (q : CReq) (v : Value) (w : World) (h : ReqIn w q v) (hn : q.ops.length ≤ 1000) : Calls Try.prog 35 #[.agg (q.cells v)] w (Makes w (reqL q)) := by
  obtain ⟨t, ad, bu, qk, qb, qg, tb, tg, ts, tc, ops, af, fi, co, ri, se⟩ := q
  obtain ⟨⟨a, cap, rfl, hr⟩, h1, h2, h3, h4, h5, h6, h7⟩ := h
  simp only at *
  by_cases hput1 : t = 1
  · subst hput1
    exact put1 ad bu qk qb qg tb tg ts tc ops af fi co ri se a cap w hr h1 h2 h3 h4 h5 h6 h7 hn
  by_cases hput3 : t = 3
  · subst hput3
    exact put3 ad bu qk qb qg tb tg ts tc ops af fi co ri se a cap w hr h1 h2 h3 h4 h5 h6 h7 hn
  by_cases k4 : t < 4
  · exact putLo t ad bu qk qb qg tb tg ts tc ops af fi co ri se a cap w hr h1 h2 h3 h4 h5 h6 h7 hn k4 hput1 hput3
  by_cases k5 : t ≤ 5
  · exact put45 t ad bu qk qb qg tb tg ts tc ops af fi co ri se a cap w hr h1 h2 h3 h4 h5 h6 h7 hn (by omega) k5
  by_cases k9 : t = 9
  · subst k9
    exact put9 ad bu qk qb qg tb tg ts tc ops af fi co ri se a cap w hr h1 h2 h3 h4 h5 h6 h7 hn
  by_cases k10 : t = 10
  · subst k10
    exact put10 ad bu qk qb qg tb tg ts tc ops af fi co ri se a cap w hr h1 h2 h3 h4 h5 h6 h7 hn
  by_cases k12 : t = 12
  · subst k12
    exact put12 ad bu qk qb qg tb tg ts tc ops af fi co ri se a cap w hr h1 h2 h3 h4 h5 h6 h7 hn
  by_cases k13 : t = 13
  · subst k13
    exact put13 ad bu qk qb qg tb tg ts tc ops af fi co ri se a cap w hr h1 h2 h3 h4 h5 h6 h7 hn
  exact putHi t ad bu qk qb qg tb tg ts tc ops af fi co ri se a cap w hr h1 h2 h3 h4 h5 h6 h7 hn (by omega) k9 k10 k12 k13
end Go.Proofs.Ytlngefhjoobmdaa
