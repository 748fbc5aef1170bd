/- Texts laid together: CmdEnc CmdEnc1 CmdFew CmdBackP CmdUp CmdAs RefSamL RefSam Reads CmdOpen. -/
import Derived.Test.YtlngefhjoobmdaaMg6
import Derived.Test.YtlngefhjoobmdaaMg3
import Derived.BigQuiet
import Derived.Test.YtlngefhjoobmdaaMg5
import Derived.Test.YtlngefhjoobmdaaMg4
import Derived.Test.YtlngefhjoobmdaaZRefSamA
import Derived.Test.YtlngefhjoobmdaaZRefSamB
import Derived.Test.YtlngefhjoobmdaaZRefSamC
import Derived.Test.YtlngefhjoobmdaaZRefSamD
import Derived.Test.YtlngefhjoobmdaaMg1
namespace Go.Proofs.Ytlngefhjoobmdaa
open Go.RowKit
set_option maxRecDepth 100000 in
set_option maxHeartbeats 4000000 in
theorem cEncN (code : Int) (tb : Int) (tg ts tc ver : Nat) (vl : ByteArray) (page : List CPair) (more : Bool) (ks bs cs : Int) (sq : Nat) (bk : List Int) (pa : Option Addr) (pcap : Nat) (ba : Option Addr) (bcap : Nat) (w : World) (hpg : IsRowOf CPair.cells (fun _ => True) 2 w pa page) (hbk : IsRowOf intC (fun _ => True) 1 w ba bk) (htg : tg < 4294967296) (hts : ts < 4294967296) (htc : tc < 18446744073709551616) (hver : ver < 18446744073709551616) (hsq : sq < 18446744073709551616) (hvl : vl.size ≤ maxLen) (hpw : ∀ p ∈ page, p.wf) (hpn : page.length ≤ 1000) (hbn : bk.length ≤ 1000) (hne : code ≠ 0) :
    Calls Try.prog 15 #[.agg #[.int .i64 code, .int .i64 tb, .int .u32 (tg : Int), .int .u32 (ts : Int), .int .u64 (tc : Int), .int .u64 (ver : Int), .string vl, .slice pa page.length pcap, .bool more, .int .i64 ks, .int .i64 bs, .int .i64 cs, .int .u64 (sq : Int), .slice ba bk.length bcap]] w (Makes w (encL ⟨code, tb, tg, ts, tc, ver, vl, page, more, ks, bs, cs, sq, bk⟩)) := by
  have HEQ := Lib.hid (show encL ⟨code, tb, tg, ts, tc, ver, vl, page, more, ks, bs, cs, sq, bk⟩ = [] ++ putL (u64N code) 1 by unfold encL; rw [if_pos hne]; rfl)
  have HB := Lib.hid (show 0 ≤ 1000000000 ∧ tg < 4294967296 ∧ ts < 4294967296 ∧ tc < 18446744073709551616 ∧ ver < 18446744073709551616 ∧ sq < 18446744073709551616 ∧ vl.size ≤ maxLen ∧ page.length ≤ 1000 ∧ bk.length ≤ 1000 from ⟨by omega, htg, hts, htc, hver, hsq, hvl, hpn, hbn⟩)
  have HPG := Lib.hid hpg
  have HBK := Lib.hid hbk
  have HPW := Lib.hid hpw
  have hwk := wrap_u64N ks
  have hwb := wrap_u64N bs
  have hwc := wrap_u64N cs
  have hwp : IntKind.u64.wrap (page.length : Int) = (page.length : Int) := by rw [IntKind.wrap_u64]; omega
  have hwn : IntKind.u64.wrap (bk.length : Int) = (bk.length : Int) := by rw [IntKind.wrap_u64]; omega
  have d0 : (code != 0) = true := by simpa using hne
  have hwq := wrap_u64N code
  clear hne
  clear htg hts htc hver hsq hvl hpw hpn hbn hpg hbk
  generalize hpp : page.length = pn at HB hwp ⊢
  have HPN := Lib.hid hpp
  generalize hbb : bk.length = bn at HB hwn ⊢
  have HBN := Lib.hid hbb
  clear hpp hbb
  have HS0 := Lib.hid (BS.start (B := w.heap.size) (OwnB.nil w.heap.size (w.alloc (.cells #[.int .i64 code, .int .i64 tb, .int .u32 (tg : Int), .int .u32 (ts : Int), .int .u64 (tc : Int), .int .u64 (ver : Int), .string vl, .slice pa pn pcap, .bool more, .int .i64 ks, .int .i64 bs, .int .i64 cs, .int .u64 (sq : Int), .slice ba bn bcap] 49))) (by simp))
  have HR0 := Lib.hid (heap_alloc_new w (.cells #[.int .i64 code, .int .i64 tb, .int .u32 (tg : Int), .int .u32 (ts : Int), .int .u64 (tc : Int), .int .u64 (ver : Int), .string vl, .slice pa pn pcap, .bool more, .int .i64 ks, .int .i64 bs, .int .i64 cs, .int .u64 (sq : Int), .slice ba bn bcap] 49))
  have HBA := Lib.hid ((Below.refl w.heap.size w).alloc (Nat.le_refl _) (.cells #[.int .i64 code, .int .i64 tb, .int .u32 (tg : Int), .int .u32 (ts : Int), .int .u64 (tc : Int), .int .u64 (ver : Int), .string vl, .slice pa pn pcap, .bool more, .int .i64 ks, .int .i64 bs, .int .i64 cs, .int .u64 (sq : Int), .slice ba bn bcap] 49))
  go_enter Try.func15, Try.ntmps15
  go_wp2_with fail
  generalize (w.alloc (.cells #[.int .i64 code, .int .i64 tb, .int .u32 (tg : Int), .int .u32 (ts : Int), .int .u64 (tc : Int), .int .u64 (ver : Int), .string vl, .slice pa pn pcap, .bool more, .int .i64 ks, .int .i64 bs, .int .i64 cs, .int .u64 (sq : Int), .slice ba bn bcap] 49)) = W0 at *
  have HRX := HR0
  refine (packPut _ _ _ (u64N code) 1 _ HS0.out.own HS0.out.le (by have := HB.out.1; have := textL_len9 vl.data.toList; first | omega | (simp; done) | (simp; omega)) (u64N_lt _) (by omega) (by omega)).mono ?_
  intro e W1 hp
  obtain ⟨v1, rfl, hs⟩ := HS0.out.put hp
  have HS1 := Lib.hid hs
  have HR1 := Lib.hid (HS1.out.row (by decide) HR0.out)
  clear hp hs HS0
  have hcl0 := (cell_of_row W1 w.heap.size 0 _ _ _ HR1.out).trans (show _ = some (.int .i64 code) from rfl)
  go_wp2
  go_ret
  rw [HEQ.out]
  exact HS1.out.makes HBA.out rfl
set_option maxRecDepth 100000 in
set_option maxHeartbeats 4000000 in
theorem cEncZ (tb : Int) (tg ts tc ver : Nat) (vl : ByteArray) (page : List CPair) (more : Bool) (ks bs cs : Int) (sq : Nat) (bk : List Int) (pa : Option Addr) (pcap : Nat) (ba : Option Addr) (bcap : Nat) (w : World) (hpg : IsRowOf CPair.cells (fun _ => True) 2 w pa page) (hbk : IsRowOf intC (fun _ => True) 1 w ba bk) (htg : tg < 4294967296) (hts : ts < 4294967296) (htc : tc < 18446744073709551616) (hver : ver < 18446744073709551616) (hsq : sq < 18446744073709551616) (hvl : vl.size ≤ maxLen) (hpw : ∀ p ∈ page, p.wf) (hpn : page.length ≤ 1000) (hbn : bk.length ≤ 1000) :
    Calls Try.prog 15 #[.agg #[.int .i64 0, .int .i64 tb, .int .u32 (tg : Int), .int .u32 (ts : Int), .int .u64 (tc : Int), .int .u64 (ver : Int), .string vl, .slice pa page.length pcap, .bool more, .int .i64 ks, .int .i64 bs, .int .i64 cs, .int .u64 (sq : Int), .slice ba bk.length bcap]] w (Makes w (encL ⟨0, tb, tg, ts, tc, ver, vl, page, more, ks, bs, cs, sq, bk⟩)) := by
  have HEQ := Lib.hid (show encL ⟨0, tb, tg, ts, tc, ver, vl, page, more, ks, bs, cs, sq, bk⟩ = [UInt8.ofNat 0] ++ tokL tb tg ts tc ++ putL ver 8 ++ textL vl.data.toList ++ putL page.length 1 ++ pagesL page ++ putL (bitN more) 1 ++ statL (CRes.stats ⟨0, tb, tg, ts, tc, ver, vl, page, more, ks, bs, cs, sq, bk⟩) ++ putL bk.length 1 ++ buckL bk by unfold encL; rw [if_neg (by simp)])
  have HB := Lib.hid (show 0 ≤ 1000000000 ∧ tg < 4294967296 ∧ ts < 4294967296 ∧ tc < 18446744073709551616 ∧ ver < 18446744073709551616 ∧ sq < 18446744073709551616 ∧ vl.size ≤ maxLen ∧ page.length ≤ 1000 ∧ bk.length ≤ 1000 from ⟨by omega, htg, hts, htc, hver, hsq, hvl, hpn, hbn⟩)
  have HPG := Lib.hid hpg
  have HBK := Lib.hid hbk
  have HPW := Lib.hid hpw
  have hwk := wrap_u64N ks
  have hwb := wrap_u64N bs
  have hwc := wrap_u64N cs
  have hwp : IntKind.u64.wrap (page.length : Int) = (page.length : Int) := by rw [IntKind.wrap_u64]; omega
  have hwn : IntKind.u64.wrap (bk.length : Int) = (bk.length : Int) := by rw [IntKind.wrap_u64]; omega
  clear htg hts htc hver hsq hvl hpw hpn hbn hpg hbk
  generalize hpp : page.length = pn at HB hwp ⊢
  have HPN := Lib.hid hpp
  generalize hbb : bk.length = bn at HB hwn ⊢
  have HBN := Lib.hid hbb
  clear hpp hbb
  have HS0 := Lib.hid (BS.start (B := w.heap.size) (OwnB.nil w.heap.size (w.alloc (.cells #[.int .i64 0, .int .i64 tb, .int .u32 (tg : Int), .int .u32 (ts : Int), .int .u64 (tc : Int), .int .u64 (ver : Int), .string vl, .slice pa pn pcap, .bool more, .int .i64 ks, .int .i64 bs, .int .i64 cs, .int .u64 (sq : Int), .slice ba bn bcap] 49))) (by simp))
  have HR0 := Lib.hid (heap_alloc_new w (.cells #[.int .i64 0, .int .i64 tb, .int .u32 (tg : Int), .int .u32 (ts : Int), .int .u64 (tc : Int), .int .u64 (ver : Int), .string vl, .slice pa pn pcap, .bool more, .int .i64 ks, .int .i64 bs, .int .i64 cs, .int .u64 (sq : Int), .slice ba bn bcap] 49))
  have HBA := Lib.hid ((Below.refl w.heap.size w).alloc (Nat.le_refl _) (.cells #[.int .i64 0, .int .i64 tb, .int .u32 (tg : Int), .int .u32 (ts : Int), .int .u64 (tc : Int), .int .u64 (ver : Int), .string vl, .slice pa pn pcap, .bool more, .int .i64 ks, .int .i64 bs, .int .i64 cs, .int .u64 (sq : Int), .slice ba bn bcap] 49))
  go_enter Try.func15, Try.ntmps15
  go_wp2_with fail
  generalize (w.alloc (.cells #[.int .i64 0, .int .i64 tb, .int .u32 (tg : Int), .int .u32 (ts : Int), .int .u64 (tc : Int), .int .u64 (ver : Int), .string vl, .slice pa pn pcap, .bool more, .int .i64 ks, .int .i64 bs, .int .i64 cs, .int .u64 (sq : Int), .slice ba bn bcap] 49)) = W0 at *
  refine (packPut _ _ _ 0 1 _ HS0.out.own HS0.out.le (by have := HB.out.1; have := textL_len9 vl.data.toList; first | omega | (simp; done) | (simp; omega)) (by omega) (by omega) (by omega)).mono ?_
  intro e W1 hp
  obtain ⟨v1, rfl, hs⟩ := HS0.out.put hp
  have HS1 := Lib.hid hs
  have HR1 := Lib.hid (HS1.out.row (by decide) HR0.out)
  clear hp hs HS0
  rw [putL_one] at HS1
  have hcl0 := (cell_of_row W1 w.heap.size 0 _ _ _ HR1.out).trans (show _ = some (.int .i64 0) from rfl)
  have HT1 := Lib.hid (range_row HR1.out (o := 1) [.int .i64 tb, .int .u32 (tg : Int), .int .u32 (ts : Int), .int .u64 (tc : Int)] (by intro j v hv; rcases j with _ | _ | _ | _ | j <;> simp at hv <;> subst hv <;> rfl))
  go_wp2_with ((with_reducible refine atLoad ?_); refine wpList_load_mid rfl 29 (.tmp 19) rfl w.heap.size 1 rfl [.int .i64 tb, .int .u32 (tg : Int), .int .u32 (ts : Int), .int .u64 (tc : Int)] _ HT1.out Try.underlying29 rfl tok_size' ?_)
  clear hcl0 HT1
  refine (cTok _ _ _ tb tg ts tc _ HS1.out.own HS1.out.le (by have := HB.out.1; have := textL_len9 vl.data.toList; first | omega | (simp; done) | (simp; omega)) HB.out.2.1 HB.out.2.2.1 HB.out.2.2.2.1).mono ?_
  intro e W2 hp
  obtain ⟨v2, rfl, hs⟩ := HS1.out.put hp
  have HS2 := Lib.hid hs
  have HR2 := Lib.hid (HS2.out.row (by decide) HR0.out)
  clear hp hs HS1 HR1
  obtain ⟨LA, hLA⟩ : ∃ L, L = [] ++ [UInt8.ofNat 0] ++ tokL tb tg ts tc := ⟨_, rfl⟩
  rw [← hLA] at HS2
  have HLA := Lib.hid (show LA.length ≤ 100 by rw [hLA]; simp)
  have HEQA := Lib.hid hLA
  clear hLA
  go_wp2_with fail
  refine Reg.wp_regionH (RK w.heap.size) (RK.refl _) (fun _ _ _ h k => h.trans k) 3 6 (fun W => BS w.heap.size W0 (.slice none 0 0) W v2 LA) (fun x W => BS w.heap.size W0 (.slice none 0 0) W x (LA ++ putL ver 8)) (fun x W => BS w.heap.size W0 (.slice none 0 0) W x (LA ++ (putL ver 8 ++ textL vl.data.toList))) (by kernel_rfl) (by kernel_rfl) (HS2.out.drew 1) ?_
  refine Reg.segH 2 (by kernel_rfl) rfl (by kernel_rfl) ?_
  apply Exists.intro
  refine ⟨fun e => ?_, ?_⟩
  · simp only [List.take_succ_cons, List.take_zero]
    repeat (go_big_quiet_step ((intro _; rfl)))
    refine wpQuiet_nil ?_
    exact rfl
  simp only [List.drop_succ_cons, List.drop_zero, Nat.reduceAdd]
  refine Reg.stillH (.int .u64 (ver : Int)) (RK.refl _) (by kernel_rfl) (fun e W hR => ⟨by rfl, ?_⟩) ?_
  · have hcb := (cell_of_row W w.heap.size 5 _ _ _ (hR.row _ _ _ _ (by decide) HR2.out)).trans (show _ = some (.int .u64 (ver : Int)) from rfl)
    unfold Reg.gives
    go_simp
  simp only [Act.put, List.setIfInBounds_toArray, List.set_cons_zero, List.set_cons_succ, Nat.reduceAdd]
  refine Reg.callH (by kernel_rfl) (fun e W hR h0 => ⟨by rfl, ?_⟩) ?_
  · unfold Reg.gives
    go_simp
    refine (packPut _ _ _ ver 8 W h0.own h0.le (by have := HLA.out; omega) HB.out.2.2.2.2.1 (by omega) (by omega)).mono ?_
    intro en W' hp
    obtain ⟨v', rfl, hk, hs⟩ := h0.put2 hp
    exact ⟨v', rfl, hk, hs⟩
  simp only [Act.put, List.setIfInBounds_toArray, List.set_cons_zero, List.set_cons_succ, Nat.reduceAdd]
  refine Reg.segH 1 (by kernel_rfl) rfl (by kernel_rfl) ?_
  apply Exists.intro
  refine ⟨fun e => ?_, ?_⟩
  · simp only [List.take_succ_cons, List.take_zero]
    repeat (go_big_quiet_step ((intro _; rfl)))
    refine wpQuiet_nil ?_
    exact rfl
  simp only [List.drop_succ_cons, List.drop_zero, Nat.reduceAdd]
  refine Reg.stillH (.string vl) (RK.refl _) (by kernel_rfl) (fun e W hR => ⟨by rfl, ?_⟩) ?_
  · have hcb := (cell_of_row W w.heap.size 6 _ _ _ (hR.row _ _ _ _ (by decide) HR2.out)).trans (show _ = some (.string vl) from rfl)
    unfold Reg.gives
    go_simp
  simp only [Act.put, List.setIfInBounds_toArray, List.set_cons_zero, List.set_cons_succ, Nat.reduceAdd]
  refine Reg.callH2 (by kernel_rfl) (fun e W hR h0 => ⟨by rfl, ?_⟩) ?_
  · unfold Reg.gives
    go_simp
    refine (packPutText _ _ _ vl W h0.own h0.le (by have := HLA.out; simp; omega) HB.out.2.2.2.2.2.2.1).mono ?_
    intro en W' hp
    obtain ⟨v', rfl, hk, hs⟩ := h0.put2 hp
    exact ⟨v', rfl, hk, by rwa [List.append_assoc] at hs⟩
  simp only [Act.put, List.setIfInBounds_toArray, List.set_cons_zero, List.set_cons_succ, Nat.reduceAdd]
  refine Reg.segH 1 (by kernel_rfl) rfl (by kernel_rfl) ?_
  apply Exists.intro
  refine ⟨fun e => ?_, ?_⟩
  · simp only [List.take_succ_cons, List.take_zero]
    repeat (go_big_quiet_step ((intro _; rfl)))
    refine wpQuiet_nil ?_
    exact rfl
  simp only [List.drop_succ_cons, List.drop_zero, Nat.reduceAdd]
  intro e W3 hR hJ hf
  have HS3 := Lib.hid (hJ.2.2 (by rfl))
  have HR3 := Lib.hid (HS3.out.row (by decide) HR0.out)
  clear hf hR hJ HS2 HR2

  obtain ⟨LB, hLB⟩ : ∃ L, L = LA ++ (putL ver 8 ++ textL vl.data.toList) := ⟨_, rfl⟩
  rw [← hLB] at HS3
  have HLB := Lib.hid (show LB.length ≤ 70000 by have := HLA.out; have := textL_len9 vl.data.toList; rw [hLB]; simp; omega)
  have HEQB := Lib.hid hLB
  clear hLB
  have hcl7 := (cell_of_row W3 w.heap.size 7 _ _ _ HR3.out).trans (show _ = some (.slice pa pn pcap) from rfl)
  go_wp2_with fail
  clear hcl7
  refine (packPut _ _ _ pn 1 _ HS3.out.own HS3.out.le (by have := HLB.out; omega) (by have := HB.out; omega) (by omega) (by omega)).mono ?_
  intro e W4 hp
  obtain ⟨v4, rfl, hs⟩ := HS3.out.put hp
  have HS4 := Lib.hid hs
  have HR4 := Lib.hid (HS4.out.row (by decide) HR0.out)
  clear hp hs HS3 HR3
  have hcl7 := (cell_of_row W4 w.heap.size 7 _ _ _ HR4.out).trans (show _ = some (.slice pa pn pcap) from rfl)
  go_wp2_with fail
  clear hcl7
  obtain ⟨LC, hLC⟩ : ∃ L, L = LB ++ putL pn 1 := ⟨_, rfl⟩
  rw [← hLC] at HS4
  have HLC := Lib.hid (show LC.length ≤ 80000 by have := HLB.out; rw [hLC]; simp; omega)
  have HEQC := Lib.hid hLC
  clear hLC
  go_loopw [3, 38] (fun o i wr => ∃ k : Nat, k ≤ pn ∧ i = .int .i64 k ∧ Hid (BS w.heap.size W0 (.slice none 0 0) wr o (LC ++ pagesL (page.take k)))) (fun _ i _ => pn - (intOf i).toNat)
  case atStart => exact ⟨0, Nat.zero_le _, rfl, by have := HS4; simpa [pagesL] using this⟩
  case round =>
    obtain ⟨k, hk, rfl, HST⟩ := hrel
    clear HS4 HR4
    by_cases hlt : k < pn
    · have hki : (k : Int) < (pn : Int) := by omega
      have hk9 : k < 1000 := by have := HB.out.2.2.2.2.2.2.2.1; omega
      have hkl : k < page.length := by have := HPN.out; omega
      obtain ⟨b, off, rfl, hb, hc, _⟩ := HPG.out k hkl
      have HX := Lib.hid (range_of2 (W := w) hc)
      have HBL := Lib.hid hb
      have HOX := Lib.hid (HPW.out _ (List.getElem_mem hkl))
      have HTK := Lib.hid (show pagesL (page.take (k + 1)) = pagesL (page.take k) ++ pairL page[k] from flat_take pairL page k hkl)
      have HLN := Lib.hid (show (LC ++ pagesL (page.take k)).length ≤ 200000000 by have := HLC.out; have := pagesL_len (page.take k); rw [List.length_append]; rw [List.length_take] at *; omega)
      clear hc hb
      generalize page[k] = x at *
      obtain ⟨xk, xv⟩ := x
      have HRW := Lib.hid (show wr.rangeAt b (off + k * 2) [.string xk, .string xv] from fun (j : Nat) (v : Value) hv => ((HBA.out.trans HST.out.rk.bel).cell (p := ⟨b, off + k * 2 + j, none⟩) HBL.out).trans (HX.out j v hv))
      obtain ⟨V3, hV3⟩ : ∃ V, V = (wr.alloc (.cells #[.string ByteArray.empty, .string ByteArray.empty] 52)).setRow wr.heap.size #[.string xk, .string xv] := ⟨_, rfl⟩
      have HSX := Lib.hid (run_storeRow (wr.alloc (.cells #[.string ByteArray.empty, .string ByteArray.empty] 52)) 52 wr.heap.size #[.string ByteArray.empty, .string ByteArray.empty] #[.string xk, .string xv] (heap_alloc_new wr _) pair_size rfl (by simp [Value.oneCell']))
      have HLX := Lib.hid (setRow_heap (wr.alloc (.cells #[.string ByteArray.empty, .string ByteArray.empty] 52)) wr.heap.size #[.string ByteArray.empty, .string ByteArray.empty] #[.string xk, .string xv] 52 (0, 0) (heap_alloc_new wr _))
      have HSV := Lib.hid (HST.out.bel (below_boxC wr #[.string ByteArray.empty, .string ByteArray.empty] #[.string xk, .string xv] 52))
      rw [← hV3] at HSX HLX HSV
      clear hV3 HST hkl HX
      obtain ⟨LK, hLK⟩ : ∃ L, L = LC ++ pagesL (page.take k) := ⟨_, rfl⟩
      rw [← hLK] at HSV HLN
      have HLK := Lib.hid hLK
      clear hLK
      go_wp2_with (first | ((with_reducible refine atLoad ?_); refine wpList_load_mid rfl 52 (.tmp 40) rfl b (off + k * 2) rfl [.string xk, .string xv] _ HRW.out Try.underlying52 rfl pair_size ?_) | ((with_reducible refine atStore ?_); refine wpList_store_by rfl 52 (.tmp 5) (.tmp 41) rfl (.pointer (some ⟨wr.heap.size, 0, none⟩)) _ rfl rfl HSX.out ?_))
      simp only [Act.put]
      refine Reg.wp_regionH (RK w.heap.size) (RK.refl _) (fun _ _ _ h k => h.trans k) 3 6 (fun W => BS w.heap.size W0 (.slice none 0 0) W u3 LK) (fun x W => BS w.heap.size W0 (.slice none 0 0) W x (LK ++ textL xk.data.toList)) (fun x W => BS w.heap.size W0 (.slice none 0 0) W x (LK ++ (textL xk.data.toList ++ textL xv.data.toList))) (by kernel_rfl) (by kernel_rfl) (HSV.out.drew 1) ?_
      refine Reg.segH 2 (by kernel_rfl) rfl (by kernel_rfl) ?_
      apply Exists.intro
      refine ⟨fun e => ?_, ?_⟩
      · simp only [List.take_succ_cons, List.take_zero]
        repeat (go_big_quiet_step ((intro _; rfl)))
        refine wpQuiet_nil ?_
        exact rfl
      simp only [List.drop_succ_cons, List.drop_zero, Nat.reduceAdd]
      refine Reg.stillH (.string xk) (RK.refl _) (by kernel_rfl) (fun e W hR => ⟨by rfl, ?_⟩) ?_
      · have hcb := (cell_of_row W wr.heap.size 0 _ _ _ (hR.row _ _ _ _ (by decide) HLX.out)).trans (show _ = some (.string xk) from rfl)
        unfold Reg.gives
        go_simp
      simp only [Act.put, List.setIfInBounds_toArray, List.set_cons_zero, List.set_cons_succ, Nat.reduceAdd]
      refine Reg.callH (by kernel_rfl) (fun e W hR h0 => ⟨by rfl, ?_⟩) ?_
      · unfold Reg.gives
        go_simp
        refine (packPutText _ _ _ xk W h0.own h0.le (by have := HLN.out; omega) HOX.out.1).mono ?_
        intro en W' hp
        obtain ⟨v', rfl, hk, hs⟩ := h0.put2 hp
        exact ⟨v', rfl, hk, hs⟩
      simp only [Act.put, List.setIfInBounds_toArray, List.set_cons_zero, List.set_cons_succ, Nat.reduceAdd]
      refine Reg.segH 1 (by kernel_rfl) rfl (by kernel_rfl) ?_
      apply Exists.intro
      refine ⟨fun e => ?_, ?_⟩
      · simp only [List.take_succ_cons, List.take_zero]
        repeat (go_big_quiet_step ((intro _; rfl)))
        refine wpQuiet_nil ?_
        exact rfl
      simp only [List.drop_succ_cons, List.drop_zero, Nat.reduceAdd]
      refine Reg.stillH (.string xv) (RK.refl _) (by kernel_rfl) (fun e W hR => ⟨by rfl, ?_⟩) ?_
      · have hcb := (cell_of_row W wr.heap.size 1 _ _ _ (hR.row _ _ _ _ (by decide) HLX.out)).trans (show _ = some (.string xv) from rfl)
        unfold Reg.gives
        go_simp
      simp only [Act.put, List.setIfInBounds_toArray, List.set_cons_zero, List.set_cons_succ, Nat.reduceAdd]
      refine Reg.callH2 (by kernel_rfl) (fun e W hR h0 => ⟨by rfl, ?_⟩) ?_
      · unfold Reg.gives
        go_simp
        refine (packPutText _ _ _ xv W h0.own h0.le (by have := HLN.out; have := textL_len9 xk.data.toList; rw [List.length_append]; omega) HOX.out.2).mono ?_
        intro en W' hp
        obtain ⟨v', rfl, hk, hs⟩ := h0.put2 hp
        exact ⟨v', rfl, hk, by rwa [List.append_assoc] at hs⟩
      simp only [Act.put, List.setIfInBounds_toArray, List.set_cons_zero, List.set_cons_succ, Nat.reduceAdd]
      refine Reg.segH 1 (by kernel_rfl) rfl (by kernel_rfl) ?_
      apply Exists.intro
      refine ⟨fun e => ?_, ?_⟩
      · simp only [List.take_succ_cons, List.take_zero]
        repeat (go_big_quiet_step ((intro _; rfl)))
        refine wpQuiet_nil ?_
        exact rfl
      simp only [List.drop_succ_cons, List.drop_zero, Nat.reduceAdd]
      intro e W5 hR hJ hf
      have HS5 := Lib.hid (hJ.2.2 (by rfl))
      clear hf hR hJ
      go_wp2
      go_roundw
      case rel => exact ⟨k + 1, by omega, by go_num, show BS _ _ _ _ _ _ by
        rw [HTK.out, ← List.append_assoc, ← HLK.out]
        exact HS5.out⟩
      case measure => simp [intOf]; omega
    · obtain rfl : k = pn := by omega
      have HS6 := Lib.hid (show BS w.heap.size W0 (.slice none 0 0) wr u3 (LC ++ pagesL page) by have := HST.out; rwa [List.take_of_length_le (show page.length ≤ k by rw [HPN.out]; exact Nat.le_refl _)] at this)
      clear HST
      have HR6 := Lib.hid (HS6.out.row (by decide) HR0.out)
      obtain ⟨LD, hLD⟩ : ∃ L, L = LC ++ pagesL page := ⟨_, rfl⟩
      rw [← hLD] at HS6
      have HLD := Lib.hid (show LD.length ≤ 200000000 by have := HLC.out; have := pagesL_len page; have := HPN.out; have := HB.out.2.2.2.2.2.2.2.1; rw [hLD, List.length_append]; omega)
      have HEQD := Lib.hid hLD
      clear hLD
      have hcl8 := (cell_of_row wr w.heap.size 8 _ _ _ HR6.out).trans (show _ = some (.bool more) from rfl)
      go_wp2_with fail
      refine (cBit more _).mono ?_
      rintro e Wx ⟨rfl, hq⟩
      rw [hq]
      clear hq Wx
      go_wp2_with fail
      clear hcl8
      refine (packPut _ _ _ (bitN more) 1 _ HS6.out.own HS6.out.le (by have := HLD.out; omega) (bitN_lt _) (by omega) (by omega)).mono ?_
      intro e W7 hp
      obtain ⟨v7, rfl, hs⟩ := HS6.out.put hp
      have HS7 := Lib.hid hs
      have HR7 := Lib.hid (HS7.out.row (by decide) HR0.out)
      clear hp hs HS6 HR6
      have hcl9 := (cell_of_row W7 w.heap.size 9 _ _ _ HR7.out).trans (show _ = some (.int .i64 ks) from rfl)
      have hcl10 := (cell_of_row W7 w.heap.size 10 _ _ _ HR7.out).trans (show _ = some (.int .i64 bs) from rfl)
      have hcl11 := (cell_of_row W7 w.heap.size 11 _ _ _ HR7.out).trans (show _ = some (.int .i64 cs) from rfl)
      have hcl12 := (cell_of_row W7 w.heap.size 12 _ _ _ HR7.out).trans (show _ = some (.int .u64 (sq : Int)) from rfl)
      obtain ⟨S, hS⟩ : ∃ S : List Nat, S = [u64N ks, u64N bs, u64N cs, sq] := ⟨_, rfl⟩
      have HW8 := Lib.hid (HS7.out.alloc (.cells #[.int .u64 (u64N ks : Int), .int .u64 (u64N bs : Int), .int .u64 (u64N cs : Int), .int .u64 (sq : Int)] 24))
      have HG8 := Lib.hid (heap_alloc_new W7 (.cells #[.int .u64 (u64N ks : Int), .int .u64 (u64N bs : Int), .int .u64 (u64N cs : Int), .int .u64 (sq : Int)] 24))
      have HSB := Lib.hid (show ∀ n ∈ S, n < 18446744073709551616 by rw [hS]; intro n hn; simp at hn; rcases hn with rfl | rfl | rfl | rfl; exact u64N_lt _; exact u64N_lt _; exact u64N_lt _; exact HB.out.2.2.2.2.2.1)
      have HSL := Lib.hid (show S.length = 4 by rw [hS]; rfl)
      have HSR := Lib.hid (show ∀ (W : World), W.heap[W7.heap.size]? = some (.cells #[.int .u64 (u64N ks : Int), .int .u64 (u64N bs : Int), .int .u64 (u64N cs : Int), .int .u64 (sq : Int)] 24 (0, 0)) → ∀ j (hj : j < S.length), W.cell? ⟨W7.heap.size, j, none⟩ = some (.int .u64 ((S[j] : Nat) : Int)) from fun W hW j hj => by
        rw [cell_of_row W _ j _ _ _ hW]
        subst hS
        rcases j with _ | _ | _ | _ | j
        · rfl
        · rfl
        · rfl
        · rfl
        · simp at hj; omega)
      have HSE := Lib.hid hS
      clear hS HS7 HR7
      go_wp2_with fail
      clear hcl9 hcl10 hcl11 hcl12
      generalize (W7.alloc (.cells #[.int .u64 (u64N ks : Int), .int .u64 (u64N bs : Int), .int .u64 (u64N cs : Int), .int .u64 (sq : Int)] 24)) = W8 at *
      obtain ⟨LE, hLE⟩ : ∃ L, L = LD ++ putL (bitN more) 1 := ⟨_, rfl⟩
      rw [← hLE] at HW8
      have HLE := Lib.hid (show LE.length ≤ 200000001 by have := HLD.out; rw [hLE]; simp; omega)
      have HEQE := Lib.hid hLE
      clear hLE
      generalize W7.heap.size = g8 at *
      have HK8 := Lib.hid (RK.refl w.heap.size W8)
      go_loopw [3, 68] (fun o i wr => ∃ k : Nat, k ≤ 4 ∧ i = .int .i64 k ∧ Hid (BS w.heap.size W0 (.slice none 0 0) wr o (LE ++ statL (S.take k))) ∧ Hid (RK w.heap.size W8 wr)) (fun _ i _ => 4 - (intOf i).toNat)
      case atStart => exact ⟨0, Nat.zero_le _, rfl, by have := HW8; simpa [statL] using this, HK8⟩
      case round =>
        obtain ⟨k, hk, rfl, HST, HRK⟩ := hrel
        clear HW8 HK8
        by_cases hlt : k < 4
        · have hki : (k : Int) < 4 := by omega
          have hkl : k < S.length := by rw [HSL.out]; exact hlt
          have hx := HSR.out wr (HRK.out.row _ _ _ _ (by decide) HG8.out) k hkl
          have HSN := Lib.hid (HSB.out _ (List.getElem_mem hkl))
          have HTK := Lib.hid (show statL (S.take (k + 1)) = statL (S.take k) ++ putL S[k] 8 from flat_take (fun n => putL n 8) S k hkl)
          have HLN := Lib.hid (show (LE ++ statL (S.take k)).length ≤ 200000100 by have := HLE.out; have := statL_len (S.take k); rw [List.length_append]; rw [List.length_take] at *; omega)
          generalize S[k] = nk at *
          clear hkl
          go_wp2_with fail
          refine (packPut _ _ _ nk 8 _ HST.out.own HST.out.le (by have := HLN.out; omega) HSN.out (by omega) (by omega)).mono ?_
          intro e W9 hp
          obtain ⟨v9, rfl, hkk, hs⟩ := HST.out.put2 hp
          have HS9 := Lib.hid hs
          have HRK9 := Lib.hid (HRK.out.trans hkk)
          clear hp hkk hs HST HRK hx
          go_wp2
          go_roundw
          case rel => exact ⟨k + 1, by omega, by go_num, (show BS _ _ _ _ _ _ by rw [HTK.out, ← List.append_assoc]; exact HS9.out), HRK9⟩
          case measure => simp [intOf]; omega
        · obtain rfl : k = 4 := by omega
          have HSA := Lib.hid (show BS w.heap.size W0 (.slice none 0 0) wr u3 (LE ++ statL S) by have := HST.out; rwa [List.take_of_length_le (show S.length ≤ 4 by rw [HSL.out]; exact Nat.le_refl _)] at this)
          have HRA := Lib.hid (HSA.out.row (by decide) HR0.out)
          have HLF := Lib.hid (show (LE ++ statL S).length ≤ 200000100 by have := HLE.out; have := statL_len S; have := HSL.out; rw [List.length_append]; omega)
          clear HST HRK
          have hcl13 := (cell_of_row wr w.heap.size 13 _ _ _ HRA.out).trans (show _ = some (.slice ba bn bcap) from rfl)
          go_wp2_with fail
          clear hcl13
          refine (packPut _ _ _ bn 1 _ HSA.out.own HSA.out.le (by have := HLF.out; omega) (by have := HB.out; omega) (by omega) (by omega)).mono ?_
          intro e WB hp
          obtain ⟨vB, rfl, hs⟩ := HSA.out.put hp
          have HSC := Lib.hid hs
          have HRC := Lib.hid (HSC.out.row (by decide) HR0.out)
          clear hp hs HSA HRA
          have hcl13 := (cell_of_row WB w.heap.size 13 _ _ _ HRC.out).trans (show _ = some (.slice ba bn bcap) from rfl)
          obtain ⟨LG, hLG⟩ : ∃ L, L = (LE ++ statL S) ++ putL bn 1 := ⟨_, rfl⟩
          rw [← hLG] at HSC
          have HLG := Lib.hid (show LG.length ≤ 200000200 by have := HLF.out; rw [hLG, List.length_append, putL_length]; omega)
          have HEQG := Lib.hid hLG
          clear hLG
          go_wp2_with fail
          clear hcl13
          go_loopw [3, 85] (fun o i wr => ∃ k : Nat, k ≤ bn ∧ i = .int .i64 k ∧ Hid (BS w.heap.size W0 (.slice none 0 0) wr o (LG ++ buckL (bk.take k)))) (fun _ i _ => bn - (intOf i).toNat)
          case atStart => exact ⟨0, Nat.zero_le _, rfl, by have := HSC; simpa [buckL] using this⟩
          case round =>
            obtain ⟨k, hk, rfl, HST⟩ := hrel
            clear HSC HRC
            by_cases hlt : k < bn
            · have hki : (k : Int) < (bn : Int) := by omega
              have hk9 : k < 1000 := by have := HB.out.2.2.2.2.2.2.2.2; omega
              have hkl : k < bk.length := by have := HBN.out; omega
              obtain ⟨b, off, rfl, hb, hc, _⟩ := HBK.out k hkl
              have hx := ((HBA.out.trans HST.out.rk.bel).cell (p := ⟨b, off + k * 1 + 0, none⟩) hb).trans (hc 0 (by omega))
              rw [Nat.mul_one, Nat.add_zero] at hx
              have HTK := Lib.hid (show buckL (bk.take (k + 1)) = buckL (bk.take k) ++ putL (u64N bk[k]) 1 from flat_take (fun n => putL (u64N n) 1) bk k hkl)
              have HLN := Lib.hid (show (LG ++ buckL (bk.take k)).length ≤ 200002000 by have := HLG.out; rw [List.length_append, buckL_len, List.length_take]; omega)
              clear hc hb
              generalize bk[k] = nk at *
              have hx2 : wr.cell? ⟨b, off + k, none⟩ = some (.int .i64 nk) := hx
              clear hx hkl
              have hwx := wrap_u64N nk
              go_wp2_with fail
              refine (packPut _ _ _ (u64N nk) 1 _ HST.out.own HST.out.le (by have := HLN.out; omega) (u64N_lt _) (by omega) (by omega)).mono ?_
              intro e W9 hp
              obtain ⟨v9, rfl, hs⟩ := HST.out.put hp
              have HS9 := Lib.hid hs
              clear hp hs HST hx2
              go_wp2
              go_roundw
              case rel => exact ⟨k + 1, by omega, by go_num, (show BS _ _ _ _ _ _ by rw [HTK.out, ← List.append_assoc]; exact HS9.out)⟩
              case measure => simp [intOf]; omega
            · obtain rfl : k = bn := by omega
              have HSD := Lib.hid (show BS w.heap.size W0 (.slice none 0 0) wr u3 (LG ++ buckL bk) by have := HST.out; rwa [List.take_of_length_le (show bk.length ≤ k by rw [HBN.out]; exact Nat.le_refl _)] at this)
              clear HST
              go_wp2
              go_ret
              rw [HEQ.out]
              refine HSD.out.makes HBA.out ?_
              rw [HEQG.out, HEQE.out, HEQD.out, HEQC.out, HEQB.out, HEQA.out, HSE.out, HPN.out, HBN.out]
              simp [CRes.stats, statL]
end Go.Proofs.Ytlngefhjoobmdaa
namespace Go.Proofs.Ytlngefhjoobmdaa
open Go.RowKit
/-- A response as the document's that lies. -/
theorem cEncode (r : CRes) (p b : Value) (w : World) (h : ResIn w r p b) (hp : r.page.length ≤ 1000) (hb : r.bk.length ≤ 1000) : Calls Try.prog 15 #[.agg (r.cells p b)] w (Makes w (encL r)) := by
  obtain ⟨code, tb, tg, ts, tc, ver, vl, page, more, ks, bs, cs, sq, bk⟩ := r
  obtain ⟨⟨pa, pcap, rfl, h1⟩, ⟨ba, bcap, rfl, h2⟩, k1, k2, k3, k4, k5, k6, k7⟩ := h
  simp only at *
  by_cases hc : code = 0
  · subst hc
    exact cEncZ tb tg ts tc ver vl page more ks bs cs sq bk pa pcap ba bcap w h1 h2 k1 k2 k3 k4 k5 k6 k7 hp hb
  · exact cEncN code tb tg ts tc ver vl page more ks bs cs sq bk pa pcap ba bcap w h1 h2 k1 k2 k3 k4 k5 k6 k7 hp hb hc
end Go.Proofs.Ytlngefhjoobmdaa
namespace Go.Proofs.Ytlngefhjoobmdaa
open Go.RowKit
def fewO (x : COp) : Bool := decide (x.key.size ≤ 100) && decide (x.val.size ≤ 1500)
def fewQ (q : CReq) : Bool := q.ops.all fewO && (decide (q.ops.length ≤ 20) && decide (q.after.size ≤ 100))
theorem all_take (f : COp → Bool) (l : List COp) (k : Nat) (h : k < l.length) : (l.take (k + 1)).all f = ((l.take k).all f && f l[k]) := by
  rw [List.take_succ_eq_append_getElem h, List.all_append]
  simp
theorem all_bad (f : COp → Bool) (l : List COp) (k : Nat) (h : k < l.length) (hf : f l[k] = false) : l.all f = false := by
  rw [List.all_eq_false]
  exact ⟨l[k], List.getElem_mem h, by simp [hf]⟩
set_option maxRecDepth 100000 in
set_option maxHeartbeats 4000000 in
theorem lawFew0 (tag : Int) (ad : Nat) (bu qk qb qg tb : Int) (tg ts tc : Nat) (ops : List COp) (af : ByteArray) (fi : Bool) (co ri : Int) (se : Nat) (a : Option Addr) (cap : Nat) (w : World) (hr : IsRowOf COp.cells (fun _ => True) 5 w a ops) (hl : ops.length ≤ 9223372036854775807) :
    Calls Try.prog 12 #[.agg #[.int .i64 tag, .int .u64 (ad : Int), .int .i64 bu, .int .i64 qk, .int .i64 qb, .int .i64 qg, .int .i64 tb, .int .u32 (tg : Int), .int .u32 (ts : Int), .int .u64 (tc : Int), .slice a ops.length cap, .string af, .bool fi, .int .i64 co, .int .i64 ri, .int .u32 (se : Int)]] w (BoolIs (fewQ ⟨tag, ad, bu, qk, qb, qg, tb, tg, ts, tc, ops, af, fi, co, ri, se⟩) w) := by
  have HROW := Lib.hid hr
  have HL := Lib.hid hl
  have HBA := Lib.hid ((Below.refl w.heap.size w).alloc (Nat.le_refl _) (.cells #[.int .i64 tag, .int .u64 (ad : Int), .int .i64 bu, .int .i64 qk, .int .i64 qb, .int .i64 qg, .int .i64 tb, .int .u32 (tg : Int), .int .u32 (ts : Int), .int .u64 (tc : Int), .slice a ops.length cap, .string af, .bool fi, .int .i64 co, .int .i64 ri, .int .u32 (se : Int)] 32))
  have HR0 := Lib.hid (heap_alloc_new w (.cells #[.int .i64 tag, .int .u64 (ad : Int), .int .i64 bu, .int .i64 qk, .int .i64 qb, .int .i64 qg, .int .i64 tb, .int .u32 (tg : Int), .int .u32 (ts : Int), .int .u64 (tc : Int), .slice a ops.length cap, .string af, .bool fi, .int .i64 co, .int .i64 ri, .int .u32 (se : Int)] 32))
  have HF := Lib.hid (show fewQ ⟨tag, ad, bu, qk, qb, qg, tb, tg, ts, tc, ops, af, fi, co, ri, se⟩ = (ops.all fewO && (decide (ops.length ≤ 20) && decide (af.size ≤ 100))) from rfl)
  generalize hnn : ops.length = n at *
  have HNN := Lib.hid hnn
  have hc10 := (cell_of_row _ w.heap.size 10 _ _ _ HR0.out).trans (show _ = some (.slice a n cap) from rfl)
  have hc11 := (cell_of_row _ w.heap.size 11 _ _ _ HR0.out).trans (show _ = some (.string af) from rfl)
  clear hnn hr hl
  go_enter Try.func12, Try.ntmps12
  go_wp2_with fail
  generalize (w.alloc (.cells #[.int .i64 tag, .int .u64 (ad : Int), .int .i64 bu, .int .i64 qk, .int .i64 qb, .int .i64 qg, .int .i64 tb, .int .u32 (tg : Int), .int .u32 (ts : Int), .int .u64 (tc : Int), .slice a n cap, .string af, .bool fi, .int .i64 co, .int .i64 ri, .int .u32 (se : Int)] 32)) = W0 at *
  go_loopw [3] (fun i wr => ∃ k : Nat, k ≤ n ∧ i = .int .i64 k ∧ wr = W0 ∧ Hid ((ops.take k).all fewO = true)) (fun i _ => n - (intOf i).toNat)
  case atStart => exact ⟨0, Nat.zero_le _, rfl, rfl, by show _ = true; simp⟩
  case round =>
    obtain ⟨k, hk, rfl, rfl, HT⟩ := hrel
    by_cases hlt : k < n
    · have hki : (k : Int) < (n : Int) := by omega
      have hkb : k < 9223372036854775807 := by have := HL.out; omega
      have hkl : k < ops.length := by have := HNN.out; omega
      obtain ⟨b, off, rfl, hb, hc, _⟩ := HROW.out k hkl
      have hx1 : wr.cell? ⟨b, off + k * 5 + 1, none⟩ = some (.string ops[k].key) := (HBA.out.cell (p := ⟨b, off + k * 5 + 1, none⟩) hb).trans (hc 1 (by omega))
      have hx2 : wr.cell? ⟨b, off + k * 5 + 2, none⟩ = some (.string ops[k].val) := (HBA.out.cell (p := ⟨b, off + k * 5 + 2, none⟩) hb).trans (hc 2 (by omega))
      have HTK := Lib.hid (fun (e : fewO ops[k] = true) => show (ops.take (k + 1)).all fewO = true by rw [all_take fewO ops k hkl, HT.out, e]; rfl)
      have HBAD := Lib.hid (fun (e : fewO ops[k] = false) => all_bad fewO ops k hkl e)
      clear hc hb
      generalize ops[k] = x at *
      clear hkl
      obtain ⟨xd, xk, xv, xc, xu⟩ := x
      simp only at hx1 hx2
      by_cases h1 : 100 < xk.size
      · have d1 : decide ((100 : Int) < (xk.size : Int)) = true := by rw [decide_eq_true_iff]; omega
        have HK := Lib.hid (HBAD.out (by unfold fewO; rw [decide_eq_false (show ¬ xk.size ≤ 100 by omega)]; rfl))
        clear h1 HTK HBAD
        go_wp2_with fail
        go_ret
        exact ⟨by rw [HF.out, HK.out]; rfl, HBA.out⟩
      have d1 : decide ((100 : Int) < (xk.size : Int)) = false := by rw [decide_eq_false_iff_not]; omega
      by_cases h2 : 1500 < xv.size
      · have d2 : decide ((1500 : Int) < (xv.size : Int)) = true := by rw [decide_eq_true_iff]; omega
        have HK := Lib.hid (HBAD.out (by unfold fewO; rw [decide_eq_false (show ¬ xv.size ≤ 1500 by omega)]; simp))
        clear h1 h2 HTK HBAD
        go_wp2_with fail
        go_ret
        exact ⟨by rw [HF.out, HK.out]; rfl, HBA.out⟩
      have d2 : decide ((1500 : Int) < (xv.size : Int)) = false := by rw [decide_eq_false_iff_not]; omega
      have HK := Lib.hid (HTK.out (by unfold fewO; rw [decide_eq_true (show xk.size ≤ 100 by omega), decide_eq_true (show xv.size ≤ 1500 by omega)]; rfl))
      clear h1 h2 HTK HBAD HT
      go_wp2_with fail
      go_roundw
      case rel => exact ⟨k + 1, by omega, by go_num, by simp, HK⟩
      case measure => simp [intOf]; omega
    · obtain rfl : k = n := by omega
      have HAL := Lib.hid (show ops.all fewO = true by have := HT.out; rwa [List.take_of_length_le (show ops.length ≤ k by rw [HNN.out]; exact Nat.le_refl _)] at this)
      by_cases h1 : k ≤ 20
      · have d1 : decide ((k : Int) ≤ 20) = true := by rw [decide_eq_true_iff]; omega
        by_cases h2 : af.size ≤ 100
        · have d2 : decide ((af.size : Int) ≤ 100) = true := by rw [decide_eq_true_iff]; omega
          have HK := Lib.hid (HF.out.trans (by rw [HAL.out, decide_eq_true h1, decide_eq_true h2]))
          clear h1 h2
          go_wp2_with fail
          go_ret
          exact ⟨by rw [HK.out]; rfl, HBA.out⟩
        · have d2 : decide ((af.size : Int) ≤ 100) = false := by rw [decide_eq_false_iff_not]; omega
          have HK := Lib.hid (HF.out.trans (by rw [HAL.out, decide_eq_true h1, decide_eq_false h2]))
          clear h1 h2
          go_wp2_with fail
          go_ret
          exact ⟨by rw [HK.out]; rfl, HBA.out⟩
      · have d1 : decide ((k : Int) ≤ 20) = false := by rw [decide_eq_false_iff_not]; omega
        have HK := Lib.hid (HF.out.trans (by rw [HAL.out, decide_eq_false h1]))
        clear h1
        go_wp2_with fail
        go_ret
        exact ⟨by rw [HK.out]; rfl, HBA.out⟩
theorem lawFew (q : CReq) (v : Value) (w : World) (h : ∃ a cap, v = .slice a q.ops.length cap ∧ IsRowOf COp.cells (fun _ => True) 5 w a q.ops) (hl : q.ops.length ≤ 9223372036854775807) : Calls Try.prog 12 #[.agg (q.cells v)] w (BoolIs (fewQ q) w) := by
  obtain ⟨a, cap, rfl, hr⟩ := h
  exact lawFew0 _ _ _ _ _ _ _ _ _ _ _ _ _ _ _ _ a cap w hr hl
end Go.Proofs.Ytlngefhjoobmdaa
namespace Go.Proofs.Ytlngefhjoobmdaa
open Go.RowKit
theorem batch_len16 (n : Nat) (s : RS) (b : Bool) (h : (batchN n s (b || !(decide (1 ≤ n) && decide (n ≤ 16)))).2.2 = false) : (batchN n s (b || !(decide (1 ≤ n) && decide (n ≤ 16)))).1.length ≤ 16 := by
  have h1 := batchN_bad0 _ _ _ h
  have h2 := batchN_len n s (b || !(decide (1 ≤ n) && decide (n ≤ 16)))
  simp at h1
  omega
theorem tenP_len (t : Nat) (q : CReq) (s : RS) (b : Bool) (ho : q.ops = []) (h : (tenP t q s b).2.2 = false) : (tenP t q s b).1.ops.length ≤ 16 := by
  unfold tenP at h ⊢
  split
  · simp
  · rename_i h1
    rw [if_neg h1] at h
    split
    · rename_i h2
      rw [if_pos h2] at h
      exact batch_len16 _ _ _ h
    · split
      · simp [ho]
      · split
        · simp [ho]
        · split <;> simp [ho]
theorem bodyP_len (t : Nat) (s : RS) (h : (bodyP t s).2.2 = false) : (bodyP t s).1.ops.length ≤ 16 := by
  unfold bodyP at h ⊢
  split
  · rename_i h1
    rw [if_pos h1] at h
    exact tenP_len _ _ _ _ rfl h
  · split
    · split <;> exact Nat.zero_le _
    · exact Nat.zero_le _
theorem parseP_len {b : List UInt8} {q : CReq} (h : parseP b = some q) : q.ops.length ≤ 16 := by
  unfold parseP endP at h
  split at h
  · cases h
  · rename_i hc
    cases h
    simp only [Bool.or_eq_true, not_or, Bool.not_eq_true] at hc
    exact bodyP_len _ _ hc.1.1
/-- What is parsed is put as those bytes. -/
theorem putQ_parse {b : List UInt8} {q : CReq} (h : parseP b = some q) : putQ q = some b := by
  have h1 := parseP_len h
  unfold putQ
  rw [if_neg (by omega), reqL_parse h, if_pos h]
theorem putQ_back {q : CReq} {b : List UInt8} (h : putQ q = some b) : parseP b = some q ∧ parseP (b ++ [0]) = none := by
  unfold putQ at h
  split at h
  · cases h
  · split at h
    · rename_i hp
      cases h
      exact ⟨hp, parse_more hp (by simp)⟩
    · cases h
theorem reqL_len (q : CReq) : (reqL q).length ≤ 200000 + 131091 * q.ops.length := by
  have h1 := opsL_len q.tag q.ops
  have h2 := textL_len9 q.after.data.toList
  have h3 : (tailQ q).length ≤ 70000 := by
    unfold tailQ
    split
    · simp only [List.length_append, putL_length]; omega
    split
    · simp only [putL_length]; omega
    split
    · simp only [putL_length]; omega
    · simp
  have h4 : (lowQ q).length ≤ 100 := by
    unfold lowQ
    rw [List.length_append, List.length_append, List.length_append]
    have a1 : (putL (u64N q.tag) 1).length = 1 := putL_length _ _
    have a2 : (putL q.admin 8).length = 8 := putL_length _ _
    have a3 : (if q.tag < 4 then putL (u64N q.bucket) 1 else []).length ≤ 1 := by split <;> simp
    have a4 : (if q.tag = 1 ∨ q.tag = 3 then putL (u64N q.qk) 8 ++ (putL (u64N q.qb) 8 ++ putL (u64N q.qg) 8) else []).length ≤ 24 := by split <;> simp
    omega
  have h5 : (headQ q).length ≤ 100 := by
    unfold headQ
    simp
  have h6 : (if q.tag = 9 then putL q.ops.length 1 else []).length ≤ 1 := by split <;> simp
  unfold reqL
  split
  · omega
  · simp only [List.length_append]
    omega
theorem putQ_len {q : CReq} {b : List UInt8} (h : putQ q = some b) : b.length ≤ 10000000 := by
  unfold putQ at h
  split at h
  · cases h
  · split at h
    · cases h
      have := reqL_len q
      omega
    · cases h
theorem pairsN_form : ∀ (n : Nat) (s : RS), (pairsN n s).1.length = n ∧ ∀ p ∈ (pairsN n s).1, p.wf
  | 0, s => ⟨rfl, fun p h => by cases h⟩
  | n + 1, s => by
    obtain ⟨h1, h2⟩ := pairsN_form n (rT' (rT' s))
    refine ⟨by simp [pairsN, h1], fun p h => ?_⟩
    simp only [pairsN, List.mem_cons] at h
    rcases h with rfl | h
    · exact ⟨rT_max _, rT_max _⟩
    · exact h2 p h
theorem bucksN_form : ∀ (n : Nat) (s : RS), (bucksN n s).1.length = n
  | 0, s => rfl
  | n + 1, s => by simp [bucksN, bucksN_form n (rN' 1 s)]
theorem decode_form {b : List UInt8} {r : CRes} (h : decodeP b = some r) : r.wf ∧ r.page.length ≤ 255 ∧ r.bk.length ≤ 255 := by
  unfold decodeP at h
  split at h
  · cases h
  · cases h
    unfold bodyD
    split
    · have h1 := pairsN_form (rN 1 (dS4 (rN' 1 (b, false)))) (rN' 1 (dS4 (rN' 1 (b, false))))
      have h2 := bucksN_form (rN 1 (dS11 (rN' 1 (b, false)))) (rN' 1 (dS11 (rN' 1 (b, false))))
      refine ⟨⟨rN4 _, rN4 _, rN8 _, rN8 _, rN8 _, rT_max _, h1.2⟩, ?_, ?_⟩
      · have := rN1 (dS4 (rN' 1 (b, false)))
        show (pairsN _ _).1.length ≤ 255
        rw [h1.1]; omega
      · have := rN1 (dS11 (rN' 1 (b, false)))
        show (bucksN _ _).1.length ≤ 255
        rw [h2]; omega
    · refine ⟨?_, Nat.zero_le _, Nat.zero_le _⟩
      unfold CRes.wf CRes.zero maxLen
      simp
/-- What Decode came to lies in a box. -/
theorem dec_put {W : World} {r : CRes} {p b : Value} {B : Nat} (hp : OwnOf 52 CPair.cells 2 B W p r.page) (hb : OwnOf 3 intC 1 B W b r.bk) : ∃ W', (Instr.storeAt 49 (.pointer (some ⟨W.heap.size, 0, none⟩)) (.agg (r.cells p b))).run Try.prog (W.alloc (.cells (CRes.zero.cells nilS nilS) 49)) = .ok () W' ∧ W'.heap[W.heap.size]? = some (.cells (r.cells p b) 49 (0, 0)) ∧ Below W.heap.size W W' ∧ W.heap.size < W'.heap.size := by
  refine ⟨_, run_storeRow (W.alloc (.cells (CRes.zero.cells nilS nilS) 49)) 49 W.heap.size (CRes.zero.cells nilS nilS) (r.cells p b) (heap_alloc_new W _) dres_size rfl (by obtain ⟨a5, c5, h5⟩ := hp.slice; obtain ⟨a6, c6, h6⟩ := hb.slice; rw [h5, h6]; exact res_one ..), setRow_heap (W.alloc (.cells (CRes.zero.cells nilS nilS) 49)) W.heap.size (CRes.zero.cells nilS nilS) _ 49 (0, 0) (heap_alloc_new W _), below_boxC W (CRes.zero.cells nilS nilS) _ 49, by simp [World.setRow]⟩
theorem res_in {W : World} {r : CRes} {p b : Value} {B : Nat} (hw : r.wf) (hp : OwnOf 52 CPair.cells 2 B W p r.page) (hb : OwnOf 3 intC 1 B W b r.bk) : ResIn W r p b := by
  obtain ⟨a, c, h1, h2, _⟩ := hp.rowOf pair_len (W := fun _ => True) (fun _ _ => trivial)
  obtain ⟨a', c', h3, h4, _⟩ := hb.rowOf int_len (W := fun _ => True) (fun _ _ => trivial)
  exact ⟨⟨a, c, h1, h2⟩, ⟨a', c', h3, h4⟩, hw⟩
theorem ResIn.bel' {r : CRes} {p b : Value} {w w' : World} (h : ResIn w r p b) (hb : Below w.heap.size w w') : ResIn w' r p b := by
  obtain ⟨⟨a1, c1, e1, r1⟩, ⟨a2, c2, e2, r2⟩, hw⟩ := h
  exact ⟨⟨a1, c1, e1, r1.bel hb⟩, ⟨a2, c2, e2, r2.bel hb⟩, hw⟩
theorem few_opsB {q : CReq} (h : fewQ q = true) : q.ops.length ≤ 20 := by
  unfold fewQ at h
  simp only [Bool.and_eq_true, decide_eq_true_eq] at h
  exact h.2.1
end Go.Proofs.Ytlngefhjoobmdaa
namespace Go.Proofs.Ytlngefhjoobmdaa
open Go.RowKit
def qMerge : CReq := { CReq.zero with tag := 4, admin := 1 }
theorem put_merge : putQ qMerge = some [4, 1, 0, 0, 0, 0, 0, 0, 0] := by decide +kernel
theorem put_zero : putQ CReq.zero = none := by decide +kernel
theorem parse_nil : parseP [] = none := by decide +kernel
theorem reqIn_nil (w : World) (q : CReq) (h : q.ops = []) (hw : q.wf) : ReqIn w q nilS := ⟨⟨none, 0, by rw [h]; rfl, by rw [h]; exact IsRowOf.nil⟩, hw⟩
theorem cDenied (w : World) : Calls Try.prog 19 #[] w (fun e W => e = .returned (.agg #[.int .i64 7, .int .i64 0, .int .u32 0, .int .u32 0, .int .u64 0, .int .u64 0, .string { data := #[] }, .slice none 0 0, .bool false, .int .i64 0, .int .i64 0, .int .i64 0, .int .u64 0, .slice none 0 0]) ∧ Below w.heap.size w W) := by
  go_enter Try.func19, Try.ntmps19
  go_wp2
  go_returns
  exact ⟨rfl, (Below.refl _ _).alloc (Nat.le_refl _) _⟩
set_option maxRecDepth 100000 in
set_option maxHeartbeats 4000000 in
theorem cmdUp (w : World) : LawOk Try.prog 6 #[] w := by
  unfold LawOk
  have HQ1 := Lib.hid (fun W => (cPutReq qMerge nilS W (reqIn_nil W qMerge rfl (by unfold CReq.wf qMerge CReq.zero maxLen; simp)) (by show 0 ≤ _; omega)))
  have HQ2 := Lib.hid (fun W => (cPutReq CReq.zero nilS W (reqIn_nil W CReq.zero rfl (by unfold CReq.wf CReq.zero maxLen; simp)) (by show 0 ≤ _; omega)))
  rw [put_merge] at HQ1
  rw [put_zero] at HQ2
  have HP := Lib.hid (fun W => crParse none 0 [] W ⟨none, 0, rfl, IsBytes.nil _ _, Nat.le_refl _, Nat.zero_le _, fun _ => rfl, fun x hx => by cases hx⟩)
  rw [parse_nil] at HP
  go_enter Try.func6, Try.ntmps6
  go_wp2_with fail
  refine (HQ1.out w).mono ?_
  rintro e W1 ⟨⟨_, h2⟩, hb1⟩
  obtain ⟨v1, rfl, ho1⟩ := h2 _ rfl
  obtain ⟨a1, cap1, rfl, hba1, _, _⟩ := ho1.out
  have HBA := Lib.hid hba1
  have HB1 := Lib.hid hb1
  clear h2 ho1 hba1 hb1
  go_wp2_with fail
  refine (HP.out W1).mono ?_
  rintro e W2 ⟨⟨u, rfl, hou⟩, hb2⟩
  have HB2 := Lib.hid (below_next HB1.out hb2)
  have HBA2 := Lib.hid (HBA.out.bel hb2)
  obtain ⟨D, hD⟩ : ∃ D, D = (reqOf none).cells u := ⟨_, rfl⟩
  unfold tupE
  rw [← hD, errN_none]
  obtain ⟨W3, hW3⟩ : ∃ W3, W3 = (W2.alloc (.cells (CReq.zero.cells nilS) 32)).setRow W2.heap.size D := ⟨_, rfl⟩
  have HS3 := Lib.hid (run_storeRow (W2.alloc (.cells (CReq.zero.cells nilS) 32)) 32 W2.heap.size (CReq.zero.cells nilS) D (heap_alloc_new W2 _) (by rw [hD]; exact req_size) (by rw [hD]; rfl) (by obtain ⟨a5, c5, h5⟩ := hou.slice; rw [hD, h5]; exact cells_one _ _ _ _))
  have HB3 := Lib.hid (below_boxC W2 (CReq.zero.cells nilS) D 32)
  rw [← hW3] at HS3 HB3
  have HBA3 := Lib.hid (HBA2.out.bel HB3.out)
  have HB23 := Lib.hid (below_next HB2.out HB3.out)
  clear hW3 hou hb2 hD
  go_wp2_with ((with_reducible refine atStore ?_); refine wpList_store_by rfl 32 (.tmp 3) (.tmp 14) rfl (.pointer (some ⟨W2.heap.size, 0, none⟩)) _ rfl rfl HS3.out ?_)
  refine (HQ2.out W3).mono ?_
  rintro e W4 ⟨⟨h1, _⟩, hb4⟩
  obtain rfl := h1 rfl
  have HB4 := Lib.hid (below_next HB23.out hb4)
  have kc := run_string_bytes W4 a1 cap1 _ (HBA3.out.bel hb4)
  simp only [List.length_cons, List.length_nil, Nat.zero_add, Nat.reduceAdd] at kc ⊢
  rw [show errV 1 = .iface 57 (.int .i64 1) from rfl]
  have k1 := code_nil_nil
  have k2 := code_eql
  clear h1 hb4
  go_wp2_with fail
  refine (cDenied W4).mono ?_
  rintro e W5 ⟨rfl, hb5⟩
  have HB5 := Lib.hid (below_next HB4.out hb5)
  clear hb5
  have kf : (Instr.field 49 (.agg #[.int .i64 7, .int .i64 0, .int .u32 0, .int .u32 0, .int .u64 0, .int .u64 0, .string { data := #[] }, .slice none 0 0, .bool false, .int .i64 0, .int .i64 0, .int .i64 0, .int .u64 0, .slice none 0 0]) 0).run Try.prog W5 = .ok (.int .i64 7) W5 := by with_unfolding_all rfl
  go_wp2

  go_ret
  exact ⟨rfl, HB5.out⟩
end Go.Proofs.Ytlngefhjoobmdaa
namespace Go.Proofs.Ytlngefhjoobmdaa
open Go.RowKit
/-- A request in the document's struct, its ops in a row of the call's own. -/
def AsOk (q : CReq) (w : World) (e : Ending) (W : World) : Prop := (∃ v, e = .returned (.agg (q.cells v)) ∧ OwnOf 90 COp.cells 5 w.heap.size W v q.ops) ∧ Below w.heap.size w W
theorem range_row' {W : World} {g : Nat} {C : Array Value} {T : TypeId} (hg : W.heap[g]? = some (.cells C T (0, 0))) (j : Nat) {v : Value} (hv : C[j]? = some v) : W.cell? ⟨g, j, none⟩ = some v := (cell_of_row W g j _ _ _ hg).trans hv
/-- The walk's state: the request's box, the result's, what is built, its ops. -/
structure AsSt (C0 : Array Value) (F : Value → Array Value) (w W : World) (v : Value) (l : List COp) : Prop where
  b0 : W.heap[w.heap.size]? = some (.cells C0 32 (0, 0))
  b1 : W.heap[w.heap.size + 1]? = some (.cells (CReq.zero.cells nilS) 39 (0, 0))
  b2 : W.heap[w.heap.size + 2]? = some (.cells (F v) 39 (0, 0))
  own : OwnOf 90 COp.cells 5 (w.heap.size + 3) W v l
  bel : Below w.heap.size w W
  sz : w.heap.size + 3 ≤ W.heap.size
section
variable {C0 : Array Value} {F : Value → Array Value} {w W W' : World} {v v' : Value} {l l' : List COp}
theorem AsSt.bel' (h : AsSt C0 F w W v l) (hb : Below W.heap.size W W') : AsSt C0 F w W' v l := by
  have h1 := h.sz
  exact ⟨(hb.block _ (by omega)).trans h.b0, (hb.block _ (by omega)).trans h.b1, (hb.block _ (by omega)).trans h.b2, h.own.bel hb, h.bel.trans (hb.mono (by omega)), Nat.le_trans h1 hb.size⟩
/-- The row has grown; then it is stored. -/
theorem AsSt.app (h : AsSt C0 F w W v l) (hg : Grew W W' v v') (ho : OwnOf 90 COp.cells 5 (w.heap.size + 3) W' v' l') :
    W'.heap[w.heap.size + 2]? = some (.cells (F v) 39 (0, 0)) ∧ AsSt C0 F w (W'.setRow (w.heap.size + 2) (F v')) v' l' := by
  have h1 := h.sz
  have hk : ∀ k, k < w.heap.size + 3 → W'.heap[k]? = W.heap[k]? := fun k hk => hg.1.block k (by omega) (fun e => by have := (h.own.block k e.symm).1; omega)
  have hb : Below (w.heap.size + 3) W W' := hg.below h1 (fun k hk => (h.own.block k hk).1)
  have h2 := (hk (w.heap.size + 2) (by omega)).trans h.b2
  refine ⟨h2, (setRow_other _ _ _ _ (by omega)).trans ((hk _ (by omega)).trans h.b0), (setRow_other _ _ _ _ (by omega)).trans ((hk _ (by omega)).trans h.b1), setRow_heap _ _ _ _ _ _ h2, ho.kept fun k hk => setRow_other _ _ _ _ (by have := (ho.block k hk).1; omega), ?_, by simpa [World.setRow] using Nat.le_trans h1 hb.size⟩
  have hb2 := h.bel.trans (hb.mono (by omega))
  exact ⟨hb2.os, hb2.tape, hb2.output, by simpa [World.setRow] using hb2.size, fun k hk => (setRow_other _ _ _ _ (by omega)).trans (hb2.block k hk)⟩
end
set_option maxRecDepth 100000 in
set_option maxHeartbeats 4000000 in
theorem lawAs0 (tag : Int) (ad : Nat) (bu qk qb qg tb : Int) (tg ts tc : Nat) (l : List COp) (af : ByteArray) (fi : Bool) (co ri : Int) (se : Nat) (a : Option Addr) (cap : Nat) (w : World) (hr : IsRowOf COp.cells (fun _ => True) 5 w a l) (hl : l.length ≤ 100000000) :
    Calls Try.prog 11 #[.agg #[.int .i64 tag, .int .u64 (ad : Int), .int .i64 bu, .int .i64 qk, .int .i64 qb, .int .i64 qg, .int .i64 tb, .int .u32 (tg : Int), .int .u32 (ts : Int), .int .u64 (tc : Int), .slice a l.length cap, .string af, .bool fi, .int .i64 co, .int .i64 ri, .int .u32 (se : Int)]] w (AsOk ⟨tag, ad, bu, qk, qb, qg, tb, tg, ts, tc, l, af, fi, co, ri, se⟩ w) := by
  have HROW := Lib.hid hr
  have HL := Lib.hid hl
  generalize hnn : l.length = n at *
  have HNN := Lib.hid hnn
  obtain ⟨F, hF⟩ : ∃ F : Value → Array Value, F = fun v => #[.int .i64 tag, .int .u64 (ad : Int), .int .i64 bu, .int .i64 qk, .int .i64 qb, .int .i64 qg, .int .i64 tb, .int .u32 (tg : Int), .int .u32 (ts : Int), .int .u64 (tc : Int), v, .string af, .bool fi, .int .i64 co, .int .i64 ri, .int .u32 (se : Int)] := ⟨_, rfl⟩
  have HF := Lib.hid (fun v => congrFun hF v)
  have HSTART := Lib.hid (show AsSt #[.int .i64 tag, .int .u64 (ad : Int), .int .i64 bu, .int .i64 qk, .int .i64 qb, .int .i64 qg, .int .i64 tb, .int .u32 (tg : Int), .int .u32 (ts : Int), .int .u64 (tc : Int), .slice a n cap, .string af, .bool fi, .int .i64 co, .int .i64 ri, .int .u32 (se : Int)] F w (((w.alloc (.cells #[.int .i64 tag, .int .u64 (ad : Int), .int .i64 bu, .int .i64 qk, .int .i64 qb, .int .i64 qg, .int .i64 tb, .int .u32 (tg : Int), .int .u32 (ts : Int), .int .u64 (tc : Int), .slice a n cap, .string af, .bool fi, .int .i64 co, .int .i64 ri, .int .u32 (se : Int)] 32)).alloc (.cells #[.int .i64 0, .int .u64 0, .int .i64 0, .int .i64 0, .int .i64 0, .int .i64 0, .int .i64 0, .int .u32 0, .int .u32 0, .int .u64 0, .slice none 0 0, .string { data := #[] }, .bool false, .int .i64 0, .int .i64 0, .int .u32 0] 39)).alloc (.cells #[.int .i64 tag, .int .u64 (ad : Int), .int .i64 bu, .int .i64 qk, .int .i64 qb, .int .i64 qg, .int .i64 tb, .int .u32 (tg : Int), .int .u32 (ts : Int), .int .u64 (tc : Int), .slice none 0 0, .string af, .bool fi, .int .i64 co, .int .i64 ri, .int .u32 (se : Int)] 39)) nilS [] from by
    have h0 := heap_alloc_new w (.cells #[.int .i64 tag, .int .u64 (ad : Int), .int .i64 bu, .int .i64 qk, .int .i64 qb, .int .i64 qg, .int .i64 tb, .int .u32 (tg : Int), .int .u32 (ts : Int), .int .u64 (tc : Int), .slice a n cap, .string af, .bool fi, .int .i64 co, .int .i64 ri, .int .u32 (se : Int)] 32)
    obtain ⟨w1, hw1⟩ : ∃ w1, w1 = w.alloc (.cells #[.int .i64 tag, .int .u64 (ad : Int), .int .i64 bu, .int .i64 qk, .int .i64 qb, .int .i64 qg, .int .i64 tb, .int .u32 (tg : Int), .int .u32 (ts : Int), .int .u64 (tc : Int), .slice a n cap, .string af, .bool fi, .int .i64 co, .int .i64 ri, .int .u32 (se : Int)] 32) := ⟨_, rfl⟩
    have s1 : w1.heap.size = w.heap.size + 1 := by rw [hw1]; simp
    have e1 : Below w.heap.size w w1 := by rw [hw1]; exact (Below.refl _ _).alloc (Nat.le_refl _) _
    rw [← hw1] at h0 ⊢
    have h1 := heap_alloc_new w1 (.cells (CReq.zero.cells nilS) 39)
    rw [s1] at h1
    have e2 := (Below.refl w1.heap.size w1).alloc (Nat.le_refl _) (.cells (CReq.zero.cells nilS) 39)
    obtain ⟨w2, hw2⟩ : ∃ w2, w2 = w1.alloc (.cells (CReq.zero.cells nilS) 39) := ⟨_, rfl⟩
    have s2 : w2.heap.size = w.heap.size + 2 := by rw [hw2, World.size_alloc, s1]
    have hz : w1.alloc (.cells #[.int .i64 0, .int .u64 0, .int .i64 0, .int .i64 0, .int .i64 0, .int .i64 0, .int .i64 0, .int .u32 0, .int .u32 0, .int .u64 0, .slice none 0 0, .string { data := #[] }, .bool false, .int .i64 0, .int .i64 0, .int .u32 0] 39) = w2 := hw2.symm
    rw [hz]
    rw [← hw2] at h1 e2
    have h2 := heap_alloc_new w2 (.cells #[.int .i64 tag, .int .u64 (ad : Int), .int .i64 bu, .int .i64 qk, .int .i64 qb, .int .i64 qg, .int .i64 tb, .int .u32 (tg : Int), .int .u32 (ts : Int), .int .u64 (tc : Int), .slice none 0 0, .string af, .bool fi, .int .i64 co, .int .i64 ri, .int .u32 (se : Int)] 39)
    rw [s2] at h2
    have e3 := (Below.refl w2.heap.size w2).alloc (Nat.le_refl _) (.cells #[.int .i64 tag, .int .u64 (ad : Int), .int .i64 bu, .int .i64 qk, .int .i64 qb, .int .i64 qg, .int .i64 tb, .int .u32 (tg : Int), .int .u32 (ts : Int), .int .u64 (tc : Int), .slice none 0 0, .string af, .bool fi, .int .i64 co, .int .i64 ri, .int .u32 (se : Int)] 39)
    exact ⟨(e3.block _ (by omega)).trans ((e2.block _ (by omega)).trans h0), (e3.block _ (by omega)).trans h1, by rw [hF]; exact h2, OwnOf.nil _ _, e1.trans ((e2.trans (e3.mono (by omega))).mono (by omega)), by rw [World.size_alloc]; omega⟩)
  clear hnn hr hl hF
  go_enter Try.func11, Try.ntmps11
  go_wp2_with fail
  generalize (((w.alloc (.cells #[.int .i64 tag, .int .u64 (ad : Int), .int .i64 bu, .int .i64 qk, .int .i64 qb, .int .i64 qg, .int .i64 tb, .int .u32 (tg : Int), .int .u32 (ts : Int), .int .u64 (tc : Int), .slice a n cap, .string af, .bool fi, .int .i64 co, .int .i64 ri, .int .u32 (se : Int)] 32)).alloc (.cells #[.int .i64 0, .int .u64 0, .int .i64 0, .int .i64 0, .int .i64 0, .int .i64 0, .int .i64 0, .int .u32 0, .int .u32 0, .int .u64 0, .slice none 0 0, .string { data := #[] }, .bool false, .int .i64 0, .int .i64 0, .int .u32 0] 39)).alloc (.cells #[.int .i64 tag, .int .u64 (ad : Int), .int .i64 bu, .int .i64 qk, .int .i64 qb, .int .i64 qg, .int .i64 tb, .int .u32 (tg : Int), .int .u32 (ts : Int), .int .u64 (tc : Int), .slice none 0 0, .string af, .bool fi, .int .i64 co, .int .i64 ri, .int .u32 (se : Int)] 39)) = W0 at *
  go_loopw [4] (fun i wr => ∃ (k : Nat) (v : Value), k ≤ n ∧ i = .int .i64 k ∧ Hid (AsSt #[.int .i64 tag, .int .u64 (ad : Int), .int .i64 bu, .int .i64 qk, .int .i64 qb, .int .i64 qg, .int .i64 tb, .int .u32 (tg : Int), .int .u32 (ts : Int), .int .u64 (tc : Int), .slice a n cap, .string af, .bool fi, .int .i64 co, .int .i64 ri, .int .u32 (se : Int)] F w wr v (l.take k))) (fun i _ => n - (intOf i).toNat)
  case atStart => exact ⟨0, nilS, Nat.zero_le _, rfl, HSTART⟩
  case round =>
    obtain ⟨k, v, hk, rfl, HST⟩ := hrel
    clear HSTART
    have c0 := range_row' HST.out.b0 10 (v := .slice a n cap) rfl
    by_cases hlt : k < n
    · have hki : (k : Int) < (n : Int) := by omega
      have hkl : k < l.length := by have := HNN.out; omega
      have hk9 : k < 100000000 := by have := HL.out; omega
      obtain ⟨b, off, rfl, hb, hc, _⟩ := HROW.out k hkl
      have HX := Lib.hid (range_of (W := w) hc)
      have HBL := Lib.hid hb
      have HTK := Lib.hid (show l.take (k + 1) = l.take k ++ [l[k]] from List.take_succ_eq_append_getElem hkl)
      have HKL := Lib.hid (show (l.take k).length = k by rw [List.length_take]; omega)
      clear hc hb
      generalize l[k] = x at *
      obtain ⟨xd, xk, xv, xc, xu⟩ := x
      have HRW := Lib.hid (show wr.rangeAt b (off + k * 5) [.bool xd, .string xk, .string xv, .int .u64 (xc : Int), .int .u64 (xu : Int)] from fun (j : Nat) (v : Value) hv => (HST.out.bel.cell (p := ⟨b, off + k * 5 + j, none⟩) HBL.out).trans (HX.out j v hv))
      obtain ⟨V3, hV3⟩ : ∃ V, V = (wr.alloc (.cells #[.bool false, .string ByteArray.empty, .string ByteArray.empty, .int .u64 0, .int .u64 0] 93)).setRow wr.heap.size #[.bool xd, .string xk, .string xv, .int .u64 (xc : Int), .int .u64 (xu : Int)] := ⟨_, rfl⟩
      have HS3 := Lib.hid (run_storeRow (wr.alloc (.cells #[.bool false, .string ByteArray.empty, .string ByteArray.empty, .int .u64 0, .int .u64 0] 93)) 93 wr.heap.size #[.bool false, .string ByteArray.empty, .string ByteArray.empty, .int .u64 0, .int .u64 0] #[.bool xd, .string xk, .string xv, .int .u64 (xc : Int), .int .u64 (xu : Int)] (heap_alloc_new wr _) cop_size rfl (by simp [Value.oneCell']))
      have HL3 := Lib.hid (setRow_heap (wr.alloc (.cells #[.bool false, .string ByteArray.empty, .string ByteArray.empty, .int .u64 0, .int .u64 0] 93)) wr.heap.size #[.bool false, .string ByteArray.empty, .string ByteArray.empty, .int .u64 0, .int .u64 0] #[.bool xd, .string xk, .string xv, .int .u64 (xc : Int), .int .u64 (xu : Int)] 93 (0, 0) (heap_alloc_new wr _))
      have HST3 := Lib.hid (HST.out.bel' (below_boxC wr #[.bool false, .string ByteArray.empty, .string ByteArray.empty, .int .u64 0, .int .u64 0] #[.bool xd, .string xk, .string xv, .int .u64 (xc : Int), .int .u64 (xu : Int)] 93))
      rw [← hV3] at HS3 HL3 HST3
      have x0 := range_row' HL3.out 0 (v := .bool xd) rfl
      have x1 := range_row' HL3.out 1 (v := .string xk) rfl
      have x2 := range_row' HL3.out 2 (v := .string xv) rfl
      have x3 := range_row' HL3.out 3 (v := .int .u64 (xc : Int)) rfl
      have x4 := range_row' HL3.out 4 (v := .int .u64 (xu : Int)) rfl
      have x5 := range_row' HST3.out.b2 10 (v := v) (by rw [HF.out]; rfl)
      obtain ⟨av, cv, hv⟩ := HST3.out.own.slice
      rw [HKL.out] at hv
      have HVS := Lib.hid hv
      rw [hv] at x5
      have HOPI := Lib.hid rop_info
      have HY := Lib.hid (HST3.out.bel' ((Below.refl V3.heap.size V3).alloc (Nat.le_refl _) (.cells #[.bool xd, .string xk, .string xv, .int .u64 (xc : Int), .int .u64 (xu : Int)] 90)))
      have HSRC := Lib.hid (src_rowOf (W := fun _ => True) (S := 37) (E := 90) (C := COp.cells) (sz := 5) Try.underlying37 cop_len cop_one (by omega) 1 (rowOf_new (w := V3.alloc (.cells #[.bool xd, .string xk, .string xv, .int .u64 (xc : Int), .int .u64 (xu : Int)] 90)) (g := V3.heap.size) (t := 90) (fr := (0, 0)) ⟨xd, xk, xv, xc, xu⟩ trivial rfl (heap_alloc_new V3 _)))
      clear hV3 HST hkl HX hv
      go_wp2_with (first | ((with_reducible refine atLoad ?_); refine wpList_load_mid rfl 93 (.tmp 37) rfl b (off + k * 5) rfl [.bool xd, .string xk, .string xv, .int .u64 (xc : Int), .int .u64 (xu : Int)] _ HRW.out Try.underlying93 rfl cop_size ?_) | ((with_reducible refine atStore ?_); refine wpList_store_by rfl 93 (.tmp 5) (.tmp 38) rfl (.pointer (some ⟨wr.heap.size, 0, none⟩)) _ rfl rfl HS3.out ?_) | (at_builtin; refine wpList_append_of Try.underlying37 HOPI.out rfl (by omega) rfl (.tmp 40) (.tmp 52) rfl (w.heap.size + 3) (.slice av k cv) (l.take k) rfl (HVS.out ▸ HY.out.own) _ [⟨xd, xk, xv, xc, xu⟩] rfl HSRC.out HY.out.sz (by have := HKL.out; simp; omega) ?_))
      intro v' W5 ho5 hg5
      obtain ⟨hb2, hst⟩ := AsSt.app HY.out (HVS.out ▸ hg5) ho5
      have HS6 := Lib.hid (run_storeOne W5 37 39 (w.heap.size + 2) 10 (F v) (F v') v' hb2 sl_size (by rw [HF.out]; show 10 < 16; omega) (by obtain ⟨a5, c5, h5⟩ := ho5.slice; rw [h5]; rfl) (by obtain ⟨a5, c5, h5⟩ := ho5.slice; rw [h5]; rfl) (by rw [HF.out, HF.out]; rfl))
      have HST6 := Lib.hid hst
      clear hb2 hst ho5 hg5 x0 x1 x2 x3 x4 x5 HS3 HL3 HST3 HY HSRC HVS c0
      go_wp2_with ((with_reducible refine atStore ?_); refine wpList_store_by rfl 37 (.tmp 54) (.tmp 53) rfl (.pointer (some ⟨w.heap.size + 2, 0 + 10, none⟩)) _ rfl rfl HS6.out ?_)
      go_roundw
      case rel => exact ⟨k + 1, v', by omega, by go_num, (show AsSt _ _ _ _ _ _ by rw [HTK.out]; exact HST6.out)⟩
      case measure => simp [intOf]; omega
    · obtain rfl : k = n := by omega
      have HS9 := Lib.hid (show AsSt #[.int .i64 tag, .int .u64 (ad : Int), .int .i64 bu, .int .i64 qk, .int .i64 qb, .int .i64 qg, .int .i64 tb, .int .u32 (tg : Int), .int .u32 (ts : Int), .int .u64 (tc : Int), .slice a k cap, .string af, .bool fi, .int .i64 co, .int .i64 ri, .int .u32 (se : Int)] F w wr v l by have := HST.out; rwa [List.take_of_length_le (show l.length ≤ k by rw [HNN.out]; exact Nat.le_refl _)] at this)
      obtain ⟨C9, hC9⟩ : ∃ C, C = F v := ⟨_, rfl⟩
      have h2 := HS9.out.b2
      rw [← hC9] at h2
      have HL9 := Lib.hid h2
      have HRS := Lib.hid (run_storeRow wr 39 (w.heap.size + 1) _ C9 HS9.out.b1 (by rw [hC9, HF.out]; exact rreq_size) (by rw [hC9, HF.out]; rfl) (by obtain ⟨a5, c5, h5⟩ := HS9.out.own.slice; rw [hC9, HF.out, h5]; simp [Value.oneCell']))
      have HSZ := Lib.hid (show (Try.prog.info? 39).map (·.size) = some C9.size by rw [hC9, HF.out]; exact rreq_size)
      have HC9 := Lib.hid (hC9.trans (HF.out v))
      clear HST h2 hC9
      go_wp2_with (first | ((with_reducible refine atLoad ?_); refine wpList_load_row rfl 39 (.tmp 3) rfl (w.heap.size + 2) rfl 39 C9 (0, 0) _ HL9.out Try.underlying39 rfl HSZ.out ?_) | ((with_reducible refine atStore ?_); refine wpList_store_by rfl 39 (.tmp 2) (.tmp 55) rfl (.pointer (some ⟨w.heap.size + 1, 0, none⟩)) _ rfl rfl HRS.out ?_))
      refine bodyPost_ret (v := .agg C9) (results_cell_row rfl _ _ (w.heap.size + 1) 39 C9 (0, 0) _ rfl (setRow_heap _ _ _ _ _ _ HS9.out.b1) Try.underlying39 rfl HSZ.out) rfl ?_
      have hb := HS9.out.bel
      refine ⟨⟨v, by rw [HC9.out]; rfl, (HS9.out.own.kept fun j hj => setRow_other _ _ _ _ (by have := (HS9.out.own.block j hj).1; omega)).mono (by omega)⟩, hb.os, hb.tape, hb.output, by simpa [World.setRow] using hb.size, fun j hj => (setRow_other _ _ _ _ (by omega)).trans (hb.block j hj)⟩
theorem lawAs (q : CReq) (v : Value) (w : World) (h : ∃ a cap, v = .slice a q.ops.length cap ∧ IsRowOf COp.cells (fun _ => True) 5 w a q.ops) (hl : q.ops.length ≤ 100000000) : Calls Try.prog 11 #[.agg (q.cells v)] w (AsOk q w) := by
  obtain ⟨a, cap, rfl, hr⟩ := h
  exact lawAs0 _ _ _ _ _ _ _ _ _ _ _ _ _ _ _ _ a cap w hr hl
end Go.Proofs.Ytlngefhjoobmdaa
namespace Go.Proofs.Ytlngefhjoobmdaa
open Go.RowKit
set_option maxRecDepth 100000 in
set_option maxHeartbeats 4000000 in
theorem rSameL (tag : Int) (ad : Nat) (bu qk qb qg tb : Int) (tg ts tc n : Nat) (af : ByteArray) (fi : Bool) (co ri : Int) (se : Nat) (a1 a2 : Option Addr) (cap1 cap2 : Nat) (l m : List COp) (w : World) (h1 : IsRowOf COp.cells (fun _ => True) 5 w a1 l) (h2 : IsRowOf COp.cells (fun _ => True) 5 w a2 m) (hl : l.length = n) (hm : m.length = n) (hn : n ≤ 1000000000) :
    Calls Try.prog 10 #[.agg #[.int .i64 tag, .int .u64 (ad : Int), .int .i64 bu, .int .i64 qk, .int .i64 qb, .int .i64 qg, .int .i64 tb, .int .u32 (tg : Int), .int .u32 (ts : Int), .int .u64 (tc : Int), .slice a1 n cap1, .string af, .bool fi, .int .i64 co, .int .i64 ri, .int .u32 (se : Int)], .agg #[.int .i64 tag, .int .u64 (ad : Int), .int .i64 bu, .int .i64 qk, .int .i64 qb, .int .i64 qg, .int .i64 tb, .int .u32 (tg : Int), .int .u32 (ts : Int), .int .u64 (tc : Int), .slice a2 n cap2, .string af, .bool fi, .int .i64 co, .int .i64 ri, .int .u32 (se : Int)]] w (BoolIs (decide (l = m)) w) := by
  have H1 := Lib.hid h1
  have H2 := Lib.hid h2
  have HL := Lib.hid hl
  have HM := Lib.hid hm
  have HB0 := Lib.hid (((Below.refl w.heap.size w).alloc (Nat.le_refl _) (.cells #[.int .i64 tag, .int .u64 (ad : Int), .int .i64 bu, .int .i64 qk, .int .i64 qb, .int .i64 qg, .int .i64 tb, .int .u32 (tg : Int), .int .u32 (ts : Int), .int .u64 (tc : Int), .slice a1 n cap1, .string af, .bool fi, .int .i64 co, .int .i64 ri, .int .u32 (se : Int)] 39)).alloc (by simp) (.cells #[.int .i64 tag, .int .u64 (ad : Int), .int .i64 bu, .int .i64 qk, .int .i64 qb, .int .i64 qg, .int .i64 tb, .int .u32 (tg : Int), .int .u32 (ts : Int), .int .u64 (tc : Int), .slice a2 n cap2, .string af, .bool fi, .int .i64 co, .int .i64 ri, .int .u32 (se : Int)] 39))
  have HR1 := Lib.hid ((Below.heap_alloc (w.alloc (.cells #[.int .i64 tag, .int .u64 (ad : Int), .int .i64 bu, .int .i64 qk, .int .i64 qb, .int .i64 qg, .int .i64 tb, .int .u32 (tg : Int), .int .u32 (ts : Int), .int .u64 (tc : Int), .slice a1 n cap1, .string af, .bool fi, .int .i64 co, .int .i64 ri, .int .u32 (se : Int)] 39)) (.cells #[.int .i64 tag, .int .u64 (ad : Int), .int .i64 bu, .int .i64 qk, .int .i64 qb, .int .i64 qg, .int .i64 tb, .int .u32 (tg : Int), .int .u32 (ts : Int), .int .u64 (tc : Int), .slice a2 n cap2, .string af, .bool fi, .int .i64 co, .int .i64 ri, .int .u32 (se : Int)] 39) w.heap.size (by simp)).trans (heap_alloc_new w (.cells #[.int .i64 tag, .int .u64 (ad : Int), .int .i64 bu, .int .i64 qk, .int .i64 qb, .int .i64 qg, .int .i64 tb, .int .u32 (tg : Int), .int .u32 (ts : Int), .int .u64 (tc : Int), .slice a1 n cap1, .string af, .bool fi, .int .i64 co, .int .i64 ri, .int .u32 (se : Int)] 39)))
  have HR2 := Lib.hid (heap_alloc_new (w.alloc (.cells #[.int .i64 tag, .int .u64 (ad : Int), .int .i64 bu, .int .i64 qk, .int .i64 qb, .int .i64 qg, .int .i64 tb, .int .u32 (tg : Int), .int .u32 (ts : Int), .int .u64 (tc : Int), .slice a1 n cap1, .string af, .bool fi, .int .i64 co, .int .i64 ri, .int .u32 (se : Int)] 39)) (.cells #[.int .i64 tag, .int .u64 (ad : Int), .int .i64 bu, .int .i64 qk, .int .i64 qb, .int .i64 qg, .int .i64 tb, .int .u32 (tg : Int), .int .u32 (ts : Int), .int .u64 (tc : Int), .slice a2 n cap2, .string af, .bool fi, .int .i64 co, .int .i64 ri, .int .u32 (se : Int)] 39))
  rw [World.size_alloc] at HR2
  have HLT1 := Lib.hid (show w.heap.size < ((w.alloc (.cells #[.int .i64 tag, .int .u64 (ad : Int), .int .i64 bu, .int .i64 qk, .int .i64 qb, .int .i64 qg, .int .i64 tb, .int .u32 (tg : Int), .int .u32 (ts : Int), .int .u64 (tc : Int), .slice a1 n cap1, .string af, .bool fi, .int .i64 co, .int .i64 ri, .int .u32 (se : Int)] 39)).alloc (.cells #[.int .i64 tag, .int .u64 (ad : Int), .int .i64 bu, .int .i64 qk, .int .i64 qb, .int .i64 qg, .int .i64 tb, .int .u32 (tg : Int), .int .u32 (ts : Int), .int .u64 (tc : Int), .slice a2 n cap2, .string af, .bool fi, .int .i64 co, .int .i64 ri, .int .u32 (se : Int)] 39)).heap.size by simp; omega)
  have HLT2 := Lib.hid (show w.heap.size + 1 < ((w.alloc (.cells #[.int .i64 tag, .int .u64 (ad : Int), .int .i64 bu, .int .i64 qk, .int .i64 qb, .int .i64 qg, .int .i64 tb, .int .u32 (tg : Int), .int .u32 (ts : Int), .int .u64 (tc : Int), .slice a1 n cap1, .string af, .bool fi, .int .i64 co, .int .i64 ri, .int .u32 (se : Int)] 39)).alloc (.cells #[.int .i64 tag, .int .u64 (ad : Int), .int .i64 bu, .int .i64 qk, .int .i64 qb, .int .i64 qg, .int .i64 tb, .int .u32 (tg : Int), .int .u32 (ts : Int), .int .u64 (tc : Int), .slice a2 n cap2, .string af, .bool fi, .int .i64 co, .int .i64 ri, .int .u32 (se : Int)] 39)).heap.size by simp)
  clear h1 h2 hl hm
  go_enter Try.func10, Try.ntmps10
  go_wp2_with fail
  generalize ((w.alloc (.cells #[.int .i64 tag, .int .u64 (ad : Int), .int .i64 bu, .int .i64 qk, .int .i64 qb, .int .i64 qg, .int .i64 tb, .int .u32 (tg : Int), .int .u32 (ts : Int), .int .u64 (tc : Int), .slice a1 n cap1, .string af, .bool fi, .int .i64 co, .int .i64 ri, .int .u32 (se : Int)] 39)).alloc (.cells #[.int .i64 tag, .int .u64 (ad : Int), .int .i64 bu, .int .i64 qk, .int .i64 qb, .int .i64 qg, .int .i64 tb, .int .u32 (tg : Int), .int .u32 (ts : Int), .int .u64 (tc : Int), .slice a2 n cap2, .string af, .bool fi, .int .i64 co, .int .i64 ri, .int .u32 (se : Int)] 39)) = W0 at *
  go_loopw [5] (fun i wr => ∃ j : Nat, j ≤ n ∧ i = .int .i64 j ∧ Hid (l.take j = m.take j) ∧ Hid (Below W0.heap.size W0 wr)) (fun i _ => n - (intOf i).toNat)
  case atStart => exact ⟨0, Nat.zero_le _, rfl, rfl, Below.refl _ _⟩
  case round =>
    obtain ⟨j, hj, rfl, HT, HB⟩ := hrel
    have HS1 := Lib.hid ((HB.out.block _ HLT1.out).trans HR1.out)
    have HS2 := Lib.hid ((HB.out.block _ HLT2.out).trans HR2.out)
    have c1 := (cell_of_row wr w.heap.size 10 _ _ _ HS1.out).trans (show _ = some (.slice a1 n cap1) from rfl)
    have c2 := (cell_of_row wr (w.heap.size + 1) 10 _ _ _ HS2.out).trans (show _ = some (.slice a2 n cap2) from rfl)
    by_cases hlt : j < n
    · have hll : j < l.length := by have := HL.out; omega
      have hlm : j < m.length := by have := HM.out; omega
      have hji : (j : Int) < (n : Int) := by omega
      obtain ⟨b1, o1, rfl, hb1, hr1, _⟩ := H1.out j hll
      obtain ⟨b2, o2, rfl, hb2, hr2, _⟩ := H2.out j hlm
      have HLD1 := Lib.hid (fun (w2 : World) (hb : Below w.heap.size w w2) => run_load_range w2 b1 (o1 + j * 5) 90 _ _ (range_below (range_of hr1) hb hb1) Try.underlying90 rfl rop_size)
      have HLD2 := Lib.hid (fun (w2 : World) (hb : Below w.heap.size w w2) => run_load_range w2 b2 (o2 + j * 5) 90 _ _ (range_below (range_of hr2) hb hb2) Try.underlying90 rfl rop_size)
      have HTK := Lib.hid (fun (e : l[j] = m[j]) => show l.take (j + 1) = m.take (j + 1) from by rw [List.take_succ_eq_append_getElem hll, List.take_succ_eq_append_getElem hlm, HT.out, e])
      have HBAD := Lib.hid (fun (e : l[j] ≠ m[j]) => show decide (l = m) = false from decide_eq_false (lists_ne' hll hlm e))
      have HNQ := Lib.hid (fun w => rop_neq w l[j] m[j])
      clear hr1 hr2 hb1 hb2
      generalize l[j] = r at *
      generalize m[j] = s at *
      clear hlm hll
      unfold COp.v at HNQ
      generalize r.cells.toArray = C at *
      generalize s.cells.toArray = D at *
      go_wp2_with fail
      clear c1 c2
      have HBB := Lib.hid (fun (w2 : World) (hR : Reg.bel wr.drew w2) => show Below W0.heap.size W0 w2 from below_next HB.out (((Below.refl _ _).drew).trans hR))
      refine Reg.wp_region0 (by kernel_rfl) (by kernel_rfl) ?_
      refine Reg.seg0 1 (by kernel_rfl) rfl ?_
      apply Exists.intro
      refine ⟨fun e => ?_, ?_⟩
      · simp only [List.take_succ_cons, List.take_zero]
        repeat (go_big_quiet_step ((intro _; rfl)))
        refine wpQuiet_nil ?_
        exact rfl
      simp only [List.drop_succ_cons, List.drop_zero, Nat.reduceAdd]
      refine Reg.const0 (.slice (some ⟨b1, o1, none⟩) n cap1) (fun e w2 hR hf => ⟨by rfl, ?_⟩) ?_
      · have c1 := (cell_of_row w2 w.heap.size 10 _ _ _ (((HBB.out w2 hR).block _ HLT1.out).trans HR1.out)).trans (show _ = some (.slice (some ⟨b1, o1, none⟩) n cap1) from rfl)
        clear hf hR
        unfold Reg.gives
        go_simp
        exact Reg.bel_refl _
      simp only [Act.put, List.setIfInBounds_toArray, List.set_cons_zero, List.set_cons_succ, Nat.reduceAdd]
      refine Reg.seg0 2 (by kernel_rfl) rfl ?_
      apply Exists.intro
      refine ⟨fun e => ?_, ?_⟩
      · simp only [List.take_succ_cons, List.take_zero]
        repeat (go_big_quiet_step ((intro _; rfl)))
        refine wpQuiet_nil ?_
        exact rfl
      simp only [List.drop_succ_cons, List.drop_zero, Nat.reduceAdd]
      refine Reg.const0 (.agg C) (fun e w2 hR hf => ⟨by rfl, ?_⟩) ?_
      · refine Reg.gives_mono (fun v' w' h => ?_) (gives_load_op 90 (.tmp 93) rfl _ _ rfl (HLD1.out w2 (below_next HB0.out (HBB.out w2 hR))))
        obtain ⟨rfl, rfl⟩ := h
        exact ⟨Reg.bel_refl _, rfl⟩
      simp only [Act.put, List.setIfInBounds_toArray, List.set_cons_zero, List.set_cons_succ, Nat.reduceAdd]
      refine Reg.seg0 1 (by kernel_rfl) rfl ?_
      apply Exists.intro
      refine ⟨fun e => ?_, ?_⟩
      · simp only [List.take_succ_cons, List.take_zero]
        repeat (go_big_quiet_step ((intro _; rfl)))
        refine wpQuiet_nil ?_
        exact rfl
      simp only [List.drop_succ_cons, List.drop_zero, Nat.reduceAdd]
      refine Reg.const0 (.slice (some ⟨b2, o2, none⟩) n cap2) (fun e w2 hR hf => ⟨by rfl, ?_⟩) ?_
      · have c2 := (cell_of_row w2 (w.heap.size + 1) 10 _ _ _ (((HBB.out w2 hR).block _ HLT2.out).trans HR2.out)).trans (show _ = some (.slice (some ⟨b2, o2, none⟩) n cap2) from rfl)
        clear hf hR
        unfold Reg.gives
        go_simp
        exact Reg.bel_refl _
      simp only [Act.put, List.setIfInBounds_toArray, List.set_cons_zero, List.set_cons_succ, Nat.reduceAdd]
      refine Reg.seg0 2 (by kernel_rfl) rfl ?_
      apply Exists.intro
      refine ⟨fun e => ?_, ?_⟩
      · simp only [List.take_succ_cons, List.take_zero]
        repeat (go_big_quiet_step ((intro _; rfl)))
        refine wpQuiet_nil ?_
        exact rfl
      simp only [List.drop_succ_cons, List.drop_zero, Nat.reduceAdd]
      refine Reg.const0 (.agg D) (fun e w2 hR hf => ⟨by rfl, ?_⟩) ?_
      · refine Reg.gives_mono (fun v' w' h => ?_) (gives_load_op 90 (.tmp 98) rfl _ _ rfl (HLD2.out w2 (below_next HB0.out (HBB.out w2 hR))))
        obtain ⟨rfl, rfl⟩ := h
        exact ⟨Reg.bel_refl _, rfl⟩
      simp only [Act.put, List.setIfInBounds_toArray, List.set_cons_zero, List.set_cons_succ, Nat.reduceAdd]
      refine Reg.const0 (.bool (!decide (r = s))) (fun e w2 hR hf => ⟨by rfl, ?_⟩) ?_
      · refine Reg.gives_mono (fun v' w' h => ?_) (gives_structEq 90 rop_guard (.tmp 94) (.tmp 99) .neq rfl C D _ rfl rfl HNQ.out)
        obtain ⟨rfl, rfl⟩ := h
        exact ⟨Reg.bel_refl _, rfl⟩
      simp only [Act.put, List.setIfInBounds_toArray, List.set_cons_zero, List.set_cons_succ, Nat.reduceAdd]
      intro e W9 hR hJ hf
      have HB9 := Lib.hid (HBB.out W9 hR)
      clear hR hJ hf HBB
      by_cases hrs : r = s
      · have HK := Lib.hid (HTK.out hrs)
        rw [decide_eq_true hrs]
        clear hrs HTK HBAD HLD1 HLD2 HNQ HT HS1 HS2
        go_wp2
        go_roundw
        case rel => exact ⟨j + 1, by omega, by go_num, HK, HB9⟩
        case measure => simp [intOf]; omega
      · have HK := Lib.hid (HBAD.out hrs)
        rw [decide_eq_false hrs]
        clear hrs HTK HBAD HLD1 HLD2 HNQ HT HS1 HS2
        go_wp2
        go_ret
        exact ⟨by rw [HK.out]; rfl, below_next HB0.out HB9.out⟩
    · obtain rfl : j = n := by omega
      have HE : Hid (decide (l = m) = true) := decide_eq_true (by have := HT.out; rwa [List.take_of_length_le (by rw [HL.out]; exact Nat.le_refl _), List.take_of_length_le (by rw [HM.out]; exact Nat.le_refl _)] at this)
      clear HT
      go_wp2
      go_ret
      exact ⟨by rw [HE.out]; rfl, below_next HB0.out HB.out⟩
end Go.Proofs.Ytlngefhjoobmdaa
namespace Go.Proofs.Ytlngefhjoobmdaa
open Go.RowKit
theorem rSame (q r : CReq) (v u : Value) (w : World) (h1 : ∃ a cap, v = .slice a q.ops.length cap ∧ IsRowOf COp.cells (fun _ => True) 5 w a q.ops) (h2 : ∃ a cap, u = .slice a r.ops.length cap ∧ IsRowOf COp.cells (fun _ => True) 5 w a r.ops) (hl : q.ops.length ≤ 1000000000) : Calls Try.prog 10 #[.agg (q.cells v), .agg (r.cells u)] w (BoolIs (decide (q = r)) w) := by
  obtain ⟨tag1, ad1, bu1, qk1, qb1, qg1, tb1, tg1, ts1, tc1, ops1, af1, fi1, co1, ri1, se1⟩ := q
  obtain ⟨tag2, ad2, bu2, qk2, qb2, qg2, tb2, tg2, ts2, tc2, ops2, af2, fi2, co2, ri2, se2⟩ := r
  obtain ⟨a1, cap1, rfl, r1⟩ := h1
  obtain ⟨a2, cap2, rfl, r2⟩ := h2
  simp only at *
  by_cases h0 : tag1 = tag2
  rotate_left
  · rw [decide_eq_false (fun e => h0 (by injection e))]
    exact rSame0 tag1 tag2 ad1 ad2 bu1 bu2 qk1 qk2 qb1 qb2 qg1 qg2 tb1 tb2 tg1 tg2 ts1 ts2 tc1 tc2 ops1.length ops2.length af1 af2 fi1 fi2 co1 co2 ri1 ri2 se1 se2 a1 a2 cap1 cap2 w h0
  subst h0
  by_cases h1 : ad1 = ad2
  rotate_left
  · rw [decide_eq_false (fun e => h1 (by injection e))]
    exact rSame1 tag1 ad1 ad2 bu1 bu2 qk1 qk2 qb1 qb2 qg1 qg2 tb1 tb2 tg1 tg2 ts1 ts2 tc1 tc2 ops1.length ops2.length af1 af2 fi1 fi2 co1 co2 ri1 ri2 se1 se2 a1 a2 cap1 cap2 w h1
  subst h1
  by_cases h2 : bu1 = bu2
  rotate_left
  · rw [decide_eq_false (fun e => h2 (by injection e))]
    exact rSame2 tag1 ad1 bu1 bu2 qk1 qk2 qb1 qb2 qg1 qg2 tb1 tb2 tg1 tg2 ts1 ts2 tc1 tc2 ops1.length ops2.length af1 af2 fi1 fi2 co1 co2 ri1 ri2 se1 se2 a1 a2 cap1 cap2 w h2
  subst h2
  by_cases h3 : qk1 = qk2
  rotate_left
  · rw [decide_eq_false (fun e => h3 (by injection e))]
    exact rSame3 tag1 ad1 bu1 qk1 qk2 qb1 qb2 qg1 qg2 tb1 tb2 tg1 tg2 ts1 ts2 tc1 tc2 ops1.length ops2.length af1 af2 fi1 fi2 co1 co2 ri1 ri2 se1 se2 a1 a2 cap1 cap2 w h3
  subst h3
  by_cases h4 : qb1 = qb2
  rotate_left
  · rw [decide_eq_false (fun e => h4 (by injection e))]
    exact rSame4 tag1 ad1 bu1 qk1 qb1 qb2 qg1 qg2 tb1 tb2 tg1 tg2 ts1 ts2 tc1 tc2 ops1.length ops2.length af1 af2 fi1 fi2 co1 co2 ri1 ri2 se1 se2 a1 a2 cap1 cap2 w h4
  subst h4
  by_cases h5 : qg1 = qg2
  rotate_left
  · rw [decide_eq_false (fun e => h5 (by injection e))]
    exact rSame5 tag1 ad1 bu1 qk1 qb1 qg1 qg2 tb1 tb2 tg1 tg2 ts1 ts2 tc1 tc2 ops1.length ops2.length af1 af2 fi1 fi2 co1 co2 ri1 ri2 se1 se2 a1 a2 cap1 cap2 w h5
  subst h5
  by_cases h6 : tb1 = tb2
  rotate_left
  · rw [decide_eq_false (fun e => h6 (by injection e))]
    exact rSame6 tag1 ad1 bu1 qk1 qb1 qg1 tb1 tb2 tg1 tg2 ts1 ts2 tc1 tc2 ops1.length ops2.length af1 af2 fi1 fi2 co1 co2 ri1 ri2 se1 se2 a1 a2 cap1 cap2 w h6
  subst h6
  by_cases h7 : tg1 = tg2
  rotate_left
  · rw [decide_eq_false (fun e => h7 (by injection e))]
    exact rSame7 tag1 ad1 bu1 qk1 qb1 qg1 tb1 tg1 tg2 ts1 ts2 tc1 tc2 ops1.length ops2.length af1 af2 fi1 fi2 co1 co2 ri1 ri2 se1 se2 a1 a2 cap1 cap2 w h7
  subst h7
  by_cases h8 : ts1 = ts2
  rotate_left
  · rw [decide_eq_false (fun e => h8 (by injection e))]
    exact rSame8 tag1 ad1 bu1 qk1 qb1 qg1 tb1 tg1 ts1 ts2 tc1 tc2 ops1.length ops2.length af1 af2 fi1 fi2 co1 co2 ri1 ri2 se1 se2 a1 a2 cap1 cap2 w h8
  subst h8
  by_cases h9 : tc1 = tc2
  rotate_left
  · rw [decide_eq_false (fun e => h9 (by injection e))]
    exact rSame9 tag1 ad1 bu1 qk1 qb1 qg1 tb1 tg1 ts1 tc1 tc2 ops1.length ops2.length af1 af2 fi1 fi2 co1 co2 ri1 ri2 se1 se2 a1 a2 cap1 cap2 w h9
  subst h9
  by_cases hn : ops1.length = ops2.length
  rotate_left
  · rw [decide_eq_false (fun e => hn (by injection e; simp_all))]
    exact rSame10 tag1 ad1 bu1 qk1 qb1 qg1 tb1 tg1 ts1 tc1 ops1.length ops2.length af1 af2 fi1 fi2 co1 co2 ri1 ri2 se1 se2 a1 a2 cap1 cap2 w hn
  by_cases h11 : af1 = af2
  rotate_left
  · rw [decide_eq_false (fun e => h11 (by injection e))]
    rw [← hn]
    exact rSame11 tag1 ad1 bu1 qk1 qb1 qg1 tb1 tg1 ts1 tc1 ops1.length af1 af2 fi1 fi2 co1 co2 ri1 ri2 se1 se2 a1 a2 cap1 cap2 w h11
  subst h11
  by_cases h12 : fi1 = fi2
  rotate_left
  · rw [decide_eq_false (fun e => h12 (by injection e))]
    rw [← hn]
    exact rSame12 tag1 ad1 bu1 qk1 qb1 qg1 tb1 tg1 ts1 tc1 ops1.length af1 fi1 fi2 co1 co2 ri1 ri2 se1 se2 a1 a2 cap1 cap2 w h12
  subst h12
  by_cases h13 : co1 = co2
  rotate_left
  · rw [decide_eq_false (fun e => h13 (by injection e))]
    rw [← hn]
    exact rSame13 tag1 ad1 bu1 qk1 qb1 qg1 tb1 tg1 ts1 tc1 ops1.length af1 fi1 co1 co2 ri1 ri2 se1 se2 a1 a2 cap1 cap2 w h13
  subst h13
  by_cases h14 : ri1 = ri2
  rotate_left
  · rw [decide_eq_false (fun e => h14 (by injection e))]
    rw [← hn]
    exact rSame14 tag1 ad1 bu1 qk1 qb1 qg1 tb1 tg1 ts1 tc1 ops1.length af1 fi1 co1 ri1 ri2 se1 se2 a1 a2 cap1 cap2 w h14
  subst h14
  by_cases h15 : se1 = se2
  rotate_left
  · rw [decide_eq_false (fun e => h15 (by injection e))]
    rw [← hn]
    exact rSame15 tag1 ad1 bu1 qk1 qb1 qg1 tb1 tg1 ts1 tc1 ops1.length af1 fi1 co1 ri1 se1 se2 a1 a2 cap1 cap2 w h15
  subst h15
  have hfin := rSameL tag1 ad1 bu1 qk1 qb1 qg1 tb1 tg1 ts1 tc1 ops1.length af1 fi1 co1 ri1 se1 a1 a2 cap1 cap2 ops1 ops2 w r1 r2 rfl hn.symm hl
  rw [← hn]
  refine hfin.mono ?_
  rintro e W ⟨he, hb⟩
  refine ⟨he.trans ?_, hb⟩
  by_cases ho : ops1 = ops2
  · subst ho
    rw [decide_eq_true rfl, decide_eq_true rfl]
  · rw [decide_eq_false ho, decide_eq_false (fun e => ho (by injection e))]
end Go.Proofs.Ytlngefhjoobmdaa
namespace Go.Proofs.Ytlngefhjoobmdaa
open Go.RowKit
theorem IsRow.more {k : IntKind} {w : World} {a : Option Addr} {len cap : Nat} {zs : List Int} (h : IsRow k w a len cap zs) : (a = none → cap = 0) ∧ ∀ x, a = some x → 0 < cap → x.spot = none ∧ x.block < w.heap.size := by
  rcases h with ⟨rfl, rfl, rfl, rfl⟩ | ⟨x, rfl, h1, h2, h3, h4, h5⟩
  · exact ⟨fun _ => rfl, fun x hx => (by cases hx)⟩
  · refine ⟨fun e => (by cases e), fun y hy hc => ?_⟩
    cases hy
    obtain ⟨b, off, sp⟩ := x
    have hc0 := h4 0 (by omega)
    have h0 := World.cell?_spot hc0
    simp [Addr.add] at h0
    subst h0
    have hadd : (⟨b, off, none⟩ : Addr).add 0 = ⟨b, off, none⟩ := by unfold Addr.add; simp
    rw [hadd] at hc0
    exact ⟨rfl, heap_lt_of_cell hc0⟩
theorem IsRow.reads {w : World} {a : Option Addr} {len cap : Nat} {zs : List Int} (h : IsRow .u8 w a len cap zs) : ∃ l, l.length = len ∧ Reads w (.slice a len cap) l := by
  obtain ⟨h1, h2⟩ := h.more
  obtain ⟨l, rfl, hc, hm, hb⟩ := h.bytes
  exact ⟨l, rfl, a, cap, rfl, hb, hc, hm, h1, h2⟩
theorem Reads.bytes {w : World} {a : Option Addr} {n cap : Nat} {l : List UInt8} (h : Reads w (.slice a n cap) l) : IsBytes w a l := by
  obtain ⟨a', cap', hv, hb, _⟩ := h
  simp only [Value.slice.injEq] at hv
  rw [hv.1]
  exact hb
theorem Reads.low {w : World} {a : Option Addr} {n cap : Nat} {l : List UInt8} (h : Reads w (.slice a n cap) l) : ∀ x, a = some x → 0 < cap → x.block < w.heap.size := by
  obtain ⟨a', cap', hv, hb, _, _, _, h5⟩ := h
  simp only [Value.slice.injEq] at hv
  obtain ⟨rfl, _, rfl⟩ := hv
  exact fun x hx hc => (h5 x hx hc).2
theorem Reads.take {w : World} {a : Option Addr} {n cap : Nat} {l : List UInt8} (h : Reads w (.slice a n cap) l) (k : Nat) (hk : k ≤ l.length) : Reads w (.slice a k cap) (l.take k) := by
  obtain ⟨a', cap', hv, hb, h1, h2, h3, h4⟩ := h
  simp only [Value.slice.injEq] at hv
  obtain ⟨rfl, _, rfl⟩ := hv
  have hl : (l.take k).length = k := by rw [List.length_take]; omega
  exact ⟨a, cap, by rw [hl], hb.take k, by omega, h2, h3, h4⟩
theorem own_at {B : Nat} {w : World} {g n cap : Nat} {l : List UInt8} (h : OwnB B w (.slice (some ⟨g, 0, none⟩) n cap) l) (i : Nat) (hi : i < l.length) :
    w.cell? ⟨g, i, none⟩ = some (.int .u8 (l[i].toNat : Int)) ∧ w.frozen? ⟨g, i, none⟩ = false ∧ B ≤ g ∧ ∀ y : UInt8, OwnB B (w.setCell ⟨g, i, none⟩ (.int .u8 (y.toNat : Int))) (.slice (some ⟨g, 0, none⟩) n cap) (l.set i y) := by
  obtain ⟨g', cap', hv, hBg, _, _, _, hc, hf, hset⟩ := h.get (by omega)
  simp only [Value.slice.injEq, Option.some.injEq, Addr.mk.injEq] at hv
  obtain ⟨⟨rfl, _⟩, rfl, rfl⟩ := hv
  exact ⟨hc i hi, hf i, hBg, fun y => hset i y hi⟩
theorem OwnB.bytesOf {B : Nat} {w : World} {a : Option Addr} {n cap : Nat} {l : List UInt8} (h : OwnB B w (.slice a n cap) l) : IsBytes w a l := h.reads.bytes
end Go.Proofs.Ytlngefhjoobmdaa
namespace Go.Proofs.Ytlngefhjoobmdaa
open Go.RowKit Go.ChangeShapes Go.WideShapes
section
variable {H : Type} {enc : TypeId × Value → H} {w : World} {base : Nat} {spare : Nat → Bool} {held : Bool}
theorem op_cellsOf : Try.prog.cellsOf 93 = 5 := by kernel_rfl
theorem pair_cellsOf : Try.prog.cellsOf 52 = 2 := by kernel_rfl
theorem int_cellsOf : Try.prog.cellsOf 3 = 1 := by kernel_rfl
theorem req_cellsOf : Try.prog.cellsOf 32 = 16 := by kernel_rfl
theorem res_cellsOf : Try.prog.cellsOf 49 = 14 := by kernel_rfl
set_option maxRecDepth 100000 in
theorem open_cop {n : Nat} {cs : List Value} {y : DataW H × List MemPlace} (h : DataW.trod enc Try.prog w base spare held n 93 cs = some y) : ∃ q : COp, (∀ j, j < 5 → cs[j]? = (COp.cells q)[j]?) ∧ q.wf := by
  obtain ⟨xs, m, _, _, hcs, hxs, hf⟩ := DataW.trod_struct Try.underlying93 h
  have hlen : xs.length = 5 := hxs
  have h0 := hf 0 _ rfl
  have h1 := hf 1 _ rfl
  have h2 := hf 2 _ rfl
  have h3 := hf 3 _ rfl
  have h4 := hf 4 _ rfl
  rw [List.getElem?_eq_getElem (by omega)] at h0 h1 h2 h3 h4
  obtain ⟨x0, e0⟩ := el_bool Try.underlying4 h0
  obtain ⟨x1, e1, f1⟩ := el_str Try.underlying9 h1
  obtain ⟨x2, e2, f2⟩ := el_str Try.underlying9 h2
  obtain ⟨x3, e3, f3⟩ := el_int Try.underlying24 h3
  obtain ⟨x4, e4, f4⟩ := el_int Try.underlying24 h4
  obtain ⟨n3, rfl, b3⟩ := u64_of_wf f3
  obtain ⟨n4, rfl, b4⟩ := u64_of_wf f4
  refine ⟨⟨x0, x1, x2, n3, n4⟩, fun j hj => ?_, b3, b4, f1, f2⟩
  match j, hj with
  | 0, _ => exact e0
  | 1, _ => exact e1
  | 2, _ => exact e2
  | 3, _ => exact e3
  | 4, _ => exact e4
set_option maxRecDepth 100000 in
theorem open_cpair {n : Nat} {cs : List Value} {y : DataW H × List MemPlace} (h : DataW.trod enc Try.prog w base spare held n 52 cs = some y) : ∃ q : CPair, (∀ j, j < 2 → cs[j]? = (CPair.cells q)[j]?) ∧ q.wf := by
  obtain ⟨xs, m, _, _, hcs, hxs, hf⟩ := DataW.trod_struct Try.underlying52 h
  have hlen : xs.length = 2 := hxs
  have h0 := hf 0 _ rfl
  have h1 := hf 1 _ rfl
  rw [List.getElem?_eq_getElem (by omega)] at h0 h1
  obtain ⟨x0, e0, f0⟩ := el_str Try.underlying9 h0
  obtain ⟨x1, e1, f1⟩ := el_str Try.underlying9 h1
  refine ⟨⟨x0, x1⟩, fun j hj => ?_, f0, f1⟩
  match j, hj with
  | 0, _ => exact e0
  | 1, _ => exact e1
theorem open_cint {n : Nat} {cs : List Value} {y : DataW H × List MemPlace} (h : DataW.trod enc Try.prog w base spare held n 3 cs = some y) : ∃ q : Int, (∀ j, j < 1 → cs[j]? = (intC q)[j]?) ∧ True := by
  obtain ⟨x, h1, _, _⟩ := DataW.trod_int Try.underlying3 h
  refine ⟨x, fun j hj => ?_, trivial⟩
  obtain rfl : j = 0 := by omega
  rw [h1]
  rfl
/-- A field that is a slice. -/
theorem el_slice {cs : List Value} {T E : TypeId} {n o : Nat} {y : DataW H × List MemPlace} (hT : Try.prog.underlying T = some (.slice E)) (h : DataW.trod enc Try.prog w base spare held n T ((cs.drop o).take 1) = some y) : ∃ a len cap, cs[o]? = some (.slice a len cap) ∧ ∃ d p, DataW.Trod enc Try.prog w base spare held T (.slice a len cap) d p := by
  have key : ∀ v, (cs.drop o).take 1 = [v] → cs[o]? = some v := fun v hv => by
    have := congrArg (·[0]?) hv
    simp [List.getElem?_drop] at this
    exact this
  rcases DataW.trod_slice hT h with ⟨hcs, _⟩ | ⟨x, l, c, elems, rest, m, _, hcs, _⟩
  · exact ⟨none, 0, 0, key _ hcs, y.1, y.2, n, by rw [hcs] at h; exact h⟩
  · exact ⟨some x, l, c, key _ hcs, y.1, y.2, n, by rw [hcs] at h; exact h⟩
theorem rowOf_true {α : Type} {C : α → List Value} {W : α → Prop} {sz : Nat} {a : Option Addr} {z : List α} (h : IsRowOf C W sz w a z) : IsRowOf C (fun _ => True) sz w a z ∧ ∀ x ∈ z, W x := by
  refine ⟨fun i hi => ?_, fun x hx => ?_⟩
  · obtain ⟨b, off, h1, h2, h3, _⟩ := h i hi
    exact ⟨b, off, h1, h2, h3, trivial⟩
  · obtain ⟨i, hi, rfl⟩ := List.getElem_of_mem hx
    obtain ⟨_, _, _, _, _, h4⟩ := h i hi
    exact h4
set_option maxRecDepth 100000 in
theorem open_req {cs : Array Value} {d : DataW H} {p : List MemPlace} (h : DataW.Trod enc Try.prog w base spare held 32 (.agg cs) d p) (hs : cs.size = Try.prog.cellsOf 32) : ∃ (q : CReq) (v : Value), cs = q.cells v ∧ ReqIn w q v ∧ q.ops.length ≤ maxLen := by
  obtain ⟨fuel, hfu⟩ := h
  obtain ⟨xs, m, _, _, hcs, hxs, hf⟩ := DataW.trod_struct Try.underlying32 hfu
  have hlen : xs.length = 11 := hxs
  have h0 := hf 0 _ rfl
  have h1 := hf 1 _ rfl
  have h2 := hf 2 _ rfl
  have h3 := hf 3 _ rfl
  have h4 := hf 4 _ rfl
  have h5 := hf 5 _ rfl
  have h6 := hf 6 _ rfl
  have h7 := hf 7 _ rfl
  have h8 := hf 8 _ rfl
  have h9 := hf 9 _ rfl
  have h10 := hf 10 _ rfl
  rw [List.getElem?_eq_getElem (by omega)] at h0 h1 h2 h3 h4 h5 h6 h7 h8 h9 h10
  obtain ⟨ys, m', _, _, hqs, hys, hg⟩ := DataW.trod_struct Try.underlying26 h3
  have hqlen : ys.length = 3 := hys
  have g0 := hg 0 _ rfl
  have g1 := hg 1 _ rfl
  have g2 := hg 2 _ rfl
  rw [List.getElem?_eq_getElem (by omega)] at g0 g1 g2
  obtain ⟨zs, m'', _, _, hts, hzs, hk⟩ := DataW.trod_struct Try.underlying29 h4
  have htlen : zs.length = 4 := hzs
  have t0 := hk 0 _ rfl
  have t1 := hk 1 _ rfl
  have t2 := hk 2 _ rfl
  have t3 := hk 3 _ rfl
  rw [List.getElem?_eq_getElem (by omega)] at t0 t1 t2 t3
  obtain ⟨x0, e0, _⟩ := el_int Try.underlying3 h0
  obtain ⟨x1, e1, f1⟩ := el_int Try.underlying24 h1
  obtain ⟨x2, e2, _⟩ := el_int Try.underlying3 h2
  obtain ⟨q0, k0, _⟩ := el_int Try.underlying2 g0
  obtain ⟨q1, k1, _⟩ := el_int Try.underlying2 g1
  obtain ⟨q2, k2, _⟩ := el_int Try.underlying2 g2
  obtain ⟨y0, l0, _⟩ := el_int Try.underlying3 t0
  obtain ⟨y1, l1, b1⟩ := el_int Try.underlying27 t1
  obtain ⟨y2, l2, b2⟩ := el_int Try.underlying27 t2
  obtain ⟨y3, l3, b3⟩ := el_int Try.underlying24 t3
  obtain ⟨a, len, cap, e5, d5, p5, k5⟩ := el_slice Try.underlying30 h5
  obtain ⟨x6, e6, f6⟩ := el_str Try.underlying9 h6
  obtain ⟨x7, e7⟩ := el_bool Try.underlying4 h7
  obtain ⟨x8, e8, _⟩ := el_int Try.underlying3 h8
  obtain ⟨x9, e9, _⟩ := el_int Try.underlying3 h9
  obtain ⟨x10, e10, f10⟩ := el_int Try.underlying27 h10
  obtain ⟨n1, rfl, c1⟩ := u64_of_wf f1
  obtain ⟨m1, rfl, c2⟩ := u32_of_wf b1
  obtain ⟨m2, rfl, c3⟩ := u32_of_wf b2
  obtain ⟨m3, rfl, c4⟩ := u64_of_wf b3
  obtain ⟨n10, rfl, c5⟩ := u32_of_wf f10
  obtain ⟨ops, ho, hrow, hmax⟩ := open_rowOf (⟨false, ByteArray.empty, ByteArray.empty, 0, 0⟩ : COp) COp.cells COp.wf 5 93 30 Try.underlying30 op_cellsOf (by omega) cop_len (fun n cs y h => open_cop h) k5
  obtain ⟨hr, hw⟩ := rowOf_true hrow
  subst ho
  simp [List.getElem?_take, List.getElem?_drop] at k0 k1 k2 l0 l1 l2 l3
  refine ⟨⟨x0, n1, x2, q0, q1, q2, y0, m1, m2, m3, ops, x6, x7, x8, x9, n10⟩, .slice a ops.length cap, ?_, ⟨⟨a, cap, rfl, hr⟩, c1, c2, c3, c4, c5, f6, hw⟩, hmax⟩
  have all : ∀ j, j < 16 → (Value.agg cs).cells.toList[j]? = (CReq.cells ⟨x0, n1, x2, q0, q1, q2, y0, m1, m2, m3, ops, x6, x7, x8, x9, n10⟩ (.slice a ops.length cap))[j]? := fun j hj => by
    match j, hj with
    | 0, _ => exact e0
    | 1, _ => exact e1
    | 2, _ => exact e2
    | 3, _ => exact (by rw [Array.getElem?_toList]; exact k0.2)
    | 4, _ => exact (by rw [Array.getElem?_toList]; exact k1.2)
    | 5, _ => exact (by rw [Array.getElem?_toList]; exact k2.2)
    | 6, _ => exact (by rw [Array.getElem?_toList]; exact l0.2)
    | 7, _ => exact (by rw [Array.getElem?_toList]; exact l1.2)
    | 8, _ => exact (by rw [Array.getElem?_toList]; exact l2.2)
    | 9, _ => exact (by rw [Array.getElem?_toList]; exact l3.2)
    | 10, _ => exact e5
    | 11, _ => exact e6
    | 12, _ => exact e7
    | 13, _ => exact e8
    | 14, _ => exact e9
    | 15, _ => exact e10
    | j + 16, h => exact absurd h (by omega)
  rw [req_cellsOf] at hs
  apply Array.ext
  · rw [hs]; rfl
  · intro i i1 i2
    have h9 := all i (by omega)
    simp only [Value.cells, Array.getElem?_toList] at h9
    rw [Array.getElem?_eq_getElem i1, Array.getElem?_eq_getElem i2] at h9
    exact Option.some.inj h9
set_option maxRecDepth 100000 in
theorem open_res {cs : Array Value} {d : DataW H} {p : List MemPlace} (h : DataW.Trod enc Try.prog w base spare held 49 (.agg cs) d p) (hs : cs.size = Try.prog.cellsOf 49) : ∃ (r : CRes) (u v : Value), cs = r.cells u v ∧ ResIn w r u v ∧ r.page.length ≤ maxLen ∧ r.bk.length ≤ maxLen := by
  obtain ⟨fuel, hfu⟩ := h
  obtain ⟨xs, m, _, _, hcs, hxs, hf⟩ := DataW.trod_struct Try.underlying49 hfu
  have hlen : xs.length = 11 := hxs
  have h0 := hf 0 _ rfl
  have h1 := hf 1 _ rfl
  have h2 := hf 2 _ rfl
  have h3 := hf 3 _ rfl
  have h4 := hf 4 _ rfl
  have h5 := hf 5 _ rfl
  have h6 := hf 6 _ rfl
  have h7 := hf 7 _ rfl
  have h8 := hf 8 _ rfl
  have h9 := hf 9 _ rfl
  have h10 := hf 10 _ rfl
  rw [List.getElem?_eq_getElem (by omega)] at h0 h1 h2 h3 h4 h5 h6 h7 h8 h9 h10
  obtain ⟨zs, m'', _, _, hts, hzs, hk⟩ := DataW.trod_struct Try.underlying29 h1
  have htlen : zs.length = 4 := hzs
  have t0 := hk 0 _ rfl
  have t1 := hk 1 _ rfl
  have t2 := hk 2 _ rfl
  have t3 := hk 3 _ rfl
  rw [List.getElem?_eq_getElem (by omega)] at t0 t1 t2 t3
  obtain ⟨x0, e0, _⟩ := el_int Try.underlying3 h0
  obtain ⟨y0, l0, _⟩ := el_int Try.underlying3 t0
  obtain ⟨y1, l1, b1⟩ := el_int Try.underlying27 t1
  obtain ⟨y2, l2, b2⟩ := el_int Try.underlying27 t2
  obtain ⟨y3, l3, b3⟩ := el_int Try.underlying24 t3
  obtain ⟨x2, e2, f2⟩ := el_int Try.underlying24 h2
  obtain ⟨x3, e3, f3⟩ := el_str Try.underlying9 h3
  obtain ⟨a, len, cap, e4, d4, p4, k4⟩ := el_slice Try.underlying46 h4
  obtain ⟨x5, e5⟩ := el_bool Try.underlying4 h5
  obtain ⟨x6, e6, _⟩ := el_int Try.underlying2 h6
  obtain ⟨x7, e7, _⟩ := el_int Try.underlying2 h7
  obtain ⟨x8, e8, _⟩ := el_int Try.underlying2 h8
  obtain ⟨x9, e9, f9⟩ := el_int Try.underlying24 h9
  obtain ⟨a2, len2, cap2, e10, d10, p10, k10⟩ := el_slice Try.underlying47 h10
  obtain ⟨m1, rfl, c2⟩ := u32_of_wf b1
  obtain ⟨m2, rfl, c3⟩ := u32_of_wf b2
  obtain ⟨m3, rfl, c4⟩ := u64_of_wf b3
  obtain ⟨n2, rfl, c5⟩ := u64_of_wf f2
  obtain ⟨n9, rfl, c6⟩ := u64_of_wf f9
  obtain ⟨page, ho, hrow, hmax⟩ := open_rowOf (⟨ByteArray.empty, ByteArray.empty⟩ : CPair) CPair.cells CPair.wf 2 52 46 Try.underlying46 pair_cellsOf (by omega) pair_len (fun n cs y h => open_cpair h) k4
  obtain ⟨bk, hb, hrow2, hmax2⟩ := open_rowOf (0 : Int) intC (fun _ => True) 1 3 47 Try.underlying47 int_cellsOf (by omega) int_len (fun n cs y h => open_cint h) k10
  obtain ⟨hr, hw⟩ := rowOf_true hrow
  subst ho
  subst hb
  simp [List.getElem?_take] at l0 l1 l2 l3
  refine ⟨⟨x0, y0, m1, m2, m3, n2, x3, page, x5, x6, x7, x8, n9, bk⟩, .slice a page.length cap, .slice a2 bk.length cap2, ?_, ⟨⟨a, cap, rfl, hr⟩, ⟨a2, cap2, rfl, hrow2⟩, c2, c3, c4, c5, c6, f3, hw⟩, hmax, hmax2⟩
  have all : ∀ j, j < 14 → (Value.agg cs).cells.toList[j]? = (CRes.cells ⟨x0, y0, m1, m2, m3, n2, x3, page, x5, x6, x7, x8, n9, bk⟩ (.slice a page.length cap) (.slice a2 bk.length cap2))[j]? := fun j hj => by
    match j, hj with
    | 0, _ => exact e0
    | 1, _ => exact (by rw [Array.getElem?_toList]; exact l0.2)
    | 2, _ => exact (by rw [Array.getElem?_toList]; exact l1.2)
    | 3, _ => exact (by rw [Array.getElem?_toList]; exact l2.2)
    | 4, _ => exact (by rw [Array.getElem?_toList]; exact l3.2)
    | 5, _ => exact e2
    | 6, _ => exact e3
    | 7, _ => exact e4
    | 8, _ => exact e5
    | 9, _ => exact e6
    | 10, _ => exact e7
    | 11, _ => exact e8
    | 12, _ => exact e9
    | 13, _ => exact e10
    | j + 14, h => exact absurd h (by omega)
  rw [res_cellsOf] at hs
  apply Array.ext
  · rw [hs]; rfl
  · intro i i1 i2
    have h9 := all i (by omega)
    simp only [Value.cells, Array.getElem?_toList] at h9
    rw [Array.getElem?_eq_getElem i1, Array.getElem?_eq_getElem i2] at h9
    exact Option.some.inj h9
end
end Go.Proofs.Ytlngefhjoobmdaa
