/- Texts laid together: RefBy RefWr CmdFew CmdRes CmdEnc RefEnc CmdEnc2 Chain CmdTold CmdOpen. -/
import Derived.Test.YtlngefhjoobmdaaZRefBA
import Derived.Test.YtlngefhjoobmdaaZRefBB
import Derived.Test.YtlngefhjoobmdaaZRefBC
import Derived.Test.YtlngefhjoobmdaaZRefBD
import Derived.Test.YtlngefhjoobmdaaMg8
import Derived.Test.YtlngefhjoobmdaaMg7
import Derived.Test.YtlngefhjoobmdaaMg6
import Derived.Test.YtlngefhjoobmdaaMg4
import Derived.Test.YtlngefhjoobmdaaMg3
import Derived.BigQuiet
import Derived.Test.YtlngefhjoobmdaaMg1
namespace Go.Proofs.Ytlngefhjoobmdaa
open Go.RowKit
theorem rBytes (q : CReq) (v : Value) (w : World) (h : ReqIn w q v) (hn : q.ops.length ≤ 1000) (h1 : 1 ≤ q.tag) (h13 : q.tag ≤ 13) : Calls Try.prog 37 #[.agg (q.cells v)] w (Makes w (bytesR q)) := by
  obtain ⟨t, ad, bu, qk, qb, qg, tb, tg, ts, tc, ops, af, fi, co, ri, se⟩ := q
  obtain ⟨⟨a, cap, rfl, hr⟩, k1, k2, k3, k4, k5, k6, k7⟩ := h
  simp only at *
  by_cases e1 : t = 1
  · subst e1
    exact rBytes1 ad bu qk qb qg tb tg ts tc ops af fi co ri se a cap w hr k1 k2 k3 k4 k5 k6 k7 hn
  by_cases e2 : t = 2
  · subst e2
    exact rBytes2 ad bu qk qb qg tb tg ts tc ops af fi co ri se a cap w hr k1 k2 k3 k4 k5 k6 k7 hn
  by_cases e3 : t = 3
  · subst e3
    exact rBytes3 ad bu qk qb qg tb tg ts tc ops af fi co ri se a cap w hr k1 k2 k3 k4 k5 k6 k7 hn
  by_cases e4 : t = 4
  · subst e4
    exact rBytes4 ad bu qk qb qg tb tg ts tc ops af fi co ri se a cap w hr k1 k2 k3 k4 k5 k6 k7 hn
  by_cases e5 : t = 5
  · subst e5
    exact rBytes5 ad bu qk qb qg tb tg ts tc ops af fi co ri se a cap w hr k1 k2 k3 k4 k5 k6 k7 hn
  by_cases e6 : t = 6
  · subst e6
    exact rBytes6 ad bu qk qb qg tb tg ts tc ops af fi co ri se a cap w hr k1 k2 k3 k4 k5 k6 k7 hn
  by_cases e7 : t = 7
  · subst e7
    exact rBytes7 ad bu qk qb qg tb tg ts tc ops af fi co ri se a cap w hr k1 k2 k3 k4 k5 k6 k7 hn
  by_cases e8 : t = 8
  · subst e8
    exact rBytes8 ad bu qk qb qg tb tg ts tc ops af fi co ri se a cap w hr k1 k2 k3 k4 k5 k6 k7 hn
  by_cases e9 : t = 9
  · subst e9
    exact rBytes9 ad bu qk qb qg tb tg ts tc ops af fi co ri se a cap w hr k1 k2 k3 k4 k5 k6 k7 hn
  by_cases e10 : t = 10
  · subst e10
    exact rBytes10 ad bu qk qb qg tb tg ts tc ops af fi co ri se a cap w hr k1 k2 k3 k4 k5 k6 k7 hn
  by_cases e11 : t = 11
  · subst e11
    exact rBytes11 ad bu qk qb qg tb tg ts tc ops af fi co ri se a cap w hr k1 k2 k3 k4 k5 k6 k7 hn
  by_cases e12 : t = 12
  · subst e12
    exact rBytes12 ad bu qk qb qg tb tg ts tc ops af fi co ri se a cap w hr k1 k2 k3 k4 k5 k6 k7 hn
  by_cases e13 : t = 13
  · subst e13
    exact rBytes13 ad bu qk qb qg tb tg ts tc ops af fi co ri se a cap w hr k1 k2 k3 k4 k5 k6 k7 hn
  omega
end Go.Proofs.Ytlngefhjoobmdaa
namespace Go.Proofs.Ytlngefhjoobmdaa
open Go.RowKit
structure WrOk (r : Option (List UInt8)) (w : World) (e : Ending) (W : World) : Prop where
  ret : (r = none → ∃ v, e = .returned (.tuple #[v, .bool false])) ∧ ∀ b, r = some b → ∃ v, e = .returned (.tuple #[v, .bool true]) ∧ OwnB w.heap.size W v b
  bel : Below w.heap.size w W
theorem wrOk_none {w W : World} {r : Option (List UInt8)} {v : Value} (h : r = none) (hb : Below w.heap.size w W) : WrOk r w (.returned (.tuple #[v, .bool false])) W := ⟨⟨fun _ => ⟨v, rfl⟩, fun b e => (by rw [h] at e; cases e)⟩, hb⟩
theorem wrOk_some {w W : World} {r : Option (List UInt8)} {b : List UInt8} {v : Value} (h : r = some b) (ho : OwnB w.heap.size W v b) (hb : Below w.heap.size w W) : WrOk r w (.returned (.tuple #[v, .bool true])) W := ⟨⟨fun e => (by rw [h] at e; cases e), fun b' e => (by rw [h] at e; cases e; exact ⟨v, rfl, ho⟩)⟩, hb⟩
theorem bytesR_len (q : CReq) : (bytesR q).length ≤ 200000 + 131091 * q.ops.length := by
  have h1 := opsL_len q.tag q.ops
  have h2 := textL_len9 q.after.data.toList
  have h3 : (tailQ q).length ≤ 70000 := by
    unfold tailQ
    split
    · simp only [List.length_append, putL_length]; omega
    split
    · simp only [putL_length]; omega
    split
    · simp only [putL_length]; omega
    · simp
  have h4 : (headR q).length ≤ 100000 := by
    unfold headR
    rw [List.length_append, List.length_append, List.length_append]
    have a1 : (putL (u64N q.tag) 1).length = 1 := putL_length _ _
    have a2 : (if q.tag ≤ 5 then putL q.admin 8 else tokL q.tb q.tg q.ts q.tc).length ≤ 17 := by split <;> simp
    have a3 : (if q.tag ≤ 3 then putL (u64N q.bucket) 1 else []).length ≤ 1 := by split <;> simp
    have a4 : (if q.tag = 1 ∨ q.tag = 3 then putL (u64N q.qk) 8 ++ (putL (u64N q.qb) 8 ++ putL (u64N q.qg) 8) else if q.tag = 9 then putL q.ops.length 1 else tailQ q).length ≤ 70000 := by
      split
      · simp
      split
      · simp
      · exact h3
    omega
  unfold bytesR
  rw [List.length_append]
  omega
theorem wrpList_load_rq {ops : Array Oper} {rest : List Oper} {o : Oper} {a : Act} {w : World} {Q : Exit → Act → World → Prop} (hgd : o.guard = none) (x : Operand) (ho : o.op = .load 39 x) (g : Nat) (hx : a.eval x = .pointer (some ⟨g, 0, none⟩)) (cs : Array Value)
    (hg : w.heap[g]? = some (.cells cs 39 (0, 0))) (hs : (Try.prog.info? 39).map (·.size) = some cs.size)
    (h : wpList Try.prog ops Q rest (a.put o.dst (.agg cs)) w) : wpList Try.prog ops Q (o :: rest) a w :=
  wpList_load_row hgd 39 x ho g hx 39 cs (0, 0) _ hg Try.underlying39 rfl hs h
set_option maxRecDepth 100000 in
set_option maxHeartbeats 4000000 in
theorem rWritten (q : CReq) (v : Value) (w : World) (h : ReqIn w q v) (hn : q.ops.length ≤ 1000000) : Calls Try.prog 14 #[.agg (q.cells v)] w (WrOk (writtenQ q) w) := by
  obtain ⟨a, cap, hv, _⟩ := h.sl
  have HV := Lib.hid hv
  obtain ⟨t, ht⟩ : ∃ t, t = q.tag := ⟨_, rfl⟩
  have HB := Lib.hid ((Below.refl w.heap.size w).alloc (Nat.le_refl _) (.cells (q.cells v) 39))
  have HR0 := Lib.hid (heap_alloc_new w (.cells (q.cells v) 39))
  have hc0 := (cell_of_row _ w.heap.size 0 _ _ _ HR0.out).trans (show _ = some (.int .i64 t) from by rw [ht]; rfl)
  have hc10 := (cell_of_row _ w.heap.size 10 _ _ _ HR0.out).trans (show _ = some (.slice a q.ops.length cap) from by rw [hv]; rfl)
  by_cases hbad : q.tag < 1 ∨ 13 < q.tag ∨ 16 < q.ops.length
  · have HP := Lib.hid (show writtenQ q = none from if_pos hbad)
    generalize q.cells v = C at *
    clear h hv
    rcases hbad with h1 | hbad
    · have d1 : decide (t < 1) = true := by rw [ht, decide_eq_true_iff]; exact h1
      clear h1 ht
      go_enter Try.func14, Try.ntmps14
      go_wp2_with fail
      go_ret2
      exact wrOk_none HP.out HB.out
    by_cases h1 : q.tag < 1
    · have d1 : decide (t < 1) = true := by rw [ht, decide_eq_true_iff]; exact h1
      clear h1 ht
      go_enter Try.func14, Try.ntmps14
      go_wp2_with fail
      go_ret2
      exact wrOk_none HP.out HB.out
    have d1 : decide (t < 1) = false := by rw [ht, decide_eq_false_iff_not]; exact h1
    by_cases h2 : 13 < q.tag
    · have d2 : decide (13 < t) = true := by rw [ht, decide_eq_true_iff]; exact h2
      clear h1 h2 ht
      go_enter Try.func14, Try.ntmps14
      go_wp2_with fail
      go_ret2
      exact wrOk_none HP.out HB.out
    have d2 : decide (13 < t) = false := by rw [ht, decide_eq_false_iff_not]; exact h2
    have d3 : decide ((16 : Int) < (q.ops.length : Int)) = true := by rw [decide_eq_true_iff]; omega
    clear h1 h2 ht hbad
    go_enter Try.func14, Try.ntmps14
    go_wp2_with fail
    go_ret2
    exact wrOk_none HP.out HB.out
  · have HP := Lib.hid (show writtenQ q = if parseP (bytesR q) = some q then some (bytesR q) else none from if_neg hbad)
    have d1 : decide (t < 1) = false := by rw [ht, decide_eq_false_iff_not]; omega
    have d2 : decide (13 < t) = false := by rw [ht, decide_eq_false_iff_not]; omega
    have d3 : decide ((16 : Int) < (q.ops.length : Int)) = false := by rw [decide_eq_false_iff_not]; omega
    have HIN := Lib.hid (h.bel HB.out)
    have HSZ := Lib.hid (show (Try.prog.info? 39).map (·.size) = some (q.cells v).size from rreq_size)
    have HBY := Lib.hid (fun W (hi : ReqIn W q v) => rBytes q v W hi (by omega) (by omega) (by omega))
    have HBL := Lib.hid (show (bytesR q).length ≤ 100000000000 by have := bytesR_len q; omega)
    have HSAME := Lib.hid (fun W (hi : ReqIn W q v) (r : CReq) (u : Value) hu (hl : r.ops.length ≤ 1000000000) => rSame r q u v W hu hi.sl hl)
    generalize q.cells v = C at *
    clear h hv hbad ht hn
    go_enter Try.func14, Try.ntmps14
    go_wp2_with ((with_reducible refine atLoad ?_); refine wpList_load_row rfl 39 (.tmp 1) rfl w.heap.size rfl 39 C (0, 0) _ HR0.out Try.underlying39 rfl HSZ.out ?_)
    clear hc0 hc10
    generalize hW0 : w.alloc (.cells C 39) = W0 at *
    have HWS := Lib.hid (show W0.heap.size = w.heap.size + 1 by rw [← hW0]; simp)
    clear hW0
    refine (HBY.out _ HIN.out).mono ?_
    rintro e W1 ⟨v1, rfl, ho1, hb1⟩
    have HO1 := Lib.hid ho1
    have HB1 := Lib.hid (hb1)
    obtain ⟨a1, cap1, hv1, hrd⟩ := OwnB.reads ho1
    rw [hv1] at HO1
    have HRD := Lib.hid (OwnB.reads HO1.out)
    subst hv1
    clear ho1 hb1 hrd
    go_wp2_with fail
    refine (prParse a1 cap1 (bytesR q) W1 HRD.out HBL.out).mono ?_
    rintro e W2 ⟨⟨u, rfl, hou⟩, hb2⟩
    have HOU := Lib.hid hou
    have HB2 := Lib.hid hb2
    clear hou hb2 HRD
    have HPW := Lib.hid (fun p (hp : parseP (bytesR q) = some p) => (parseP_wf hp).2)
    generalize hpp : parseP (bytesR q) = r at *
    obtain ⟨D, hD⟩ : ∃ D, D = (reqOf r).cells u := ⟨_, rfl⟩
    have HD := Lib.hid hD
    unfold tupB
    rw [← hD]
    obtain ⟨W3, hW3⟩ : ∃ W3, W3 = (W2.alloc (.cells (CReq.zero.cells nilS) 39)).setRow W2.heap.size D := ⟨_, rfl⟩
    have HS3 := Lib.hid (run_storeRow (W2.alloc (.cells (CReq.zero.cells nilS) 39)) 39 W2.heap.size (CReq.zero.cells nilS) D (heap_alloc_new W2 _) (by rw [hD]; exact rreq_size) (by rw [hD]; rfl) (by obtain ⟨a5, c5, h5⟩ := HOU.out.slice; rw [hD, h5]; exact cells_one _ _ _ _))
    have HL3 := Lib.hid (setRow_heap (W2.alloc (.cells (CReq.zero.cells nilS) 39)) W2.heap.size (CReq.zero.cells nilS) D 39 (0, 0) (heap_alloc_new W2 _))
    have HB3 := Lib.hid (below_boxC W2 (CReq.zero.cells nilS) D 39)
    rw [← hW3] at HS3 HL3 HB3
    have HSZ3 := Lib.hid (show (Try.prog.info? 39).map (·.size) = some D.size by rw [hD]; exact rreq_size)
    have HB13 := Lib.hid (HB1.out.trans ((HB2.out.trans (HB3.out.mono HB2.out.size)).mono HB1.out.size))
    have HR3 := Lib.hid ((HB13.out.block w.heap.size (by have := HWS.out; omega)).trans HR0.out)
    have HIN3 := Lib.hid (HIN.out.bel HB13.out)
    have HOU3 := Lib.hid (HOU.out.bel HB3.out)
    have HO13 := Lib.hid (HO1.out.bel (HB2.out.trans (HB3.out.mono HB2.out.size)))
    have HLEN := Lib.hid (show (reqOf r).ops.length ≤ 1000000000 by cases r with
      | none => exact Nat.zero_le _
      | some p => exact Nat.le_trans (HPW.out p rfl) (by omega))
    clear hW3 hD hpp
    go_wp2_with (first | ((with_reducible refine atStore ?_); refine wpList_store_by rfl 39 (.tmp 5) (.tmp 27) rfl (.pointer (some ⟨W2.heap.size, 0, none⟩)) _ rfl rfl HS3.out ?_) | ((with_reducible refine atLoad ?_); refine wpList_load_row rfl 39 (.tmp 5) rfl W2.heap.size rfl 39 D (0, 0) _ HL3.out Try.underlying39 rfl HSZ3.out ?_) | ((with_reducible refine atLoad ?_); refine wpList_load_row rfl 39 (.tmp 1) rfl w.heap.size rfl 39 C (0, 0) _ HR3.out Try.underlying39 rfl HSZ.out ?_))
    rw [HD.out]
    refine (HSAME.out _ HIN3.out (reqOf r) u (req_rowOf HOU3.out) HLEN.out).mono ?_
    rintro e W4 ⟨rfl, hb4⟩
    have HB4 := Lib.hid hb4
    clear hb4
    have HBW := Lib.hid (HB.out.trans ((HB13.out.trans (HB4.out.mono HB13.out.size)).mono (by have := HWS.out; omega)))
    cases r with
    | none =>
      have HPN := Lib.hid (show writtenQ q = none by rw [HP.out]; simp)
      simp only [Option.isSome_none]
      go_wp2_with fail
      go_ret2
      exact wrOk_none HPN.out HBW.out
    | some p =>
      simp only [Option.isSome_some]
      by_cases hqp : p = q
      · have HPS := Lib.hid (show writtenQ q = some (bytesR q) by rw [HP.out, hqp]; simp)
        rw [show decide (reqOf (some p) = q) = true from decide_eq_true hqp]
        clear hqp
        go_wp2_with fail
        go_ret2
        exact wrOk_some HPS.out (OwnB.mono' (HO13.out.bel HB4.out) (by have := HWS.out; omega)) HBW.out
      · have HPN := Lib.hid (show writtenQ q = none by rw [HP.out, if_neg (fun e => hqp (by cases e; rfl))])
        rw [show decide (reqOf (some p) = q) = false from decide_eq_false hqp]
        clear hqp
        go_wp2_with fail
        go_ret2
        exact wrOk_none HPN.out HBW.out
end Go.Proofs.Ytlngefhjoobmdaa
namespace Go.Proofs.Ytlngefhjoobmdaa
open Go.RowKit
def fewO (x : COp) : Bool := decide (x.key.size ≤ 100) && decide (x.val.size ≤ 1500)
def fewQ (q : CReq) : Bool := q.ops.all fewO && (decide (q.ops.length ≤ 20) && decide (q.after.size ≤ 100))
theorem all_take (f : COp → Bool) (l : List COp) (k : Nat) (h : k < l.length) : (l.take (k + 1)).all f = ((l.take k).all f && f l[k]) := by
  rw [List.take_succ_eq_append_getElem h, List.all_append]
  simp
theorem all_bad (f : COp → Bool) (l : List COp) (k : Nat) (h : k < l.length) (hf : f l[k] = false) : l.all f = false := by
  rw [List.all_eq_false]
  exact ⟨l[k], List.getElem_mem h, by simp [hf]⟩
set_option maxRecDepth 100000 in
set_option maxHeartbeats 4000000 in
theorem lawFew0 (tag : Int) (ad : Nat) (bu qk qb qg tb : Int) (tg ts tc : Nat) (ops : List COp) (af : ByteArray) (fi : Bool) (co ri : Int) (se : Nat) (a : Option Addr) (cap : Nat) (w : World) (hr : IsRowOf COp.cells (fun _ => True) 5 w a ops) (hl : ops.length ≤ 9223372036854775807) :
    Calls Try.prog 12 #[.agg #[.int .i64 tag, .int .u64 (ad : Int), .int .i64 bu, .int .i64 qk, .int .i64 qb, .int .i64 qg, .int .i64 tb, .int .u32 (tg : Int), .int .u32 (ts : Int), .int .u64 (tc : Int), .slice a ops.length cap, .string af, .bool fi, .int .i64 co, .int .i64 ri, .int .u32 (se : Int)]] w (BoolIs (fewQ ⟨tag, ad, bu, qk, qb, qg, tb, tg, ts, tc, ops, af, fi, co, ri, se⟩) w) := by
  have HROW := Lib.hid hr
  have HL := Lib.hid hl
  have HBA := Lib.hid ((Below.refl w.heap.size w).alloc (Nat.le_refl _) (.cells #[.int .i64 tag, .int .u64 (ad : Int), .int .i64 bu, .int .i64 qk, .int .i64 qb, .int .i64 qg, .int .i64 tb, .int .u32 (tg : Int), .int .u32 (ts : Int), .int .u64 (tc : Int), .slice a ops.length cap, .string af, .bool fi, .int .i64 co, .int .i64 ri, .int .u32 (se : Int)] 32))
  have HR0 := Lib.hid (heap_alloc_new w (.cells #[.int .i64 tag, .int .u64 (ad : Int), .int .i64 bu, .int .i64 qk, .int .i64 qb, .int .i64 qg, .int .i64 tb, .int .u32 (tg : Int), .int .u32 (ts : Int), .int .u64 (tc : Int), .slice a ops.length cap, .string af, .bool fi, .int .i64 co, .int .i64 ri, .int .u32 (se : Int)] 32))
  have HF := Lib.hid (show fewQ ⟨tag, ad, bu, qk, qb, qg, tb, tg, ts, tc, ops, af, fi, co, ri, se⟩ = (ops.all fewO && (decide (ops.length ≤ 20) && decide (af.size ≤ 100))) from rfl)
  generalize hnn : ops.length = n at *
  have HNN := Lib.hid hnn
  have hc10 := (cell_of_row _ w.heap.size 10 _ _ _ HR0.out).trans (show _ = some (.slice a n cap) from rfl)
  have hc11 := (cell_of_row _ w.heap.size 11 _ _ _ HR0.out).trans (show _ = some (.string af) from rfl)
  clear hnn hr hl
  go_enter Try.func12, Try.ntmps12
  go_wp2_with fail
  generalize (w.alloc (.cells #[.int .i64 tag, .int .u64 (ad : Int), .int .i64 bu, .int .i64 qk, .int .i64 qb, .int .i64 qg, .int .i64 tb, .int .u32 (tg : Int), .int .u32 (ts : Int), .int .u64 (tc : Int), .slice a n cap, .string af, .bool fi, .int .i64 co, .int .i64 ri, .int .u32 (se : Int)] 32)) = W0 at *
  go_loopw [3] (fun i wr => ∃ k : Nat, k ≤ n ∧ i = .int .i64 k ∧ wr = W0 ∧ Hid ((ops.take k).all fewO = true)) (fun i _ => n - (intOf i).toNat)
  case atStart => exact ⟨0, Nat.zero_le _, rfl, rfl, by show _ = true; simp⟩
  case round =>
    obtain ⟨k, hk, rfl, rfl, HT⟩ := hrel
    by_cases hlt : k < n
    · have hki : (k : Int) < (n : Int) := by omega
      have hkb : k < 9223372036854775807 := by have := HL.out; omega
      have hkl : k < ops.length := by have := HNN.out; omega
      obtain ⟨b, off, rfl, hb, hc, _⟩ := HROW.out k hkl
      have hx1 : wr.cell? ⟨b, off + k * 5 + 1, none⟩ = some (.string ops[k].key) := (HBA.out.cell (p := ⟨b, off + k * 5 + 1, none⟩) hb).trans (hc 1 (by omega))
      have hx2 : wr.cell? ⟨b, off + k * 5 + 2, none⟩ = some (.string ops[k].val) := (HBA.out.cell (p := ⟨b, off + k * 5 + 2, none⟩) hb).trans (hc 2 (by omega))
      have HTK := Lib.hid (fun (e : fewO ops[k] = true) => show (ops.take (k + 1)).all fewO = true by rw [all_take fewO ops k hkl, HT.out, e]; rfl)
      have HBAD := Lib.hid (fun (e : fewO ops[k] = false) => all_bad fewO ops k hkl e)
      clear hc hb
      generalize ops[k] = x at *
      clear hkl
      obtain ⟨xd, xk, xv, xc, xu⟩ := x
      simp only at hx1 hx2
      by_cases h1 : 100 < xk.size
      · have d1 : decide ((100 : Int) < (xk.size : Int)) = true := by rw [decide_eq_true_iff]; omega
        have HK := Lib.hid (HBAD.out (by unfold fewO; rw [decide_eq_false (show ¬ xk.size ≤ 100 by omega)]; rfl))
        clear h1 HTK HBAD
        go_wp2_with fail
        go_ret
        exact ⟨by rw [HF.out, HK.out]; rfl, HBA.out⟩
      have d1 : decide ((100 : Int) < (xk.size : Int)) = false := by rw [decide_eq_false_iff_not]; omega
      by_cases h2 : 1500 < xv.size
      · have d2 : decide ((1500 : Int) < (xv.size : Int)) = true := by rw [decide_eq_true_iff]; omega
        have HK := Lib.hid (HBAD.out (by unfold fewO; rw [decide_eq_false (show ¬ xv.size ≤ 1500 by omega)]; simp))
        clear h1 h2 HTK HBAD
        go_wp2_with fail
        go_ret
        exact ⟨by rw [HF.out, HK.out]; rfl, HBA.out⟩
      have d2 : decide ((1500 : Int) < (xv.size : Int)) = false := by rw [decide_eq_false_iff_not]; omega
      have HK := Lib.hid (HTK.out (by unfold fewO; rw [decide_eq_true (show xk.size ≤ 100 by omega), decide_eq_true (show xv.size ≤ 1500 by omega)]; rfl))
      clear h1 h2 HTK HBAD HT
      go_wp2_with fail
      go_roundw
      case rel => exact ⟨k + 1, by omega, by go_num, by simp, HK⟩
      case measure => simp [intOf]; omega
    · obtain rfl : k = n := by omega
      have HAL := Lib.hid (show ops.all fewO = true by have := HT.out; rwa [List.take_of_length_le (show ops.length ≤ k by rw [HNN.out]; exact Nat.le_refl _)] at this)
      by_cases h1 : k ≤ 20
      · have d1 : decide ((k : Int) ≤ 20) = true := by rw [decide_eq_true_iff]; omega
        by_cases h2 : af.size ≤ 100
        · have d2 : decide ((af.size : Int) ≤ 100) = true := by rw [decide_eq_true_iff]; omega
          have HK := Lib.hid (HF.out.trans (by rw [HAL.out, decide_eq_true h1, decide_eq_true h2]))
          clear h1 h2
          go_wp2_with fail
          go_ret
          exact ⟨by rw [HK.out]; rfl, HBA.out⟩
        · have d2 : decide ((af.size : Int) ≤ 100) = false := by rw [decide_eq_false_iff_not]; omega
          have HK := Lib.hid (HF.out.trans (by rw [HAL.out, decide_eq_true h1, decide_eq_false h2]))
          clear h1 h2
          go_wp2_with fail
          go_ret
          exact ⟨by rw [HK.out]; rfl, HBA.out⟩
      · have d1 : decide ((k : Int) ≤ 20) = false := by rw [decide_eq_false_iff_not]; omega
        have HK := Lib.hid (HF.out.trans (by rw [HAL.out, decide_eq_false h1]))
        clear h1
        go_wp2_with fail
        go_ret
        exact ⟨by rw [HK.out]; rfl, HBA.out⟩
theorem lawFew (q : CReq) (v : Value) (w : World) (h : ∃ a cap, v = .slice a q.ops.length cap ∧ IsRowOf COp.cells (fun _ => True) 5 w a q.ops) (hl : q.ops.length ≤ 9223372036854775807) : Calls Try.prog 12 #[.agg (q.cells v)] w (BoolIs (fewQ q) w) := by
  obtain ⟨a, cap, rfl, hr⟩ := h
  exact lawFew0 _ _ _ _ _ _ _ _ _ _ _ _ _ _ _ _ a cap w hr hl
end Go.Proofs.Ytlngefhjoobmdaa
namespace Go.Proofs.Ytlngefhjoobmdaa
open Go.RowKit
structure CPair where
  key : ByteArray
  val : ByteArray
def CPair.cells (p : CPair) : List Value := [.string p.key, .string p.val]
def intC (n : Int) : List Value := [.int .i64 n]
structure CRes where
  code : Int
  tb : Int
  tg : Nat
  ts : Nat
  tc : Nat
  ver : Nat
  val : ByteArray
  page : List CPair
  more : Bool
  ks : Int
  bs : Int
  cs : Int
  sq : Nat
  bk : List Int
def CRes.cells (r : CRes) (p b : Value) : Array Value := #[.int .i64 r.code, .int .i64 r.tb, .int .u32 (r.tg : Int), .int .u32 (r.ts : Int), .int .u64 (r.tc : Int), .int .u64 (r.ver : Int), .string r.val, p, .bool r.more, .int .i64 r.ks, .int .i64 r.bs, .int .i64 r.cs, .int .u64 (r.sq : Int), b]
/-- As the document has it: its numbers in a slice. -/
def CRes.rcells (r : CRes) (p s b : Value) : Array Value := #[.int .i64 r.code, .int .i64 r.tb, .int .u32 (r.tg : Int), .int .u32 (r.ts : Int), .int .u64 (r.tc : Int), .int .u64 (r.ver : Int), .string r.val, p, .bool r.more, s, b]
def CPair.wf (p : CPair) : Prop := p.key.size ≤ maxLen ∧ p.val.size ≤ maxLen
def CRes.wf (r : CRes) : Prop := r.tg < 4294967296 ∧ r.ts < 4294967296 ∧ r.tc < 18446744073709551616 ∧ r.ver < 18446744073709551616 ∧ r.sq < 18446744073709551616 ∧ r.val.size ≤ maxLen ∧ ∀ p ∈ r.page, p.wf
def pairL (p : CPair) : List UInt8 := textL p.key.data.toList ++ textL p.val.data.toList
def pagesL (l : List CPair) : List UInt8 := l.flatMap pairL
def buckL (l : List Int) : List UInt8 := l.flatMap fun n => putL (u64N n) 1
def CRes.stats (r : CRes) : List Nat := [u64N r.ks, u64N r.bs, u64N r.cs, r.sq]
def statL (l : List Nat) : List UInt8 := l.flatMap fun n => putL n 8
/-- A response's bytes. -/
def encL (r : CRes) : List UInt8 := if r.code ≠ 0 then putL (u64N r.code) 1 else
  [UInt8.ofNat 0] ++ tokL r.tb r.tg r.ts r.tc ++ putL r.ver 8 ++ textL r.val.data.toList ++ putL r.page.length 1 ++ pagesL r.page ++ putL (bitN r.more) 1 ++ statL r.stats ++ putL r.bk.length 1 ++ buckL r.bk
theorem pairL_len (p : CPair) : (pairL p).length ≤ 131074 := by
  have h1 := textL_len9 p.key.data.toList
  have h2 := textL_len9 p.val.data.toList
  unfold pairL
  rw [List.length_append]
  omega
theorem pagesL_len (l : List CPair) : (pagesL l).length ≤ 131074 * l.length := by
  induction l with
  | nil => simp [pagesL]
  | cons x l ih =>
    have := pairL_len x
    simp only [pagesL, List.flatMap_cons, List.length_append, List.length_cons] at *
    omega
theorem buckL_len (l : List Int) : (buckL l).length = l.length := by
  induction l with
  | nil => rfl
  | cons x l ih =>
    simp only [buckL, List.flatMap_cons, List.length_append, List.length_cons, putL_length] at *
    omega
theorem statL_len (l : List Nat) : (statL l).length = 8 * l.length := by
  induction l with
  | nil => rfl
  | cons x l ih =>
    simp only [statL, List.flatMap_cons, List.length_append, List.length_cons, putL_length] at *
    omega
theorem flat_take {α : Type} (f : α → List UInt8) (l : List α) (k : Nat) (h : k < l.length) : (l.take (k + 1)).flatMap f = (l.take k).flatMap f ++ f l[k] := by
  rw [List.take_succ_eq_append_getElem h, List.flatMap_append]
  simp
theorem pair_len (p : CPair) : p.cells.length = 2 := rfl
theorem int_len (n : Int) : (intC n).length = 1 := rfl
/-- A response that came in, as it lies. -/
structure ResIn (w : World) (r : CRes) (p b : Value) : Prop where
  pg : ∃ a cap, p = .slice a r.page.length cap ∧ IsRowOf CPair.cells (fun _ => True) 2 w a r.page
  bk : ∃ a cap, b = .slice a r.bk.length cap ∧ IsRowOf intC (fun _ => True) 1 w a r.bk
  wf : r.wf
theorem range_of2 {W : World} {g o : Nat} {x : CPair} (h : ∀ j, j < 2 → W.cell? ⟨g, o + j, none⟩ = (CPair.cells x)[j]?) : W.rangeAt g o x.cells := fun j _ hv => (h j (List.getElem?_eq_some_iff.1 hv).1).trans hv
theorem pair_size : (Try.prog.info? 52).map (·.size) = some 2 := by kernel_rfl
end Go.Proofs.Ytlngefhjoobmdaa
namespace Go.Proofs.Ytlngefhjoobmdaa
open Go.RowKit
set_option maxRecDepth 100000 in
set_option maxHeartbeats 4000000 in
theorem cEncN (code : Int) (tb : Int) (tg ts tc ver : Nat) (vl : ByteArray) (page : List CPair) (more : Bool) (ks bs cs : Int) (sq : Nat) (bk : List Int) (pa : Option Addr) (pcap : Nat) (ba : Option Addr) (bcap : Nat) (w : World) (hpg : IsRowOf CPair.cells (fun _ => True) 2 w pa page) (hbk : IsRowOf intC (fun _ => True) 1 w ba bk) (htg : tg < 4294967296) (hts : ts < 4294967296) (htc : tc < 18446744073709551616) (hver : ver < 18446744073709551616) (hsq : sq < 18446744073709551616) (hvl : vl.size ≤ maxLen) (hpw : ∀ p ∈ page, p.wf) (hpn : page.length ≤ 1000) (hbn : bk.length ≤ 1000) (hne : code ≠ 0) :
    Calls Try.prog 15 #[.agg #[.int .i64 code, .int .i64 tb, .int .u32 (tg : Int), .int .u32 (ts : Int), .int .u64 (tc : Int), .int .u64 (ver : Int), .string vl, .slice pa page.length pcap, .bool more, .int .i64 ks, .int .i64 bs, .int .i64 cs, .int .u64 (sq : Int), .slice ba bk.length bcap]] w (Makes w (encL ⟨code, tb, tg, ts, tc, ver, vl, page, more, ks, bs, cs, sq, bk⟩)) := by
  have HEQ := Lib.hid (show encL ⟨code, tb, tg, ts, tc, ver, vl, page, more, ks, bs, cs, sq, bk⟩ = [] ++ putL (u64N code) 1 by unfold encL; rw [if_pos hne]; rfl)
  have HB := Lib.hid (show 0 ≤ 1000000000 ∧ tg < 4294967296 ∧ ts < 4294967296 ∧ tc < 18446744073709551616 ∧ ver < 18446744073709551616 ∧ sq < 18446744073709551616 ∧ vl.size ≤ maxLen ∧ page.length ≤ 1000 ∧ bk.length ≤ 1000 from ⟨by omega, htg, hts, htc, hver, hsq, hvl, hpn, hbn⟩)
  have HPG := Lib.hid hpg
  have HBK := Lib.hid hbk
  have HPW := Lib.hid hpw
  have hwk := wrap_u64N ks
  have hwb := wrap_u64N bs
  have hwc := wrap_u64N cs
  have hwp : IntKind.u64.wrap (page.length : Int) = (page.length : Int) := by rw [IntKind.wrap_u64]; omega
  have hwn : IntKind.u64.wrap (bk.length : Int) = (bk.length : Int) := by rw [IntKind.wrap_u64]; omega
  have d0 : (code != 0) = true := by simpa using hne
  have hwq := wrap_u64N code
  clear hne
  clear htg hts htc hver hsq hvl hpw hpn hbn hpg hbk
  generalize hpp : page.length = pn at HB hwp ⊢
  have HPN := Lib.hid hpp
  generalize hbb : bk.length = bn at HB hwn ⊢
  have HBN := Lib.hid hbb
  clear hpp hbb
  have HS0 := Lib.hid (BS.start (B := w.heap.size) (OwnB.nil w.heap.size (w.alloc (.cells #[.int .i64 code, .int .i64 tb, .int .u32 (tg : Int), .int .u32 (ts : Int), .int .u64 (tc : Int), .int .u64 (ver : Int), .string vl, .slice pa pn pcap, .bool more, .int .i64 ks, .int .i64 bs, .int .i64 cs, .int .u64 (sq : Int), .slice ba bn bcap] 49))) (by simp))
  have HR0 := Lib.hid (heap_alloc_new w (.cells #[.int .i64 code, .int .i64 tb, .int .u32 (tg : Int), .int .u32 (ts : Int), .int .u64 (tc : Int), .int .u64 (ver : Int), .string vl, .slice pa pn pcap, .bool more, .int .i64 ks, .int .i64 bs, .int .i64 cs, .int .u64 (sq : Int), .slice ba bn bcap] 49))
  have HBA := Lib.hid ((Below.refl w.heap.size w).alloc (Nat.le_refl _) (.cells #[.int .i64 code, .int .i64 tb, .int .u32 (tg : Int), .int .u32 (ts : Int), .int .u64 (tc : Int), .int .u64 (ver : Int), .string vl, .slice pa pn pcap, .bool more, .int .i64 ks, .int .i64 bs, .int .i64 cs, .int .u64 (sq : Int), .slice ba bn bcap] 49))
  go_enter Try.func15, Try.ntmps15
  go_wp2_with fail
  generalize (w.alloc (.cells #[.int .i64 code, .int .i64 tb, .int .u32 (tg : Int), .int .u32 (ts : Int), .int .u64 (tc : Int), .int .u64 (ver : Int), .string vl, .slice pa pn pcap, .bool more, .int .i64 ks, .int .i64 bs, .int .i64 cs, .int .u64 (sq : Int), .slice ba bn bcap] 49)) = W0 at *
  have HRX := HR0
  refine (packPut _ _ _ (u64N code) 1 _ HS0.out.own HS0.out.le (by have := HB.out.1; have := textL_len9 vl.data.toList; first | omega | (simp; done) | (simp; omega)) (u64N_lt _) (by omega) (by omega)).mono ?_
  intro e W1 hp
  obtain ⟨v1, rfl, hs⟩ := HS0.out.put hp
  have HS1 := Lib.hid hs
  have HR1 := Lib.hid (HS1.out.row (by decide) HR0.out)
  clear hp hs HS0
  have hcl0 := (cell_of_row W1 w.heap.size 0 _ _ _ HR1.out).trans (show _ = some (.int .i64 code) from rfl)
  go_wp2
  go_ret
  rw [HEQ.out]
  exact HS1.out.makes HBA.out rfl
set_option maxRecDepth 100000 in
set_option maxHeartbeats 4000000 in
theorem cEncZ (tb : Int) (tg ts tc ver : Nat) (vl : ByteArray) (page : List CPair) (more : Bool) (ks bs cs : Int) (sq : Nat) (bk : List Int) (pa : Option Addr) (pcap : Nat) (ba : Option Addr) (bcap : Nat) (w : World) (hpg : IsRowOf CPair.cells (fun _ => True) 2 w pa page) (hbk : IsRowOf intC (fun _ => True) 1 w ba bk) (htg : tg < 4294967296) (hts : ts < 4294967296) (htc : tc < 18446744073709551616) (hver : ver < 18446744073709551616) (hsq : sq < 18446744073709551616) (hvl : vl.size ≤ maxLen) (hpw : ∀ p ∈ page, p.wf) (hpn : page.length ≤ 1000) (hbn : bk.length ≤ 1000) :
    Calls Try.prog 15 #[.agg #[.int .i64 0, .int .i64 tb, .int .u32 (tg : Int), .int .u32 (ts : Int), .int .u64 (tc : Int), .int .u64 (ver : Int), .string vl, .slice pa page.length pcap, .bool more, .int .i64 ks, .int .i64 bs, .int .i64 cs, .int .u64 (sq : Int), .slice ba bk.length bcap]] w (Makes w (encL ⟨0, tb, tg, ts, tc, ver, vl, page, more, ks, bs, cs, sq, bk⟩)) := by
  have HEQ := Lib.hid (show encL ⟨0, tb, tg, ts, tc, ver, vl, page, more, ks, bs, cs, sq, bk⟩ = [UInt8.ofNat 0] ++ tokL tb tg ts tc ++ putL ver 8 ++ textL vl.data.toList ++ putL page.length 1 ++ pagesL page ++ putL (bitN more) 1 ++ statL (CRes.stats ⟨0, tb, tg, ts, tc, ver, vl, page, more, ks, bs, cs, sq, bk⟩) ++ putL bk.length 1 ++ buckL bk by unfold encL; rw [if_neg (by simp)])
  have HB := Lib.hid (show 0 ≤ 1000000000 ∧ tg < 4294967296 ∧ ts < 4294967296 ∧ tc < 18446744073709551616 ∧ ver < 18446744073709551616 ∧ sq < 18446744073709551616 ∧ vl.size ≤ maxLen ∧ page.length ≤ 1000 ∧ bk.length ≤ 1000 from ⟨by omega, htg, hts, htc, hver, hsq, hvl, hpn, hbn⟩)
  have HPG := Lib.hid hpg
  have HBK := Lib.hid hbk
  have HPW := Lib.hid hpw
  have hwk := wrap_u64N ks
  have hwb := wrap_u64N bs
  have hwc := wrap_u64N cs
  have hwp : IntKind.u64.wrap (page.length : Int) = (page.length : Int) := by rw [IntKind.wrap_u64]; omega
  have hwn : IntKind.u64.wrap (bk.length : Int) = (bk.length : Int) := by rw [IntKind.wrap_u64]; omega
  clear htg hts htc hver hsq hvl hpw hpn hbn hpg hbk
  generalize hpp : page.length = pn at HB hwp ⊢
  have HPN := Lib.hid hpp
  generalize hbb : bk.length = bn at HB hwn ⊢
  have HBN := Lib.hid hbb
  clear hpp hbb
  have HS0 := Lib.hid (BS.start (B := w.heap.size) (OwnB.nil w.heap.size (w.alloc (.cells #[.int .i64 0, .int .i64 tb, .int .u32 (tg : Int), .int .u32 (ts : Int), .int .u64 (tc : Int), .int .u64 (ver : Int), .string vl, .slice pa pn pcap, .bool more, .int .i64 ks, .int .i64 bs, .int .i64 cs, .int .u64 (sq : Int), .slice ba bn bcap] 49))) (by simp))
  have HR0 := Lib.hid (heap_alloc_new w (.cells #[.int .i64 0, .int .i64 tb, .int .u32 (tg : Int), .int .u32 (ts : Int), .int .u64 (tc : Int), .int .u64 (ver : Int), .string vl, .slice pa pn pcap, .bool more, .int .i64 ks, .int .i64 bs, .int .i64 cs, .int .u64 (sq : Int), .slice ba bn bcap] 49))
  have HBA := Lib.hid ((Below.refl w.heap.size w).alloc (Nat.le_refl _) (.cells #[.int .i64 0, .int .i64 tb, .int .u32 (tg : Int), .int .u32 (ts : Int), .int .u64 (tc : Int), .int .u64 (ver : Int), .string vl, .slice pa pn pcap, .bool more, .int .i64 ks, .int .i64 bs, .int .i64 cs, .int .u64 (sq : Int), .slice ba bn bcap] 49))
  go_enter Try.func15, Try.ntmps15
  go_wp2_with fail
  generalize (w.alloc (.cells #[.int .i64 0, .int .i64 tb, .int .u32 (tg : Int), .int .u32 (ts : Int), .int .u64 (tc : Int), .int .u64 (ver : Int), .string vl, .slice pa pn pcap, .bool more, .int .i64 ks, .int .i64 bs, .int .i64 cs, .int .u64 (sq : Int), .slice ba bn bcap] 49)) = W0 at *
  refine (packPut _ _ _ 0 1 _ HS0.out.own HS0.out.le (by have := HB.out.1; have := textL_len9 vl.data.toList; first | omega | (simp; done) | (simp; omega)) (by omega) (by omega) (by omega)).mono ?_
  intro e W1 hp
  obtain ⟨v1, rfl, hs⟩ := HS0.out.put hp
  have HS1 := Lib.hid hs
  have HR1 := Lib.hid (HS1.out.row (by decide) HR0.out)
  clear hp hs HS0
  rw [putL_one] at HS1
  have hcl0 := (cell_of_row W1 w.heap.size 0 _ _ _ HR1.out).trans (show _ = some (.int .i64 0) from rfl)
  have HT1 := Lib.hid (range_row HR1.out (o := 1) [.int .i64 tb, .int .u32 (tg : Int), .int .u32 (ts : Int), .int .u64 (tc : Int)] (by intro j v hv; rcases j with _ | _ | _ | _ | j <;> simp at hv <;> subst hv <;> rfl))
  go_wp2_with ((with_reducible refine atLoad ?_); refine wpList_load_mid rfl 29 (.tmp 19) rfl w.heap.size 1 rfl [.int .i64 tb, .int .u32 (tg : Int), .int .u32 (ts : Int), .int .u64 (tc : Int)] _ HT1.out Try.underlying29 rfl tok_size' ?_)
  clear hcl0 HT1
  refine (cTok _ _ _ tb tg ts tc _ HS1.out.own HS1.out.le (by have := HB.out.1; have := textL_len9 vl.data.toList; first | omega | (simp; done) | (simp; omega)) HB.out.2.1 HB.out.2.2.1 HB.out.2.2.2.1).mono ?_
  intro e W2 hp
  obtain ⟨v2, rfl, hs⟩ := HS1.out.put hp
  have HS2 := Lib.hid hs
  have HR2 := Lib.hid (HS2.out.row (by decide) HR0.out)
  clear hp hs HS1 HR1
  obtain ⟨LA, hLA⟩ : ∃ L, L = [] ++ [UInt8.ofNat 0] ++ tokL tb tg ts tc := ⟨_, rfl⟩
  rw [← hLA] at HS2
  have HLA := Lib.hid (show LA.length ≤ 100 by rw [hLA]; simp)
  have HEQA := Lib.hid hLA
  clear hLA
  go_wp2_with fail
  refine Reg.wp_regionH (RK w.heap.size) (RK.refl _) (fun _ _ _ h k => h.trans k) 3 6 (fun W => BS w.heap.size W0 (.slice none 0 0) W v2 LA) (fun x W => BS w.heap.size W0 (.slice none 0 0) W x (LA ++ putL ver 8)) (fun x W => BS w.heap.size W0 (.slice none 0 0) W x (LA ++ (putL ver 8 ++ textL vl.data.toList))) (by kernel_rfl) (by kernel_rfl) (HS2.out.drew 1) ?_
  refine Reg.segH 2 (by kernel_rfl) rfl (by kernel_rfl) ?_
  apply Exists.intro
  refine ⟨fun e => ?_, ?_⟩
  · simp only [List.take_succ_cons, List.take_zero]
    repeat (go_big_quiet_step ((intro _; rfl)))
    refine wpQuiet_nil ?_
    exact rfl
  simp only [List.drop_succ_cons, List.drop_zero, Nat.reduceAdd]
  refine Reg.stillH (.int .u64 (ver : Int)) (RK.refl _) (by kernel_rfl) (fun e W hR => ⟨by rfl, ?_⟩) ?_
  · have hcb := (cell_of_row W w.heap.size 5 _ _ _ (hR.row _ _ _ _ (by decide) HR2.out)).trans (show _ = some (.int .u64 (ver : Int)) from rfl)
    unfold Reg.gives
    go_simp
  simp only [Act.put, List.setIfInBounds_toArray, List.set_cons_zero, List.set_cons_succ, Nat.reduceAdd]
  refine Reg.callH (by kernel_rfl) (fun e W hR h0 => ⟨by rfl, ?_⟩) ?_
  · unfold Reg.gives
    go_simp
    refine (packPut _ _ _ ver 8 W h0.own h0.le (by have := HLA.out; omega) HB.out.2.2.2.2.1 (by omega) (by omega)).mono ?_
    intro en W' hp
    obtain ⟨v', rfl, hk, hs⟩ := h0.put2 hp
    exact ⟨v', rfl, hk, hs⟩
  simp only [Act.put, List.setIfInBounds_toArray, List.set_cons_zero, List.set_cons_succ, Nat.reduceAdd]
  refine Reg.segH 1 (by kernel_rfl) rfl (by kernel_rfl) ?_
  apply Exists.intro
  refine ⟨fun e => ?_, ?_⟩
  · simp only [List.take_succ_cons, List.take_zero]
    repeat (go_big_quiet_step ((intro _; rfl)))
    refine wpQuiet_nil ?_
    exact rfl
  simp only [List.drop_succ_cons, List.drop_zero, Nat.reduceAdd]
  refine Reg.stillH (.string vl) (RK.refl _) (by kernel_rfl) (fun e W hR => ⟨by rfl, ?_⟩) ?_
  · have hcb := (cell_of_row W w.heap.size 6 _ _ _ (hR.row _ _ _ _ (by decide) HR2.out)).trans (show _ = some (.string vl) from rfl)
    unfold Reg.gives
    go_simp
  simp only [Act.put, List.setIfInBounds_toArray, List.set_cons_zero, List.set_cons_succ, Nat.reduceAdd]
  refine Reg.callH2 (by kernel_rfl) (fun e W hR h0 => ⟨by rfl, ?_⟩) ?_
  · unfold Reg.gives
    go_simp
    refine (packPutText _ _ _ vl W h0.own h0.le (by have := HLA.out; simp; omega) HB.out.2.2.2.2.2.2.1).mono ?_
    intro en W' hp
    obtain ⟨v', rfl, hk, hs⟩ := h0.put2 hp
    exact ⟨v', rfl, hk, by rwa [List.append_assoc] at hs⟩
  simp only [Act.put, List.setIfInBounds_toArray, List.set_cons_zero, List.set_cons_succ, Nat.reduceAdd]
  refine Reg.segH 1 (by kernel_rfl) rfl (by kernel_rfl) ?_
  apply Exists.intro
  refine ⟨fun e => ?_, ?_⟩
  · simp only [List.take_succ_cons, List.take_zero]
    repeat (go_big_quiet_step ((intro _; rfl)))
    refine wpQuiet_nil ?_
    exact rfl
  simp only [List.drop_succ_cons, List.drop_zero, Nat.reduceAdd]
  intro e W3 hR hJ hf
  have HS3 := Lib.hid (hJ.2.2 (by rfl))
  have HR3 := Lib.hid (HS3.out.row (by decide) HR0.out)
  clear hf hR hJ HS2 HR2

  obtain ⟨LB, hLB⟩ : ∃ L, L = LA ++ (putL ver 8 ++ textL vl.data.toList) := ⟨_, rfl⟩
  rw [← hLB] at HS3
  have HLB := Lib.hid (show LB.length ≤ 70000 by have := HLA.out; have := textL_len9 vl.data.toList; rw [hLB]; simp; omega)
  have HEQB := Lib.hid hLB
  clear hLB
  have hcl7 := (cell_of_row W3 w.heap.size 7 _ _ _ HR3.out).trans (show _ = some (.slice pa pn pcap) from rfl)
  go_wp2_with fail
  clear hcl7
  refine (packPut _ _ _ pn 1 _ HS3.out.own HS3.out.le (by have := HLB.out; omega) (by have := HB.out; omega) (by omega) (by omega)).mono ?_
  intro e W4 hp
  obtain ⟨v4, rfl, hs⟩ := HS3.out.put hp
  have HS4 := Lib.hid hs
  have HR4 := Lib.hid (HS4.out.row (by decide) HR0.out)
  clear hp hs HS3 HR3
  have hcl7 := (cell_of_row W4 w.heap.size 7 _ _ _ HR4.out).trans (show _ = some (.slice pa pn pcap) from rfl)
  go_wp2_with fail
  clear hcl7
  obtain ⟨LC, hLC⟩ : ∃ L, L = LB ++ putL pn 1 := ⟨_, rfl⟩
  rw [← hLC] at HS4
  have HLC := Lib.hid (show LC.length ≤ 80000 by have := HLB.out; rw [hLC]; simp; omega)
  have HEQC := Lib.hid hLC
  clear hLC
  go_loopw [3, 38] (fun o i wr => ∃ k : Nat, k ≤ pn ∧ i = .int .i64 k ∧ Hid (BS w.heap.size W0 (.slice none 0 0) wr o (LC ++ pagesL (page.take k)))) (fun _ i _ => pn - (intOf i).toNat)
  case atStart => exact ⟨0, Nat.zero_le _, rfl, by have := HS4; simpa [pagesL] using this⟩
  case round =>
    obtain ⟨k, hk, rfl, HST⟩ := hrel
    clear HS4 HR4
    by_cases hlt : k < pn
    · have hki : (k : Int) < (pn : Int) := by omega
      have hk9 : k < 1000 := by have := HB.out.2.2.2.2.2.2.2.1; omega
      have hkl : k < page.length := by have := HPN.out; omega
      obtain ⟨b, off, rfl, hb, hc, _⟩ := HPG.out k hkl
      have HX := Lib.hid (range_of2 (W := w) hc)
      have HBL := Lib.hid hb
      have HOX := Lib.hid (HPW.out _ (List.getElem_mem hkl))
      have HTK := Lib.hid (show pagesL (page.take (k + 1)) = pagesL (page.take k) ++ pairL page[k] from flat_take pairL page k hkl)
      have HLN := Lib.hid (show (LC ++ pagesL (page.take k)).length ≤ 200000000 by have := HLC.out; have := pagesL_len (page.take k); rw [List.length_append]; rw [List.length_take] at *; omega)
      clear hc hb
      generalize page[k] = x at *
      obtain ⟨xk, xv⟩ := x
      have HRW := Lib.hid (show wr.rangeAt b (off + k * 2) [.string xk, .string xv] from fun (j : Nat) (v : Value) hv => ((HBA.out.trans HST.out.rk.bel).cell (p := ⟨b, off + k * 2 + j, none⟩) HBL.out).trans (HX.out j v hv))
      obtain ⟨V3, hV3⟩ : ∃ V, V = (wr.alloc (.cells #[.string ByteArray.empty, .string ByteArray.empty] 52)).setRow wr.heap.size #[.string xk, .string xv] := ⟨_, rfl⟩
      have HSX := Lib.hid (run_storeRow (wr.alloc (.cells #[.string ByteArray.empty, .string ByteArray.empty] 52)) 52 wr.heap.size #[.string ByteArray.empty, .string ByteArray.empty] #[.string xk, .string xv] (heap_alloc_new wr _) pair_size rfl (by simp [Value.oneCell']))
      have HLX := Lib.hid (setRow_heap (wr.alloc (.cells #[.string ByteArray.empty, .string ByteArray.empty] 52)) wr.heap.size #[.string ByteArray.empty, .string ByteArray.empty] #[.string xk, .string xv] 52 (0, 0) (heap_alloc_new wr _))
      have HSV := Lib.hid (HST.out.bel (below_boxC wr #[.string ByteArray.empty, .string ByteArray.empty] #[.string xk, .string xv] 52))
      rw [← hV3] at HSX HLX HSV
      clear hV3 HST hkl HX
      obtain ⟨LK, hLK⟩ : ∃ L, L = LC ++ pagesL (page.take k) := ⟨_, rfl⟩
      rw [← hLK] at HSV HLN
      have HLK := Lib.hid hLK
      clear hLK
      go_wp2_with (first | ((with_reducible refine atLoad ?_); refine wpList_load_mid rfl 52 (.tmp 40) rfl b (off + k * 2) rfl [.string xk, .string xv] _ HRW.out Try.underlying52 rfl pair_size ?_) | ((with_reducible refine atStore ?_); refine wpList_store_by rfl 52 (.tmp 5) (.tmp 41) rfl (.pointer (some ⟨wr.heap.size, 0, none⟩)) _ rfl rfl HSX.out ?_))
      simp only [Act.put]
      refine Reg.wp_regionH (RK w.heap.size) (RK.refl _) (fun _ _ _ h k => h.trans k) 3 6 (fun W => BS w.heap.size W0 (.slice none 0 0) W u3 LK) (fun x W => BS w.heap.size W0 (.slice none 0 0) W x (LK ++ textL xk.data.toList)) (fun x W => BS w.heap.size W0 (.slice none 0 0) W x (LK ++ (textL xk.data.toList ++ textL xv.data.toList))) (by kernel_rfl) (by kernel_rfl) (HSV.out.drew 1) ?_
      refine Reg.segH 2 (by kernel_rfl) rfl (by kernel_rfl) ?_
      apply Exists.intro
      refine ⟨fun e => ?_, ?_⟩
      · simp only [List.take_succ_cons, List.take_zero]
        repeat (go_big_quiet_step ((intro _; rfl)))
        refine wpQuiet_nil ?_
        exact rfl
      simp only [List.drop_succ_cons, List.drop_zero, Nat.reduceAdd]
      refine Reg.stillH (.string xk) (RK.refl _) (by kernel_rfl) (fun e W hR => ⟨by rfl, ?_⟩) ?_
      · have hcb := (cell_of_row W wr.heap.size 0 _ _ _ (hR.row _ _ _ _ (by decide) HLX.out)).trans (show _ = some (.string xk) from rfl)
        unfold Reg.gives
        go_simp
      simp only [Act.put, List.setIfInBounds_toArray, List.set_cons_zero, List.set_cons_succ, Nat.reduceAdd]
      refine Reg.callH (by kernel_rfl) (fun e W hR h0 => ⟨by rfl, ?_⟩) ?_
      · unfold Reg.gives
        go_simp
        refine (packPutText _ _ _ xk W h0.own h0.le (by have := HLN.out; omega) HOX.out.1).mono ?_
        intro en W' hp
        obtain ⟨v', rfl, hk, hs⟩ := h0.put2 hp
        exact ⟨v', rfl, hk, hs⟩
      simp only [Act.put, List.setIfInBounds_toArray, List.set_cons_zero, List.set_cons_succ, Nat.reduceAdd]
      refine Reg.segH 1 (by kernel_rfl) rfl (by kernel_rfl) ?_
      apply Exists.intro
      refine ⟨fun e => ?_, ?_⟩
      · simp only [List.take_succ_cons, List.take_zero]
        repeat (go_big_quiet_step ((intro _; rfl)))
        refine wpQuiet_nil ?_
        exact rfl
      simp only [List.drop_succ_cons, List.drop_zero, Nat.reduceAdd]
      refine Reg.stillH (.string xv) (RK.refl _) (by kernel_rfl) (fun e W hR => ⟨by rfl, ?_⟩) ?_
      · have hcb := (cell_of_row W wr.heap.size 1 _ _ _ (hR.row _ _ _ _ (by decide) HLX.out)).trans (show _ = some (.string xv) from rfl)
        unfold Reg.gives
        go_simp
      simp only [Act.put, List.setIfInBounds_toArray, List.set_cons_zero, List.set_cons_succ, Nat.reduceAdd]
      refine Reg.callH2 (by kernel_rfl) (fun e W hR h0 => ⟨by rfl, ?_⟩) ?_
      · unfold Reg.gives
        go_simp
        refine (packPutText _ _ _ xv W h0.own h0.le (by have := HLN.out; have := textL_len9 xk.data.toList; rw [List.length_append]; omega) HOX.out.2).mono ?_
        intro en W' hp
        obtain ⟨v', rfl, hk, hs⟩ := h0.put2 hp
        exact ⟨v', rfl, hk, by rwa [List.append_assoc] at hs⟩
      simp only [Act.put, List.setIfInBounds_toArray, List.set_cons_zero, List.set_cons_succ, Nat.reduceAdd]
      refine Reg.segH 1 (by kernel_rfl) rfl (by kernel_rfl) ?_
      apply Exists.intro
      refine ⟨fun e => ?_, ?_⟩
      · simp only [List.take_succ_cons, List.take_zero]
        repeat (go_big_quiet_step ((intro _; rfl)))
        refine wpQuiet_nil ?_
        exact rfl
      simp only [List.drop_succ_cons, List.drop_zero, Nat.reduceAdd]
      intro e W5 hR hJ hf
      have HS5 := Lib.hid (hJ.2.2 (by rfl))
      clear hf hR hJ
      go_wp2
      go_roundw
      case rel => exact ⟨k + 1, by omega, by go_num, show BS _ _ _ _ _ _ by
        rw [HTK.out, ← List.append_assoc, ← HLK.out]
        exact HS5.out⟩
      case measure => simp [intOf]; omega
    · obtain rfl : k = pn := by omega
      have HS6 := Lib.hid (show BS w.heap.size W0 (.slice none 0 0) wr u3 (LC ++ pagesL page) by have := HST.out; rwa [List.take_of_length_le (show page.length ≤ k by rw [HPN.out]; exact Nat.le_refl _)] at this)
      clear HST
      have HR6 := Lib.hid (HS6.out.row (by decide) HR0.out)
      obtain ⟨LD, hLD⟩ : ∃ L, L = LC ++ pagesL page := ⟨_, rfl⟩
      rw [← hLD] at HS6
      have HLD := Lib.hid (show LD.length ≤ 200000000 by have := HLC.out; have := pagesL_len page; have := HPN.out; have := HB.out.2.2.2.2.2.2.2.1; rw [hLD, List.length_append]; omega)
      have HEQD := Lib.hid hLD
      clear hLD
      have hcl8 := (cell_of_row wr w.heap.size 8 _ _ _ HR6.out).trans (show _ = some (.bool more) from rfl)
      go_wp2_with fail
      refine (cBit more _).mono ?_
      rintro e Wx ⟨rfl, hq⟩
      rw [hq]
      clear hq Wx
      go_wp2_with fail
      clear hcl8
      refine (packPut _ _ _ (bitN more) 1 _ HS6.out.own HS6.out.le (by have := HLD.out; omega) (bitN_lt _) (by omega) (by omega)).mono ?_
      intro e W7 hp
      obtain ⟨v7, rfl, hs⟩ := HS6.out.put hp
      have HS7 := Lib.hid hs
      have HR7 := Lib.hid (HS7.out.row (by decide) HR0.out)
      clear hp hs HS6 HR6
      have hcl9 := (cell_of_row W7 w.heap.size 9 _ _ _ HR7.out).trans (show _ = some (.int .i64 ks) from rfl)
      have hcl10 := (cell_of_row W7 w.heap.size 10 _ _ _ HR7.out).trans (show _ = some (.int .i64 bs) from rfl)
      have hcl11 := (cell_of_row W7 w.heap.size 11 _ _ _ HR7.out).trans (show _ = some (.int .i64 cs) from rfl)
      have hcl12 := (cell_of_row W7 w.heap.size 12 _ _ _ HR7.out).trans (show _ = some (.int .u64 (sq : Int)) from rfl)
      obtain ⟨S, hS⟩ : ∃ S : List Nat, S = [u64N ks, u64N bs, u64N cs, sq] := ⟨_, rfl⟩
      have HW8 := Lib.hid (HS7.out.alloc (.cells #[.int .u64 (u64N ks : Int), .int .u64 (u64N bs : Int), .int .u64 (u64N cs : Int), .int .u64 (sq : Int)] 24))
      have HG8 := Lib.hid (heap_alloc_new W7 (.cells #[.int .u64 (u64N ks : Int), .int .u64 (u64N bs : Int), .int .u64 (u64N cs : Int), .int .u64 (sq : Int)] 24))
      have HSB := Lib.hid (show ∀ n ∈ S, n < 18446744073709551616 by rw [hS]; intro n hn; simp at hn; rcases hn with rfl | rfl | rfl | rfl; exact u64N_lt _; exact u64N_lt _; exact u64N_lt _; exact HB.out.2.2.2.2.2.1)
      have HSL := Lib.hid (show S.length = 4 by rw [hS]; rfl)
      have HSR := Lib.hid (show ∀ (W : World), W.heap[W7.heap.size]? = some (.cells #[.int .u64 (u64N ks : Int), .int .u64 (u64N bs : Int), .int .u64 (u64N cs : Int), .int .u64 (sq : Int)] 24 (0, 0)) → ∀ j (hj : j < S.length), W.cell? ⟨W7.heap.size, j, none⟩ = some (.int .u64 ((S[j] : Nat) : Int)) from fun W hW j hj => by
        rw [cell_of_row W _ j _ _ _ hW]
        subst hS
        rcases j with _ | _ | _ | _ | j
        · rfl
        · rfl
        · rfl
        · rfl
        · simp at hj; omega)
      have HSE := Lib.hid hS
      clear hS HS7 HR7
      go_wp2_with fail
      clear hcl9 hcl10 hcl11 hcl12
      generalize (W7.alloc (.cells #[.int .u64 (u64N ks : Int), .int .u64 (u64N bs : Int), .int .u64 (u64N cs : Int), .int .u64 (sq : Int)] 24)) = W8 at *
      obtain ⟨LE, hLE⟩ : ∃ L, L = LD ++ putL (bitN more) 1 := ⟨_, rfl⟩
      rw [← hLE] at HW8
      have HLE := Lib.hid (show LE.length ≤ 200000001 by have := HLD.out; rw [hLE]; simp; omega)
      have HEQE := Lib.hid hLE
      clear hLE
      generalize W7.heap.size = g8 at *
      have HK8 := Lib.hid (RK.refl w.heap.size W8)
      go_loopw [3, 68] (fun o i wr => ∃ k : Nat, k ≤ 4 ∧ i = .int .i64 k ∧ Hid (BS w.heap.size W0 (.slice none 0 0) wr o (LE ++ statL (S.take k))) ∧ Hid (RK w.heap.size W8 wr)) (fun _ i _ => 4 - (intOf i).toNat)
      case atStart => exact ⟨0, Nat.zero_le _, rfl, by have := HW8; simpa [statL] using this, HK8⟩
      case round =>
        obtain ⟨k, hk, rfl, HST, HRK⟩ := hrel
        clear HW8 HK8
        by_cases hlt : k < 4
        · have hki : (k : Int) < 4 := by omega
          have hkl : k < S.length := by rw [HSL.out]; exact hlt
          have hx := HSR.out wr (HRK.out.row _ _ _ _ (by decide) HG8.out) k hkl
          have HSN := Lib.hid (HSB.out _ (List.getElem_mem hkl))
          have HTK := Lib.hid (show statL (S.take (k + 1)) = statL (S.take k) ++ putL S[k] 8 from flat_take (fun n => putL n 8) S k hkl)
          have HLN := Lib.hid (show (LE ++ statL (S.take k)).length ≤ 200000100 by have := HLE.out; have := statL_len (S.take k); rw [List.length_append]; rw [List.length_take] at *; omega)
          generalize S[k] = nk at *
          clear hkl
          go_wp2_with fail
          refine (packPut _ _ _ nk 8 _ HST.out.own HST.out.le (by have := HLN.out; omega) HSN.out (by omega) (by omega)).mono ?_
          intro e W9 hp
          obtain ⟨v9, rfl, hkk, hs⟩ := HST.out.put2 hp
          have HS9 := Lib.hid hs
          have HRK9 := Lib.hid (HRK.out.trans hkk)
          clear hp hkk hs HST HRK hx
          go_wp2
          go_roundw
          case rel => exact ⟨k + 1, by omega, by go_num, (show BS _ _ _ _ _ _ by rw [HTK.out, ← List.append_assoc]; exact HS9.out), HRK9⟩
          case measure => simp [intOf]; omega
        · obtain rfl : k = 4 := by omega
          have HSA := Lib.hid (show BS w.heap.size W0 (.slice none 0 0) wr u3 (LE ++ statL S) by have := HST.out; rwa [List.take_of_length_le (show S.length ≤ 4 by rw [HSL.out]; exact Nat.le_refl _)] at this)
          have HRA := Lib.hid (HSA.out.row (by decide) HR0.out)
          have HLF := Lib.hid (show (LE ++ statL S).length ≤ 200000100 by have := HLE.out; have := statL_len S; have := HSL.out; rw [List.length_append]; omega)
          clear HST HRK
          have hcl13 := (cell_of_row wr w.heap.size 13 _ _ _ HRA.out).trans (show _ = some (.slice ba bn bcap) from rfl)
          go_wp2_with fail
          clear hcl13
          refine (packPut _ _ _ bn 1 _ HSA.out.own HSA.out.le (by have := HLF.out; omega) (by have := HB.out; omega) (by omega) (by omega)).mono ?_
          intro e WB hp
          obtain ⟨vB, rfl, hs⟩ := HSA.out.put hp
          have HSC := Lib.hid hs
          have HRC := Lib.hid (HSC.out.row (by decide) HR0.out)
          clear hp hs HSA HRA
          have hcl13 := (cell_of_row WB w.heap.size 13 _ _ _ HRC.out).trans (show _ = some (.slice ba bn bcap) from rfl)
          obtain ⟨LG, hLG⟩ : ∃ L, L = (LE ++ statL S) ++ putL bn 1 := ⟨_, rfl⟩
          rw [← hLG] at HSC
          have HLG := Lib.hid (show LG.length ≤ 200000200 by have := HLF.out; rw [hLG, List.length_append, putL_length]; omega)
          have HEQG := Lib.hid hLG
          clear hLG
          go_wp2_with fail
          clear hcl13
          go_loopw [3, 85] (fun o i wr => ∃ k : Nat, k ≤ bn ∧ i = .int .i64 k ∧ Hid (BS w.heap.size W0 (.slice none 0 0) wr o (LG ++ buckL (bk.take k)))) (fun _ i _ => bn - (intOf i).toNat)
          case atStart => exact ⟨0, Nat.zero_le _, rfl, by have := HSC; simpa [buckL] using this⟩
          case round =>
            obtain ⟨k, hk, rfl, HST⟩ := hrel
            clear HSC HRC
            by_cases hlt : k < bn
            · have hki : (k : Int) < (bn : Int) := by omega
              have hk9 : k < 1000 := by have := HB.out.2.2.2.2.2.2.2.2; omega
              have hkl : k < bk.length := by have := HBN.out; omega
              obtain ⟨b, off, rfl, hb, hc, _⟩ := HBK.out k hkl
              have hx := ((HBA.out.trans HST.out.rk.bel).cell (p := ⟨b, off + k * 1 + 0, none⟩) hb).trans (hc 0 (by omega))
              rw [Nat.mul_one, Nat.add_zero] at hx
              have HTK := Lib.hid (show buckL (bk.take (k + 1)) = buckL (bk.take k) ++ putL (u64N bk[k]) 1 from flat_take (fun n => putL (u64N n) 1) bk k hkl)
              have HLN := Lib.hid (show (LG ++ buckL (bk.take k)).length ≤ 200002000 by have := HLG.out; rw [List.length_append, buckL_len, List.length_take]; omega)
              clear hc hb
              generalize bk[k] = nk at *
              have hx2 : wr.cell? ⟨b, off + k, none⟩ = some (.int .i64 nk) := hx
              clear hx hkl
              have hwx := wrap_u64N nk
              go_wp2_with fail
              refine (packPut _ _ _ (u64N nk) 1 _ HST.out.own HST.out.le (by have := HLN.out; omega) (u64N_lt _) (by omega) (by omega)).mono ?_
              intro e W9 hp
              obtain ⟨v9, rfl, hs⟩ := HST.out.put hp
              have HS9 := Lib.hid hs
              clear hp hs HST hx2
              go_wp2
              go_roundw
              case rel => exact ⟨k + 1, by omega, by go_num, (show BS _ _ _ _ _ _ by rw [HTK.out, ← List.append_assoc]; exact HS9.out)⟩
              case measure => simp [intOf]; omega
            · obtain rfl : k = bn := by omega
              have HSD := Lib.hid (show BS w.heap.size W0 (.slice none 0 0) wr u3 (LG ++ buckL bk) by have := HST.out; rwa [List.take_of_length_le (show bk.length ≤ k by rw [HBN.out]; exact Nat.le_refl _)] at this)
              clear HST
              go_wp2
              go_ret
              rw [HEQ.out]
              refine HSD.out.makes HBA.out ?_
              rw [HEQG.out, HEQE.out, HEQD.out, HEQC.out, HEQB.out, HEQA.out, HSE.out, HPN.out, HBN.out]
              simp [CRes.stats, statL]
end Go.Proofs.Ytlngefhjoobmdaa
namespace Go.Proofs.Ytlngefhjoobmdaa
open Go.RowKit
def natC (n : Nat) : List Value := [.int .u64 (n : Int)]
set_option maxRecDepth 100000 in
set_option maxHeartbeats 4000000 in
theorem rEncN (code : Int) (tb : Int) (tg ts tc ver : Nat) (vl : ByteArray) (page : List CPair) (more : Bool) (ks bs cs : Int) (sq : Nat) (bk : List Int) (pa : Option Addr) (pcap : Nat) (sa : Option Addr) (scap : Nat) (ba : Option Addr) (bcap : Nat) (w : World) (hpg : IsRowOf CPair.cells (fun _ => True) 2 w pa page) (hst : IsRowOf natC (fun _ => True) 1 w sa [u64N ks, u64N bs, u64N cs, sq]) (hbk : IsRowOf intC (fun _ => True) 1 w ba bk) (htg : tg < 4294967296) (hts : ts < 4294967296) (htc : tc < 18446744073709551616) (hver : ver < 18446744073709551616) (hsq : sq < 18446744073709551616) (hvl : vl.size ≤ maxLen) (hpw : ∀ p ∈ page, p.wf) (hpn : page.length ≤ 1000) (hbn : bk.length ≤ 1000) (hne : code ≠ 0) :
    Calls Try.prog 16 #[.agg #[.int .i64 code, .int .i64 tb, .int .u32 (tg : Int), .int .u32 (ts : Int), .int .u64 (tc : Int), .int .u64 (ver : Int), .string vl, .slice pa page.length pcap, .bool more, .slice sa 4 scap, .slice ba bk.length bcap]] w (Makes w (encL ⟨code, tb, tg, ts, tc, ver, vl, page, more, ks, bs, cs, sq, bk⟩)) := by
  have HEQ := Lib.hid (show encL ⟨code, tb, tg, ts, tc, ver, vl, page, more, ks, bs, cs, sq, bk⟩ = [UInt8.ofNat (u64N code)] by unfold encL; rw [if_pos hne, putL_one])
  have HB := Lib.hid (show 0 ≤ 1000000000 ∧ tg < 4294967296 ∧ ts < 4294967296 ∧ tc < 18446744073709551616 ∧ ver < 18446744073709551616 ∧ sq < 18446744073709551616 ∧ vl.size ≤ maxLen ∧ page.length ≤ 1000 ∧ bk.length ≤ 1000 from ⟨by omega, htg, hts, htc, hver, hsq, hvl, hpn, hbn⟩)
  have HPG := Lib.hid hpg
  have HST0 := Lib.hid hst
  have HBK := Lib.hid hbk
  have HPW := Lib.hid hpw
  have d0 : (code != 0) = true := by simpa using hne
  clear hne
  clear htg hts htc hver hsq hvl hpw hpn hbn hpg hbk hst
  generalize hpp : page.length = pn at HB ⊢
  have HPN := Lib.hid hpp
  generalize hbb : bk.length = bn at HB ⊢
  have HBN := Lib.hid hbb
  clear hpp hbb
  obtain ⟨v0, hv0⟩ : ∃ v, v = Value.slice (some ⟨(w.alloc (.cells #[.int .i64 code, .int .i64 tb, .int .u32 (tg : Int), .int .u32 (ts : Int), .int .u64 (tc : Int), .int .u64 (ver : Int), .string vl, .slice pa pn pcap, .bool more, .slice sa 4 scap, .slice ba bn bcap] 63)).heap.size, 0, none⟩) 1 1 := ⟨_, rfl⟩
  have HS0 := Lib.hid (BS.start (B := w.heap.size) (OwnB.one w.heap.size (w.alloc (.cells #[.int .i64 code, .int .i64 tb, .int .u32 (tg : Int), .int .u32 (ts : Int), .int .u64 (tc : Int), .int .u64 (ver : Int), .string vl, .slice pa pn pcap, .bool more, .slice sa 4 scap, .slice ba bn bcap] 63)) (IntKind.u8.wrap code) (UInt8.ofNat (u64N code)) (by rw [IntKind.wrap_u8]; exact u8_u64N code) (by simp)) (by simp; omega))
  rw [← hv0] at HS0
  have HR0 := Lib.hid ((Below.heap_alloc (w.alloc (.cells #[.int .i64 code, .int .i64 tb, .int .u32 (tg : Int), .int .u32 (ts : Int), .int .u64 (tc : Int), .int .u64 (ver : Int), .string vl, .slice pa pn pcap, .bool more, .slice sa 4 scap, .slice ba bn bcap] 63)) (.cells #[.int .u8 ((IntKind.u8.wrap code))] 5) w.heap.size (by simp)).trans (heap_alloc_new w (.cells #[.int .i64 code, .int .i64 tb, .int .u32 (tg : Int), .int .u32 (ts : Int), .int .u64 (tc : Int), .int .u64 (ver : Int), .string vl, .slice pa pn pcap, .bool more, .slice sa 4 scap, .slice ba bn bcap] 63)))
  have HBA := Lib.hid (((Below.refl w.heap.size w).alloc (Nat.le_refl _) (.cells #[.int .i64 code, .int .i64 tb, .int .u32 (tg : Int), .int .u32 (ts : Int), .int .u64 (tc : Int), .int .u64 (ver : Int), .string vl, .slice pa pn pcap, .bool more, .slice sa 4 scap, .slice ba bn bcap] 63)).alloc (by simp) (.cells #[.int .u8 ((IntKind.u8.wrap code))] 5))
  rw [World.size_alloc] at hv0
  have HT0 := Lib.hid (range_row HR0.out (o := 1) [.int .i64 tb, .int .u32 (tg : Int), .int .u32 (ts : Int), .int .u64 (tc : Int)] (by intro j v hv; rcases j with _ | _ | _ | _ | j <;> simp at hv <;> subst hv <;> rfl))
  go_enter Try.func16, Try.ntmps16
  go_wp2
  go_ret
  rw [HEQ.out]
  have h9 := HS0.out.makes HBA.out rfl
  rw [hv0] at h9
  exact h9
set_option maxRecDepth 100000 in
set_option maxHeartbeats 4000000 in
theorem rEncZ (tb : Int) (tg ts tc ver : Nat) (vl : ByteArray) (page : List CPair) (more : Bool) (ks bs cs : Int) (sq : Nat) (bk : List Int) (pa : Option Addr) (pcap : Nat) (sa : Option Addr) (scap : Nat) (ba : Option Addr) (bcap : Nat) (w : World) (hpg : IsRowOf CPair.cells (fun _ => True) 2 w pa page) (hst : IsRowOf natC (fun _ => True) 1 w sa [u64N ks, u64N bs, u64N cs, sq]) (hbk : IsRowOf intC (fun _ => True) 1 w ba bk) (htg : tg < 4294967296) (hts : ts < 4294967296) (htc : tc < 18446744073709551616) (hver : ver < 18446744073709551616) (hsq : sq < 18446744073709551616) (hvl : vl.size ≤ maxLen) (hpw : ∀ p ∈ page, p.wf) (hpn : page.length ≤ 1000) (hbn : bk.length ≤ 1000) :
    Calls Try.prog 16 #[.agg #[.int .i64 0, .int .i64 tb, .int .u32 (tg : Int), .int .u32 (ts : Int), .int .u64 (tc : Int), .int .u64 (ver : Int), .string vl, .slice pa page.length pcap, .bool more, .slice sa 4 scap, .slice ba bk.length bcap]] w (Makes w (encL ⟨0, tb, tg, ts, tc, ver, vl, page, more, ks, bs, cs, sq, bk⟩)) := by
  have HEQ := Lib.hid (show encL ⟨0, tb, tg, ts, tc, ver, vl, page, more, ks, bs, cs, sq, bk⟩ = [UInt8.ofNat 0] ++ tokL tb tg ts tc ++ putL ver 8 ++ textL vl.data.toList ++ putL page.length 1 ++ pagesL page ++ putL (bitN more) 1 ++ statL (CRes.stats ⟨0, tb, tg, ts, tc, ver, vl, page, more, ks, bs, cs, sq, bk⟩) ++ putL bk.length 1 ++ buckL bk by unfold encL; rw [if_neg (by simp)])
  have HB := Lib.hid (show 0 ≤ 1000000000 ∧ tg < 4294967296 ∧ ts < 4294967296 ∧ tc < 18446744073709551616 ∧ ver < 18446744073709551616 ∧ sq < 18446744073709551616 ∧ vl.size ≤ maxLen ∧ page.length ≤ 1000 ∧ bk.length ≤ 1000 from ⟨by omega, htg, hts, htc, hver, hsq, hvl, hpn, hbn⟩)
  have HPG := Lib.hid hpg
  have HST0 := Lib.hid hst
  have HBK := Lib.hid hbk
  have HPW := Lib.hid hpw
  clear htg hts htc hver hsq hvl hpw hpn hbn hpg hbk hst
  generalize hpp : page.length = pn at HB ⊢
  have HPN := Lib.hid hpp
  generalize hbb : bk.length = bn at HB ⊢
  have HBN := Lib.hid hbb
  clear hpp hbb
  obtain ⟨v0, hv0⟩ : ∃ v, v = Value.slice (some ⟨(w.alloc (.cells #[.int .i64 0, .int .i64 tb, .int .u32 (tg : Int), .int .u32 (ts : Int), .int .u64 (tc : Int), .int .u64 (ver : Int), .string vl, .slice pa pn pcap, .bool more, .slice sa 4 scap, .slice ba bn bcap] 63)).heap.size, 0, none⟩) 1 1 := ⟨_, rfl⟩
  have HS0 := Lib.hid (BS.start (B := w.heap.size) (OwnB.one w.heap.size (w.alloc (.cells #[.int .i64 0, .int .i64 tb, .int .u32 (tg : Int), .int .u32 (ts : Int), .int .u64 (tc : Int), .int .u64 (ver : Int), .string vl, .slice pa pn pcap, .bool more, .slice sa 4 scap, .slice ba bn bcap] 63)) 0 (UInt8.ofNat 0) (by rfl) (by simp)) (by simp; omega))
  rw [← hv0] at HS0
  have HR0 := Lib.hid ((Below.heap_alloc (w.alloc (.cells #[.int .i64 0, .int .i64 tb, .int .u32 (tg : Int), .int .u32 (ts : Int), .int .u64 (tc : Int), .int .u64 (ver : Int), .string vl, .slice pa pn pcap, .bool more, .slice sa 4 scap, .slice ba bn bcap] 63)) (.cells #[.int .u8 (0)] 5) w.heap.size (by simp)).trans (heap_alloc_new w (.cells #[.int .i64 0, .int .i64 tb, .int .u32 (tg : Int), .int .u32 (ts : Int), .int .u64 (tc : Int), .int .u64 (ver : Int), .string vl, .slice pa pn pcap, .bool more, .slice sa 4 scap, .slice ba bn bcap] 63)))
  have HBA := Lib.hid (((Below.refl w.heap.size w).alloc (Nat.le_refl _) (.cells #[.int .i64 0, .int .i64 tb, .int .u32 (tg : Int), .int .u32 (ts : Int), .int .u64 (tc : Int), .int .u64 (ver : Int), .string vl, .slice pa pn pcap, .bool more, .slice sa 4 scap, .slice ba bn bcap] 63)).alloc (by simp) (.cells #[.int .u8 (0)] 5))
  rw [World.size_alloc] at hv0
  have HT0 := Lib.hid (range_row HR0.out (o := 1) [.int .i64 tb, .int .u32 (tg : Int), .int .u32 (ts : Int), .int .u64 (tc : Int)] (by intro j v hv; rcases j with _ | _ | _ | _ | j <;> simp at hv <;> subst hv <;> rfl))
  go_enter Try.func16, Try.ntmps16
  go_wp2_with ((with_reducible refine atLoad ?_); refine wpList_load_mid rfl 29 (.tmp 17) rfl w.heap.size 1 rfl [.int .i64 tb, .int .u32 (tg : Int), .int .u32 (ts : Int), .int .u64 (tc : Int)] _ HT0.out Try.underlying29 rfl tok_size' ?_)
  rw [← hv0]
  clear hv0 HT0
  generalize ((w.alloc (.cells #[.int .i64 0, .int .i64 tb, .int .u32 (tg : Int), .int .u32 (ts : Int), .int .u64 (tc : Int), .int .u64 (ver : Int), .string vl, .slice pa pn pcap, .bool more, .slice sa 4 scap, .slice ba bn bcap] 63)).alloc (.cells #[.int .u8 0] 5)) = W0 at *
  refine (rTok _ _ _ tb tg ts tc _ HS0.out.own HS0.out.le (by have := textL_len9 vl.data.toList; first | omega | (simp; done) | (simp; omega)) HB.out.2.1 HB.out.2.2.1 HB.out.2.2.2.1).mono ?_
  intro e W1 hp
  obtain ⟨v1, rfl, hs⟩ := HS0.out.put hp
  have HS1 := Lib.hid hs
  have HR1 := Lib.hid (HS1.out.row (by decide) HR0.out)
  clear hp hs HS0
  have hcl5 := (cell_of_row W1 w.heap.size 5 _ _ _ HR1.out).trans (show _ = some (.int .u64 (ver : Int)) from rfl)
  go_wp2_with fail
  clear hcl5
  refine (refPut _ _ _ ver 8 _ HS1.out.own HS1.out.le (by have := textL_len9 vl.data.toList; first | omega | (simp; done) | (simp; omega)) HB.out.2.2.2.2.1 (by omega)).mono ?_
  intro e W2 hp
  obtain ⟨v2, rfl, hs⟩ := HS1.out.put hp
  have HS2 := Lib.hid hs
  have HR2 := Lib.hid (HS2.out.row (by decide) HR0.out)
  clear hp hs HS1
  have hcl6 := (cell_of_row W2 w.heap.size 6 _ _ _ HR2.out).trans (show _ = some (.string vl) from rfl)
  go_wp2_with fail
  clear hcl6
  refine (refText _ _ _ vl _ HS2.out.own HS2.out.le (by have := textL_len9 vl.data.toList; first | omega | (simp; done) | (simp; omega)) HB.out.2.2.2.2.2.2.1).mono ?_
  intro e W3 hp
  obtain ⟨v3, rfl, hs⟩ := HS2.out.put hp
  have HS3 := Lib.hid hs
  have HR3 := Lib.hid (HS3.out.row (by decide) HR0.out)
  clear hp hs HS2
  have hcl7 := (cell_of_row W3 w.heap.size 7 _ _ _ HR3.out).trans (show _ = some (.slice pa pn pcap) from rfl)
  go_wp2_with (at_builtin; go_must (refine wpList_append_bytes rfl (.tmp 28) (.tmp 33) 22 rfl w.heap.size _ _ rfl (HS3.out.own.alloc _) _ [UInt8.ofNat pn] rfl (srcB_one W3 _ _ (by first | exact u8_nat pn | simpa using u8_nat pn)) ?c14 ?c24 ?_))
  case c14 => exact Nat.le_trans HS3.out.le (by simp)
  case c24 => have := textL_len9 vl.data.toList; first | omega | (simp; done) | (simp; omega)
  intro v4 W4 ho hg
  have h9 := (HS3.out.alloc _).step ho hg
  have HS4 := Lib.hid (show BS w.heap.size W0 v0 W4 v4 ([UInt8.ofNat 0] ++ tokL tb tg ts tc ++ putL ver 8 ++ textL vl.data.toList ++ [UInt8.ofNat pn]) by first | exact h9 | simpa [List.append_assoc] using h9)
  clear h9
  have HR4 := Lib.hid (HS4.out.row (by decide) HR0.out)
  clear ho hg HS3
  clear hcl7
  obtain ⟨LC, hLC⟩ : ∃ L, L = [UInt8.ofNat 0] ++ tokL tb tg ts tc ++ putL ver 8 ++ textL vl.data.toList ++ [UInt8.ofNat pn] := ⟨_, rfl⟩
  rw [← hLC] at HS4
  have HLC := Lib.hid (show LC.length ≤ 80000 by have := textL_len9 vl.data.toList; rw [hLC]; simp; omega)
  have HEQC := Lib.hid hLC
  clear hLC
  have hcl7 := (cell_of_row W4 w.heap.size 7 _ _ _ HR4.out).trans (show _ = some (.slice pa pn pcap) from rfl)
  go_wp2_with fail
  clear hcl7
  go_loopw [3, 4] (fun o i wr => ∃ k : Nat, k ≤ pn ∧ i = .int .i64 k ∧ Hid (BS w.heap.size W0 v0 wr o (LC ++ pagesL (page.take k)))) (fun _ i _ => pn - (intOf i).toNat)
  case atStart => exact ⟨0, Nat.zero_le _, rfl, by have := HS4; simpa [pagesL] using this⟩
  case round =>
    obtain ⟨k, hk, rfl, HST⟩ := hrel
    clear HS4 HR4
    have HR5 := Lib.hid (HST.out.row (by decide) HR0.out)
    have hcl7 := (cell_of_row wr w.heap.size 7 _ _ _ HR5.out).trans (show _ = some (.slice pa pn pcap) from rfl)
    by_cases hlt : k < pn
    · have hki : (k : Int) < (pn : Int) := by omega
      have hk9 : k < 1000 := by have := HB.out.2.2.2.2.2.2.2.1; omega
      have hkl : k < page.length := by have := HPN.out; omega
      obtain ⟨b, off, rfl, hb, hc, _⟩ := HPG.out k hkl
      have HX := Lib.hid (range_of2 (W := w) hc)
      have HBL := Lib.hid hb
      have HOX := Lib.hid (HPW.out _ (List.getElem_mem hkl))
      have HTK := Lib.hid (show pagesL (page.take (k + 1)) = pagesL (page.take k) ++ pairL page[k] from flat_take pairL page k hkl)
      have HLN := Lib.hid (show (LC ++ pagesL (page.take k)).length ≤ 200000000 by have := HLC.out; have := pagesL_len (page.take k); rw [List.length_append]; rw [List.length_take] at *; omega)
      clear hc hb
      generalize page[k] = x at *
      obtain ⟨xk, xv⟩ := x
      have hx0 : wr.cell? ⟨b, off + k * 2, none⟩ = some (.string xk) := ((HBA.out.trans HST.out.rk.bel).cell (p := ⟨b, off + k * 2 + 0, none⟩) HBL.out).trans (HX.out 0 _ rfl)
      clear hkl
      go_wp2_with fail
      clear hx0 hcl7
      refine (refText _ _ _ xk _ HST.out.own HST.out.le (by have := HLN.out; omega) HOX.out.1).mono ?_
      intro e W6 hp
      obtain ⟨v6, rfl, hs⟩ := HST.out.put hp
      have HS6 := Lib.hid hs
      have HR6 := Lib.hid (HS6.out.row (by decide) HR0.out)
      clear hp hs HST
      have hcl7 := (cell_of_row W6 w.heap.size 7 _ _ _ HR6.out).trans (show _ = some (.slice (some ⟨b, off, none⟩) pn pcap) from rfl)
      have hx1 : W6.cell? ⟨b, off + k * 2 + 1, none⟩ = some (.string xv) := ((HBA.out.trans HS6.out.rk.bel).cell (p := ⟨b, off + k * 2 + 1, none⟩) HBL.out).trans (HX.out 1 _ rfl)
      go_wp2_with fail
      clear hx1 hcl7
      refine (refText _ _ _ xv _ HS6.out.own HS6.out.le (by have := HLN.out; have := textL_len9 xk.data.toList; rw [List.length_append]; omega) HOX.out.2).mono ?_
      intro e W7 hp
      obtain ⟨v7, rfl, hs⟩ := HS6.out.put hp
      have HS7 := Lib.hid hs
      clear hp hs HS6
      go_wp2
      go_roundw
      case rel => exact ⟨k + 1, by omega, by go_num, show BS _ _ _ _ _ _ by
        rw [HTK.out]
        have h9 := HS7.out
        simpa [pairL] using h9⟩
      case measure => simp [intOf]; omega
    · obtain rfl : k = pn := by omega
      have HS8 := Lib.hid (show BS w.heap.size W0 v0 wr u3 (LC ++ pagesL page) by have := HST.out; rwa [List.take_of_length_le (show page.length ≤ k by rw [HPN.out]; exact Nat.le_refl _)] at this)
      clear HST
      obtain ⟨LD, hLD⟩ : ∃ L, L = LC ++ pagesL page := ⟨_, rfl⟩
      rw [← hLD] at HS8
      have HLD := Lib.hid (show LD.length ≤ 200000000 by have := HLC.out; have := pagesL_len page; have := HPN.out; have := HB.out.2.2.2.2.2.2.2.1; rw [hLD, List.length_append]; omega)
      have HEQD := Lib.hid hLD
      clear hLD
      have hcl8 := (cell_of_row wr w.heap.size 8 _ _ _ HR5.out).trans (show _ = some (.bool more) from rfl)
      go_wp2_with fail
      refine (rBit more _).mono ?_
      rintro e Wx ⟨rfl, hq⟩
      rw [hq]
      clear hq Wx
      go_wp2_with (at_builtin; go_must (refine wpList_append_bytes rfl (.tmp 58) (.tmp 62) 22 rfl w.heap.size _ _ rfl (HS8.out.own.alloc _) _ [UInt8.ofNat (bitN more)] rfl (srcB_one wr _ _ (by cases more <;> rfl)) ?c19 ?c29 ?_))
      case c19 => exact Nat.le_trans HS8.out.le (by simp)
      case c29 => have := HLD.out; simp; omega
      intro v9 W9 ho hg
      have h9 := (HS8.out.alloc _).step ho hg
      have HS9 := Lib.hid (show BS w.heap.size W0 v0 W9 v9 (LD ++ [UInt8.ofNat (bitN more)]) by first | exact h9 | simpa [List.append_assoc] using h9)
      clear h9
      have HR9 := Lib.hid (HS9.out.row (by decide) HR0.out)
      clear ho hg HS8
      clear hcl8 hcl7 HR5
      obtain ⟨LE, hLE⟩ : ∃ L, L = LD ++ [UInt8.ofNat (bitN more)] := ⟨_, rfl⟩
      rw [← hLE] at HS9
      have HLE := Lib.hid (show LE.length ≤ 200000001 by have := HLD.out; rw [hLE]; simp; omega)
      have HEQE := Lib.hid hLE
      clear hLE
      obtain ⟨S, hS⟩ : ∃ S : List Nat, S = [u64N ks, u64N bs, u64N cs, sq] := ⟨_, rfl⟩
      have HSB := Lib.hid (show ∀ n ∈ S, n < 18446744073709551616 by rw [hS]; intro n hn; simp at hn; rcases hn with rfl | rfl | rfl | rfl; exact u64N_lt _; exact u64N_lt _; exact u64N_lt _; exact HB.out.2.2.2.2.2.1)
      have HSL := Lib.hid (show S.length = 4 by rw [hS]; rfl)
      rw [← hS] at HST0
      have HSE := Lib.hid hS
      clear hS
      go_wp2_with fail
      go_loopw [3, 5] (fun o i wr => ∃ k : Nat, k ≤ 4 ∧ i = .int .i64 k ∧ Hid (BS w.heap.size W0 v0 wr o (LE ++ statL (S.take k)))) (fun _ i _ => 4 - (intOf i).toNat)
      case atStart => exact ⟨0, Nat.zero_le _, rfl, by have := HS9; simpa [statL] using this⟩
      case round =>
        obtain ⟨k, hk, rfl, HST⟩ := hrel
        clear HS9 HR9
        have HRA := Lib.hid (HST.out.row (by decide) HR0.out)
        by_cases hlt : k < 4
        · have hki : (k : Int) < 4 := by omega
          have hkl : k < S.length := by rw [HSL.out]; exact hlt
          have hcl9 := (cell_of_row wr w.heap.size 9 _ _ _ HRA.out).trans (show _ = some (.slice sa 4 scap) from rfl)
          obtain ⟨b, off, rfl, hb, hc, _⟩ := HST0.out k hkl
          have hx : wr.cell? ⟨b, off + k, none⟩ = some (.int .u64 ((S[k] : Nat) : Int)) := by
            have h9 := ((HBA.out.trans HST.out.rk.bel).cell (p := ⟨b, off + k * 1 + 0, none⟩) hb).trans (hc 0 (by omega))
            rw [Nat.mul_one, Nat.add_zero] at h9
            exact h9
          have HSN := Lib.hid (HSB.out _ (List.getElem_mem hkl))
          have HTK := Lib.hid (show statL (S.take (k + 1)) = statL (S.take k) ++ putL S[k] 8 from flat_take (fun n => putL n 8) S k hkl)
          have HLN := Lib.hid (show (LE ++ statL (S.take k)).length ≤ 200000100 by have := HLE.out; have := statL_len (S.take k); rw [List.length_append]; rw [List.length_take] at *; omega)
          clear hc hb
          generalize S[k] = nk at *
          clear hkl
          go_wp2_with fail
          refine (refPut _ _ _ nk 8 _ HST.out.own HST.out.le (by have := HLN.out; omega) HSN.out (by omega)).mono ?_
          intro e W9 hp
          obtain ⟨v9, rfl, hs⟩ := HST.out.put hp
          have HS9 := Lib.hid hs
          clear hp hs HST hx hcl9 HRA
          go_wp2
          go_roundw
          case rel => exact ⟨k + 1, by omega, by go_num, (show BS _ _ _ _ _ _ by rw [HTK.out, ← List.append_assoc]; exact HS9.out)⟩
          case measure => simp [intOf]; omega
        · obtain rfl : k = 4 := by omega
          have HSB9 := Lib.hid (show BS w.heap.size W0 v0 wr u3 (LE ++ statL S) by have := HST.out; rwa [List.take_of_length_le (show S.length ≤ 4 by rw [HSL.out]; exact Nat.le_refl _)] at this)
          obtain ⟨LF, hLF⟩ : ∃ L, L = LE ++ statL S := ⟨_, rfl⟩
          rw [← hLF] at HSB9
          have HLF := Lib.hid (show LF.length ≤ 200000100 by have := HLE.out; have := statL_len S; have := HSL.out; rw [hLF, List.length_append]; omega)
          have HEQF := Lib.hid hLF
          clear HST hLF
          have hcl10 := (cell_of_row wr w.heap.size 10 _ _ _ HRA.out).trans (show _ = some (.slice ba bn bcap) from rfl)
          go_wp2_with (at_builtin; go_must (refine wpList_append_bytes rfl (.tmp 81) (.tmp 86) 22 rfl w.heap.size _ _ rfl (HSB9.out.own.alloc _) _ [UInt8.ofNat bn] rfl (srcB_one wr _ _ (by first | exact u8_nat bn | simpa using u8_nat bn)) ?c1C ?c2C ?_))
          case c1C => exact Nat.le_trans HSB9.out.le (by simp)
          case c2C => have := HLF.out; simp; omega
          intro vC WC ho hg
          have h9 := (HSB9.out.alloc _).step ho hg
          have HSC := Lib.hid (show BS w.heap.size W0 v0 WC vC (LF ++ [UInt8.ofNat bn]) by first | exact h9 | simpa [List.append_assoc] using h9)
          clear h9
          have HRC := Lib.hid (HSC.out.row (by decide) HR0.out)
          clear ho hg HSB9
          clear hcl10 HRA
          obtain ⟨LG, hLG⟩ : ∃ L, L = LF ++ [UInt8.ofNat bn] := ⟨_, rfl⟩
          rw [← hLG] at HSC
          have HLG := Lib.hid (show LG.length ≤ 200000200 by have := HLF.out; rw [hLG]; simp; omega)
          have HEQG := Lib.hid hLG
          clear hLG
          go_wp2_with fail
          go_loopw [3, 7] (fun o i wr => ∃ k : Nat, k ≤ bn ∧ i = .int .i64 k ∧ Hid (BS w.heap.size W0 v0 wr o (LG ++ buckL (bk.take k)))) (fun _ i _ => bn - (intOf i).toNat)
          case atStart => exact ⟨0, Nat.zero_le _, rfl, by have := HSC; simpa [buckL] using this⟩
          case round =>
            obtain ⟨k, hk, rfl, HST⟩ := hrel
            clear HSC HRC
            have HRD := Lib.hid (HST.out.row (by decide) HR0.out)
            have hcl10 := (cell_of_row wr w.heap.size 10 _ _ _ HRD.out).trans (show _ = some (.slice ba bn bcap) from rfl)
            by_cases hlt : k < bn
            · have hki : (k : Int) < (bn : Int) := by omega
              have hk9 : k < 1000 := by have := HB.out.2.2.2.2.2.2.2.2; omega
              have hkl : k < bk.length := by have := HBN.out; omega
              obtain ⟨b, off, rfl, hb, hc, _⟩ := HBK.out k hkl
              have hx : wr.cell? ⟨b, off + k, none⟩ = some (.int .i64 bk[k]) := by
                have h9 := ((HBA.out.trans HST.out.rk.bel).cell (p := ⟨b, off + k * 1 + 0, none⟩) hb).trans (hc 0 (by omega))
                rw [Nat.mul_one, Nat.add_zero] at h9
                exact h9
              have HTK := Lib.hid (show buckL (bk.take (k + 1)) = buckL (bk.take k) ++ putL (u64N bk[k]) 1 from flat_take (fun n => putL (u64N n) 1) bk k hkl)
              have HLN := Lib.hid (show (LG ++ buckL (bk.take k)).length ≤ 200002000 by have := HLG.out; rw [List.length_append, buckL_len, List.length_take]; omega)
              clear hc hb
              generalize bk[k] = nk at *
              clear hkl
              go_wp2_with (at_builtin; go_must (refine wpList_append_bytes rfl (.tmp 95) (.tmp 102) 22 rfl w.heap.size _ _ rfl (HST.out.own.alloc _) _ [UInt8.ofNat (u64N nk)] rfl (srcB_one wr _ _ (by first | exact u8_u64N nk | simpa using u8_u64N nk)) ?ce1 ?ce2 ?_))
              case ce1 => exact Nat.le_trans HST.out.le (by simp)
              case ce2 => have := HLN.out; simp only [List.length_append] at this; simp; omega
              intro vE WE ho hg
              have HSE9 := Lib.hid ((HST.out.alloc _).step ho hg)
              clear ho hg HST hx hcl10 HRD
              go_wp2
              go_roundw
              case rel => exact ⟨k + 1, by omega, by go_num, (show BS _ _ _ _ _ _ by
                rw [HTK.out, putL_one]
                have h9 := HSE9.out
                first | exact h9 | simpa using h9)⟩
              case measure => simp [intOf]; omega
            · obtain rfl : k = bn := by omega
              have HSD := Lib.hid (show BS w.heap.size W0 v0 wr u3 (LG ++ buckL bk) by have := HST.out; rwa [List.take_of_length_le (show bk.length ≤ k by rw [HBN.out]; exact Nat.le_refl _)] at this)
              clear HST
              go_wp2
              go_ret
              rw [HEQ.out]
              refine HSD.out.makes HBA.out ?_
              rw [HEQG.out, HEQF.out, HEQE.out, HEQD.out, HEQC.out, HSE.out, HPN.out, HBN.out]
              simp [CRes.stats, putL_one]
end Go.Proofs.Ytlngefhjoobmdaa
namespace Go.Proofs.Ytlngefhjoobmdaa
open Go.RowKit
/-- A response as the document's that lies. -/
theorem cEncode (r : CRes) (p b : Value) (w : World) (h : ResIn w r p b) (hp : r.page.length ≤ 1000) (hb : r.bk.length ≤ 1000) : Calls Try.prog 15 #[.agg (r.cells p b)] w (Makes w (encL r)) := by
  obtain ⟨code, tb, tg, ts, tc, ver, vl, page, more, ks, bs, cs, sq, bk⟩ := r
  obtain ⟨⟨pa, pcap, rfl, h1⟩, ⟨ba, bcap, rfl, h2⟩, k1, k2, k3, k4, k5, k6, k7⟩ := h
  simp only at *
  by_cases hc : code = 0
  · subst hc
    exact cEncZ tb tg ts tc ver vl page more ks bs cs sq bk pa pcap ba bcap w h1 h2 k1 k2 k3 k4 k5 k6 k7 hp hb
  · exact cEncN code tb tg ts tc ver vl page more ks bs cs sq bk pa pcap ba bcap w h1 h2 k1 k2 k3 k4 k5 k6 k7 hp hb hc
theorem rEncode (r : CRes) (p s b : Value) (w : World) (h : ResIn w r p b) (hs : ∃ a cap, s = .slice a 4 cap ∧ IsRowOf natC (fun _ => True) 1 w a r.stats) (hp : r.page.length ≤ 1000) (hb : r.bk.length ≤ 1000) : Calls Try.prog 16 #[.agg (r.rcells p s b)] w (Makes w (encL r)) := by
  obtain ⟨code, tb, tg, ts, tc, ver, vl, page, more, ks, bs, cs, sq, bk⟩ := r
  obtain ⟨⟨pa, pcap, rfl, h1⟩, ⟨ba, bcap, rfl, h2⟩, k1, k2, k3, k4, k5, k6, k7⟩ := h
  obtain ⟨sa, scap, rfl, h3⟩ := hs
  simp only at *
  by_cases hc : code = 0
  · subst hc
    exact rEncZ tb tg ts tc ver vl page more ks bs cs sq bk pa pcap sa scap ba bcap w h1 h3 h2 k1 k2 k3 k4 k5 k6 k7 hp hb
  · exact rEncN code tb tg ts tc ver vl page more ks bs cs sq bk pa pcap sa scap ba bcap w h1 h3 h2 k1 k2 k3 k4 k5 k6 k7 hp hb hc
end Go.Proofs.Ytlngefhjoobmdaa
namespace Go.Proofs.Ytlngefhjoobmdaa.Reg
open Go
def chainJ (i j : Nat) (P0 : World → Prop) (P1 : Value → World → Prop) (P2 : World → Prop) : Env → (Nat → Bool) → World → Prop := fun e L w => (L i = false → L j = false → P0 w) ∧ (L i = true → L j = false → P1 (e i) w) ∧ (L j = true → P2 w)
section
variable {P : Program} {ops : Array Oper} {R : World → World → Prop} {w0 : World} {Q : Exit → Act → World → Prop} {i j : Nat} {P0 P2 : World → Prop} {P1 : Value → World → Prop}
theorem chainJ_other {e : Env} {L : Nat → Bool} {w : World} {k : Nat} (v : Value) (hi : i ≠ k) (hj : j ≠ k) (h : chainJ i j P0 P1 P2 e L w) : chainJ i j P0 P1 P2 (setE e k v) (upd L k) w := by
  unfold chainJ at *
  have h1 : (i == k) = false := by simpa using hi
  have h2 : (j == k) = false := by simpa using hj
  simp only [upd, h1, h2, Bool.false_or, setE, if_neg hi]
  exact h
theorem chainJ_upd {e : Env} {L : Nat → Bool} {w : World} {k : Nat} (hi : i ≠ k) (hj : j ≠ k) (h : chainJ i j P0 P1 P2 e L w) : chainJ i j P0 P1 P2 e (upd L k) w := by
  unfold chainJ at *
  have h1 : (i == k) = false := by simpa using hi
  have h2 : (j == k) = false := by simpa using hj
  simp only [upd, h1, h2, Bool.false_or]
  exact h
theorem segC {fs : List (Nat × (Env → World → Prop))} (n : Nat) {l : List Oper} {k : Nat} {A : Env → Act} (hp : (l.take n).all plainB = true) (hn : (l.take n).length = n) (hij : ((decide (i < k) || decide (k + n ≤ i)) && (decide (j < k) || decide (k + n ≤ j))) = true)
    (h : ∃ A', (∀ e, wpQuiet P ops (fun w => R w0 w) (fun a' => a' = A' e) (l.take n) (A e)) ∧ Steps P ops R (chainJ i j P0 P1 P2) w0 Q (l.drop n) (k + n) A' fs) : Steps P ops R (chainJ i j P0 P1 P2) w0 Q l k A fs := by
  obtain ⟨A', h, hs⟩ := h
  simp only [Bool.and_eq_true, Bool.or_eq_true, decide_eq_true_eq] at hij
  have := steps_seg (P := P) (ops := ops) (R := R) (J := chainJ i j P0 P1 P2) (w0 := w0) (Q := Q) (rest := l.drop n) (A' := A') (fs := fs) (l.take n) k A (by rw [hn]; exact fun q h1 h2 e L w hj => chainJ_upd (by omega) (by omega) hj) hp h (by rw [hn]; exact hs)
  rw [List.take_append_drop] at this
  exact this
/-- It leaves the world alone. -/
theorem stillC {o : Oper} {rest : List Oper} {k : Nat} {A : Env → Act} {fs : List (Nat × (Env → World → Prop))} (c : Value) (hrefl : ∀ w, R w w) (hij : (i != k && j != k) = true)
    (h : ∀ e w, R w0 w → factsAt o fs e w → Region.wanted o (yielded ops (A e).tmps) = true ∧ gives P o (A e) w (fun v w' => w' = w ∧ v = c))
    (hs : Steps P ops R (chainJ i j P0 P1 P2) w0 Q rest (k + 1) (fun e => (A e).put o.dst c) fs) : Steps P ops R (chainJ i j P0 P1 P2) w0 Q (o :: rest) k A fs := by
  simp only [Bool.and_eq_true, bne_iff_ne] at hij
  exact steps_const c (fun e w L _ hR hJ hf => ⟨(h e w hR hf).1, gives_mono (fun v w' hh => by
    obtain ⟨rfl, hc⟩ := hh
    exact ⟨hrefl _, chainJ_other v hij.1 hij.2 hJ, hc⟩) (h e w hR hf).2⟩) hs
/-- A read ahead of the one. -/
theorem readC {o : Oper} {rest : List Oper} {k : Nat} {A : Env → Act} {fs : List (Nat × (Env → World → Prop))} (c : Value) (hrefl : ∀ w, R w w) (hij : (i != k && j != k) = true) (hd : (depT ops ops.size i k && depT ops ops.size j k) = true)
    (h : ∀ e w, R w0 w → P0 w → Region.wanted o (yielded ops (A e).tmps) = true ∧ gives P o (A e) w (fun v w' => w' = w ∧ v = c))
    (hs : Steps P ops R (chainJ i j P0 P1 P2) w0 Q rest (k + 1) (fun e => (A e).put o.dst c) fs) : Steps P ops R (chainJ i j P0 P1 P2) w0 Q (o :: rest) k A fs := by
  simp only [Bool.and_eq_true, bne_iff_ne] at hij hd
  exact steps_const c (fun e w L hN hR hJ _ => ⟨(h e w hR (hJ.1 (hN.2.2 i hd.1) (hN.2.2 j hd.2))).1, gives_mono (fun v w' hh => by
    obtain ⟨rfl, hc⟩ := hh
    exact ⟨hrefl _, chainJ_other v hij.1 hij.2 hJ, hc⟩) (h e w hR (hJ.1 (hN.2.2 i hd.1) (hN.2.2 j hd.2))).2⟩) hs
/-- Ahead of the one: it may make blocks; a fact that stays is known of its value. -/
theorem makeC {o : Oper} {rest : List Oper} {k : Nat} {A : Env → Act} {fs : List (Nat × (Env → World → Prop))} (Φ : Value → World → Prop) (hst : ∀ v w w', Φ v w → R w w' → Φ v w') (hij : (i != k && j != k) = true) (hd : (depT ops ops.size i k && depT ops ops.size j k) = true)
    (h : ∀ e w, R w0 w → P0 w → factsAt o fs e w → Region.wanted o (yielded ops (A e).tmps) = true ∧ gives P o (A e) w (fun v w' => R w w' ∧ P0 w' ∧ Φ v w'))
    (hs : Steps P ops R (chainJ i j P0 P1 P2) w0 Q rest (k + 1) (fun e => (A e).put o.dst (e k)) ((k, fun e w => Φ (e k) w) :: fs)) : Steps P ops R (chainJ i j P0 P1 P2) w0 Q (o :: rest) k A fs := by
  simp only [Bool.and_eq_true, bne_iff_ne] at hij hd
  have key : ∀ (L : Nat → Bool), Now ops k L → L i = false ∧ L j = false := fun L hN => ⟨hN.2.2 i hd.1, hN.2.2 j hd.2⟩
  refine steps_fact Φ hst (fun e w L hN hR hJ hf => ?_) hs
  have hL := key L hN
  have h1 := h e w hR (hJ.1 hL.1 hL.2) hf
  refine ⟨h1.1, gives_mono (fun v w' hh => ⟨hh.1, ⟨fun _ _ => hh.2.1, fun h2 => ?_, fun h2 => ?_⟩, hh.2.2⟩) h1.2⟩
  · have e1 : (i == k) = false := by simpa using hij.1
    simp [upd, e1, hL.1] at h2
  · have e1 : (j == k) = false := by simpa using hij.2
    simp [upd, e1, hL.2] at h2
/-- The one. -/
theorem callC {o : Oper} {rest : List Oper} {A : Env → Act} {fs : List (Nat × (Env → World → Prop))} (hij : (i != j && depT ops ops.size j i) = true)
    (h : ∀ e w, R w0 w → P0 w → factsAt o fs e w → Region.wanted o (yielded ops (A e).tmps) = true ∧ gives P o (A e) w (fun v w' => R w w' ∧ P1 v w'))
    (hs : Steps P ops R (chainJ i j P0 P1 P2) w0 Q rest (i + 1) (fun e => (A e).put o.dst (e i)) fs) : Steps P ops R (chainJ i j P0 P1 P2) w0 Q (o :: rest) i A fs := by
  simp only [Bool.and_eq_true, bne_iff_ne] at hij
  refine steps_fact (fun _ _ => True) (fun _ _ _ _ _ => trivial) (fun e w L hN hR hJ hf => ?_) (steps_weaken _ _ _ fs _ (fun _ _ _ hf => hf.2) (fun _ _ hf => hf.2) hs)
  have hj := hN.2.2 j hij.2
  have h1 := h e w hR (hJ.1 hN.1 hj) hf
  refine ⟨h1.1, gives_mono (fun v w' hh => ⟨hh.1, ⟨fun h2 => ?_, fun _ _ => ?_, fun h2 => ?_⟩, trivial⟩) h1.2⟩
  · simp [upd] at h2
  · simp only [setE, if_pos]; exact hh.2
  · have e1 : (j == i) = false := by simpa using hij.1.symm
    simp [upd, e1, hj] at h2
/-- The store. -/
theorem storeC {o : Oper} {rest : List Oper} {A : Env → Act} {fs : List (Nat × (Env → World → Prop))} (hij : (j != i && depT ops ops.size j i) = true)
    (h : ∀ e w, R w0 w → P1 (e i) w → factsAt o fs e w → Region.wanted o (yielded ops (A e).tmps) = true ∧ gives P o (A e) w (fun v w' => R w w' ∧ P2 w' ∧ v = undef))
    (hs : Steps P ops R (chainJ i j P0 P1 P2) w0 Q rest (j + 1) (fun e => (A e).put o.dst undef) fs) : Steps P ops R (chainJ i j P0 P1 P2) w0 Q (o :: rest) j A fs := by
  simp only [Bool.and_eq_true, bne_iff_ne] at hij
  refine steps_const undef (fun e w L hN hR hJ hf => ?_) hs
  have hi := hN.2.1 i hij.2
  have h1 := h e w hR (hJ.2.1 hi hN.1) hf
  refine ⟨h1.1, gives_mono (fun v w' hh => ⟨hh.1, ⟨fun _ h2 => ?_, fun _ h2 => ?_, fun _ => hh.2.1⟩, hh.2.2⟩) h1.2⟩
  · simp [upd] at h2
  · simp [upd] at h2
theorem wp_regionC {id : Nat} {l : List Oper} {a : Act} {w : World} (R : World → World → Prop) (hrefl : ∀ w, R w w) (htr : ∀ a b c, R a b → R b c → R a c) (i j : Nat) (P0 : World → Prop) (P1 : Value → World → Prop) (P2 : World → Prop) (hm : P.follows .mixedOrders = true) (hB : regB l = true) (hp : P0 w.drew)
    (h : Steps P l.toArray R (chainJ i j P0 P1 P2) w.drew Q l 0 (fun _ => a) []) : (Code.region id l.toArray true).wp P Q a w :=
  wp_region_facts R (chainJ i j P0 P1 P2) hm hB (hrefl _) htr (fun _ => ⟨fun _ _ => hp, fun h => (by cases h), fun h => (by cases h)⟩) h
end
end Go.Proofs.Ytlngefhjoobmdaa.Reg
namespace Go.Proofs.Ytlngefhjoobmdaa
open Go.RowKit
theorem rpair_info : (Try.prog.info? 101).map (fun i => (i.zero, i.size, i.bytes)) = some (some (.agg #[.string ByteArray.empty, .string ByteArray.empty]), 2, 32) := by kernel_rfl
theorem pair_one (x : CPair) : ∀ u ∈ x.cells, u.oneCell' = true := by
  intro u hu
  simp [CPair.cells] at hu
  rcases hu with rfl | rfl <;> rfl
theorem rres_size : (Try.prog.info? 63).map (·.size) = some 11 := by kernel_rfl
theorem spair_size : (Try.prog.info? 60).map (·.size) = some 1 := by kernel_rfl
theorem gives_store {o : Oper} {a : Act} {w w' : World} (ty : TypeId) (x y : Operand) (ho : o.op = .store ty x y) (p v : Value) (hx : a.eval x = p) (hy : a.eval y = v) (hr : (Instr.storeAt ty p v).run Try.prog w = .ok () w') : Reg.gives Try.prog o a w (fun v' w2 => v' = undef ∧ w2 = w') := by
  unfold Reg.gives execOp
  simp only [ho, hx, hy, Sem.run_bind, hr, Result.andThen_ok, Sem.run_pure]
  exact ⟨trivial, trivial⟩
def zeroRes : Array Value := #[.int .i64 0, .int .i64 0, .int .u32 0, .int .u32 0, .int .u64 0, .int .u64 0, .string { data := #[] }, .slice none 0 0, .bool false, .slice none 0 0, .slice none 0 0]
theorem row_cell {W : World} {g : Nat} {C : Array Value} {T : TypeId} (hg : W.heap[g]? = some (.cells C T (0, 0))) (j : Nat) {v : Value} (hv : C[j]? = some v) : W.cell? ⟨g, j, none⟩ = some v := (cell_of_row W g j _ _ _ hg).trans hv
/-- The walk's state: the boxes; x is the row of pairs, v what the box holds. -/
structure TS (C0 : Array Value) (F : Value → Array Value) (S : Array Value) (w W : World) (v x : Value) (l : List CPair) : Prop where
  b0 : W.heap[w.heap.size]? = some (.cells C0 49 (0, 0))
  b1 : W.heap[w.heap.size + 1]? = some (.cells zeroRes 63 (0, 0))
  b2 : W.heap[w.heap.size + 2]? = some (.cells S 24 (0, 0))
  b3 : W.heap[w.heap.size + 3]? = some (.cells (F v) 63 (0, 0))
  own : OwnOf 101 CPair.cells 2 (w.heap.size + 4) W x l
  bel : Below w.heap.size w W
  sz : w.heap.size + 4 ≤ W.heap.size
structure KB (b3 : Nat) (v : Value) (w w' : World) : Prop where
  size : w.heap.size ≤ w'.heap.size
  block : ∀ k, k < w.heap.size → k ≠ b3 → v.ownBlock ≠ some k → w'.heap[k]? = w.heap[k]?
theorem KB.refl (b3 : Nat) (v : Value) (w : World) : KB b3 v w w := ⟨Nat.le_refl _, fun _ _ _ _ => rfl⟩
theorem KB.trans {b3 : Nat} {v : Value} {a b c : World} (h : KB b3 v a b) (k : KB b3 v b c) : KB b3 v a c := ⟨Nat.le_trans h.size k.size, fun i h1 h2 h3 => (k.block i (Nat.lt_of_lt_of_le h1 h.size) h2 h3).trans (h.block i h1 h2 h3)⟩
theorem KB.below {b3 : Nat} {v : Value} {w w' : World} (h : Below w.heap.size w w') : KB b3 v w w' := ⟨h.size, fun k hk _ _ => h.block k hk⟩
section
variable {C0 : Array Value} {F : Value → Array Value} {S : Array Value} {w W W' : World} {v x x' : Value} {l l' : List CPair}
theorem TS.bel' (h : TS C0 F S w W v x l) (hb : Below W.heap.size W W') : TS C0 F S w W' v x l := by
  have h1 := h.sz
  exact ⟨(hb.block _ (by omega)).trans h.b0, (hb.block _ (by omega)).trans h.b1, (hb.block _ (by omega)).trans h.b2, (hb.block _ (by omega)).trans h.b3, h.own.bel hb, h.bel.trans (hb.mono (by omega)), Nat.le_trans h1 hb.size⟩
theorem TS.grow (h : TS C0 F S w W v x l) (hg : Grew W W' x x') (ho : OwnOf 101 CPair.cells 2 (w.heap.size + 4) W' x' l') : TS C0 F S w W' v x' l' := by
  have h1 := h.sz
  have hk : ∀ k, k < w.heap.size + 4 → W'.heap[k]? = W.heap[k]? := fun k hk => hg.1.block k (by omega) (fun e => by have := (h.own.block k e.symm).1; omega)
  have hb : Below (w.heap.size + 4) W W' := hg.below h1 (fun k hk => (h.own.block k hk).1)
  exact ⟨(hk _ (by omega)).trans h.b0, (hk _ (by omega)).trans h.b1, (hk _ (by omega)).trans h.b2, (hk _ (by omega)).trans h.b3, ho, h.bel.trans (hb.mono (by omega)), Nat.le_trans h1 hb.size⟩
theorem TS.set (h : TS C0 F S w W v x l) : TS C0 F S w (W.setRow (w.heap.size + 3) (F x)) x x l := by
  have h1 := h.sz
  have hb := h.bel
  exact ⟨(setRow_other _ _ _ _ (by omega)).trans h.b0, (setRow_other _ _ _ _ (by omega)).trans h.b1, (setRow_other _ _ _ _ (by omega)).trans h.b2, setRow_heap _ _ _ _ _ _ h.b3, h.own.kept fun k hk => setRow_other _ _ _ _ (by have := (h.own.block k hk).1; omega), ⟨hb.os, hb.tape, hb.output, by simpa [World.setRow] using hb.size, fun k hk => (setRow_other _ _ _ _ (by omega)).trans (hb.block k hk)⟩, by simpa [World.setRow] using h1⟩
/-- A row that came in lies still. -/
theorem KB.cellAt {b3 : Nat} (h : KB b3 x W W') (hs : TS C0 F S w W v x l) (h3 : b3 = w.heap.size + 3) {b o : Nat} {u : Value} (hb : b < w.heap.size) (hc : w.cell? ⟨b, o, none⟩ = some u) : W'.cell? ⟨b, o, none⟩ = some u := by
  have h1 := hs.sz
  rw [World.cell?_of_block (h.block b (by omega) (by omega) (fun e => by have := (hs.own.block b e).1; omega))]
  exact (hs.bel.cell (p := ⟨b, o, none⟩) hb).trans hc
theorem KB.b0At {b3 : Nat} (h : KB b3 x W W') (hs : TS C0 F S w W v x l) (h3 : b3 = w.heap.size + 3) : W'.heap[w.heap.size]? = some (.cells C0 49 (0, 0)) := by
  have h1 := hs.sz
  exact (h.block _ (by omega) (by omega) (fun e => by have := (hs.own.block _ e).1; omega)).trans hs.b0
end
/-- A response in the document's struct. -/
def ToldOk (r : CRes) (b : Value) (w : World) (e : Ending) (W : World) : Prop := (∃ p s, e = .returned (.agg (r.rcells p s b)) ∧ OwnOf 101 CPair.cells 2 w.heap.size W p r.page ∧ ∃ g, s = .slice (some ⟨g, 0, none⟩) 4 4 ∧ g < W.heap.size ∧ IsRowOf natC (fun _ => True) 1 W (some ⟨g, 0, none⟩) r.stats) ∧ Below w.heap.size w W
theorem stats_row {W : World} {g : Nat} {ks bs cs : Int} {sq : Nat} (hg : W.heap[g]? = some (.cells #[.int .u64 (u64N ks : Int), .int .u64 (u64N bs : Int), .int .u64 (u64N cs : Int), .int .u64 (sq : Int)] 24 (0, 0))) : IsRowOf natC (fun _ => True) 1 W (some ⟨g, 0, none⟩) [u64N ks, u64N bs, u64N cs, sq] := by
  intro i hi
  refine ⟨g, 0, rfl, (Array.getElem?_eq_some_iff.1 hg).1, fun j hj => ?_, trivial⟩
  obtain rfl : j = 0 := by omega
  rw [cell_of_row W g _ _ _ _ hg, Nat.zero_add, Nat.mul_one, Nat.add_zero]
  rcases i with _ | _ | _ | _ | i
  · rfl
  · rfl
  · rfl
  · rfl
  · simp at hi; omega
set_option maxRecDepth 100000 in
set_option maxHeartbeats 4000000 in
theorem lawTold0 (code tb : Int) (tg ts tc ver : Nat) (vl : ByteArray) (page : List CPair) (more : Bool) (ks bs cs : Int) (sq : Nat) (pa : Option Addr) (pcap : Nat) (ba : Option Addr) (bn bcap : Nat) (bk : List Int) (w : World) (hpg : IsRowOf CPair.cells (fun _ => True) 2 w pa page) (hpn : page.length ≤ 1000) (_hbn : bk.length = bn) :
    Calls Try.prog 17 #[.agg #[.int .i64 code, .int .i64 tb, .int .u32 (tg : Int), .int .u32 (ts : Int), .int .u64 (tc : Int), .int .u64 (ver : Int), .string vl, .slice pa page.length pcap, .bool more, .int .i64 ks, .int .i64 bs, .int .i64 cs, .int .u64 (sq : Int), .slice ba bn bcap]] w (ToldOk ⟨code, tb, tg, ts, tc, ver, vl, page, more, ks, bs, cs, sq, bk⟩ (.slice ba bn bcap) w) := by
  have HROW := Lib.hid hpg
  have HL := Lib.hid hpn
  generalize hnn : page.length = pn at *
  have HNN := Lib.hid hnn
  have hwk := wrap_u64N ks
  have hwb := wrap_u64N bs
  have hwc := wrap_u64N cs
  obtain ⟨F, hF⟩ : ∃ F : Value → Array Value, F = fun v => #[.int .i64 code, .int .i64 tb, .int .u32 (tg : Int), .int .u32 (ts : Int), .int .u64 (tc : Int), .int .u64 (ver : Int), .string vl, v, .bool more, .slice (some ⟨w.heap.size + 2, 0, none⟩) 4 4, .slice ba bn bcap] := ⟨_, rfl⟩
  have HF := Lib.hid (fun v => congrFun hF v)
  have HSTART := Lib.hid (show TS #[.int .i64 code, .int .i64 tb, .int .u32 (tg : Int), .int .u32 (ts : Int), .int .u64 (tc : Int), .int .u64 (ver : Int), .string vl, .slice pa pn pcap, .bool more, .int .i64 ks, .int .i64 bs, .int .i64 cs, .int .u64 (sq : Int), .slice ba bn bcap] F #[.int .u64 (u64N ks : Int), .int .u64 (u64N bs : Int), .int .u64 (u64N cs : Int), .int .u64 (sq : Int)] w ((((w.alloc (.cells #[.int .i64 code, .int .i64 tb, .int .u32 (tg : Int), .int .u32 (ts : Int), .int .u64 (tc : Int), .int .u64 (ver : Int), .string vl, .slice pa pn pcap, .bool more, .int .i64 ks, .int .i64 bs, .int .i64 cs, .int .u64 (sq : Int), .slice ba bn bcap] 49)).alloc (.cells #[.int .i64 0, .int .i64 0, .int .u32 0, .int .u32 0, .int .u64 0, .int .u64 0, .string { data := #[] }, .slice none 0 0, .bool false, .slice none 0 0, .slice none 0 0] 63)).alloc (.cells #[.int .u64 (u64N ks : Int), .int .u64 (u64N bs : Int), .int .u64 (u64N cs : Int), .int .u64 (sq : Int)] 24)).alloc (.cells #[.int .i64 code, .int .i64 tb, .int .u32 (tg : Int), .int .u32 (ts : Int), .int .u64 (tc : Int), .int .u64 (ver : Int), .string vl, .slice none 0 0, .bool more, .slice (some ⟨w.heap.size + 2, 0, none⟩) 4 4, .slice ba bn bcap] 63)) nilS nilS [] from by
    have h0 := heap_alloc_new w (.cells #[.int .i64 code, .int .i64 tb, .int .u32 (tg : Int), .int .u32 (ts : Int), .int .u64 (tc : Int), .int .u64 (ver : Int), .string vl, .slice pa pn pcap, .bool more, .int .i64 ks, .int .i64 bs, .int .i64 cs, .int .u64 (sq : Int), .slice ba bn bcap] 49)
    obtain ⟨w1, hw1⟩ : ∃ w1, w1 = w.alloc (.cells #[.int .i64 code, .int .i64 tb, .int .u32 (tg : Int), .int .u32 (ts : Int), .int .u64 (tc : Int), .int .u64 (ver : Int), .string vl, .slice pa pn pcap, .bool more, .int .i64 ks, .int .i64 bs, .int .i64 cs, .int .u64 (sq : Int), .slice ba bn bcap] 49) := ⟨_, rfl⟩
    have s1 : w1.heap.size = w.heap.size + 1 := by rw [hw1]; simp
    have e1 : Below w.heap.size w w1 := by rw [hw1]; exact (Below.refl _ _).alloc (Nat.le_refl _) _
    rw [← hw1] at h0 ⊢
    have h1 := heap_alloc_new w1 (.cells #[.int .i64 0, .int .i64 0, .int .u32 0, .int .u32 0, .int .u64 0, .int .u64 0, .string { data := #[] }, .slice none 0 0, .bool false, .slice none 0 0, .slice none 0 0] 63)
    have e2 := (Below.refl w1.heap.size w1).alloc (Nat.le_refl _) (.cells #[.int .i64 0, .int .i64 0, .int .u32 0, .int .u32 0, .int .u64 0, .int .u64 0, .string { data := #[] }, .slice none 0 0, .bool false, .slice none 0 0, .slice none 0 0] 63)
    obtain ⟨w2, hw2⟩ : ∃ w2, w2 = w1.alloc (.cells #[.int .i64 0, .int .i64 0, .int .u32 0, .int .u32 0, .int .u64 0, .int .u64 0, .string { data := #[] }, .slice none 0 0, .bool false, .slice none 0 0, .slice none 0 0] 63) := ⟨_, rfl⟩
    have s2 : w2.heap.size = w.heap.size + 2 := by rw [hw2, World.size_alloc, s1]
    rw [s1] at h1
    rw [← hw2] at h1 e2 ⊢
    have h2 := heap_alloc_new w2 (.cells #[.int .u64 (u64N ks : Int), .int .u64 (u64N bs : Int), .int .u64 (u64N cs : Int), .int .u64 (sq : Int)] 24)
    have e3 := (Below.refl w2.heap.size w2).alloc (Nat.le_refl _) (.cells #[.int .u64 (u64N ks : Int), .int .u64 (u64N bs : Int), .int .u64 (u64N cs : Int), .int .u64 (sq : Int)] 24)
    obtain ⟨w3, hw3⟩ : ∃ w3, w3 = w2.alloc (.cells #[.int .u64 (u64N ks : Int), .int .u64 (u64N bs : Int), .int .u64 (u64N cs : Int), .int .u64 (sq : Int)] 24) := ⟨_, rfl⟩
    have s3 : w3.heap.size = w.heap.size + 3 := by rw [hw3, World.size_alloc, s2]
    rw [s2] at h2
    rw [← hw3] at h2 e3 ⊢
    have h3 := heap_alloc_new w3 (.cells #[.int .i64 code, .int .i64 tb, .int .u32 (tg : Int), .int .u32 (ts : Int), .int .u64 (tc : Int), .int .u64 (ver : Int), .string vl, .slice none 0 0, .bool more, .slice (some ⟨w.heap.size + 2, 0, none⟩) 4 4, .slice ba bn bcap] 63)
    have e4 := (Below.refl w3.heap.size w3).alloc (Nat.le_refl _) (.cells #[.int .i64 code, .int .i64 tb, .int .u32 (tg : Int), .int .u32 (ts : Int), .int .u64 (tc : Int), .int .u64 (ver : Int), .string vl, .slice none 0 0, .bool more, .slice (some ⟨w.heap.size + 2, 0, none⟩) 4 4, .slice ba bn bcap] 63)
    rw [s3] at h3
    exact ⟨(e4.block _ (by omega)).trans ((e3.block _ (by omega)).trans ((e2.block _ (by omega)).trans h0)), (e4.block _ (by omega)).trans ((e3.block _ (by omega)).trans h1), (e4.block _ (by omega)).trans h2, by rw [hF]; exact h3, OwnOf.nil _ _, e1.trans ((e2.trans ((e3.trans (e4.mono (by omega))).mono (by omega))).mono (by omega)), by rw [World.size_alloc]; omega⟩)
  clear hnn hpg hpn hF
  go_enter Try.func17, Try.ntmps17
  go_wp2_with fail
  generalize ((((w.alloc (.cells #[.int .i64 code, .int .i64 tb, .int .u32 (tg : Int), .int .u32 (ts : Int), .int .u64 (tc : Int), .int .u64 (ver : Int), .string vl, .slice pa pn pcap, .bool more, .int .i64 ks, .int .i64 bs, .int .i64 cs, .int .u64 (sq : Int), .slice ba bn bcap] 49)).alloc (.cells #[.int .i64 0, .int .i64 0, .int .u32 0, .int .u32 0, .int .u64 0, .int .u64 0, .string { data := #[] }, .slice none 0 0, .bool false, .slice none 0 0, .slice none 0 0] 63)).alloc (.cells #[.int .u64 (u64N ks : Int), .int .u64 (u64N bs : Int), .int .u64 (u64N cs : Int), .int .u64 (sq : Int)] 24)).alloc (.cells #[.int .i64 code, .int .i64 tb, .int .u32 (tg : Int), .int .u32 (ts : Int), .int .u64 (tc : Int), .int .u64 (ver : Int), .string vl, .slice none 0 0, .bool more, .slice (some ⟨w.heap.size + 2, 0, none⟩) 4 4, .slice ba bn bcap] 63)) = W0 at *
  go_loopw [4] (fun i wr => ∃ (k : Nat) (v : Value), k ≤ pn ∧ i = .int .i64 k ∧ Hid (TS #[.int .i64 code, .int .i64 tb, .int .u32 (tg : Int), .int .u32 (ts : Int), .int .u64 (tc : Int), .int .u64 (ver : Int), .string vl, .slice pa pn pcap, .bool more, .int .i64 ks, .int .i64 bs, .int .i64 cs, .int .u64 (sq : Int), .slice ba bn bcap] F #[.int .u64 (u64N ks : Int), .int .u64 (u64N bs : Int), .int .u64 (u64N cs : Int), .int .u64 (sq : Int)] w wr v v (page.take k))) (fun i _ => pn - (intOf i).toNat)
  case atStart => exact ⟨0, nilS, Nat.zero_le _, rfl, HSTART⟩
  case round =>
    obtain ⟨k, v, hk, rfl, HST⟩ := hrel
    clear HSTART
    have c0 := row_cell HST.out.b0 7 (v := .slice pa pn pcap) rfl
    by_cases hlt : k < pn
    · have hki : (k : Int) < (pn : Int) := by omega
      have hkl : k < page.length := by have := HNN.out; omega
      have hk9 : k < 1000 := by have := HL.out; omega
      obtain ⟨b, off, rfl, hb, hc, _⟩ := HROW.out k hkl
      have HTK := Lib.hid (show page.take (k + 1) = page.take k ++ [page[k]] from List.take_succ_eq_append_getElem hkl)
      have HKL := Lib.hid (show (page.take k).length = k by rw [List.length_take]; omega)
      have HX0 := Lib.hid (show w.cell? ⟨b, off + k * 2, none⟩ = some (.string page[k].key) from hc 0 (by omega))
      have HX1 := Lib.hid (show w.cell? ⟨b, off + k * 2 + 1, none⟩ = some (.string page[k].val) from hc 1 (by omega))
      have HBL := Lib.hid hb
      clear hc hb
      generalize page[k] = x at *
      obtain ⟨xk, xv⟩ := x
      simp only at HX0 HX1
      obtain ⟨av, cv, hv⟩ := HST.out.own.slice
      rw [HKL.out] at hv
      subst hv
      clear hkl
      have HOPI := Lib.hid rpair_info
      go_wp2_with fail
      have HSD := Lib.hid (HST.out.bel' (show Below wr.heap.size wr wr.drew from (Below.refl _ _).drew))
      refine Reg.wp_regionC (KB (w.heap.size + 3) (.slice av k cv)) (KB.refl _ _) (fun a b c h k => h.trans k) 16 18 (fun W => TS #[.int .i64 code, .int .i64 tb, .int .u32 (tg : Int), .int .u32 (ts : Int), .int .u64 (tc : Int), .int .u64 (ver : Int), .string vl, .slice (some ⟨b, off, none⟩) pn pcap, .bool more, .int .i64 ks, .int .i64 bs, .int .i64 cs, .int .u64 (sq : Int), .slice ba bn bcap] F #[.int .u64 (u64N ks : Int), .int .u64 (u64N bs : Int), .int .u64 (u64N cs : Int), .int .u64 (sq : Int)] w W (.slice av k cv) (.slice av k cv) (page.take k)) (fun x W => TS #[.int .i64 code, .int .i64 tb, .int .u32 (tg : Int), .int .u32 (ts : Int), .int .u64 (tc : Int), .int .u64 (ver : Int), .string vl, .slice (some ⟨b, off, none⟩) pn pcap, .bool more, .int .i64 ks, .int .i64 bs, .int .i64 cs, .int .u64 (sq : Int), .slice ba bn bcap] F #[.int .u64 (u64N ks : Int), .int .u64 (u64N bs : Int), .int .u64 (u64N cs : Int), .int .u64 (sq : Int)] w W (.slice av k cv) x (page.take k ++ [⟨xk, xv⟩])) (fun W => ∃ x, TS #[.int .i64 code, .int .i64 tb, .int .u32 (tg : Int), .int .u32 (ts : Int), .int .u64 (tc : Int), .int .u64 (ver : Int), .string vl, .slice (some ⟨b, off, none⟩) pn pcap, .bool more, .int .i64 ks, .int .i64 bs, .int .i64 cs, .int .u64 (sq : Int), .slice ba bn bcap] F #[.int .u64 (u64N ks : Int), .int .u64 (u64N bs : Int), .int .u64 (u64N cs : Int), .int .u64 (sq : Int)] w W x x (page.take k ++ [⟨xk, xv⟩])) (by kernel_rfl) (by kernel_rfl) HSD.out ?_
      refine Reg.segC 1 (by kernel_rfl) rfl (by kernel_rfl) ?_
      apply Exists.intro
      refine ⟨fun e => ?_, ?_⟩
      · simp only [List.take_succ_cons, List.take_zero]
        repeat (go_big_quiet_step ((intro _; rfl)))
        refine wpQuiet_nil ?_
        exact rfl
      simp only [List.drop_succ_cons, List.drop_zero, Nat.reduceAdd]
      refine Reg.readC (.slice av k cv) (KB.refl _ _) rfl (by kernel_rfl) (fun e w1 hR hp => ⟨by rfl, ?_⟩) ?_
      · have hc := row_cell hp.b3 7 (v := .slice av k cv) (by rw [HF.out]; rfl)
        clear hp hR
        unfold Reg.gives
        go_simp
      simp only [Act.put, List.setIfInBounds_toArray, List.set_cons_zero, List.set_cons_succ, Nat.reduceAdd]
      refine Reg.segC 1 (by kernel_rfl) rfl (by kernel_rfl) ?_
      apply Exists.intro
      refine ⟨fun e => ?_, ?_⟩
      · simp only [List.take_succ_cons, List.take_zero]
        repeat (go_big_quiet_step ((intro _; rfl)))
        refine wpQuiet_nil ?_
        exact rfl
      simp only [List.drop_succ_cons, List.drop_zero, Nat.reduceAdd]
      refine Reg.stillC (.slice (some ⟨b, off, none⟩) pn pcap) (KB.refl _ _) rfl (fun e w1 hR hf => ⟨by rfl, ?_⟩) ?_
      · have hc := row_cell (hR.b0At HSD.out rfl) 7 (v := .slice (some ⟨b, off, none⟩) pn pcap) rfl
        clear hf hR
        unfold Reg.gives
        go_simp
      simp only [Act.put, List.setIfInBounds_toArray, List.set_cons_zero, List.set_cons_succ, Nat.reduceAdd]
      refine Reg.segC 3 (by kernel_rfl) rfl (by kernel_rfl) ?_
      apply Exists.intro
      refine ⟨fun e => ?_, ?_⟩
      · simp only [List.take_succ_cons, List.take_zero]
        repeat (go_big_quiet_step ((intro _; rfl)))
        refine wpQuiet_nil ?_
        exact rfl
      simp only [List.drop_succ_cons, List.drop_zero, Nat.reduceAdd]
      refine Reg.stillC (.string xk) (KB.refl _ _) rfl (fun e w1 hR hf => ⟨by rfl, ?_⟩) ?_
      · have hc := hR.cellAt HSD.out rfl HBL.out HX0.out
        clear hf hR
        unfold Reg.gives
        go_simp
      simp only [Act.put, List.setIfInBounds_toArray, List.set_cons_zero, List.set_cons_succ, Nat.reduceAdd]
      refine Reg.segC 1 (by kernel_rfl) rfl (by kernel_rfl) ?_
      apply Exists.intro
      refine ⟨fun e => ?_, ?_⟩
      · simp only [List.take_succ_cons, List.take_zero]
        repeat (go_big_quiet_step ((intro _; rfl)))
        refine wpQuiet_nil ?_
        exact rfl
      simp only [List.drop_succ_cons, List.drop_zero, Nat.reduceAdd]
      refine Reg.stillC (.slice (some ⟨b, off, none⟩) pn pcap) (KB.refl _ _) rfl (fun e w1 hR hf => ⟨by rfl, ?_⟩) ?_
      · have hc := row_cell (hR.b0At HSD.out rfl) 7 (v := .slice (some ⟨b, off, none⟩) pn pcap) rfl
        clear hf hR
        unfold Reg.gives
        go_simp
      simp only [Act.put, List.setIfInBounds_toArray, List.set_cons_zero, List.set_cons_succ, Nat.reduceAdd]
      refine Reg.segC 3 (by kernel_rfl) rfl (by kernel_rfl) ?_
      apply Exists.intro
      refine ⟨fun e => ?_, ?_⟩
      · simp only [List.take_succ_cons, List.take_zero]
        repeat (go_big_quiet_step ((intro _; rfl)))
        refine wpQuiet_nil ?_
        exact rfl
      simp only [List.drop_succ_cons, List.drop_zero, Nat.reduceAdd]
      refine Reg.stillC (.string xv) (KB.refl _ _) rfl (fun e w1 hR hf => ⟨by rfl, ?_⟩) ?_
      · have hc := hR.cellAt HSD.out rfl HBL.out HX1.out
        clear hf hR
        unfold Reg.gives
        go_simp
      simp only [Act.put, List.setIfInBounds_toArray, List.set_cons_zero, List.set_cons_succ, Nat.reduceAdd]
      refine Reg.segC 1 (by kernel_rfl) rfl (by kernel_rfl) ?_
      apply Exists.intro
      refine ⟨fun e => ?_, ?_⟩
      · simp only [List.take_succ_cons, List.take_zero]
        repeat (go_big_quiet_step ((intro _; rfl)))
        refine wpQuiet_nil ?_
        exact rfl
      simp only [List.drop_succ_cons, List.drop_zero, Nat.reduceAdd]
      refine Reg.makeC (fun u W => ∃ g, u = .slice (some ⟨g, 0, none⟩) 1 1 ∧ g < W.heap.size ∧ g ≠ w.heap.size + 3 ∧ (Value.slice av k cv).ownBlock ≠ some g ∧ W.heap[g]? = some (.cells #[.string xk, .string xv] 101 (0, 0))) ?_ rfl (by kernel_rfl) (fun e w1 hR hp hf => ⟨by rfl, ?_⟩) ?_
      · rintro u w1 w2 ⟨g, hu, h1, h2, h3, h4⟩ hr
        exact ⟨g, hu, Nat.lt_of_lt_of_le h1 hr.size, h2, h3, (hr.block g h1 h2 h3).trans h4⟩
      · have HP := Lib.hid (hp.bel' ((Below.refl w1.heap.size w1).alloc (Nat.le_refl _) (.cells #[.string xk, .string xv] 101)))
        have HK := Lib.hid (KB.below (b3 := w.heap.size + 3) (v := .slice av k cv) ((Below.refl w1.heap.size w1).alloc (Nat.le_refl _) (.cells #[.string xk, .string xv] 101)))
        have HN := Lib.hid (show ∃ g, Value.slice (some ⟨w1.heap.size, 0, none⟩) 1 1 = .slice (some ⟨g, 0, none⟩) 1 1 ∧ g < (w1.alloc (.cells #[.string xk, .string xv] 101)).heap.size ∧ g ≠ w.heap.size + 3 ∧ (Value.slice av k cv).ownBlock ≠ some g ∧ (w1.alloc (.cells #[.string xk, .string xv] 101)).heap[g]? = some (.cells #[.string xk, .string xv] 101 (0, 0)) from
          ⟨w1.heap.size, rfl, by simp, (by have := hp.sz; omega), (fun e => by have := (hp.own.block _ e).2; omega), heap_alloc_new w1 _⟩)
        clear hp hf hR
        unfold Reg.gives
        go_simp
        exact ⟨HK.out, HP.out, by have := HN.out; simpa using this⟩
      simp only [Act.put, List.setIfInBounds_toArray, List.set_cons_zero, List.set_cons_succ, Nat.reduceAdd]
      refine Reg.callC (by kernel_rfl) (fun e w1 hR hp hf => ⟨by rfl, ?_⟩) ?_
      · obtain ⟨g, hu, h1, h2, h3, h4⟩ := Reg.factsAt_here hf (by kernel_rfl)
        have hsrc := src_rowOf (W := fun _ => True) (S := 60) (E := 101) (C := CPair.cells) (sz := 2) Try.underlying60 pair_len pair_one (by omega) 1 (rowOf_new (w := w1) (g := g) (cs := [.string xk, .string xv]) (t := 101) (fr := (0, 0)) (⟨xk, xv⟩ : CPair) trivial rfl h4)
        refine Reg.gives_mono ?_ (gives_append_of Try.underlying60 HOPI.out rfl (by omega) (.tmp 38) (.tmp 52) rfl (w.heap.size + 4) (.slice av k cv) (page.take k) rfl hp.own _ [⟨xk, xv⟩] hu hsrc hp.sz (by have := HKL.out; simp; omega))
        rintro v' w2 ⟨ho, hg⟩
        exact ⟨⟨hg.1.size, fun i hi _ h => hg.1.block i hi (fun e => h e.symm)⟩, hp.grow hg ho⟩
      simp only [Act.put, List.setIfInBounds_toArray, List.set_cons_zero, List.set_cons_succ, Nat.reduceAdd]
      refine Reg.segC 1 (by kernel_rfl) rfl (by kernel_rfl) ?_
      apply Exists.intro
      refine ⟨fun e => ?_, ?_⟩
      · simp only [List.take_succ_cons, List.take_zero]
        repeat (go_big_quiet_step ((intro _; rfl)))
        refine wpQuiet_nil ?_
        exact rfl
      simp only [List.drop_succ_cons, List.drop_zero, Nat.reduceAdd]
      refine Reg.storeC (by kernel_rfl) (fun e w1 hR hp hf => ⟨by rfl, ?_⟩) ?_
      · have HS := Lib.hid (run_storeOne w1 60 63 (w.heap.size + 3) 7 (F (.slice av k cv)) (F (e 16)) (e 16) hp.b3 spair_size (by rw [HF.out]; show 7 < 11; omega) (by obtain ⟨a5, c5, h5⟩ := hp.own.slice; rw [h5]; rfl) (by obtain ⟨a5, c5, h5⟩ := hp.own.slice; rw [h5]; rfl) (by rw [HF.out, HF.out]; rfl))
        have HP := Lib.hid hp.set
        have HK := Lib.hid (show KB (w.heap.size + 3) (.slice av k cv) w1 (w1.setRow (w.heap.size + 3) (F (e 16))) from ⟨by simp [World.setRow], fun i _ h1 _ => setRow_other _ _ _ _ h1⟩)
        clear hf hR hp
        refine Reg.gives_mono ?_ (gives_store 60 (.tmp 54) (.tmp 53) rfl _ _ rfl rfl HS.out)
        rintro v' w2 ⟨rfl, rfl⟩
        exact ⟨HK.out, ⟨_, HP.out⟩, rfl⟩
      simp only [Act.put]
      intro e W5 hR hJ hf
      obtain ⟨v5, h5⟩ := hJ.2.2 rfl
      have H5 := Lib.hid h5
      clear hR hJ hf h5 c0 HSD HST
      go_wp2
      go_roundw
      case rel => exact ⟨k + 1, v5, by omega, by go_num, (show TS _ _ _ _ _ _ _ _ by rw [HTK.out]; exact H5.out)⟩
      case measure => simp [intOf]; omega
    · obtain rfl : k = pn := by omega
      have HS9 := Lib.hid (show TS #[.int .i64 code, .int .i64 tb, .int .u32 (tg : Int), .int .u32 (ts : Int), .int .u64 (tc : Int), .int .u64 (ver : Int), .string vl, .slice pa k pcap, .bool more, .int .i64 ks, .int .i64 bs, .int .i64 cs, .int .u64 (sq : Int), .slice ba bn bcap] F #[.int .u64 (u64N ks : Int), .int .u64 (u64N bs : Int), .int .u64 (u64N cs : Int), .int .u64 (sq : Int)] w wr v v page by have := HST.out; rwa [List.take_of_length_le (show page.length ≤ k by rw [HNN.out]; exact Nat.le_refl _)] at this)
      obtain ⟨C9, hC9⟩ : ∃ C, C = F v := ⟨_, rfl⟩
      have h2 := HS9.out.b3
      rw [← hC9] at h2
      have HL9 := Lib.hid h2
      have HRS := Lib.hid (run_storeRow wr 63 (w.heap.size + 1) _ C9 HS9.out.b1 (by rw [hC9, HF.out]; exact rres_size) (by rw [hC9, HF.out]; rfl) (by obtain ⟨a5, c5, h5⟩ := HS9.out.own.slice; rw [hC9, HF.out, h5]; simp [Value.oneCell']))
      have HSZ := Lib.hid (show (Try.prog.info? 63).map (·.size) = some C9.size by rw [hC9, HF.out]; exact rres_size)
      have HC9 := Lib.hid (hC9.trans (HF.out v))
      clear HST h2 hC9
      go_wp2_with (first | ((with_reducible refine atLoad ?_); refine wpList_load_row rfl 63 (.tmp 3) rfl (w.heap.size + 3) rfl 63 C9 (0, 0) _ HL9.out Try.underlying63 rfl HSZ.out ?_) | ((with_reducible refine atStore ?_); refine wpList_store_by rfl 63 (.tmp 2) (.tmp 55) rfl (.pointer (some ⟨w.heap.size + 1, 0, none⟩)) _ rfl rfl HRS.out ?_))
      refine bodyPost_ret (v := .agg C9) (results_cell_row rfl _ _ (w.heap.size + 1) 63 C9 (0, 0) _ rfl (setRow_heap _ _ _ _ _ _ HS9.out.b1) Try.underlying63 rfl HSZ.out) rfl ?_
      have hb := HS9.out.bel
      have hz := HS9.out.sz
      refine ⟨⟨v, .slice (some ⟨w.heap.size + 2, 0, none⟩) 4 4, by rw [HC9.out]; rfl, (HS9.out.own.kept fun j hj => setRow_other _ _ _ _ (by have := (HS9.out.own.block j hj).1; omega)).mono (by omega), w.heap.size + 2, rfl, by simp [World.setRow]; omega, stats_row ((setRow_other _ _ _ _ (by omega)).trans HS9.out.b2)⟩, hb.os, hb.tape, hb.output, by simpa [World.setRow] using hb.size, fun j hj => (setRow_other _ _ _ _ (by omega)).trans (hb.block j hj)⟩
theorem lawTold (r : CRes) (p b : Value) (w : World) (h : ResIn w r p b) (hp : r.page.length ≤ 1000) : Calls Try.prog 17 #[.agg (r.cells p b)] w (ToldOk r b w) := by
  obtain ⟨code, tb, tg, ts, tc, ver, vl, page, more, ks, bs, cs, sq, bk⟩ := r
  obtain ⟨⟨pa, pcap, rfl, h1⟩, ⟨ba, bcap, rfl, _⟩, _⟩ := h
  exact lawTold0 _ _ _ _ _ _ _ _ _ _ _ _ _ pa pcap ba _ bcap bk w h1 hp rfl
end Go.Proofs.Ytlngefhjoobmdaa
namespace Go.Proofs.Ytlngefhjoobmdaa
open Go.RowKit Go.ChangeShapes Go.WideShapes
section
variable {H : Type} {enc : TypeId × Value → H} {w : World} {base : Nat} {spare : Nat → Bool} {held : Bool}
theorem op_cellsOf : Try.prog.cellsOf 93 = 5 := by kernel_rfl
theorem pair_cellsOf : Try.prog.cellsOf 52 = 2 := by kernel_rfl
theorem int_cellsOf : Try.prog.cellsOf 3 = 1 := by kernel_rfl
theorem req_cellsOf : Try.prog.cellsOf 32 = 16 := by kernel_rfl
theorem res_cellsOf : Try.prog.cellsOf 49 = 14 := by kernel_rfl
set_option maxRecDepth 100000 in
theorem open_cop {n : Nat} {cs : List Value} {y : DataW H × List MemPlace} (h : DataW.trod enc Try.prog w base spare held n 93 cs = some y) : ∃ q : COp, (∀ j, j < 5 → cs[j]? = (COp.cells q)[j]?) ∧ q.wf := by
  obtain ⟨xs, m, _, _, hcs, hxs, hf⟩ := DataW.trod_struct Try.underlying93 h
  have hlen : xs.length = 5 := hxs
  have h0 := hf 0 _ rfl
  have h1 := hf 1 _ rfl
  have h2 := hf 2 _ rfl
  have h3 := hf 3 _ rfl
  have h4 := hf 4 _ rfl
  rw [List.getElem?_eq_getElem (by omega)] at h0 h1 h2 h3 h4
  obtain ⟨x0, e0⟩ := el_bool Try.underlying4 h0
  obtain ⟨x1, e1, f1⟩ := el_str Try.underlying9 h1
  obtain ⟨x2, e2, f2⟩ := el_str Try.underlying9 h2
  obtain ⟨x3, e3, f3⟩ := el_int Try.underlying24 h3
  obtain ⟨x4, e4, f4⟩ := el_int Try.underlying24 h4
  obtain ⟨n3, rfl, b3⟩ := u64_of_wf f3
  obtain ⟨n4, rfl, b4⟩ := u64_of_wf f4
  refine ⟨⟨x0, x1, x2, n3, n4⟩, fun j hj => ?_, b3, b4, f1, f2⟩
  match j, hj with
  | 0, _ => exact e0
  | 1, _ => exact e1
  | 2, _ => exact e2
  | 3, _ => exact e3
  | 4, _ => exact e4
set_option maxRecDepth 100000 in
theorem open_cpair {n : Nat} {cs : List Value} {y : DataW H × List MemPlace} (h : DataW.trod enc Try.prog w base spare held n 52 cs = some y) : ∃ q : CPair, (∀ j, j < 2 → cs[j]? = (CPair.cells q)[j]?) ∧ q.wf := by
  obtain ⟨xs, m, _, _, hcs, hxs, hf⟩ := DataW.trod_struct Try.underlying52 h
  have hlen : xs.length = 2 := hxs
  have h0 := hf 0 _ rfl
  have h1 := hf 1 _ rfl
  rw [List.getElem?_eq_getElem (by omega)] at h0 h1
  obtain ⟨x0, e0, f0⟩ := el_str Try.underlying9 h0
  obtain ⟨x1, e1, f1⟩ := el_str Try.underlying9 h1
  refine ⟨⟨x0, x1⟩, fun j hj => ?_, f0, f1⟩
  match j, hj with
  | 0, _ => exact e0
  | 1, _ => exact e1
theorem open_cint {n : Nat} {cs : List Value} {y : DataW H × List MemPlace} (h : DataW.trod enc Try.prog w base spare held n 3 cs = some y) : ∃ q : Int, (∀ j, j < 1 → cs[j]? = (intC q)[j]?) ∧ True := by
  obtain ⟨x, h1, _, _⟩ := DataW.trod_int Try.underlying3 h
  refine ⟨x, fun j hj => ?_, trivial⟩
  obtain rfl : j = 0 := by omega
  rw [h1]
  rfl
/-- A field that is a slice. -/
theorem el_slice {cs : List Value} {T E : TypeId} {n o : Nat} {y : DataW H × List MemPlace} (hT : Try.prog.underlying T = some (.slice E)) (h : DataW.trod enc Try.prog w base spare held n T ((cs.drop o).take 1) = some y) : ∃ a len cap, cs[o]? = some (.slice a len cap) ∧ ∃ d p, DataW.Trod enc Try.prog w base spare held T (.slice a len cap) d p := by
  have key : ∀ v, (cs.drop o).take 1 = [v] → cs[o]? = some v := fun v hv => by
    have := congrArg (·[0]?) hv
    simp [List.getElem?_drop] at this
    exact this
  rcases DataW.trod_slice hT h with ⟨hcs, _⟩ | ⟨x, l, c, elems, rest, m, _, hcs, _⟩
  · exact ⟨none, 0, 0, key _ hcs, y.1, y.2, n, by rw [hcs] at h; exact h⟩
  · exact ⟨some x, l, c, key _ hcs, y.1, y.2, n, by rw [hcs] at h; exact h⟩
theorem rowOf_true {α : Type} {C : α → List Value} {W : α → Prop} {sz : Nat} {a : Option Addr} {z : List α} (h : IsRowOf C W sz w a z) : IsRowOf C (fun _ => True) sz w a z ∧ ∀ x ∈ z, W x := by
  refine ⟨fun i hi => ?_, fun x hx => ?_⟩
  · obtain ⟨b, off, h1, h2, h3, _⟩ := h i hi
    exact ⟨b, off, h1, h2, h3, trivial⟩
  · obtain ⟨i, hi, rfl⟩ := List.getElem_of_mem hx
    obtain ⟨_, _, _, _, _, h4⟩ := h i hi
    exact h4
set_option maxRecDepth 100000 in
theorem open_req {cs : Array Value} {d : DataW H} {p : List MemPlace} (h : DataW.Trod enc Try.prog w base spare held 32 (.agg cs) d p) (hs : cs.size = Try.prog.cellsOf 32) : ∃ (q : CReq) (v : Value), cs = q.cells v ∧ ReqIn w q v ∧ q.ops.length ≤ maxLen := by
  obtain ⟨fuel, hfu⟩ := h
  obtain ⟨xs, m, _, _, hcs, hxs, hf⟩ := DataW.trod_struct Try.underlying32 hfu
  have hlen : xs.length = 11 := hxs
  have h0 := hf 0 _ rfl
  have h1 := hf 1 _ rfl
  have h2 := hf 2 _ rfl
  have h3 := hf 3 _ rfl
  have h4 := hf 4 _ rfl
  have h5 := hf 5 _ rfl
  have h6 := hf 6 _ rfl
  have h7 := hf 7 _ rfl
  have h8 := hf 8 _ rfl
  have h9 := hf 9 _ rfl
  have h10 := hf 10 _ rfl
  rw [List.getElem?_eq_getElem (by omega)] at h0 h1 h2 h3 h4 h5 h6 h7 h8 h9 h10
  obtain ⟨ys, m', _, _, hqs, hys, hg⟩ := DataW.trod_struct Try.underlying26 h3
  have hqlen : ys.length = 3 := hys
  have g0 := hg 0 _ rfl
  have g1 := hg 1 _ rfl
  have g2 := hg 2 _ rfl
  rw [List.getElem?_eq_getElem (by omega)] at g0 g1 g2
  obtain ⟨zs, m'', _, _, hts, hzs, hk⟩ := DataW.trod_struct Try.underlying29 h4
  have htlen : zs.length = 4 := hzs
  have t0 := hk 0 _ rfl
  have t1 := hk 1 _ rfl
  have t2 := hk 2 _ rfl
  have t3 := hk 3 _ rfl
  rw [List.getElem?_eq_getElem (by omega)] at t0 t1 t2 t3
  obtain ⟨x0, e0, _⟩ := el_int Try.underlying3 h0
  obtain ⟨x1, e1, f1⟩ := el_int Try.underlying24 h1
  obtain ⟨x2, e2, _⟩ := el_int Try.underlying3 h2
  obtain ⟨q0, k0, _⟩ := el_int Try.underlying2 g0
  obtain ⟨q1, k1, _⟩ := el_int Try.underlying2 g1
  obtain ⟨q2, k2, _⟩ := el_int Try.underlying2 g2
  obtain ⟨y0, l0, _⟩ := el_int Try.underlying3 t0
  obtain ⟨y1, l1, b1⟩ := el_int Try.underlying27 t1
  obtain ⟨y2, l2, b2⟩ := el_int Try.underlying27 t2
  obtain ⟨y3, l3, b3⟩ := el_int Try.underlying24 t3
  obtain ⟨a, len, cap, e5, d5, p5, k5⟩ := el_slice Try.underlying30 h5
  obtain ⟨x6, e6, f6⟩ := el_str Try.underlying9 h6
  obtain ⟨x7, e7⟩ := el_bool Try.underlying4 h7
  obtain ⟨x8, e8, _⟩ := el_int Try.underlying3 h8
  obtain ⟨x9, e9, _⟩ := el_int Try.underlying3 h9
  obtain ⟨x10, e10, f10⟩ := el_int Try.underlying27 h10
  obtain ⟨n1, rfl, c1⟩ := u64_of_wf f1
  obtain ⟨m1, rfl, c2⟩ := u32_of_wf b1
  obtain ⟨m2, rfl, c3⟩ := u32_of_wf b2
  obtain ⟨m3, rfl, c4⟩ := u64_of_wf b3
  obtain ⟨n10, rfl, c5⟩ := u32_of_wf f10
  obtain ⟨ops, ho, hrow, hmax⟩ := open_rowOf (⟨false, ByteArray.empty, ByteArray.empty, 0, 0⟩ : COp) COp.cells COp.wf 5 93 30 Try.underlying30 op_cellsOf (by omega) cop_len (fun n cs y h => open_cop h) k5
  obtain ⟨hr, hw⟩ := rowOf_true hrow
  subst ho
  simp [List.getElem?_take, List.getElem?_drop] at k0 k1 k2 l0 l1 l2 l3
  refine ⟨⟨x0, n1, x2, q0, q1, q2, y0, m1, m2, m3, ops, x6, x7, x8, x9, n10⟩, .slice a ops.length cap, ?_, ⟨⟨a, cap, rfl, hr⟩, c1, c2, c3, c4, c5, f6, hw⟩, hmax⟩
  have all : ∀ j, j < 16 → (Value.agg cs).cells.toList[j]? = (CReq.cells ⟨x0, n1, x2, q0, q1, q2, y0, m1, m2, m3, ops, x6, x7, x8, x9, n10⟩ (.slice a ops.length cap))[j]? := fun j hj => by
    match j, hj with
    | 0, _ => exact e0
    | 1, _ => exact e1
    | 2, _ => exact e2
    | 3, _ => exact (by rw [Array.getElem?_toList]; exact k0.2)
    | 4, _ => exact (by rw [Array.getElem?_toList]; exact k1.2)
    | 5, _ => exact (by rw [Array.getElem?_toList]; exact k2.2)
    | 6, _ => exact (by rw [Array.getElem?_toList]; exact l0.2)
    | 7, _ => exact (by rw [Array.getElem?_toList]; exact l1.2)
    | 8, _ => exact (by rw [Array.getElem?_toList]; exact l2.2)
    | 9, _ => exact (by rw [Array.getElem?_toList]; exact l3.2)
    | 10, _ => exact e5
    | 11, _ => exact e6
    | 12, _ => exact e7
    | 13, _ => exact e8
    | 14, _ => exact e9
    | 15, _ => exact e10
    | j + 16, h => exact absurd h (by omega)
  rw [req_cellsOf] at hs
  apply Array.ext
  · rw [hs]; rfl
  · intro i i1 i2
    have h9 := all i (by omega)
    simp only [Value.cells, Array.getElem?_toList] at h9
    rw [Array.getElem?_eq_getElem i1, Array.getElem?_eq_getElem i2] at h9
    exact Option.some.inj h9
set_option maxRecDepth 100000 in
theorem open_res {cs : Array Value} {d : DataW H} {p : List MemPlace} (h : DataW.Trod enc Try.prog w base spare held 49 (.agg cs) d p) (hs : cs.size = Try.prog.cellsOf 49) : ∃ (r : CRes) (u v : Value), cs = r.cells u v ∧ ResIn w r u v ∧ r.page.length ≤ maxLen ∧ r.bk.length ≤ maxLen := by
  obtain ⟨fuel, hfu⟩ := h
  obtain ⟨xs, m, _, _, hcs, hxs, hf⟩ := DataW.trod_struct Try.underlying49 hfu
  have hlen : xs.length = 11 := hxs
  have h0 := hf 0 _ rfl
  have h1 := hf 1 _ rfl
  have h2 := hf 2 _ rfl
  have h3 := hf 3 _ rfl
  have h4 := hf 4 _ rfl
  have h5 := hf 5 _ rfl
  have h6 := hf 6 _ rfl
  have h7 := hf 7 _ rfl
  have h8 := hf 8 _ rfl
  have h9 := hf 9 _ rfl
  have h10 := hf 10 _ rfl
  rw [List.getElem?_eq_getElem (by omega)] at h0 h1 h2 h3 h4 h5 h6 h7 h8 h9 h10
  obtain ⟨zs, m'', _, _, hts, hzs, hk⟩ := DataW.trod_struct Try.underlying29 h1
  have htlen : zs.length = 4 := hzs
  have t0 := hk 0 _ rfl
  have t1 := hk 1 _ rfl
  have t2 := hk 2 _ rfl
  have t3 := hk 3 _ rfl
  rw [List.getElem?_eq_getElem (by omega)] at t0 t1 t2 t3
  obtain ⟨x0, e0, _⟩ := el_int Try.underlying3 h0
  obtain ⟨y0, l0, _⟩ := el_int Try.underlying3 t0
  obtain ⟨y1, l1, b1⟩ := el_int Try.underlying27 t1
  obtain ⟨y2, l2, b2⟩ := el_int Try.underlying27 t2
  obtain ⟨y3, l3, b3⟩ := el_int Try.underlying24 t3
  obtain ⟨x2, e2, f2⟩ := el_int Try.underlying24 h2
  obtain ⟨x3, e3, f3⟩ := el_str Try.underlying9 h3
  obtain ⟨a, len, cap, e4, d4, p4, k4⟩ := el_slice Try.underlying46 h4
  obtain ⟨x5, e5⟩ := el_bool Try.underlying4 h5
  obtain ⟨x6, e6, _⟩ := el_int Try.underlying2 h6
  obtain ⟨x7, e7, _⟩ := el_int Try.underlying2 h7
  obtain ⟨x8, e8, _⟩ := el_int Try.underlying2 h8
  obtain ⟨x9, e9, f9⟩ := el_int Try.underlying24 h9
  obtain ⟨a2, len2, cap2, e10, d10, p10, k10⟩ := el_slice Try.underlying47 h10
  obtain ⟨m1, rfl, c2⟩ := u32_of_wf b1
  obtain ⟨m2, rfl, c3⟩ := u32_of_wf b2
  obtain ⟨m3, rfl, c4⟩ := u64_of_wf b3
  obtain ⟨n2, rfl, c5⟩ := u64_of_wf f2
  obtain ⟨n9, rfl, c6⟩ := u64_of_wf f9
  obtain ⟨page, ho, hrow, hmax⟩ := open_rowOf (⟨ByteArray.empty, ByteArray.empty⟩ : CPair) CPair.cells CPair.wf 2 52 46 Try.underlying46 pair_cellsOf (by omega) pair_len (fun n cs y h => open_cpair h) k4
  obtain ⟨bk, hb, hrow2, hmax2⟩ := open_rowOf (0 : Int) intC (fun _ => True) 1 3 47 Try.underlying47 int_cellsOf (by omega) int_len (fun n cs y h => open_cint h) k10
  obtain ⟨hr, hw⟩ := rowOf_true hrow
  subst ho
  subst hb
  simp [List.getElem?_take] at l0 l1 l2 l3
  refine ⟨⟨x0, y0, m1, m2, m3, n2, x3, page, x5, x6, x7, x8, n9, bk⟩, .slice a page.length cap, .slice a2 bk.length cap2, ?_, ⟨⟨a, cap, rfl, hr⟩, ⟨a2, cap2, rfl, hrow2⟩, c2, c3, c4, c5, c6, f3, hw⟩, hmax, hmax2⟩
  have all : ∀ j, j < 14 → (Value.agg cs).cells.toList[j]? = (CRes.cells ⟨x0, y0, m1, m2, m3, n2, x3, page, x5, x6, x7, x8, n9, bk⟩ (.slice a page.length cap) (.slice a2 bk.length cap2))[j]? := fun j hj => by
    match j, hj with
    | 0, _ => exact e0
    | 1, _ => exact (by rw [Array.getElem?_toList]; exact l0.2)
    | 2, _ => exact (by rw [Array.getElem?_toList]; exact l1.2)
    | 3, _ => exact (by rw [Array.getElem?_toList]; exact l2.2)
    | 4, _ => exact (by rw [Array.getElem?_toList]; exact l3.2)
    | 5, _ => exact e2
    | 6, _ => exact e3
    | 7, _ => exact e4
    | 8, _ => exact e5
    | 9, _ => exact e6
    | 10, _ => exact e7
    | 11, _ => exact e8
    | 12, _ => exact e9
    | 13, _ => exact e10
    | j + 14, h => exact absurd h (by omega)
  rw [res_cellsOf] at hs
  apply Array.ext
  · rw [hs]; rfl
  · intro i i1 i2
    have h9 := all i (by omega)
    simp only [Value.cells, Array.getElem?_toList] at h9
    rw [Array.getElem?_eq_getElem i1, Array.getElem?_eq_getElem i2] at h9
    exact Option.some.inj h9
end
end Go.Proofs.Ytlngefhjoobmdaa
