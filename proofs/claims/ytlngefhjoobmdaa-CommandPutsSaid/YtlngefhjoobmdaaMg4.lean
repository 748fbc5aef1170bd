/- Texts laid together: CmdPut CmdSame. -/
import Derived.Test.YtlngefhjoobmdaaMg3
import Derived.Deep.MidRow
import Derived.Handy
import Derived.Test.YtlngefhjoobmdaaMg1
import Derived.BigQuiet
namespace Go.Proofs.Ytlngefhjoobmdaa
open Go.RowKit
def tailQ (q : CReq) : List UInt8 := if q.tag = 10 then textL q.after.data.toList ++ (putL (bitN q.first) 1 ++ putL (u64N q.count) 1) else if q.tag = 12 then putL (u64N q.rights) 1 else if q.tag = 13 then putL q.serial 4 else []
def headQ (q : CReq) : List UInt8 := putL (u64N q.tag) 1 ++ tokL q.tb q.tg q.ts q.tc
def lowQ (q : CReq) : List UInt8 := putL (u64N q.tag) 1 ++ (putL q.admin 8 ++ ((if q.tag < 4 then putL (u64N q.bucket) 1 else []) ++ (if q.tag = 1 ∨ q.tag = 3 then putL (u64N q.qk) 8 ++ (putL (u64N q.qb) 8 ++ putL (u64N q.qg) 8) else [])))
def opsL (t : Int) (l : List COp) : List UInt8 := l.flatMap (opL t)
/-- What is put of a request. -/
def reqL (q : CReq) : List UInt8 := if q.tag ≤ 5 then lowQ q else (headQ q ++ (if q.tag = 9 then putL q.ops.length 1 else [])) ++ (opsL q.tag q.ops ++ tailQ q)
def CReq.wf (q : CReq) : Prop := q.admin < 18446744073709551616 ∧ q.tg < 4294967296 ∧ q.ts < 4294967296 ∧ q.tc < 18446744073709551616 ∧ q.serial < 4294967296 ∧ q.after.size ≤ maxLen ∧ ∀ x ∈ q.ops, x.wf
theorem opsL_len (t : Int) (l : List COp) : (opsL t l).length ≤ 131091 * l.length := by
  induction l with
  | nil => simp [opsL]
  | cons x l ih =>
    have := opL_len t x
    simp only [opsL, List.flatMap_cons, List.length_append, List.length_cons] at *
    omega
theorem opsL_take (t : Int) (l : List COp) (k : Nat) (h : k < l.length) : opsL t (l.take (k + 1)) = opsL t (l.take k) ++ opL t l[k] := by
  unfold opsL
  rw [List.take_succ_eq_append_getElem h, List.flatMap_append]
  simp
/-- A request that came in, as it lies. -/
structure ReqIn (w : World) (q : CReq) (v : Value) : Prop where
  sl : ∃ a cap, v = .slice a q.ops.length cap ∧ IsRowOf COp.cells (fun _ => True) 5 w a q.ops
  wf : q.wf
theorem ReqIn.bel {w w' : World} {q : CReq} {v : Value} (h : ReqIn w q v) (hb : Below w.heap.size w w') : ReqIn w' q v := by
  obtain ⟨a, cap, h1, h2⟩ := h.sl
  exact ⟨⟨a, cap, h1, h2.bel hb⟩, h.wf⟩
theorem range_row {W : World} {g o : Nat} {C : Array Value} {T : TypeId} {fr : Nat × Nat} (hg : W.heap[g]? = some (.cells C T fr)) (cs : List Value) (h : ∀ j v, cs[j]? = some v → C[o + j]? = some v) : W.rangeAt g o cs := fun j v hv => (cell_of_row W g (o + j) C T fr hg).trans (h j v hv)
theorem range_of {W : World} {g o : Nat} {x : COp} (h : ∀ j, j < 5 → W.cell? ⟨g, o + j, none⟩ = (COp.cells x)[j]?) : W.rangeAt g o x.cells := fun j _ hv => (h j (List.getElem?_eq_some_iff.1 hv).1).trans hv
theorem cop_size : (Try.prog.info? 93).map (·.size) = some 5 := by kernel_rfl
theorem tok_size' : (Try.prog.info? 29).map (·.size) = some 4 := by kernel_rfl
theorem below_boxC (W : World) (Z C : Array Value) (T : TypeId) : Below W.heap.size W ((W.alloc (.cells Z T)).setRow W.heap.size C) := by
  have h := (Below.refl W.heap.size W).alloc (Nat.le_refl _) (.cells Z T)
  exact ⟨h.os, h.tape, h.output, by simp [World.setRow], fun k hk => (setRow_other _ _ k C (by omega)).trans (h.block k hk)⟩
/-- Bytes of its own. -/
def Makes (w : World) (l : List UInt8) (e : Ending) (W : World) : Prop := ∃ v', e = .returned v' ∧ OwnB w.heap.size W v' l ∧ Below w.heap.size w W
theorem BS.makes {w w1 W : World} {v0 v : Value} {l r : List UInt8} (h : BS w.heap.size w1 v0 W v l) (hb : Below w.heap.size w w1) (hr : l = r) : Makes w r (.returned v) W := ⟨v, rfl, hr ▸ h.own, hb.trans h.rk.bel⟩
set_option maxRecDepth 100000 in
set_option maxHeartbeats 4000000 in
theorem put1 (ad : Nat) (bu qk qb qg tb : Int) (tg ts tc : Nat) (ops : List COp) (af : ByteArray) (fi : Bool) (co ri : Int) (se : Nat) (a : Option Addr) (cap : Nat) (w : World) (hrow : IsRowOf COp.cells (fun _ => True) 5 w a ops) (had : ad < 18446744073709551616) (htg : tg < 4294967296) (hts : ts < 4294967296) (htc : tc < 18446744073709551616) (hse : se < 4294967296) (haf : af.size ≤ maxLen) (hop : ∀ x ∈ ops, x.wf) (hn : ops.length ≤ 1000) :
    Calls Try.prog 35 #[.agg #[.int .i64 1, .int .u64 (ad : Int), .int .i64 bu, .int .i64 qk, .int .i64 qb, .int .i64 qg, .int .i64 tb, .int .u32 (tg : Int), .int .u32 (ts : Int), .int .u64 (tc : Int), .slice a ops.length cap, .string af, .bool fi, .int .i64 co, .int .i64 ri, .int .u32 (se : Int)]] w (Makes w (reqL ⟨1, ad, bu, qk, qb, qg, tb, tg, ts, tc, ops, af, fi, co, ri, se⟩)) := by
  have HEQ := Lib.hid (show reqL ⟨1, ad, bu, qk, qb, qg, tb, tg, ts, tc, ops, af, fi, co, ri, se⟩ = [] ++ putL 1 1 ++ putL ad 8 ++ putL (u64N bu) 1 ++ putL (u64N qk) 8 ++ putL (u64N qb) 8 ++ putL (u64N qg) 8 by unfold reqL lowQ; simp [show u64N 1 = 1 from rfl])
  have HB := Lib.hid (show 0 ≤ 1000000000 ∧ ad < 18446744073709551616 ∧ tg < 4294967296 ∧ ts < 4294967296 ∧ tc < 18446744073709551616 ∧ se < 4294967296 ∧ af.size ≤ maxLen ∧ ops.length ≤ 1000 from ⟨by omega, had, htg, hts, htc, hse, haf, hn⟩)
  have HROW := Lib.hid hrow
  have HOP := Lib.hid hop
  have hwt := wrap_u64N 1
  have hwb := wrap_u64N bu
  have hwk := wrap_u64N qk
  have hwq := wrap_u64N qb
  have hwg := wrap_u64N qg
  have hwc := wrap_u64N co
  have hwr := wrap_u64N ri
  have hws : IntKind.u64.wrap (se : Int) = (se : Int) := by rw [IntKind.wrap_u64]; omega
  have hwn : IntKind.u64.wrap (ops.length : Int) = (ops.length : Int) := by rw [IntKind.wrap_u64]; omega
  clear had htg hts htc hse haf hop hrow hn
  have HN := Lib.hid (show ops.length = ops.length from rfl)
  generalize hnn : ops.length = n at HB hwn ⊢
  have HNN := Lib.hid hnn
  clear hnn HN
  have HS0 := Lib.hid (BS.start (B := w.heap.size) (OwnB.nil w.heap.size (w.alloc (.cells #[.int .i64 1, .int .u64 (ad : Int), .int .i64 bu, .int .i64 qk, .int .i64 qb, .int .i64 qg, .int .i64 tb, .int .u32 (tg : Int), .int .u32 (ts : Int), .int .u64 (tc : Int), .slice a n cap, .string af, .bool fi, .int .i64 co, .int .i64 ri, .int .u32 (se : Int)] 32))) (by simp))
  have HR0 := Lib.hid (heap_alloc_new w (.cells #[.int .i64 1, .int .u64 (ad : Int), .int .i64 bu, .int .i64 qk, .int .i64 qb, .int .i64 qg, .int .i64 tb, .int .u32 (tg : Int), .int .u32 (ts : Int), .int .u64 (tc : Int), .slice a n cap, .string af, .bool fi, .int .i64 co, .int .i64 ri, .int .u32 (se : Int)] 32))
  have HBA := Lib.hid ((Below.refl w.heap.size w).alloc (Nat.le_refl _) (.cells #[.int .i64 1, .int .u64 (ad : Int), .int .i64 bu, .int .i64 qk, .int .i64 qb, .int .i64 qg, .int .i64 tb, .int .u32 (tg : Int), .int .u32 (ts : Int), .int .u64 (tc : Int), .slice a n cap, .string af, .bool fi, .int .i64 co, .int .i64 ri, .int .u32 (se : Int)] 32))
  go_enter Try.func35, Try.ntmps35
  go_wp2_with fail
  generalize (w.alloc (.cells #[.int .i64 1, .int .u64 (ad : Int), .int .i64 bu, .int .i64 qk, .int .i64 qb, .int .i64 qg, .int .i64 tb, .int .u32 (tg : Int), .int .u32 (ts : Int), .int .u64 (tc : Int), .slice a n cap, .string af, .bool fi, .int .i64 co, .int .i64 ri, .int .u32 (se : Int)] 32)) = W0 at *
  refine (packPut _ _ _ 1 1 _ HS0.out.own HS0.out.le (by have := HB.out.1; have := textL_len9 af.data.toList; first | omega | (simp; done) | (simp; omega)) (by omega) (by omega) (by omega)).mono ?_
  intro e W1 hp
  obtain ⟨v1, rfl, hs⟩ := HS0.out.put hp
  have HS1 := Lib.hid hs
  have HR1 := Lib.hid (HS1.out.row (by decide) HR0.out)
  clear hp hs HS0
  have hcl0 := (cell_of_row W1 w.heap.size 0 _ _ _ HR1.out).trans (show _ = some (.int .i64 1) from rfl)
  have hcl1 := (cell_of_row W1 w.heap.size 1 _ _ _ HR1.out).trans (show _ = some (.int .u64 (ad : Int)) from rfl)
  go_wp2_with fail
  clear hcl0 hcl1
  refine (packPut _ _ _ ad 8 _ HS1.out.own HS1.out.le (by have := HB.out.1; have := textL_len9 af.data.toList; first | omega | (simp; done) | (simp; omega)) HB.out.2.1 (by omega) (by omega)).mono ?_
  intro e W2 hp
  obtain ⟨v2, rfl, hs⟩ := HS1.out.put hp
  have HS2 := Lib.hid hs
  have HR2 := Lib.hid (HS2.out.row (by decide) HR0.out)
  clear hp hs HS1
  have hcl0 := (cell_of_row W2 w.heap.size 0 _ _ _ HR2.out).trans (show _ = some (.int .i64 1) from rfl)
  have hcl2 := (cell_of_row W2 w.heap.size 2 _ _ _ HR2.out).trans (show _ = some (.int .i64 bu) from rfl)
  go_wp2_with fail
  clear hcl0 hcl2
  refine (packPut _ _ _ (u64N bu) 1 _ HS2.out.own HS2.out.le (by have := HB.out.1; have := textL_len9 af.data.toList; first | omega | (simp; done) | (simp; omega)) (u64N_lt _) (by omega) (by omega)).mono ?_
  intro e W3 hp
  obtain ⟨v3, rfl, hs⟩ := HS2.out.put hp
  have HS3 := Lib.hid hs
  have HR3 := Lib.hid (HS3.out.row (by decide) HR0.out)
  clear hp hs HS2
  have hcl0 := (cell_of_row W3 w.heap.size 0 _ _ _ HR3.out).trans (show _ = some (.int .i64 1) from rfl)
  have hcl3 := (cell_of_row W3 w.heap.size 3 _ _ _ HR3.out).trans (show _ = some (.int .i64 qk) from rfl)
  go_wp2_with fail
  clear hcl0 hcl3
  refine (packPut _ _ _ (u64N qk) 8 _ HS3.out.own HS3.out.le (by have := HB.out.1; have := textL_len9 af.data.toList; first | omega | (simp; done) | (simp; omega)) (u64N_lt _) (by omega) (by omega)).mono ?_
  intro e W4 hp
  obtain ⟨v4, rfl, hs⟩ := HS3.out.put hp
  have HS4 := Lib.hid hs
  have HR4 := Lib.hid (HS4.out.row (by decide) HR0.out)
  clear hp hs HS3
  have hcl4 := (cell_of_row W4 w.heap.size 4 _ _ _ HR4.out).trans (show _ = some (.int .i64 qb) from rfl)
  go_wp2_with fail
  clear hcl4
  refine (packPut _ _ _ (u64N qb) 8 _ HS4.out.own HS4.out.le (by have := HB.out.1; have := textL_len9 af.data.toList; first | omega | (simp; done) | (simp; omega)) (u64N_lt _) (by omega) (by omega)).mono ?_
  intro e W5 hp
  obtain ⟨v5, rfl, hs⟩ := HS4.out.put hp
  have HS5 := Lib.hid hs
  have HR5 := Lib.hid (HS5.out.row (by decide) HR0.out)
  clear hp hs HS4
  have hcl5 := (cell_of_row W5 w.heap.size 5 _ _ _ HR5.out).trans (show _ = some (.int .i64 qg) from rfl)
  go_wp2_with fail
  clear hcl5
  refine (packPut _ _ _ (u64N qg) 8 _ HS5.out.own HS5.out.le (by have := HB.out.1; have := textL_len9 af.data.toList; first | omega | (simp; done) | (simp; omega)) (u64N_lt _) (by omega) (by omega)).mono ?_
  intro e W6 hp
  obtain ⟨v6, rfl, hs⟩ := HS5.out.put hp
  have HS6 := Lib.hid hs
  have HR6 := Lib.hid (HS6.out.row (by decide) HR0.out)
  clear hp hs HS5
  go_wp2
  go_ret
  rw [HEQ.out]
  exact HS6.out.makes HBA.out rfl
set_option maxRecDepth 100000 in
set_option maxHeartbeats 4000000 in
theorem put3 (ad : Nat) (bu qk qb qg tb : Int) (tg ts tc : Nat) (ops : List COp) (af : ByteArray) (fi : Bool) (co ri : Int) (se : Nat) (a : Option Addr) (cap : Nat) (w : World) (hrow : IsRowOf COp.cells (fun _ => True) 5 w a ops) (had : ad < 18446744073709551616) (htg : tg < 4294967296) (hts : ts < 4294967296) (htc : tc < 18446744073709551616) (hse : se < 4294967296) (haf : af.size ≤ maxLen) (hop : ∀ x ∈ ops, x.wf) (hn : ops.length ≤ 1000) :
    Calls Try.prog 35 #[.agg #[.int .i64 3, .int .u64 (ad : Int), .int .i64 bu, .int .i64 qk, .int .i64 qb, .int .i64 qg, .int .i64 tb, .int .u32 (tg : Int), .int .u32 (ts : Int), .int .u64 (tc : Int), .slice a ops.length cap, .string af, .bool fi, .int .i64 co, .int .i64 ri, .int .u32 (se : Int)]] w (Makes w (reqL ⟨3, ad, bu, qk, qb, qg, tb, tg, ts, tc, ops, af, fi, co, ri, se⟩)) := by
  have HEQ := Lib.hid (show reqL ⟨3, ad, bu, qk, qb, qg, tb, tg, ts, tc, ops, af, fi, co, ri, se⟩ = [] ++ putL 3 1 ++ putL ad 8 ++ putL (u64N bu) 1 ++ putL (u64N qk) 8 ++ putL (u64N qb) 8 ++ putL (u64N qg) 8 by unfold reqL lowQ; simp [show u64N 3 = 3 from rfl])
  have HB := Lib.hid (show 0 ≤ 1000000000 ∧ ad < 18446744073709551616 ∧ tg < 4294967296 ∧ ts < 4294967296 ∧ tc < 18446744073709551616 ∧ se < 4294967296 ∧ af.size ≤ maxLen ∧ ops.length ≤ 1000 from ⟨by omega, had, htg, hts, htc, hse, haf, hn⟩)
  have HROW := Lib.hid hrow
  have HOP := Lib.hid hop
  have hwt := wrap_u64N 3
  have hwb := wrap_u64N bu
  have hwk := wrap_u64N qk
  have hwq := wrap_u64N qb
  have hwg := wrap_u64N qg
  have hwc := wrap_u64N co
  have hwr := wrap_u64N ri
  have hws : IntKind.u64.wrap (se : Int) = (se : Int) := by rw [IntKind.wrap_u64]; omega
  have hwn : IntKind.u64.wrap (ops.length : Int) = (ops.length : Int) := by rw [IntKind.wrap_u64]; omega
  clear had htg hts htc hse haf hop hrow hn
  have HN := Lib.hid (show ops.length = ops.length from rfl)
  generalize hnn : ops.length = n at HB hwn ⊢
  have HNN := Lib.hid hnn
  clear hnn HN
  have HS0 := Lib.hid (BS.start (B := w.heap.size) (OwnB.nil w.heap.size (w.alloc (.cells #[.int .i64 3, .int .u64 (ad : Int), .int .i64 bu, .int .i64 qk, .int .i64 qb, .int .i64 qg, .int .i64 tb, .int .u32 (tg : Int), .int .u32 (ts : Int), .int .u64 (tc : Int), .slice a n cap, .string af, .bool fi, .int .i64 co, .int .i64 ri, .int .u32 (se : Int)] 32))) (by simp))
  have HR0 := Lib.hid (heap_alloc_new w (.cells #[.int .i64 3, .int .u64 (ad : Int), .int .i64 bu, .int .i64 qk, .int .i64 qb, .int .i64 qg, .int .i64 tb, .int .u32 (tg : Int), .int .u32 (ts : Int), .int .u64 (tc : Int), .slice a n cap, .string af, .bool fi, .int .i64 co, .int .i64 ri, .int .u32 (se : Int)] 32))
  have HBA := Lib.hid ((Below.refl w.heap.size w).alloc (Nat.le_refl _) (.cells #[.int .i64 3, .int .u64 (ad : Int), .int .i64 bu, .int .i64 qk, .int .i64 qb, .int .i64 qg, .int .i64 tb, .int .u32 (tg : Int), .int .u32 (ts : Int), .int .u64 (tc : Int), .slice a n cap, .string af, .bool fi, .int .i64 co, .int .i64 ri, .int .u32 (se : Int)] 32))
  go_enter Try.func35, Try.ntmps35
  go_wp2_with fail
  generalize (w.alloc (.cells #[.int .i64 3, .int .u64 (ad : Int), .int .i64 bu, .int .i64 qk, .int .i64 qb, .int .i64 qg, .int .i64 tb, .int .u32 (tg : Int), .int .u32 (ts : Int), .int .u64 (tc : Int), .slice a n cap, .string af, .bool fi, .int .i64 co, .int .i64 ri, .int .u32 (se : Int)] 32)) = W0 at *
  refine (packPut _ _ _ 3 1 _ HS0.out.own HS0.out.le (by have := HB.out.1; have := textL_len9 af.data.toList; first | omega | (simp; done) | (simp; omega)) (by omega) (by omega) (by omega)).mono ?_
  intro e W1 hp
  obtain ⟨v1, rfl, hs⟩ := HS0.out.put hp
  have HS1 := Lib.hid hs
  have HR1 := Lib.hid (HS1.out.row (by decide) HR0.out)
  clear hp hs HS0
  have hcl0 := (cell_of_row W1 w.heap.size 0 _ _ _ HR1.out).trans (show _ = some (.int .i64 3) from rfl)
  have hcl1 := (cell_of_row W1 w.heap.size 1 _ _ _ HR1.out).trans (show _ = some (.int .u64 (ad : Int)) from rfl)
  go_wp2_with fail
  clear hcl0 hcl1
  refine (packPut _ _ _ ad 8 _ HS1.out.own HS1.out.le (by have := HB.out.1; have := textL_len9 af.data.toList; first | omega | (simp; done) | (simp; omega)) HB.out.2.1 (by omega) (by omega)).mono ?_
  intro e W2 hp
  obtain ⟨v2, rfl, hs⟩ := HS1.out.put hp
  have HS2 := Lib.hid hs
  have HR2 := Lib.hid (HS2.out.row (by decide) HR0.out)
  clear hp hs HS1
  have hcl0 := (cell_of_row W2 w.heap.size 0 _ _ _ HR2.out).trans (show _ = some (.int .i64 3) from rfl)
  have hcl2 := (cell_of_row W2 w.heap.size 2 _ _ _ HR2.out).trans (show _ = some (.int .i64 bu) from rfl)
  go_wp2_with fail
  clear hcl0 hcl2
  refine (packPut _ _ _ (u64N bu) 1 _ HS2.out.own HS2.out.le (by have := HB.out.1; have := textL_len9 af.data.toList; first | omega | (simp; done) | (simp; omega)) (u64N_lt _) (by omega) (by omega)).mono ?_
  intro e W3 hp
  obtain ⟨v3, rfl, hs⟩ := HS2.out.put hp
  have HS3 := Lib.hid hs
  have HR3 := Lib.hid (HS3.out.row (by decide) HR0.out)
  clear hp hs HS2
  have hcl0 := (cell_of_row W3 w.heap.size 0 _ _ _ HR3.out).trans (show _ = some (.int .i64 3) from rfl)
  have hcl3 := (cell_of_row W3 w.heap.size 3 _ _ _ HR3.out).trans (show _ = some (.int .i64 qk) from rfl)
  go_wp2_with fail
  clear hcl0 hcl3
  refine (packPut _ _ _ (u64N qk) 8 _ HS3.out.own HS3.out.le (by have := HB.out.1; have := textL_len9 af.data.toList; first | omega | (simp; done) | (simp; omega)) (u64N_lt _) (by omega) (by omega)).mono ?_
  intro e W4 hp
  obtain ⟨v4, rfl, hs⟩ := HS3.out.put hp
  have HS4 := Lib.hid hs
  have HR4 := Lib.hid (HS4.out.row (by decide) HR0.out)
  clear hp hs HS3
  have hcl4 := (cell_of_row W4 w.heap.size 4 _ _ _ HR4.out).trans (show _ = some (.int .i64 qb) from rfl)
  go_wp2_with fail
  clear hcl4
  refine (packPut _ _ _ (u64N qb) 8 _ HS4.out.own HS4.out.le (by have := HB.out.1; have := textL_len9 af.data.toList; first | omega | (simp; done) | (simp; omega)) (u64N_lt _) (by omega) (by omega)).mono ?_
  intro e W5 hp
  obtain ⟨v5, rfl, hs⟩ := HS4.out.put hp
  have HS5 := Lib.hid hs
  have HR5 := Lib.hid (HS5.out.row (by decide) HR0.out)
  clear hp hs HS4
  have hcl5 := (cell_of_row W5 w.heap.size 5 _ _ _ HR5.out).trans (show _ = some (.int .i64 qg) from rfl)
  go_wp2_with fail
  clear hcl5
  refine (packPut _ _ _ (u64N qg) 8 _ HS5.out.own HS5.out.le (by have := HB.out.1; have := textL_len9 af.data.toList; first | omega | (simp; done) | (simp; omega)) (u64N_lt _) (by omega) (by omega)).mono ?_
  intro e W6 hp
  obtain ⟨v6, rfl, hs⟩ := HS5.out.put hp
  have HS6 := Lib.hid hs
  have HR6 := Lib.hid (HS6.out.row (by decide) HR0.out)
  clear hp hs HS5
  go_wp2
  go_ret
  rw [HEQ.out]
  exact HS6.out.makes HBA.out rfl
set_option maxRecDepth 100000 in
set_option maxHeartbeats 4000000 in
theorem putLo (t : Int) (ad : Nat) (bu qk qb qg tb : Int) (tg ts tc : Nat) (ops : List COp) (af : ByteArray) (fi : Bool) (co ri : Int) (se : Nat) (a : Option Addr) (cap : Nat) (w : World) (hrow : IsRowOf COp.cells (fun _ => True) 5 w a ops) (had : ad < 18446744073709551616) (htg : tg < 4294967296) (hts : ts < 4294967296) (htc : tc < 18446744073709551616) (hse : se < 4294967296) (haf : af.size ≤ maxLen) (hop : ∀ x ∈ ops, x.wf) (hn : ops.length ≤ 1000) (h4 : t < 4) (h1 : t ≠ 1) (h3 : t ≠ 3) :
    Calls Try.prog 35 #[.agg #[.int .i64 t, .int .u64 (ad : Int), .int .i64 bu, .int .i64 qk, .int .i64 qb, .int .i64 qg, .int .i64 tb, .int .u32 (tg : Int), .int .u32 (ts : Int), .int .u64 (tc : Int), .slice a ops.length cap, .string af, .bool fi, .int .i64 co, .int .i64 ri, .int .u32 (se : Int)]] w (Makes w (reqL ⟨t, ad, bu, qk, qb, qg, tb, tg, ts, tc, ops, af, fi, co, ri, se⟩)) := by
  have HEQ := Lib.hid (show reqL ⟨t, ad, bu, qk, qb, qg, tb, tg, ts, tc, ops, af, fi, co, ri, se⟩ = [] ++ putL (u64N t) 1 ++ putL ad 8 ++ putL (u64N bu) 1 by unfold reqL lowQ; rw [if_pos (show t ≤ 5 by omega), if_pos h4, if_neg (show ¬ (t = 1 ∨ t = 3) by omega)]; simp)
  have HB := Lib.hid (show 0 ≤ 1000000000 ∧ ad < 18446744073709551616 ∧ tg < 4294967296 ∧ ts < 4294967296 ∧ tc < 18446744073709551616 ∧ se < 4294967296 ∧ af.size ≤ maxLen ∧ ops.length ≤ 1000 from ⟨by omega, had, htg, hts, htc, hse, haf, hn⟩)
  have HROW := Lib.hid hrow
  have HOP := Lib.hid hop
  have hwt := wrap_u64N t
  have hwb := wrap_u64N bu
  have hwk := wrap_u64N qk
  have hwq := wrap_u64N qb
  have hwg := wrap_u64N qg
  have hwc := wrap_u64N co
  have hwr := wrap_u64N ri
  have hws : IntKind.u64.wrap (se : Int) = (se : Int) := by rw [IntKind.wrap_u64]; omega
  have hwn : IntKind.u64.wrap (ops.length : Int) = (ops.length : Int) := by rw [IntKind.wrap_u64]; omega
  have d5 : decide (t ≤ 5) = true := by rw [decide_eq_true_iff]; omega
  have d4 : decide (t < 4) = true := by rw [decide_eq_true_iff]; omega
  have e1 : (t == 1) = false := by simpa using h1
  have e3 : (t == 3) = false := by simpa using h3
  clear h4 h1 h3
  clear had htg hts htc hse haf hop hrow hn
  have HN := Lib.hid (show ops.length = ops.length from rfl)
  generalize hnn : ops.length = n at HB hwn ⊢
  have HNN := Lib.hid hnn
  clear hnn HN
  have HS0 := Lib.hid (BS.start (B := w.heap.size) (OwnB.nil w.heap.size (w.alloc (.cells #[.int .i64 t, .int .u64 (ad : Int), .int .i64 bu, .int .i64 qk, .int .i64 qb, .int .i64 qg, .int .i64 tb, .int .u32 (tg : Int), .int .u32 (ts : Int), .int .u64 (tc : Int), .slice a n cap, .string af, .bool fi, .int .i64 co, .int .i64 ri, .int .u32 (se : Int)] 32))) (by simp))
  have HR0 := Lib.hid (heap_alloc_new w (.cells #[.int .i64 t, .int .u64 (ad : Int), .int .i64 bu, .int .i64 qk, .int .i64 qb, .int .i64 qg, .int .i64 tb, .int .u32 (tg : Int), .int .u32 (ts : Int), .int .u64 (tc : Int), .slice a n cap, .string af, .bool fi, .int .i64 co, .int .i64 ri, .int .u32 (se : Int)] 32))
  have HBA := Lib.hid ((Below.refl w.heap.size w).alloc (Nat.le_refl _) (.cells #[.int .i64 t, .int .u64 (ad : Int), .int .i64 bu, .int .i64 qk, .int .i64 qb, .int .i64 qg, .int .i64 tb, .int .u32 (tg : Int), .int .u32 (ts : Int), .int .u64 (tc : Int), .slice a n cap, .string af, .bool fi, .int .i64 co, .int .i64 ri, .int .u32 (se : Int)] 32))
  go_enter Try.func35, Try.ntmps35
  go_wp2_with fail
  generalize (w.alloc (.cells #[.int .i64 t, .int .u64 (ad : Int), .int .i64 bu, .int .i64 qk, .int .i64 qb, .int .i64 qg, .int .i64 tb, .int .u32 (tg : Int), .int .u32 (ts : Int), .int .u64 (tc : Int), .slice a n cap, .string af, .bool fi, .int .i64 co, .int .i64 ri, .int .u32 (se : Int)] 32)) = W0 at *
  refine (packPut _ _ _ (u64N t) 1 _ HS0.out.own HS0.out.le (by have := HB.out.1; have := textL_len9 af.data.toList; first | omega | (simp; done) | (simp; omega)) (u64N_lt _) (by omega) (by omega)).mono ?_
  intro e W1 hp
  obtain ⟨v1, rfl, hs⟩ := HS0.out.put hp
  have HS1 := Lib.hid hs
  have HR1 := Lib.hid (HS1.out.row (by decide) HR0.out)
  clear hp hs HS0
  have hcl0 := (cell_of_row W1 w.heap.size 0 _ _ _ HR1.out).trans (show _ = some (.int .i64 t) from rfl)
  have hcl1 := (cell_of_row W1 w.heap.size 1 _ _ _ HR1.out).trans (show _ = some (.int .u64 (ad : Int)) from rfl)
  go_wp2_with fail
  clear hcl0 hcl1
  refine (packPut _ _ _ ad 8 _ HS1.out.own HS1.out.le (by have := HB.out.1; have := textL_len9 af.data.toList; first | omega | (simp; done) | (simp; omega)) HB.out.2.1 (by omega) (by omega)).mono ?_
  intro e W2 hp
  obtain ⟨v2, rfl, hs⟩ := HS1.out.put hp
  have HS2 := Lib.hid hs
  have HR2 := Lib.hid (HS2.out.row (by decide) HR0.out)
  clear hp hs HS1
  have hcl0 := (cell_of_row W2 w.heap.size 0 _ _ _ HR2.out).trans (show _ = some (.int .i64 t) from rfl)
  have hcl2 := (cell_of_row W2 w.heap.size 2 _ _ _ HR2.out).trans (show _ = some (.int .i64 bu) from rfl)
  go_wp2_with fail
  clear hcl0 hcl2
  refine (packPut _ _ _ (u64N bu) 1 _ HS2.out.own HS2.out.le (by have := HB.out.1; have := textL_len9 af.data.toList; first | omega | (simp; done) | (simp; omega)) (u64N_lt _) (by omega) (by omega)).mono ?_
  intro e W3 hp
  obtain ⟨v3, rfl, hs⟩ := HS2.out.put hp
  have HS3 := Lib.hid hs
  have HR3 := Lib.hid (HS3.out.row (by decide) HR0.out)
  clear hp hs HS2
  have hcl0 := (cell_of_row W3 w.heap.size 0 _ _ _ HR3.out).trans (show _ = some (.int .i64 t) from rfl)
  go_wp2
  go_ret
  rw [HEQ.out]
  exact HS3.out.makes HBA.out rfl
set_option maxRecDepth 100000 in
set_option maxHeartbeats 4000000 in
theorem put45 (t : Int) (ad : Nat) (bu qk qb qg tb : Int) (tg ts tc : Nat) (ops : List COp) (af : ByteArray) (fi : Bool) (co ri : Int) (se : Nat) (a : Option Addr) (cap : Nat) (w : World) (hrow : IsRowOf COp.cells (fun _ => True) 5 w a ops) (had : ad < 18446744073709551616) (htg : tg < 4294967296) (hts : ts < 4294967296) (htc : tc < 18446744073709551616) (hse : se < 4294967296) (haf : af.size ≤ maxLen) (hop : ∀ x ∈ ops, x.wf) (hn : ops.length ≤ 1000) (h4 : 4 ≤ t) (h5 : t ≤ 5) :
    Calls Try.prog 35 #[.agg #[.int .i64 t, .int .u64 (ad : Int), .int .i64 bu, .int .i64 qk, .int .i64 qb, .int .i64 qg, .int .i64 tb, .int .u32 (tg : Int), .int .u32 (ts : Int), .int .u64 (tc : Int), .slice a ops.length cap, .string af, .bool fi, .int .i64 co, .int .i64 ri, .int .u32 (se : Int)]] w (Makes w (reqL ⟨t, ad, bu, qk, qb, qg, tb, tg, ts, tc, ops, af, fi, co, ri, se⟩)) := by
  have HEQ := Lib.hid (show reqL ⟨t, ad, bu, qk, qb, qg, tb, tg, ts, tc, ops, af, fi, co, ri, se⟩ = [] ++ putL (u64N t) 1 ++ putL ad 8 by unfold reqL lowQ; rw [if_pos (show t ≤ 5 by omega), if_neg (show ¬ t < 4 by omega), if_neg (show ¬ (t = 1 ∨ t = 3) by omega)]; simp)
  have HB := Lib.hid (show 0 ≤ 1000000000 ∧ ad < 18446744073709551616 ∧ tg < 4294967296 ∧ ts < 4294967296 ∧ tc < 18446744073709551616 ∧ se < 4294967296 ∧ af.size ≤ maxLen ∧ ops.length ≤ 1000 from ⟨by omega, had, htg, hts, htc, hse, haf, hn⟩)
  have HROW := Lib.hid hrow
  have HOP := Lib.hid hop
  have hwt := wrap_u64N t
  have hwb := wrap_u64N bu
  have hwk := wrap_u64N qk
  have hwq := wrap_u64N qb
  have hwg := wrap_u64N qg
  have hwc := wrap_u64N co
  have hwr := wrap_u64N ri
  have hws : IntKind.u64.wrap (se : Int) = (se : Int) := by rw [IntKind.wrap_u64]; omega
  have hwn : IntKind.u64.wrap (ops.length : Int) = (ops.length : Int) := by rw [IntKind.wrap_u64]; omega
  have d5 : decide (t ≤ 5) = true := by rw [decide_eq_true_iff]; omega
  have d4 : decide (t < 4) = false := by rw [decide_eq_false_iff_not]; omega
  have e1 : (t == 1) = false := by simp; omega
  have e3 : (t == 3) = false := by simp; omega
  clear h4 h5
  clear had htg hts htc hse haf hop hrow hn
  have HN := Lib.hid (show ops.length = ops.length from rfl)
  generalize hnn : ops.length = n at HB hwn ⊢
  have HNN := Lib.hid hnn
  clear hnn HN
  have HS0 := Lib.hid (BS.start (B := w.heap.size) (OwnB.nil w.heap.size (w.alloc (.cells #[.int .i64 t, .int .u64 (ad : Int), .int .i64 bu, .int .i64 qk, .int .i64 qb, .int .i64 qg, .int .i64 tb, .int .u32 (tg : Int), .int .u32 (ts : Int), .int .u64 (tc : Int), .slice a n cap, .string af, .bool fi, .int .i64 co, .int .i64 ri, .int .u32 (se : Int)] 32))) (by simp))
  have HR0 := Lib.hid (heap_alloc_new w (.cells #[.int .i64 t, .int .u64 (ad : Int), .int .i64 bu, .int .i64 qk, .int .i64 qb, .int .i64 qg, .int .i64 tb, .int .u32 (tg : Int), .int .u32 (ts : Int), .int .u64 (tc : Int), .slice a n cap, .string af, .bool fi, .int .i64 co, .int .i64 ri, .int .u32 (se : Int)] 32))
  have HBA := Lib.hid ((Below.refl w.heap.size w).alloc (Nat.le_refl _) (.cells #[.int .i64 t, .int .u64 (ad : Int), .int .i64 bu, .int .i64 qk, .int .i64 qb, .int .i64 qg, .int .i64 tb, .int .u32 (tg : Int), .int .u32 (ts : Int), .int .u64 (tc : Int), .slice a n cap, .string af, .bool fi, .int .i64 co, .int .i64 ri, .int .u32 (se : Int)] 32))
  go_enter Try.func35, Try.ntmps35
  go_wp2_with fail
  generalize (w.alloc (.cells #[.int .i64 t, .int .u64 (ad : Int), .int .i64 bu, .int .i64 qk, .int .i64 qb, .int .i64 qg, .int .i64 tb, .int .u32 (tg : Int), .int .u32 (ts : Int), .int .u64 (tc : Int), .slice a n cap, .string af, .bool fi, .int .i64 co, .int .i64 ri, .int .u32 (se : Int)] 32)) = W0 at *
  refine (packPut _ _ _ (u64N t) 1 _ HS0.out.own HS0.out.le (by have := HB.out.1; have := textL_len9 af.data.toList; first | omega | (simp; done) | (simp; omega)) (u64N_lt _) (by omega) (by omega)).mono ?_
  intro e W1 hp
  obtain ⟨v1, rfl, hs⟩ := HS0.out.put hp
  have HS1 := Lib.hid hs
  have HR1 := Lib.hid (HS1.out.row (by decide) HR0.out)
  clear hp hs HS0
  have hcl0 := (cell_of_row W1 w.heap.size 0 _ _ _ HR1.out).trans (show _ = some (.int .i64 t) from rfl)
  have hcl1 := (cell_of_row W1 w.heap.size 1 _ _ _ HR1.out).trans (show _ = some (.int .u64 (ad : Int)) from rfl)
  go_wp2_with fail
  clear hcl0 hcl1
  refine (packPut _ _ _ ad 8 _ HS1.out.own HS1.out.le (by have := HB.out.1; have := textL_len9 af.data.toList; first | omega | (simp; done) | (simp; omega)) HB.out.2.1 (by omega) (by omega)).mono ?_
  intro e W2 hp
  obtain ⟨v2, rfl, hs⟩ := HS1.out.put hp
  have HS2 := Lib.hid hs
  have HR2 := Lib.hid (HS2.out.row (by decide) HR0.out)
  clear hp hs HS1
  have hcl0 := (cell_of_row W2 w.heap.size 0 _ _ _ HR2.out).trans (show _ = some (.int .i64 t) from rfl)
  go_wp2
  go_ret
  rw [HEQ.out]
  exact HS2.out.makes HBA.out rfl
end Go.Proofs.Ytlngefhjoobmdaa
namespace Go.Proofs.Ytlngefhjoobmdaa
open Go.RowKit
/-- A bool; new blocks alone. -/
def BoolIs (b : Bool) (w : World) (e : Ending) (W : World) : Prop := e = .returned (.bool b) ∧ Below w.heap.size w W
theorem gives_load_op {o : Oper} {a : Act} {w : World} (ty : TypeId) (x : Operand) (ho : o.op = .load ty x) (p v : Value) (hx : a.eval x = p) (hr : (Instr.loadAt ty p).run Try.prog w = .ok v w) : Reg.gives Try.prog o a w (fun v' w' => v' = v ∧ w' = w) := by
  unfold Reg.gives execOp
  simp only [ho, hx, Sem.run_bind, hr, Result.andThen_ok, Sem.run_pure]
  exact ⟨trivial, trivial⟩
theorem run_load_range (w : World) (b o : Nat) (T : TypeId) (cs : List Value) (d : TypeDesc) (hc : w.rangeAt b o cs) (hu : Try.prog.underlying T = some d) (hd : d.isRow = true) (hi : (Try.prog.info? T).map (·.size) = some cs.length) : (Instr.loadAt T (.pointer (some ⟨b, o, none⟩))).run Try.prog w = .ok (.agg cs.toArray) w := by
  simp only [Instr.loadAt, Instr.sureAddr, Sem.run_bind, Sem.run_pure, Result.andThen_ok, run_loadVar_mid w b o T cs d hc hu hd hi]
theorem lists_ne' {α : Type} {l m : List α} {j : Nat} (h1 : j < l.length) (h2 : j < m.length) (h : l[j] ≠ m[j]) : l ≠ m := by
  intro e
  subst e
  exact h rfl
/-- A guarded load of a struct that lies in a row. -/
theorem wpList_load_midG {ops : Array Oper} {rest : List Oper} {o : Oper} {a : Act} {w : World} {Q : Exit → Act → World → Prop} (ty : TypeId) (x : Operand) (ho : o.op = .load ty x) (b off : Nat) (hx : a.eval x = .pointer (some ⟨b, off, none⟩)) (cs : List Value) (d : TypeDesc)
    (hc : w.rangeAt b off cs) (hu : Try.prog.underlying ty = some d) (hd : d.isRow = true) (hi : (Try.prog.info? ty).map (·.size) = some cs.length) (hw : Region.wanted o (yielded ops a.tmps) = true)
    (h : wpList Try.prog ops Q rest (a.put o.dst (.agg cs.toArray)) w) : wpList Try.prog ops Q (o :: rest) a w := by
  rw [wpList, if_pos hw]
  exact .inl (wp_load_mid ty x ho b off hx cs d hc hu hd hi h)
theorem range_below {w W : World} {b o : Nat} {cs : List Value} (h : w.rangeAt b o cs) (hb : Below w.heap.size w W) (hlt : b < w.heap.size) : W.rangeAt b o cs := fun j v hv => (hb.cell (p := ⟨b, o + j, none⟩) hlt).trans (h j v hv)
set_option maxRecDepth 100000 in
set_option maxHeartbeats 4000000 in
theorem cEqual (a1 : Option Addr) (c1 : Nat) (l : List COp) (a2 : Option Addr) (c2 : Nat) (m : List COp) (w : World) (hl : l.length ≤ 1000000000) (h1 : IsRowOf COp.cells (fun _ => True) 5 w a1 l) (h2 : IsRowOf COp.cells (fun _ => True) 5 w a2 m) :
    Calls Try.prog 55 #[.slice a1 l.length c1, .slice a2 m.length c2] w (BoolIs (decide (l = m)) w) := by
  have H1 := Lib.hid h1
  have H2 := Lib.hid h2
  clear h1 h2
  by_cases hne : l.length = m.length
  rotate_left
  · have d0 : ((l.length : Int) != (m.length : Int)) = true := by rw [bne_iff_ne]; omega
    have hd : decide (l = m) = false := decide_eq_false (fun e => hne (by rw [e]))
    have HD := Lib.hid hd
    clear hd hne
    go_enter Try.func55, Try.ntmps55
    go_wp2
    go_ret
    exact ⟨by rw [HD.out]; rfl, Below.refl _ _⟩
  have d0 : ((l.length : Int) != (m.length : Int)) = false := by rw [hne]; simp
  have HNE := Lib.hid hne
  clear hne
  go_enter Try.func55, Try.ntmps55
  go_wp2
  go_loopw [13] (fun i wr => ∃ j : Nat, j ≤ l.length ∧ i = .int .i64 j ∧ Hid (l.take j = m.take j) ∧ Hid (Below w.heap.size w wr)) (fun i _ => l.length - (intOf i).toNat)
  case atStart => exact ⟨0, Nat.zero_le _, rfl, rfl, Below.refl _ _⟩
  case round =>
    obtain ⟨j, hj, rfl, HT, HB⟩ := hrel
    by_cases hlt : j < l.length
    · have hlm : j < m.length := by have := HNE.out; omega
      have hji : (j : Int) < (l.length : Int) := by omega
      have hji2 : (j : Int) < (m.length : Int) := by omega
      obtain ⟨b1, o1, rfl, hb1, hr1, _⟩ := H1.out j hlt
      obtain ⟨b2, o2, rfl, hb2, hr2, _⟩ := H2.out j hlm
      have HLD1 := Lib.hid (fun (w2 : World) (hb : Below w.heap.size w w2) => run_load_range w2 b1 (o1 + j * 5) 93 _ _ (range_below (range_of hr1) hb hb1) Try.underlying93 rfl cop_size)
      have HLD2 := Lib.hid (fun (w2 : World) (hb : Below w.heap.size w w2) => run_load_range w2 b2 (o2 + j * 5) 93 _ _ (range_below (range_of hr2) hb hb2) Try.underlying93 rfl cop_size)
      have HTK := Lib.hid (fun (e : l[j] = m[j]) => show l.take (j + 1) = m.take (j + 1) from by rw [List.take_succ_eq_append_getElem hlt, List.take_succ_eq_append_getElem hlm, HT.out, e])
      have HBAD := Lib.hid (fun (e : l[j] ≠ m[j]) => show decide (l = m) = false from decide_eq_false (lists_ne' hlt hlm e))
      have HNQ := Lib.hid (fun w => op_neq w l[j] m[j])
      clear hr1 hr2 hb1 hb2
      generalize l[j] = r at *
      generalize m[j] = s at *
      clear hlm
      unfold COp.v at HNQ
      generalize r.cells.toArray = C at *
      generalize s.cells.toArray = D at *
      go_wp2
      refine Reg.wp_region0 (by kernel_rfl) (by kernel_rfl) ?_
      refine Reg.seg0 3 (by kernel_rfl) rfl ?_
      apply Exists.intro
      refine ⟨fun e => ?_, ?_⟩
      · simp only [List.take_succ_cons, List.take_zero]
        repeat (go_big_quiet_step ((intro _; rfl)))
        refine wpQuiet_nil ?_
        exact rfl
      simp only [List.drop_succ_cons, List.drop_zero, Nat.reduceAdd]
      refine Reg.const0 (.agg C) (fun e w2 hR hf => ⟨by rfl, ?_⟩) ?_
      · refine Reg.gives_mono (fun v' w' h => ?_) (gives_load_op 93 (.tmp 18) rfl _ _ rfl (HLD1.out w2 (below_next HB.out (((Below.refl _ _).drew).trans hR))))
        obtain ⟨rfl, rfl⟩ := h
        exact ⟨Reg.bel_refl _, rfl⟩
      simp only [Act.put, List.setIfInBounds_toArray, List.set_cons_zero, List.set_cons_succ, Nat.reduceAdd]
      refine Reg.seg0 3 (by kernel_rfl) rfl ?_
      apply Exists.intro
      refine ⟨fun e => ?_, ?_⟩
      · simp only [List.take_succ_cons, List.take_zero]
        repeat (go_big_quiet_step ((intro _; rfl)))
        refine wpQuiet_nil ?_
        exact rfl
      simp only [List.drop_succ_cons, List.drop_zero, Nat.reduceAdd]
      refine Reg.const0 (.agg D) (fun e w2 hR hf => ⟨by rfl, ?_⟩) ?_
      · refine Reg.gives_mono (fun v' w' h => ?_) (gives_load_op 93 (.tmp 22) rfl _ _ rfl (HLD2.out w2 (below_next HB.out (((Below.refl _ _).drew).trans hR))))
        obtain ⟨rfl, rfl⟩ := h
        exact ⟨Reg.bel_refl _, rfl⟩
      simp only [Act.put, List.setIfInBounds_toArray, List.set_cons_zero, List.set_cons_succ, Nat.reduceAdd]
      refine Reg.const0 (.bool (!decide (r = s))) (fun e w2 hR hf => ⟨by rfl, ?_⟩) ?_
      · refine Reg.gives_mono (fun v' w' h => ?_) (gives_structEq 93 op_guard (.tmp 19) (.tmp 23) .neq rfl C D _ rfl rfl HNQ.out)
        obtain ⟨rfl, rfl⟩ := h
        exact ⟨Reg.bel_refl _, rfl⟩
      simp only [Act.put, List.setIfInBounds_toArray, List.set_cons_zero, List.set_cons_succ, Nat.reduceAdd]
      intro e W9 hR hJ hf
      have HB9 := Lib.hid (below_next HB.out (((Below.refl _ _).drew).trans hR))
      clear hR hJ hf
      by_cases hrs : r = s
      · have HK := Lib.hid (HTK.out hrs)
        rw [decide_eq_true hrs]
        clear hrs HTK HBAD HLD1 HLD2 HNQ HT
        go_wp2
        go_roundw
        case rel => exact ⟨j + 1, by omega, by go_num, HK, HB9⟩
        case measure => simp [intOf]; omega
      · have HK := Lib.hid (HBAD.out hrs)
        rw [decide_eq_false hrs]
        clear hrs HTK HBAD HLD1 HLD2 HNQ HT
        go_wp2
        go_ret
        exact ⟨by rw [HK.out]; rfl, HB9.out⟩
    · obtain rfl : j = l.length := by omega
      have HE : Hid (decide (l = m) = true) := decide_eq_true (by have := HT.out; rw [List.take_length, HNE.out, List.take_length] at this; exact this)
      clear HT
      go_wp2
      go_ret
      exact ⟨by rw [HE.out]; rfl, HB.out⟩
/-- Equal requests: field by field. -/
theorem creq_ext {q r : CReq} (h0 : q.tag = r.tag) (h1 : q.admin = r.admin) (h2 : q.bucket = r.bucket) (h3 : (q.qk, q.qb, q.qg) = (r.qk, r.qb, r.qg)) (h4 : (q.tb, q.tg, q.ts, q.tc) = (r.tb, r.tg, r.ts, r.tc)) (h5 : q.ops = r.ops) (h6 : q.after = r.after) (h7 : q.first = r.first) (h8 : q.count = r.count) (h9 : q.rights = r.rights) (h10 : q.serial = r.serial) : q = r := by
  obtain ⟨⟩ := q
  obtain ⟨⟩ := r
  simp only [Prod.mk.injEq] at *
  simp only [CReq.mk.injEq]
  exact ⟨h0, h1, h2, h3.1, h3.2.1, h3.2.2, h4.1, h4.2.1, h4.2.2.1, h4.2.2.2, h5, h6, h7, h8, h9, h10⟩
end Go.Proofs.Ytlngefhjoobmdaa
