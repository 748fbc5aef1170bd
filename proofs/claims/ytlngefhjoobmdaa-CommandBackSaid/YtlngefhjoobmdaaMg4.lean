/- Texts laid together: CmdPut CmdForm CmdPHead. -/
import Derived.Test.YtlngefhjoobmdaaMg3
import Derived.Deep.MidRow
import Derived.Handy
import Derived.Laws.ResultCell
namespace Go.Proofs.Ytlngefhjoobmdaa
open Go.RowKit
def tailQ (q : CReq) : List UInt8 := if q.tag = 10 then textL q.after.data.toList ++ (putL (bitN q.first) 1 ++ putL (u64N q.count) 1) else if q.tag = 12 then putL (u64N q.rights) 1 else if q.tag = 13 then putL q.serial 4 else []
def headQ (q : CReq) : List UInt8 := putL (u64N q.tag) 1 ++ tokL q.tb q.tg q.ts q.tc
def lowQ (q : CReq) : List UInt8 := putL (u64N q.tag) 1 ++ (putL q.admin 8 ++ ((if q.tag < 4 then putL (u64N q.bucket) 1 else []) ++ (if q.tag = 1 ∨ q.tag = 3 then putL (u64N q.qk) 8 ++ (putL (u64N q.qb) 8 ++ putL (u64N q.qg) 8) else [])))
def opsL (t : Int) (l : List COp) : List UInt8 := l.flatMap (opL t)
/-- What is put of a request. -/
def reqL (q : CReq) : List UInt8 := if q.tag ≤ 5 then lowQ q else (headQ q ++ (if q.tag = 9 then putL q.ops.length 1 else [])) ++ (opsL q.tag q.ops ++ tailQ q)
def CReq.wf (q : CReq) : Prop := q.admin < 18446744073709551616 ∧ q.tg < 4294967296 ∧ q.ts < 4294967296 ∧ q.tc < 18446744073709551616 ∧ q.serial < 4294967296 ∧ q.after.size ≤ maxLen ∧ ∀ x ∈ q.ops, x.wf
theorem opsL_len (t : Int) (l : List COp) : (opsL t l).length ≤ 131091 * l.length := by
  induction l with
  | nil => simp [opsL]
  | cons x l ih =>
    have := opL_len t x
    simp only [opsL, List.flatMap_cons, List.length_append, List.length_cons] at *
    omega
theorem opsL_take (t : Int) (l : List COp) (k : Nat) (h : k < l.length) : opsL t (l.take (k + 1)) = opsL t (l.take k) ++ opL t l[k] := by
  unfold opsL
  rw [List.take_succ_eq_append_getElem h, List.flatMap_append]
  simp
/-- A request that came in, as it lies. -/
structure ReqIn (w : World) (q : CReq) (v : Value) : Prop where
  sl : ∃ a cap, v = .slice a q.ops.length cap ∧ IsRowOf COp.cells (fun _ => True) 5 w a q.ops
  wf : q.wf
theorem ReqIn.bel {w w' : World} {q : CReq} {v : Value} (h : ReqIn w q v) (hb : Below w.heap.size w w') : ReqIn w' q v := by
  obtain ⟨a, cap, h1, h2⟩ := h.sl
  exact ⟨⟨a, cap, h1, h2.bel hb⟩, h.wf⟩
theorem range_row {W : World} {g o : Nat} {C : Array Value} {T : TypeId} {fr : Nat × Nat} (hg : W.heap[g]? = some (.cells C T fr)) (cs : List Value) (h : ∀ j v, cs[j]? = some v → C[o + j]? = some v) : W.rangeAt g o cs := fun j v hv => (cell_of_row W g (o + j) C T fr hg).trans (h j v hv)
theorem range_of {W : World} {g o : Nat} {x : COp} (h : ∀ j, j < 5 → W.cell? ⟨g, o + j, none⟩ = (COp.cells x)[j]?) : W.rangeAt g o x.cells := fun j _ hv => (h j (List.getElem?_eq_some_iff.1 hv).1).trans hv
theorem cop_size : (Try.prog.info? 93).map (·.size) = some 5 := by kernel_rfl
theorem tok_size' : (Try.prog.info? 29).map (·.size) = some 4 := by kernel_rfl
theorem below_boxC (W : World) (Z C : Array Value) (T : TypeId) : Below W.heap.size W ((W.alloc (.cells Z T)).setRow W.heap.size C) := by
  have h := (Below.refl W.heap.size W).alloc (Nat.le_refl _) (.cells Z T)
  exact ⟨h.os, h.tape, h.output, by simp [World.setRow], fun k hk => (setRow_other _ _ k C (by omega)).trans (h.block k hk)⟩
/-- Bytes of its own. -/
def Makes (w : World) (l : List UInt8) (e : Ending) (W : World) : Prop := ∃ v', e = .returned v' ∧ OwnB w.heap.size W v' l ∧ Below w.heap.size w W
theorem BS.makes {w w1 W : World} {v0 v : Value} {l r : List UInt8} (h : BS w.heap.size w1 v0 W v l) (hb : Below w.heap.size w w1) (hr : l = r) : Makes w r (.returned v) W := ⟨v, rfl, hr ▸ h.own, hb.trans h.rk.bel⟩
set_option maxRecDepth 100000 in
set_option maxHeartbeats 4000000 in
theorem put1 (ad : Nat) (bu qk qb qg tb : Int) (tg ts tc : Nat) (ops : List COp) (af : ByteArray) (fi : Bool) (co ri : Int) (se : Nat) (a : Option Addr) (cap : Nat) (w : World) (hrow : IsRowOf COp.cells (fun _ => True) 5 w a ops) (had : ad < 18446744073709551616) (htg : tg < 4294967296) (hts : ts < 4294967296) (htc : tc < 18446744073709551616) (hse : se < 4294967296) (haf : af.size ≤ maxLen) (hop : ∀ x ∈ ops, x.wf) (hn : ops.length ≤ 1000) :
    Calls Try.prog 35 #[.agg #[.int .i64 1, .int .u64 (ad : Int), .int .i64 bu, .int .i64 qk, .int .i64 qb, .int .i64 qg, .int .i64 tb, .int .u32 (tg : Int), .int .u32 (ts : Int), .int .u64 (tc : Int), .slice a ops.length cap, .string af, .bool fi, .int .i64 co, .int .i64 ri, .int .u32 (se : Int)]] w (Makes w (reqL ⟨1, ad, bu, qk, qb, qg, tb, tg, ts, tc, ops, af, fi, co, ri, se⟩)) := by
  have HEQ := Lib.hid (show reqL ⟨1, ad, bu, qk, qb, qg, tb, tg, ts, tc, ops, af, fi, co, ri, se⟩ = [] ++ putL 1 1 ++ putL ad 8 ++ putL (u64N bu) 1 ++ putL (u64N qk) 8 ++ putL (u64N qb) 8 ++ putL (u64N qg) 8 by unfold reqL lowQ; simp [show u64N 1 = 1 from rfl])
  have HB := Lib.hid (show 0 ≤ 1000000000 ∧ ad < 18446744073709551616 ∧ tg < 4294967296 ∧ ts < 4294967296 ∧ tc < 18446744073709551616 ∧ se < 4294967296 ∧ af.size ≤ maxLen ∧ ops.length ≤ 1000 from ⟨by omega, had, htg, hts, htc, hse, haf, hn⟩)
  have HROW := Lib.hid hrow
  have HOP := Lib.hid hop
  have hwt := wrap_u64N 1
  have hwb := wrap_u64N bu
  have hwk := wrap_u64N qk
  have hwq := wrap_u64N qb
  have hwg := wrap_u64N qg
  have hwc := wrap_u64N co
  have hwr := wrap_u64N ri
  have hws : IntKind.u64.wrap (se : Int) = (se : Int) := by rw [IntKind.wrap_u64]; omega
  have hwn : IntKind.u64.wrap (ops.length : Int) = (ops.length : Int) := by rw [IntKind.wrap_u64]; omega
  clear had htg hts htc hse haf hop hrow hn
  have HN := Lib.hid (show ops.length = ops.length from rfl)
  generalize hnn : ops.length = n at HB hwn ⊢
  have HNN := Lib.hid hnn
  clear hnn HN
  have HS0 := Lib.hid (BS.start (B := w.heap.size) (OwnB.nil w.heap.size (w.alloc (.cells #[.int .i64 1, .int .u64 (ad : Int), .int .i64 bu, .int .i64 qk, .int .i64 qb, .int .i64 qg, .int .i64 tb, .int .u32 (tg : Int), .int .u32 (ts : Int), .int .u64 (tc : Int), .slice a n cap, .string af, .bool fi, .int .i64 co, .int .i64 ri, .int .u32 (se : Int)] 32))) (by simp))
  have HR0 := Lib.hid (heap_alloc_new w (.cells #[.int .i64 1, .int .u64 (ad : Int), .int .i64 bu, .int .i64 qk, .int .i64 qb, .int .i64 qg, .int .i64 tb, .int .u32 (tg : Int), .int .u32 (ts : Int), .int .u64 (tc : Int), .slice a n cap, .string af, .bool fi, .int .i64 co, .int .i64 ri, .int .u32 (se : Int)] 32))
  have HBA := Lib.hid ((Below.refl w.heap.size w).alloc (Nat.le_refl _) (.cells #[.int .i64 1, .int .u64 (ad : Int), .int .i64 bu, .int .i64 qk, .int .i64 qb, .int .i64 qg, .int .i64 tb, .int .u32 (tg : Int), .int .u32 (ts : Int), .int .u64 (tc : Int), .slice a n cap, .string af, .bool fi, .int .i64 co, .int .i64 ri, .int .u32 (se : Int)] 32))
  go_enter Try.func35, Try.ntmps35
  go_wp2_with fail
  generalize (w.alloc (.cells #[.int .i64 1, .int .u64 (ad : Int), .int .i64 bu, .int .i64 qk, .int .i64 qb, .int .i64 qg, .int .i64 tb, .int .u32 (tg : Int), .int .u32 (ts : Int), .int .u64 (tc : Int), .slice a n cap, .string af, .bool fi, .int .i64 co, .int .i64 ri, .int .u32 (se : Int)] 32)) = W0 at *
  refine (packPut _ _ _ 1 1 _ HS0.out.own HS0.out.le (by have := HB.out.1; have := textL_len9 af.data.toList; first | omega | (simp; done) | (simp; omega)) (by omega) (by omega) (by omega)).mono ?_
  intro e W1 hp
  obtain ⟨v1, rfl, hs⟩ := HS0.out.put hp
  have HS1 := Lib.hid hs
  have HR1 := Lib.hid (HS1.out.row (by decide) HR0.out)
  clear hp hs HS0
  have hcl0 := (cell_of_row W1 w.heap.size 0 _ _ _ HR1.out).trans (show _ = some (.int .i64 1) from rfl)
  have hcl1 := (cell_of_row W1 w.heap.size 1 _ _ _ HR1.out).trans (show _ = some (.int .u64 (ad : Int)) from rfl)
  go_wp2_with fail
  clear hcl0 hcl1
  refine (packPut _ _ _ ad 8 _ HS1.out.own HS1.out.le (by have := HB.out.1; have := textL_len9 af.data.toList; first | omega | (simp; done) | (simp; omega)) HB.out.2.1 (by omega) (by omega)).mono ?_
  intro e W2 hp
  obtain ⟨v2, rfl, hs⟩ := HS1.out.put hp
  have HS2 := Lib.hid hs
  have HR2 := Lib.hid (HS2.out.row (by decide) HR0.out)
  clear hp hs HS1
  have hcl0 := (cell_of_row W2 w.heap.size 0 _ _ _ HR2.out).trans (show _ = some (.int .i64 1) from rfl)
  have hcl2 := (cell_of_row W2 w.heap.size 2 _ _ _ HR2.out).trans (show _ = some (.int .i64 bu) from rfl)
  go_wp2_with fail
  clear hcl0 hcl2
  refine (packPut _ _ _ (u64N bu) 1 _ HS2.out.own HS2.out.le (by have := HB.out.1; have := textL_len9 af.data.toList; first | omega | (simp; done) | (simp; omega)) (u64N_lt _) (by omega) (by omega)).mono ?_
  intro e W3 hp
  obtain ⟨v3, rfl, hs⟩ := HS2.out.put hp
  have HS3 := Lib.hid hs
  have HR3 := Lib.hid (HS3.out.row (by decide) HR0.out)
  clear hp hs HS2
  have hcl0 := (cell_of_row W3 w.heap.size 0 _ _ _ HR3.out).trans (show _ = some (.int .i64 1) from rfl)
  have hcl3 := (cell_of_row W3 w.heap.size 3 _ _ _ HR3.out).trans (show _ = some (.int .i64 qk) from rfl)
  go_wp2_with fail
  clear hcl0 hcl3
  refine (packPut _ _ _ (u64N qk) 8 _ HS3.out.own HS3.out.le (by have := HB.out.1; have := textL_len9 af.data.toList; first | omega | (simp; done) | (simp; omega)) (u64N_lt _) (by omega) (by omega)).mono ?_
  intro e W4 hp
  obtain ⟨v4, rfl, hs⟩ := HS3.out.put hp
  have HS4 := Lib.hid hs
  have HR4 := Lib.hid (HS4.out.row (by decide) HR0.out)
  clear hp hs HS3
  have hcl4 := (cell_of_row W4 w.heap.size 4 _ _ _ HR4.out).trans (show _ = some (.int .i64 qb) from rfl)
  go_wp2_with fail
  clear hcl4
  refine (packPut _ _ _ (u64N qb) 8 _ HS4.out.own HS4.out.le (by have := HB.out.1; have := textL_len9 af.data.toList; first | omega | (simp; done) | (simp; omega)) (u64N_lt _) (by omega) (by omega)).mono ?_
  intro e W5 hp
  obtain ⟨v5, rfl, hs⟩ := HS4.out.put hp
  have HS5 := Lib.hid hs
  have HR5 := Lib.hid (HS5.out.row (by decide) HR0.out)
  clear hp hs HS4
  have hcl5 := (cell_of_row W5 w.heap.size 5 _ _ _ HR5.out).trans (show _ = some (.int .i64 qg) from rfl)
  go_wp2_with fail
  clear hcl5
  refine (packPut _ _ _ (u64N qg) 8 _ HS5.out.own HS5.out.le (by have := HB.out.1; have := textL_len9 af.data.toList; first | omega | (simp; done) | (simp; omega)) (u64N_lt _) (by omega) (by omega)).mono ?_
  intro e W6 hp
  obtain ⟨v6, rfl, hs⟩ := HS5.out.put hp
  have HS6 := Lib.hid hs
  have HR6 := Lib.hid (HS6.out.row (by decide) HR0.out)
  clear hp hs HS5
  go_wp2
  go_ret
  rw [HEQ.out]
  exact HS6.out.makes HBA.out rfl
set_option maxRecDepth 100000 in
set_option maxHeartbeats 4000000 in
theorem put3 (ad : Nat) (bu qk qb qg tb : Int) (tg ts tc : Nat) (ops : List COp) (af : ByteArray) (fi : Bool) (co ri : Int) (se : Nat) (a : Option Addr) (cap : Nat) (w : World) (hrow : IsRowOf COp.cells (fun _ => True) 5 w a ops) (had : ad < 18446744073709551616) (htg : tg < 4294967296) (hts : ts < 4294967296) (htc : tc < 18446744073709551616) (hse : se < 4294967296) (haf : af.size ≤ maxLen) (hop : ∀ x ∈ ops, x.wf) (hn : ops.length ≤ 1000) :
    Calls Try.prog 35 #[.agg #[.int .i64 3, .int .u64 (ad : Int), .int .i64 bu, .int .i64 qk, .int .i64 qb, .int .i64 qg, .int .i64 tb, .int .u32 (tg : Int), .int .u32 (ts : Int), .int .u64 (tc : Int), .slice a ops.length cap, .string af, .bool fi, .int .i64 co, .int .i64 ri, .int .u32 (se : Int)]] w (Makes w (reqL ⟨3, ad, bu, qk, qb, qg, tb, tg, ts, tc, ops, af, fi, co, ri, se⟩)) := by
  have HEQ := Lib.hid (show reqL ⟨3, ad, bu, qk, qb, qg, tb, tg, ts, tc, ops, af, fi, co, ri, se⟩ = [] ++ putL 3 1 ++ putL ad 8 ++ putL (u64N bu) 1 ++ putL (u64N qk) 8 ++ putL (u64N qb) 8 ++ putL (u64N qg) 8 by unfold reqL lowQ; simp [show u64N 3 = 3 from rfl])
  have HB := Lib.hid (show 0 ≤ 1000000000 ∧ ad < 18446744073709551616 ∧ tg < 4294967296 ∧ ts < 4294967296 ∧ tc < 18446744073709551616 ∧ se < 4294967296 ∧ af.size ≤ maxLen ∧ ops.length ≤ 1000 from ⟨by omega, had, htg, hts, htc, hse, haf, hn⟩)
  have HROW := Lib.hid hrow
  have HOP := Lib.hid hop
  have hwt := wrap_u64N 3
  have hwb := wrap_u64N bu
  have hwk := wrap_u64N qk
  have hwq := wrap_u64N qb
  have hwg := wrap_u64N qg
  have hwc := wrap_u64N co
  have hwr := wrap_u64N ri
  have hws : IntKind.u64.wrap (se : Int) = (se : Int) := by rw [IntKind.wrap_u64]; omega
  have hwn : IntKind.u64.wrap (ops.length : Int) = (ops.length : Int) := by rw [IntKind.wrap_u64]; omega
  clear had htg hts htc hse haf hop hrow hn
  have HN := Lib.hid (show ops.length = ops.length from rfl)
  generalize hnn : ops.length = n at HB hwn ⊢
  have HNN := Lib.hid hnn
  clear hnn HN
  have HS0 := Lib.hid (BS.start (B := w.heap.size) (OwnB.nil w.heap.size (w.alloc (.cells #[.int .i64 3, .int .u64 (ad : Int), .int .i64 bu, .int .i64 qk, .int .i64 qb, .int .i64 qg, .int .i64 tb, .int .u32 (tg : Int), .int .u32 (ts : Int), .int .u64 (tc : Int), .slice a n cap, .string af, .bool fi, .int .i64 co, .int .i64 ri, .int .u32 (se : Int)] 32))) (by simp))
  have HR0 := Lib.hid (heap_alloc_new w (.cells #[.int .i64 3, .int .u64 (ad : Int), .int .i64 bu, .int .i64 qk, .int .i64 qb, .int .i64 qg, .int .i64 tb, .int .u32 (tg : Int), .int .u32 (ts : Int), .int .u64 (tc : Int), .slice a n cap, .string af, .bool fi, .int .i64 co, .int .i64 ri, .int .u32 (se : Int)] 32))
  have HBA := Lib.hid ((Below.refl w.heap.size w).alloc (Nat.le_refl _) (.cells #[.int .i64 3, .int .u64 (ad : Int), .int .i64 bu, .int .i64 qk, .int .i64 qb, .int .i64 qg, .int .i64 tb, .int .u32 (tg : Int), .int .u32 (ts : Int), .int .u64 (tc : Int), .slice a n cap, .string af, .bool fi, .int .i64 co, .int .i64 ri, .int .u32 (se : Int)] 32))
  go_enter Try.func35, Try.ntmps35
  go_wp2_with fail
  generalize (w.alloc (.cells #[.int .i64 3, .int .u64 (ad : Int), .int .i64 bu, .int .i64 qk, .int .i64 qb, .int .i64 qg, .int .i64 tb, .int .u32 (tg : Int), .int .u32 (ts : Int), .int .u64 (tc : Int), .slice a n cap, .string af, .bool fi, .int .i64 co, .int .i64 ri, .int .u32 (se : Int)] 32)) = W0 at *
  refine (packPut _ _ _ 3 1 _ HS0.out.own HS0.out.le (by have := HB.out.1; have := textL_len9 af.data.toList; first | omega | (simp; done) | (simp; omega)) (by omega) (by omega) (by omega)).mono ?_
  intro e W1 hp
  obtain ⟨v1, rfl, hs⟩ := HS0.out.put hp
  have HS1 := Lib.hid hs
  have HR1 := Lib.hid (HS1.out.row (by decide) HR0.out)
  clear hp hs HS0
  have hcl0 := (cell_of_row W1 w.heap.size 0 _ _ _ HR1.out).trans (show _ = some (.int .i64 3) from rfl)
  have hcl1 := (cell_of_row W1 w.heap.size 1 _ _ _ HR1.out).trans (show _ = some (.int .u64 (ad : Int)) from rfl)
  go_wp2_with fail
  clear hcl0 hcl1
  refine (packPut _ _ _ ad 8 _ HS1.out.own HS1.out.le (by have := HB.out.1; have := textL_len9 af.data.toList; first | omega | (simp; done) | (simp; omega)) HB.out.2.1 (by omega) (by omega)).mono ?_
  intro e W2 hp
  obtain ⟨v2, rfl, hs⟩ := HS1.out.put hp
  have HS2 := Lib.hid hs
  have HR2 := Lib.hid (HS2.out.row (by decide) HR0.out)
  clear hp hs HS1
  have hcl0 := (cell_of_row W2 w.heap.size 0 _ _ _ HR2.out).trans (show _ = some (.int .i64 3) from rfl)
  have hcl2 := (cell_of_row W2 w.heap.size 2 _ _ _ HR2.out).trans (show _ = some (.int .i64 bu) from rfl)
  go_wp2_with fail
  clear hcl0 hcl2
  refine (packPut _ _ _ (u64N bu) 1 _ HS2.out.own HS2.out.le (by have := HB.out.1; have := textL_len9 af.data.toList; first | omega | (simp; done) | (simp; omega)) (u64N_lt _) (by omega) (by omega)).mono ?_
  intro e W3 hp
  obtain ⟨v3, rfl, hs⟩ := HS2.out.put hp
  have HS3 := Lib.hid hs
  have HR3 := Lib.hid (HS3.out.row (by decide) HR0.out)
  clear hp hs HS2
  have hcl0 := (cell_of_row W3 w.heap.size 0 _ _ _ HR3.out).trans (show _ = some (.int .i64 3) from rfl)
  have hcl3 := (cell_of_row W3 w.heap.size 3 _ _ _ HR3.out).trans (show _ = some (.int .i64 qk) from rfl)
  go_wp2_with fail
  clear hcl0 hcl3
  refine (packPut _ _ _ (u64N qk) 8 _ HS3.out.own HS3.out.le (by have := HB.out.1; have := textL_len9 af.data.toList; first | omega | (simp; done) | (simp; omega)) (u64N_lt _) (by omega) (by omega)).mono ?_
  intro e W4 hp
  obtain ⟨v4, rfl, hs⟩ := HS3.out.put hp
  have HS4 := Lib.hid hs
  have HR4 := Lib.hid (HS4.out.row (by decide) HR0.out)
  clear hp hs HS3
  have hcl4 := (cell_of_row W4 w.heap.size 4 _ _ _ HR4.out).trans (show _ = some (.int .i64 qb) from rfl)
  go_wp2_with fail
  clear hcl4
  refine (packPut _ _ _ (u64N qb) 8 _ HS4.out.own HS4.out.le (by have := HB.out.1; have := textL_len9 af.data.toList; first | omega | (simp; done) | (simp; omega)) (u64N_lt _) (by omega) (by omega)).mono ?_
  intro e W5 hp
  obtain ⟨v5, rfl, hs⟩ := HS4.out.put hp
  have HS5 := Lib.hid hs
  have HR5 := Lib.hid (HS5.out.row (by decide) HR0.out)
  clear hp hs HS4
  have hcl5 := (cell_of_row W5 w.heap.size 5 _ _ _ HR5.out).trans (show _ = some (.int .i64 qg) from rfl)
  go_wp2_with fail
  clear hcl5
  refine (packPut _ _ _ (u64N qg) 8 _ HS5.out.own HS5.out.le (by have := HB.out.1; have := textL_len9 af.data.toList; first | omega | (simp; done) | (simp; omega)) (u64N_lt _) (by omega) (by omega)).mono ?_
  intro e W6 hp
  obtain ⟨v6, rfl, hs⟩ := HS5.out.put hp
  have HS6 := Lib.hid hs
  have HR6 := Lib.hid (HS6.out.row (by decide) HR0.out)
  clear hp hs HS5
  go_wp2
  go_ret
  rw [HEQ.out]
  exact HS6.out.makes HBA.out rfl
set_option maxRecDepth 100000 in
set_option maxHeartbeats 4000000 in
theorem putLo (t : Int) (ad : Nat) (bu qk qb qg tb : Int) (tg ts tc : Nat) (ops : List COp) (af : ByteArray) (fi : Bool) (co ri : Int) (se : Nat) (a : Option Addr) (cap : Nat) (w : World) (hrow : IsRowOf COp.cells (fun _ => True) 5 w a ops) (had : ad < 18446744073709551616) (htg : tg < 4294967296) (hts : ts < 4294967296) (htc : tc < 18446744073709551616) (hse : se < 4294967296) (haf : af.size ≤ maxLen) (hop : ∀ x ∈ ops, x.wf) (hn : ops.length ≤ 1000) (h4 : t < 4) (h1 : t ≠ 1) (h3 : t ≠ 3) :
    Calls Try.prog 35 #[.agg #[.int .i64 t, .int .u64 (ad : Int), .int .i64 bu, .int .i64 qk, .int .i64 qb, .int .i64 qg, .int .i64 tb, .int .u32 (tg : Int), .int .u32 (ts : Int), .int .u64 (tc : Int), .slice a ops.length cap, .string af, .bool fi, .int .i64 co, .int .i64 ri, .int .u32 (se : Int)]] w (Makes w (reqL ⟨t, ad, bu, qk, qb, qg, tb, tg, ts, tc, ops, af, fi, co, ri, se⟩)) := by
  have HEQ := Lib.hid (show reqL ⟨t, ad, bu, qk, qb, qg, tb, tg, ts, tc, ops, af, fi, co, ri, se⟩ = [] ++ putL (u64N t) 1 ++ putL ad 8 ++ putL (u64N bu) 1 by unfold reqL lowQ; rw [if_pos (show t ≤ 5 by omega), if_pos h4, if_neg (show ¬ (t = 1 ∨ t = 3) by omega)]; simp)
  have HB := Lib.hid (show 0 ≤ 1000000000 ∧ ad < 18446744073709551616 ∧ tg < 4294967296 ∧ ts < 4294967296 ∧ tc < 18446744073709551616 ∧ se < 4294967296 ∧ af.size ≤ maxLen ∧ ops.length ≤ 1000 from ⟨by omega, had, htg, hts, htc, hse, haf, hn⟩)
  have HROW := Lib.hid hrow
  have HOP := Lib.hid hop
  have hwt := wrap_u64N t
  have hwb := wrap_u64N bu
  have hwk := wrap_u64N qk
  have hwq := wrap_u64N qb
  have hwg := wrap_u64N qg
  have hwc := wrap_u64N co
  have hwr := wrap_u64N ri
  have hws : IntKind.u64.wrap (se : Int) = (se : Int) := by rw [IntKind.wrap_u64]; omega
  have hwn : IntKind.u64.wrap (ops.length : Int) = (ops.length : Int) := by rw [IntKind.wrap_u64]; omega
  have d5 : decide (t ≤ 5) = true := by rw [decide_eq_true_iff]; omega
  have d4 : decide (t < 4) = true := by rw [decide_eq_true_iff]; omega
  have e1 : (t == 1) = false := by simpa using h1
  have e3 : (t == 3) = false := by simpa using h3
  clear h4 h1 h3
  clear had htg hts htc hse haf hop hrow hn
  have HN := Lib.hid (show ops.length = ops.length from rfl)
  generalize hnn : ops.length = n at HB hwn ⊢
  have HNN := Lib.hid hnn
  clear hnn HN
  have HS0 := Lib.hid (BS.start (B := w.heap.size) (OwnB.nil w.heap.size (w.alloc (.cells #[.int .i64 t, .int .u64 (ad : Int), .int .i64 bu, .int .i64 qk, .int .i64 qb, .int .i64 qg, .int .i64 tb, .int .u32 (tg : Int), .int .u32 (ts : Int), .int .u64 (tc : Int), .slice a n cap, .string af, .bool fi, .int .i64 co, .int .i64 ri, .int .u32 (se : Int)] 32))) (by simp))
  have HR0 := Lib.hid (heap_alloc_new w (.cells #[.int .i64 t, .int .u64 (ad : Int), .int .i64 bu, .int .i64 qk, .int .i64 qb, .int .i64 qg, .int .i64 tb, .int .u32 (tg : Int), .int .u32 (ts : Int), .int .u64 (tc : Int), .slice a n cap, .string af, .bool fi, .int .i64 co, .int .i64 ri, .int .u32 (se : Int)] 32))
  have HBA := Lib.hid ((Below.refl w.heap.size w).alloc (Nat.le_refl _) (.cells #[.int .i64 t, .int .u64 (ad : Int), .int .i64 bu, .int .i64 qk, .int .i64 qb, .int .i64 qg, .int .i64 tb, .int .u32 (tg : Int), .int .u32 (ts : Int), .int .u64 (tc : Int), .slice a n cap, .string af, .bool fi, .int .i64 co, .int .i64 ri, .int .u32 (se : Int)] 32))
  go_enter Try.func35, Try.ntmps35
  go_wp2_with fail
  generalize (w.alloc (.cells #[.int .i64 t, .int .u64 (ad : Int), .int .i64 bu, .int .i64 qk, .int .i64 qb, .int .i64 qg, .int .i64 tb, .int .u32 (tg : Int), .int .u32 (ts : Int), .int .u64 (tc : Int), .slice a n cap, .string af, .bool fi, .int .i64 co, .int .i64 ri, .int .u32 (se : Int)] 32)) = W0 at *
  refine (packPut _ _ _ (u64N t) 1 _ HS0.out.own HS0.out.le (by have := HB.out.1; have := textL_len9 af.data.toList; first | omega | (simp; done) | (simp; omega)) (u64N_lt _) (by omega) (by omega)).mono ?_
  intro e W1 hp
  obtain ⟨v1, rfl, hs⟩ := HS0.out.put hp
  have HS1 := Lib.hid hs
  have HR1 := Lib.hid (HS1.out.row (by decide) HR0.out)
  clear hp hs HS0
  have hcl0 := (cell_of_row W1 w.heap.size 0 _ _ _ HR1.out).trans (show _ = some (.int .i64 t) from rfl)
  have hcl1 := (cell_of_row W1 w.heap.size 1 _ _ _ HR1.out).trans (show _ = some (.int .u64 (ad : Int)) from rfl)
  go_wp2_with fail
  clear hcl0 hcl1
  refine (packPut _ _ _ ad 8 _ HS1.out.own HS1.out.le (by have := HB.out.1; have := textL_len9 af.data.toList; first | omega | (simp; done) | (simp; omega)) HB.out.2.1 (by omega) (by omega)).mono ?_
  intro e W2 hp
  obtain ⟨v2, rfl, hs⟩ := HS1.out.put hp
  have HS2 := Lib.hid hs
  have HR2 := Lib.hid (HS2.out.row (by decide) HR0.out)
  clear hp hs HS1
  have hcl0 := (cell_of_row W2 w.heap.size 0 _ _ _ HR2.out).trans (show _ = some (.int .i64 t) from rfl)
  have hcl2 := (cell_of_row W2 w.heap.size 2 _ _ _ HR2.out).trans (show _ = some (.int .i64 bu) from rfl)
  go_wp2_with fail
  clear hcl0 hcl2
  refine (packPut _ _ _ (u64N bu) 1 _ HS2.out.own HS2.out.le (by have := HB.out.1; have := textL_len9 af.data.toList; first | omega | (simp; done) | (simp; omega)) (u64N_lt _) (by omega) (by omega)).mono ?_
  intro e W3 hp
  obtain ⟨v3, rfl, hs⟩ := HS2.out.put hp
  have HS3 := Lib.hid hs
  have HR3 := Lib.hid (HS3.out.row (by decide) HR0.out)
  clear hp hs HS2
  have hcl0 := (cell_of_row W3 w.heap.size 0 _ _ _ HR3.out).trans (show _ = some (.int .i64 t) from rfl)
  go_wp2
  go_ret
  rw [HEQ.out]
  exact HS3.out.makes HBA.out rfl
set_option maxRecDepth 100000 in
set_option maxHeartbeats 4000000 in
theorem put45 (t : Int) (ad : Nat) (bu qk qb qg tb : Int) (tg ts tc : Nat) (ops : List COp) (af : ByteArray) (fi : Bool) (co ri : Int) (se : Nat) (a : Option Addr) (cap : Nat) (w : World) (hrow : IsRowOf COp.cells (fun _ => True) 5 w a ops) (had : ad < 18446744073709551616) (htg : tg < 4294967296) (hts : ts < 4294967296) (htc : tc < 18446744073709551616) (hse : se < 4294967296) (haf : af.size ≤ maxLen) (hop : ∀ x ∈ ops, x.wf) (hn : ops.length ≤ 1000) (h4 : 4 ≤ t) (h5 : t ≤ 5) :
    Calls Try.prog 35 #[.agg #[.int .i64 t, .int .u64 (ad : Int), .int .i64 bu, .int .i64 qk, .int .i64 qb, .int .i64 qg, .int .i64 tb, .int .u32 (tg : Int), .int .u32 (ts : Int), .int .u64 (tc : Int), .slice a ops.length cap, .string af, .bool fi, .int .i64 co, .int .i64 ri, .int .u32 (se : Int)]] w (Makes w (reqL ⟨t, ad, bu, qk, qb, qg, tb, tg, ts, tc, ops, af, fi, co, ri, se⟩)) := by
  have HEQ := Lib.hid (show reqL ⟨t, ad, bu, qk, qb, qg, tb, tg, ts, tc, ops, af, fi, co, ri, se⟩ = [] ++ putL (u64N t) 1 ++ putL ad 8 by unfold reqL lowQ; rw [if_pos (show t ≤ 5 by omega), if_neg (show ¬ t < 4 by omega), if_neg (show ¬ (t = 1 ∨ t = 3) by omega)]; simp)
  have HB := Lib.hid (show 0 ≤ 1000000000 ∧ ad < 18446744073709551616 ∧ tg < 4294967296 ∧ ts < 4294967296 ∧ tc < 18446744073709551616 ∧ se < 4294967296 ∧ af.size ≤ maxLen ∧ ops.length ≤ 1000 from ⟨by omega, had, htg, hts, htc, hse, haf, hn⟩)
  have HROW := Lib.hid hrow
  have HOP := Lib.hid hop
  have hwt := wrap_u64N t
  have hwb := wrap_u64N bu
  have hwk := wrap_u64N qk
  have hwq := wrap_u64N qb
  have hwg := wrap_u64N qg
  have hwc := wrap_u64N co
  have hwr := wrap_u64N ri
  have hws : IntKind.u64.wrap (se : Int) = (se : Int) := by rw [IntKind.wrap_u64]; omega
  have hwn : IntKind.u64.wrap (ops.length : Int) = (ops.length : Int) := by rw [IntKind.wrap_u64]; omega
  have d5 : decide (t ≤ 5) = true := by rw [decide_eq_true_iff]; omega
  have d4 : decide (t < 4) = false := by rw [decide_eq_false_iff_not]; omega
  have e1 : (t == 1) = false := by simp; omega
  have e3 : (t == 3) = false := by simp; omega
  clear h4 h5
  clear had htg hts htc hse haf hop hrow hn
  have HN := Lib.hid (show ops.length = ops.length from rfl)
  generalize hnn : ops.length = n at HB hwn ⊢
  have HNN := Lib.hid hnn
  clear hnn HN
  have HS0 := Lib.hid (BS.start (B := w.heap.size) (OwnB.nil w.heap.size (w.alloc (.cells #[.int .i64 t, .int .u64 (ad : Int), .int .i64 bu, .int .i64 qk, .int .i64 qb, .int .i64 qg, .int .i64 tb, .int .u32 (tg : Int), .int .u32 (ts : Int), .int .u64 (tc : Int), .slice a n cap, .string af, .bool fi, .int .i64 co, .int .i64 ri, .int .u32 (se : Int)] 32))) (by simp))
  have HR0 := Lib.hid (heap_alloc_new w (.cells #[.int .i64 t, .int .u64 (ad : Int), .int .i64 bu, .int .i64 qk, .int .i64 qb, .int .i64 qg, .int .i64 tb, .int .u32 (tg : Int), .int .u32 (ts : Int), .int .u64 (tc : Int), .slice a n cap, .string af, .bool fi, .int .i64 co, .int .i64 ri, .int .u32 (se : Int)] 32))
  have HBA := Lib.hid ((Below.refl w.heap.size w).alloc (Nat.le_refl _) (.cells #[.int .i64 t, .int .u64 (ad : Int), .int .i64 bu, .int .i64 qk, .int .i64 qb, .int .i64 qg, .int .i64 tb, .int .u32 (tg : Int), .int .u32 (ts : Int), .int .u64 (tc : Int), .slice a n cap, .string af, .bool fi, .int .i64 co, .int .i64 ri, .int .u32 (se : Int)] 32))
  go_enter Try.func35, Try.ntmps35
  go_wp2_with fail
  generalize (w.alloc (.cells #[.int .i64 t, .int .u64 (ad : Int), .int .i64 bu, .int .i64 qk, .int .i64 qb, .int .i64 qg, .int .i64 tb, .int .u32 (tg : Int), .int .u32 (ts : Int), .int .u64 (tc : Int), .slice a n cap, .string af, .bool fi, .int .i64 co, .int .i64 ri, .int .u32 (se : Int)] 32)) = W0 at *
  refine (packPut _ _ _ (u64N t) 1 _ HS0.out.own HS0.out.le (by have := HB.out.1; have := textL_len9 af.data.toList; first | omega | (simp; done) | (simp; omega)) (u64N_lt _) (by omega) (by omega)).mono ?_
  intro e W1 hp
  obtain ⟨v1, rfl, hs⟩ := HS0.out.put hp
  have HS1 := Lib.hid hs
  have HR1 := Lib.hid (HS1.out.row (by decide) HR0.out)
  clear hp hs HS0
  have hcl0 := (cell_of_row W1 w.heap.size 0 _ _ _ HR1.out).trans (show _ = some (.int .i64 t) from rfl)
  have hcl1 := (cell_of_row W1 w.heap.size 1 _ _ _ HR1.out).trans (show _ = some (.int .u64 (ad : Int)) from rfl)
  go_wp2_with fail
  clear hcl0 hcl1
  refine (packPut _ _ _ ad 8 _ HS1.out.own HS1.out.le (by have := HB.out.1; have := textL_len9 af.data.toList; first | omega | (simp; done) | (simp; omega)) HB.out.2.1 (by omega) (by omega)).mono ?_
  intro e W2 hp
  obtain ⟨v2, rfl, hs⟩ := HS1.out.put hp
  have HS2 := Lib.hid hs
  have HR2 := Lib.hid (HS2.out.row (by decide) HR0.out)
  clear hp hs HS1
  have hcl0 := (cell_of_row W2 w.heap.size 0 _ _ _ HR2.out).trans (show _ = some (.int .i64 t) from rfl)
  go_wp2
  go_ret
  rw [HEQ.out]
  exact HS2.out.makes HBA.out rfl
end Go.Proofs.Ytlngefhjoobmdaa
namespace Go.Proofs.Ytlngefhjoobmdaa
open Go.RowKit
theorem rT_max (s : RS) : (rT s).size ≤ maxLen := Nat.le_trans (rT_size s) (by unfold maxLen; omega)
theorem opN_wf (t : Nat) (s : RS) (bad : Bool) : (opN t s bad).1.wf := by
  unfold opN
  extract_lets f key s2 b2
  split
  · exact ⟨by simp, by simp, rT_max _, by simp [maxLen]⟩
  · split
    · exact ⟨rN8 _, by simp, rT_max _, by simp [maxLen]⟩
    · exact ⟨rN8 _, rN8 _, rT_max _, rT_max _⟩
theorem batchN_len : ∀ (n : Nat) (s : RS) (bad : Bool), (batchN n s bad).1.length ≤ n
  | 0, s, bad => by simp [batchN]
  | n + 1, s, bad => by
    unfold batchN
    split
    · simp
    · have := batchN_len n (opN 9 s bad).2.1 (opN 9 s bad).2.2
      simp only [List.length_cons]
      omega
theorem batchN_wf : ∀ (n : Nat) (s : RS) (bad : Bool), ∀ x ∈ (batchN n s bad).1, x.wf
  | 0, s, bad => by simp [batchN]
  | n + 1, s, bad => by
    unfold batchN
    split
    · simp
    · intro x hx
      rcases List.mem_cons.1 hx with rfl | hx
      · exact opN_wf _ _ _
      · exact batchN_wf n _ _ x hx
theorem tenP_wf (t : Nat) (q : CReq) (s : RS) (bad : Bool) (h : q.wf) (ho : q.ops = []) : (tenP t q s bad).1.wf ∧ (tenP t q s bad).1.ops.length ≤ 255 := by
  obtain ⟨h1, h2, h3, h4, h5, h6, h7⟩ := h
  unfold tenP
  split
  · exact ⟨⟨h1, h2, h3, h4, h5, h6, fun x hx => by simp only [List.mem_singleton] at hx; subst hx; exact opN_wf _ _ _⟩, by simp⟩
  split
  · refine ⟨⟨h1, h2, h3, h4, h5, h6, batchN_wf _ _ _⟩, ?_⟩
    have := batchN_len (rN 1 s) (rN' 1 s) (bad || !(decide (1 ≤ rN 1 s) && decide (rN 1 s ≤ 16)))
    have := rN1 s
    simp only
    omega
  split
  · exact ⟨⟨h1, h2, h3, h4, h5, rT_max _, h7⟩, by simp [ho]⟩
  split
  · exact ⟨⟨h1, h2, h3, h4, h5, h6, h7⟩, by simp [ho]⟩
  split
  · exact ⟨⟨h1, h2, h3, h4, rN4 s, h6, h7⟩, by simp [ho]⟩
  · exact ⟨⟨h1, h2, h3, h4, h5, h6, h7⟩, by simp [ho]⟩
theorem zero_wf : CReq.zero.wf := by unfold CReq.wf CReq.zero maxLen; simp
theorem bodyP_wf (t : Nat) (s : RS) : (bodyP t s).1.wf ∧ (bodyP t s).1.ops.length ≤ 255 := by
  obtain ⟨h1, h2, h3, h4, h5, h6, h7⟩ := zero_wf
  unfold bodyP
  split
  · exact tenP_wf _ _ _ _ ⟨h1, rN4 _, rN4 _, rN8 _, h5, h6, h7⟩ rfl
  split
  · split
    · exact ⟨⟨rN8 _, h2, h3, h4, h5, h6, h7⟩, Nat.zero_le _⟩
    · exact ⟨⟨rN8 _, h2, h3, h4, h5, h6, h7⟩, Nat.zero_le _⟩
  · exact ⟨⟨rN8 _, h2, h3, h4, h5, h6, h7⟩, Nat.zero_le _⟩
theorem parseP_wf {b : List UInt8} {q : CReq} (h : parseP b = some q) : q.wf ∧ q.ops.length ≤ 255 := by
  unfold parseP endP at h
  split at h
  · cases h
  · cases h
    exact bodyP_wf _ _
end Go.Proofs.Ytlngefhjoobmdaa
namespace Go.Proofs.Ytlngefhjoobmdaa
open Go.RowKit
theorem crTen (bq br qb : Nat) (q : CReq) (s : RS) (bad : Bool) (w : World) (t : Nat) (h5 : 5 < t) (ht : q.tag = (t : Int)) (ho : q.ops = []) (h : QS bq br qb (IsCR bq br) w 32 (q.cells nilS) s bad w) : Calls Try.prog 24 #[.pointer (some ⟨bq, 0, none⟩), .pointer (some ⟨qb, 0, none⟩)] w (TenOk bq br qb q s bad w t) := by
  by_cases h6 : t = 6
  · subst h6; exact crTen6 bq br qb q s bad w h ht ho
  by_cases h7 : t = 7
  · subst h7; exact crTen7 bq br qb q s bad w h ht ho
  by_cases h8 : t = 8
  · subst h8; exact crTen8 bq br qb q s bad w h ht ho
  by_cases h9 : t = 9
  · subst h9; exact crTen9 bq br qb q s bad w h ht
  by_cases h10 : t = 10
  · subst h10; exact crTen10 bq br qb q s bad w h ht ho
  by_cases h12 : t = 12
  · subst h12; exact crTen12 bq br qb q s bad w h ht ho
  by_cases h13 : t = 13
  · subst h13; exact crTen13 bq br qb q s bad w h ht ho
  exact crTen0 bq br qb q s bad w t (by omega) h ht ho
/-- The results: a struct in a cell, and a value. -/
theorem results_row_tmp {fn : Func} {p u : Tmp} {ty : TypeId} (h : fn.results = #[.cell p ty, .tmp u]) (tmps : Array Value) (w : World) (g : Nat) (cs : Array Value)
    (hp : tmps.getD p undef = .pointer (some ⟨g, 0, none⟩)) (hr : (loadVar ty ⟨g, 0, none⟩).run Try.prog w = .ok (.agg cs) w) (x : Value) (hx : tmps.getD u undef = x) :
    (results fn tmps).run Try.prog w = .ok (.tuple #[.agg cs, x]) w := by
  rw [results_cell_tmp h, hp, hx]
  simp only [asAddr, Sem.run_pure, Result.andThen_ok, hr]
theorem cells_one (q : CReq) (a : Option Addr) (n cap : Nat) : (q.cells (.slice a n cap)).all (·.oneCell') = true := by
  unfold CReq.cells
  simp [Value.oneCell']
theorem Reads.bel' {w w' : World} {a : Option Addr} {n cap : Nat} {l : List UInt8} (h : Reads w (.slice a n cap) l) (hb : Below w.heap.size w w') : Reads w' (.slice a n cap) l := by
  obtain ⟨a', cap', h1, h2, h3, h4, h5, h6⟩ := h
  exact ⟨a', cap', h1, h2.bel hb, h3, h4, h5, fun x hx hc => ⟨(h6 x hx hc).1, Nat.lt_of_lt_of_le (h6 x hx hc).2 hb.size⟩⟩
def errN : Option CReq → Nat
  | none => 2
  | some _ => 0
/-- A request, and an error; a request, and whether it is one. -/
def tupE (r : Option CReq) (v : Value) : Value := .tuple #[.agg ((reqOf r).cells v), errV (errN r)]
def tupB (r : Option CReq) (v : Value) : Value := .tuple #[.agg ((reqOf r).cells v), .bool r.isSome]
/-- What Parse comes to. -/
structure ParseOk (E : TypeId) (f : Option CReq → Value → Value) (r : Option CReq) (w : World) (e : Ending) (W : World) : Prop where
  ret : ∃ v, e = .returned (f r v) ∧ OwnOf E COp.cells 5 w.heap.size W v (reqOf r).ops
  bel : Below w.heap.size w W
theorem endP_none {r : CReq × RS × Bool} (h : (r.2.2 || r.2.1.2 || decide (0 < rdLeft r.2.1.1 r.2.1.2)) = true) : endP r = none := if_pos h
theorem endP_some {r : CReq × RS × Bool} (h : (r.2.2 || r.2.1.2 || decide (0 < rdLeft r.2.1.1 r.2.1.2)) = false) : endP r = some r.1 := if_neg (by rw [h]; simp)
theorem QS.start {bq br : Nat} {I : RI} {W : World} {T : TypeId} {Z C : Array Value} {s : RS} {bad : Bool} (G : GoodK bq br I) (h : I W s bad) : QS bq br W.heap.size I ((W.alloc (.cells Z T)).setRow W.heap.size C) T C s bad ((W.alloc (.cells Z T)).setRow W.heap.size C) := by
  have h1 := G.lt h
  exact ⟨G, G.row _ _ (G.bel h ((Below.refl W.heap.size W).alloc (Nat.le_refl _) _)) (by omega) (by omega), setRow_heap _ _ Z _ _ _ (heap_alloc_new W _), T3.refl _ _ _ _, by omega⟩
theorem isReader_first {w : World} {Z : Obj} {a : Option Addr} {cap : Nat} {l : List UInt8} (h : Reads w (.slice a l.length cap) l) : IsReader ((w.alloc Z).alloc (.cells #[.slice a l.length cap, .bool false] 105)) (w.heap.size + 1) l false := by
  have := isReader_new (w := w.alloc Z) (h.bel' ((Below.refl _ _).alloc (Nat.le_refl _) _))
  rwa [World.size_alloc] at this
abbrev Z32 : Obj := .cells (CReq.zero.cells nilS) 32 (0, 0)
abbrev cr3 (w : World) (a : Option Addr) (n cap : Nat) : World := ((w.alloc Z32).alloc (.cells #[.slice a n cap, .bool false] 105)).alloc (.cells #[.pointer (some ⟨w.heap.size + 1, 0, none⟩), .bool false] 74)
theorem parse_start {w : World} {a : Option Addr} {cap : Nat} {l : List UInt8} (h : Reads w (.slice a l.length cap) l) : IsCR (w.heap.size + 2) (w.heap.size + 1) (cr3 w a l.length cap) (l, false) false ∧ Below w.heap.size w (cr3 w a l.length cap) ∧ (cr3 w a l.length cap).heap[w.heap.size]? = some Z32 := by
  have hr := isReader_first (Z := Z32) h
  obtain ⟨w2, hw2⟩ : ∃ w2, w2 = (w.alloc Z32).alloc (.cells #[.slice a l.length cap, .bool false] 105) := ⟨_, rfl⟩
  have hs : w2.heap.size = w.heap.size + 2 := by rw [hw2]; simp
  have hb2 : Below w.heap.size w w2 := by rw [hw2]; exact ((Below.refl _ _).alloc (Nat.le_refl _) _).alloc (by simp) _
  have h0 : w2.heap[w.heap.size]? = some Z32 := by rw [hw2]; exact (Below.heap_alloc _ _ _ (by simp)).trans (heap_alloc_new w _)
  unfold cr3
  rw [← hw2] at hr ⊢
  have hb3 := (Below.refl w2.heap.size w2).alloc (Nat.le_refl _) (.cells #[.pointer (some ⟨w.heap.size + 1, 0, none⟩), .bool false] 74)
  refine ⟨⟨?_, hr.bel hb3, by omega⟩, hb2.trans (hb3.mono (by omega)), (hb3.block _ (by omega)).trans h0⟩
  rw [← hs]
  exact heap_alloc_new w2 _
theorem parse_box {w w3 W1 : World} {bq br : Nat} {s : RS} {bad : Bool} (C : Array Value) (hb : Below w.heap.size w w3) (h0 : w3.heap[w.heap.size]? = some Z32) (h1 : w.heap.size < br) (h2 : w.heap.size < bq) (hr : IsCR bq br W1 s bad) (hg : TG bq br w3 W1) :
    QS bq br W1.heap.size (IsCR bq br) ((W1.alloc Z32).setRow W1.heap.size C) 32 C s bad ((W1.alloc Z32).setRow W1.heap.size C) ∧ Below w.heap.size w ((W1.alloc Z32).setRow W1.heap.size C) ∧ ((W1.alloc Z32).setRow W1.heap.size C).heap[w.heap.size]? = some Z32 ∧ (w.heap.size < br ∧ w.heap.size < bq ∧ w.heap.size < W1.heap.size) := by
  have hlt : w.heap.size < w3.heap.size := (Array.getElem?_eq_some_iff.1 h0).1
  have hlt1 : w.heap.size < W1.heap.size := Nat.lt_of_lt_of_le hlt hg.size
  have hbW : Below w.heap.size w W1 := hb.trans (hg.below hb.size (by omega) (by omega))
  have hbA := hbW.alloc hbW.size Z32
  refine ⟨QS.start (goodKCR bq br) hr, ⟨hbA.os, hbA.tape, hbA.output, by simpa [World.setRow] using hbA.size, fun k hk => (setRow_other _ _ _ _ (by omega)).trans (hbA.block k hk)⟩, ?_, h1, h2, hlt1⟩
  refine (setRow_other _ _ _ _ (by omega)).trans ((Below.heap_alloc _ _ _ hlt1).trans ((hg.block _ hlt (by omega) (by omega)).trans h0))
/-- The ending's facts. -/
structure ParseEnd (bq br qb : Nat) (w w1 : World) (r : CReq × RS × Bool) (v : Value) (C : Array Value) (W : World) : Prop where
  c : C = r.1.cells v
  st : QS bq br qb (IsCR bq br) w1 32 C r.2.1 r.2.2 W
  own : OwnOf 93 COp.cells 5 (qb + 1) W v r.1.ops
  bel : Below w.heap.size w w1
  rb : w1.heap[w.heap.size]? = some (.cells (CReq.zero.cells nilS) 32 (0, 0))
  lo : w.heap.size < br ∧ w.heap.size < bq ∧ w.heap.size < qb
section
variable {bq br qb : Nat} {w w1 W : World} {r : CReq × RS × Bool} {v : Value} {C : Array Value}
theorem ParseEnd.rbW (h : ParseEnd bq br qb w w1 r v C W) : W.heap[w.heap.size]? = some (.cells (CReq.zero.cells nilS) 32 (0, 0)) := by
  have h1 := h.lo
  exact (h.st.tg.block _ (Array.getElem?_eq_some_iff.1 h.rb).1 (by omega) (by omega) (by omega)).trans h.rb
theorem ParseEnd.below (h : ParseEnd bq br qb w w1 r v C W) (cs : Array Value) : Below w.heap.size w (W.setRow w.heap.size cs) := by
  have h1 := h.lo
  have h2 := h.bel.trans (h.st.tg.below h.bel.size (by omega) (by omega) (by omega))
  exact ⟨h2.os, h2.tape, h2.output, by simpa [World.setRow] using h2.size, fun k hk => (setRow_other W _ k cs (by omega)).trans (h2.block k hk)⟩
theorem ParseEnd.bad (h : ParseEnd bq br qb w w1 r v C W) (hb : (r.2.2 || r.2.1.2 || decide (0 < rdLeft r.2.1.1 r.2.1.2)) = true) : ParseOk 93 tupE (endP r) w (.returned (.tuple #[.agg (CReq.zero.cells nilS), errV 2])) (W.setRow w.heap.size (CReq.zero.cells nilS)) := by
  rw [endP_none hb]
  exact ⟨⟨nilS, rfl, OwnOf.nil _ _⟩, h.below _⟩
theorem ParseEnd.good (h : ParseEnd bq br qb w w1 r v C W) (hb : (r.2.2 || r.2.1.2 || decide (0 < rdLeft r.2.1.1 r.2.1.2)) = false) : ParseOk 93 tupE (endP r) w (.returned (.tuple #[.agg C, .nilIface])) (W.setRow w.heap.size C) := by
  rw [endP_some hb]
  have h1 := h.lo
  refine ⟨⟨v, by rw [h.c]; rfl, (h.own.kept fun k hk => ?_).mono (by omega)⟩, h.below _⟩
  have := (h.own.block k hk).1
  exact setRow_other W _ k C (by omega)
theorem ParseEnd.runZ (h : ParseEnd bq br qb w w1 r v C W) : (Instr.storeAt 32 (.pointer (some ⟨w.heap.size, 0, none⟩)) (.agg (CReq.zero.cells nilS))).run Try.prog W = .ok () (W.setRow w.heap.size (CReq.zero.cells nilS)) :=
  run_storeRow _ _ _ _ _ h.rbW req_size rfl (cells_one _ _ _ _)
theorem ParseEnd.runC (h : ParseEnd bq br qb w w1 r v C W) : (Instr.storeAt 32 (.pointer (some ⟨w.heap.size, 0, none⟩)) (.agg C)).run Try.prog W = .ok () (W.setRow w.heap.size C) := by
  obtain ⟨a, cap, hv⟩ := h.own.slice
  have hc := h.c
  subst hc
  exact run_storeRow _ _ _ _ _ h.rbW req_size rfl (by rw [hv]; exact cells_one _ _ _ _)
theorem ParseEnd.size (h : ParseEnd bq br qb w w1 r v C W) : (Try.prog.info? 32).map (·.size) = some C.size := by
  rw [h.c]
  exact req_size
end
end Go.Proofs.Ytlngefhjoobmdaa
