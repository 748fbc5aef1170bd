/- Texts laid together: CmdSam Code CmdPutReq RefPHead RegStr RefBHead CmdLaw NumLaws CmdBackLaw CmdExt CmdRes CmdDec CmdDecSt CmdDecode. -/
import Derived.Test.YtlngefhjoobmdaaZCmdSamA
import Derived.Test.YtlngefhjoobmdaaZCmdSamB
import Derived.Test.YtlngefhjoobmdaaZCmdSamC
import Derived.Test.YtlngefhjoobmdaaZCmdSamD
import Derived.Test.YtlngefhjoobmdaaMg1
import Derived.LoopTactic
import Derived.Test.YtlngefhjoobmdaaZCmdPutT
import Derived.Test.YtlngefhjoobmdaaMg5
import Derived.Test.YtlngefhjoobmdaaMg4
import Derived.Deep.MidRow
import Derived.BigQuiet
namespace Go.Proofs.Ytlngefhjoobmdaa
open Go.RowKit
theorem cSame (q r : CReq) (v u : Value) (w : World) (h1 : ∃ a cap, v = .slice a q.ops.length cap ∧ IsRowOf COp.cells (fun _ => True) 5 w a q.ops) (h2 : ∃ a cap, u = .slice a r.ops.length cap ∧ IsRowOf COp.cells (fun _ => True) 5 w a r.ops) (hl : q.ops.length ≤ 1000000000) : Calls Try.prog 36 #[.agg (q.cells v), .agg (r.cells u)] w (BoolIs (decide (q = r)) w) := by
  obtain ⟨tag1, ad1, bu1, qk1, qb1, qg1, tb1, tg1, ts1, tc1, ops1, af1, fi1, co1, ri1, se1⟩ := q
  obtain ⟨tag2, ad2, bu2, qk2, qb2, qg2, tb2, tg2, ts2, tc2, ops2, af2, fi2, co2, ri2, se2⟩ := r
  obtain ⟨a1, cap1, rfl, r1⟩ := h1
  obtain ⟨a2, cap2, rfl, r2⟩ := h2
  simp only at *
  by_cases h0 : tag1 = tag2
  rotate_left
  · rw [decide_eq_false (fun e => h0 (by injection e))]
    exact cSame0 tag1 tag2 ad1 ad2 bu1 bu2 qk1 qk2 qb1 qb2 qg1 qg2 tb1 tb2 tg1 tg2 ts1 ts2 tc1 tc2 ops1 ops2 af1 af2 fi1 fi2 co1 co2 ri1 ri2 se1 se2 a1 a2 cap1 cap2 w r1 r2 hl h0
  subst h0
  by_cases h1 : ad1 = ad2
  rotate_left
  · rw [decide_eq_false (fun e => h1 (by injection e))]
    exact cSame1 tag1 ad1 ad2 bu1 bu2 qk1 qk2 qb1 qb2 qg1 qg2 tb1 tb2 tg1 tg2 ts1 ts2 tc1 tc2 ops1 ops2 af1 af2 fi1 fi2 co1 co2 ri1 ri2 se1 se2 a1 a2 cap1 cap2 w r1 r2 hl h1
  subst h1
  by_cases h2 : bu1 = bu2
  rotate_left
  · rw [decide_eq_false (fun e => h2 (by injection e))]
    exact cSame2 tag1 ad1 bu1 bu2 qk1 qk2 qb1 qb2 qg1 qg2 tb1 tb2 tg1 tg2 ts1 ts2 tc1 tc2 ops1 ops2 af1 af2 fi1 fi2 co1 co2 ri1 ri2 se1 se2 a1 a2 cap1 cap2 w r1 r2 hl h2
  subst h2
  by_cases h3 : qk1 = qk2
  rotate_left
  · rw [decide_eq_false (fun e => h3 (by injection e))]
    exact cSame3 tag1 ad1 bu1 qk1 qk2 qb1 qb2 qg1 qg2 tb1 tb2 tg1 tg2 ts1 ts2 tc1 tc2 ops1 ops2 af1 af2 fi1 fi2 co1 co2 ri1 ri2 se1 se2 a1 a2 cap1 cap2 w r1 r2 hl h3
  subst h3
  by_cases h4 : qb1 = qb2
  rotate_left
  · rw [decide_eq_false (fun e => h4 (by injection e))]
    exact cSame4 tag1 ad1 bu1 qk1 qb1 qb2 qg1 qg2 tb1 tb2 tg1 tg2 ts1 ts2 tc1 tc2 ops1 ops2 af1 af2 fi1 fi2 co1 co2 ri1 ri2 se1 se2 a1 a2 cap1 cap2 w r1 r2 hl h4
  subst h4
  by_cases h5 : qg1 = qg2
  rotate_left
  · rw [decide_eq_false (fun e => h5 (by injection e))]
    exact cSame5 tag1 ad1 bu1 qk1 qb1 qg1 qg2 tb1 tb2 tg1 tg2 ts1 ts2 tc1 tc2 ops1 ops2 af1 af2 fi1 fi2 co1 co2 ri1 ri2 se1 se2 a1 a2 cap1 cap2 w r1 r2 hl h5
  subst h5
  by_cases h6 : tb1 = tb2
  rotate_left
  · rw [decide_eq_false (fun e => h6 (by injection e))]
    exact cSame6 tag1 ad1 bu1 qk1 qb1 qg1 tb1 tb2 tg1 tg2 ts1 ts2 tc1 tc2 ops1 ops2 af1 af2 fi1 fi2 co1 co2 ri1 ri2 se1 se2 a1 a2 cap1 cap2 w r1 r2 hl h6
  subst h6
  by_cases h7 : tg1 = tg2
  rotate_left
  · rw [decide_eq_false (fun e => h7 (by injection e))]
    exact cSame7 tag1 ad1 bu1 qk1 qb1 qg1 tb1 tg1 tg2 ts1 ts2 tc1 tc2 ops1 ops2 af1 af2 fi1 fi2 co1 co2 ri1 ri2 se1 se2 a1 a2 cap1 cap2 w r1 r2 hl h7
  subst h7
  by_cases h8 : ts1 = ts2
  rotate_left
  · rw [decide_eq_false (fun e => h8 (by injection e))]
    exact cSame8 tag1 ad1 bu1 qk1 qb1 qg1 tb1 tg1 ts1 ts2 tc1 tc2 ops1 ops2 af1 af2 fi1 fi2 co1 co2 ri1 ri2 se1 se2 a1 a2 cap1 cap2 w r1 r2 hl h8
  subst h8
  by_cases h9 : tc1 = tc2
  rotate_left
  · rw [decide_eq_false (fun e => h9 (by injection e))]
    exact cSame9 tag1 ad1 bu1 qk1 qb1 qg1 tb1 tg1 ts1 tc1 tc2 ops1 ops2 af1 af2 fi1 fi2 co1 co2 ri1 ri2 se1 se2 a1 a2 cap1 cap2 w r1 r2 hl h9
  subst h9
  by_cases h10 : ops1 = ops2
  rotate_left
  · rw [decide_eq_false (fun e => h10 (by injection e))]
    exact cSame10 tag1 ad1 bu1 qk1 qb1 qg1 tb1 tg1 ts1 tc1 ops1 ops2 af1 af2 fi1 fi2 co1 co2 ri1 ri2 se1 se2 a1 a2 cap1 cap2 w r1 r2 hl h10
  subst h10
  by_cases h11 : af1 = af2
  rotate_left
  · rw [decide_eq_false (fun e => h11 (by injection e))]
    exact cSame11 tag1 ad1 bu1 qk1 qb1 qg1 tb1 tg1 ts1 tc1 ops1 af1 af2 fi1 fi2 co1 co2 ri1 ri2 se1 se2 a1 a2 cap1 cap2 w r1 r2 hl h11
  subst h11
  by_cases h12 : fi1 = fi2
  rotate_left
  · rw [decide_eq_false (fun e => h12 (by injection e))]
    exact cSame12 tag1 ad1 bu1 qk1 qb1 qg1 tb1 tg1 ts1 tc1 ops1 af1 fi1 fi2 co1 co2 ri1 ri2 se1 se2 a1 a2 cap1 cap2 w r1 r2 hl h12
  subst h12
  by_cases h13 : co1 = co2
  rotate_left
  · rw [decide_eq_false (fun e => h13 (by injection e))]
    exact cSame13 tag1 ad1 bu1 qk1 qb1 qg1 tb1 tg1 ts1 tc1 ops1 af1 fi1 co1 co2 ri1 ri2 se1 se2 a1 a2 cap1 cap2 w r1 r2 hl h13
  subst h13
  by_cases h14 : ri1 = ri2
  rotate_left
  · rw [decide_eq_false (fun e => h14 (by injection e))]
    exact cSame14 tag1 ad1 bu1 qk1 qb1 qg1 tb1 tg1 ts1 tc1 ops1 af1 fi1 co1 ri1 ri2 se1 se2 a1 a2 cap1 cap2 w r1 r2 hl h14
  subst h14
  by_cases h15 : se1 = se2
  rotate_left
  · rw [decide_eq_false (fun e => h15 (by injection e))]
    exact cSame15 tag1 ad1 bu1 qk1 qb1 qg1 tb1 tg1 ts1 tc1 ops1 af1 fi1 co1 ri1 se1 se2 a1 a2 cap1 cap2 w r1 r2 hl h15
  subst h15
  rw [decide_eq_true rfl]
  exact cSame16 tag1 ad1 bu1 qk1 qb1 qg1 tb1 tg1 ts1 tc1 ops1 af1 fi1 co1 ri1 se1 a1 a2 cap1 cap2 w r1 r2 hl
end Go.Proofs.Ytlngefhjoobmdaa
namespace Go.Proofs.Ytlngefhjoobmdaa
open Go.RowKit
set_option maxHeartbeats 1000000 in
theorem lawCode (c : Nat) (w : World) (hc : c ≤ 15) : Calls Try.prog 9 #[errV c] w (fun e w' => e = .returned (.int .i64 (c : Int)) ∧ w' = w) := by
  by_cases h0 : c = 0
  · subst h0
    rw [show errV 0 = .nilIface from rfl]
    have k1 := code_nil_nil
    go_enter Try.func9, Try.ntmps9
    go_wp2
    go_ret
    exact ⟨rfl, rfl⟩
  · rw [show errV c = .iface 57 (.int .i64 (c : Int)) from if_neg h0]
    have k1 := code_eql_nil
    have k2 := code_eql
    go_enter Try.func9, Try.ntmps9
    go_wp2
    go_loop [3] (fun i => ∃ k : Nat, 1 ≤ k ∧ k ≤ c ∧ i = .int .i64 k) (fun i => 16 - (intOf i).toNat)
    case atStart => exact ⟨1, by omega, by omega, rfl⟩
    case round =>
      obtain ⟨k, hk1, hk, rfl⟩ := hrel
      have d1 : decide ((k : Int) ≤ 15) = true := by simp; omega
      by_cases hkc : k = c
      · subst hkc
        go_wp2
        go_ret
        exact ⟨rfl, rfl⟩
      · have d2 : ((c : Int) == (k : Int)) = false := by simp; omega
        go_wp2
        go_round
        case rel => exact ⟨k + 1, by omega, by omega, by go_num⟩
        case measure => simp [intOf]; omega
end Go.Proofs.Ytlngefhjoobmdaa
namespace Go.Proofs.Ytlngefhjoobmdaa
open Go.RowKit
/-- A request's bytes, if it has some. -/
def putQ (q : CReq) : Option (List UInt8) := if 16 < q.ops.length then none else if parseP (reqL q) = some q then some (reqL q) else none
structure PutOk (r : Option (List UInt8)) (w : World) (e : Ending) (W : World) : Prop where
  ret : (r = none → e = .returned (.tuple #[.slice none 0 0, errV 1])) ∧ ∀ b, r = some b → ∃ v, e = .returned (.tuple #[v, .nilIface]) ∧ OwnB w.heap.size W v b
  bel : Below w.heap.size w W
theorem putOk_none {w W : World} {r : Option (List UInt8)} (h : r = none) (hb : Below w.heap.size w W) : PutOk r w (.returned (.tuple #[.slice none 0 0, errV 1])) W := ⟨⟨fun _ => rfl, fun b e => (by rw [h] at e; cases e)⟩, hb⟩
theorem putOk_some {w W : World} {r : Option (List UInt8)} {b : List UInt8} {v : Value} (h : r = some b) (ho : OwnB w.heap.size W v b) (hb : Below w.heap.size w W) : PutOk r w (.returned (.tuple #[v, .nilIface])) W := ⟨⟨fun e => (by rw [h] at e; cases e), fun b' e => (by rw [h] at e; cases e; exact ⟨v, rfl, ho⟩)⟩, hb⟩
theorem wpList_load_rowG {ops : Array Oper} {rest : List Oper} {o : Oper} {a : Act} {w : World} {Q : Exit → Act → World → Prop} (x : Operand) (ho : o.op = .load 32 x) (g : Nat) (hx : a.eval x = .pointer (some ⟨g, 0, none⟩)) (cs : Array Value) (fr : Nat × Nat)
    (hg : w.heap[g]? = some (.cells cs 32 fr)) (hs : (Try.prog.info? 32).map (·.size) = some cs.size) (hw : Region.wanted o (yielded ops a.tmps) = true)
    (h : wpList Try.prog ops Q rest (a.put o.dst (.agg cs)) w) : wpList Try.prog ops Q (o :: rest) a w := by
  rw [wpList, if_pos hw]
  exact .inl (wp_load_row 32 x ho g hx 32 cs fr _ hg Try.underlying32 rfl hs h)
theorem creq_size (q : CReq) (v : Value) : (Try.prog.info? 32).map (·.size) = some (q.cells v).size := req_size
theorem errN_none : errV (errN none) = .iface 57 (.int .i64 2) := rfl
theorem OwnB.mono' {B B' : Nat} {w : World} {v : Value} {l : List UInt8} (h : OwnB B w v l) (hB : B' ≤ B) : OwnB B' w v l := by
  refine ⟨h.1, ?_⟩
  rcases h.2 with h2 | ⟨g, cap, cur, hv, hbg, hg, hr⟩
  · exact .inl h2
  · exact .inr ⟨g, cap, cur, hv, Nat.le_trans hB hbg, hg, hr⟩
theorem req_rowOf {E : TypeId} {B : Nat} {W : World} {v : Value} {l : List COp} (h : OwnOf E COp.cells 5 B W v l) : ∃ a cap, v = .slice a l.length cap ∧ IsRowOf COp.cells (fun _ => True) 5 W a l := by
  obtain ⟨a, cap, h1, h2, _⟩ := h.rowOf cop_len (W := fun _ => True) (fun _ _ => trivial)
  exact ⟨a, cap, h1, h2⟩
set_option maxRecDepth 100000 in
set_option maxHeartbeats 4000000 in
theorem cPutReq (q : CReq) (v : Value) (w : World) (h : ReqIn w q v) (hn : q.ops.length ≤ 1000000) : Calls Try.prog 13 #[.agg (q.cells v)] w (PutOk (putQ q) w) := by
  obtain ⟨a, cap, hv, _⟩ := h.sl
  have HV := Lib.hid hv
  by_cases h16 : 16 < q.ops.length
  · have hl : decide ((16 : Int) < (q.ops.length : Int)) = true := by rw [decide_eq_true_iff]; omega
    have HP := Lib.hid (show putQ q = none from if_pos h16)
    have HB := Lib.hid ((Below.refl w.heap.size w).alloc (Nat.le_refl _) (.cells (q.cells v) 32))
    rw [hv] at HB ⊢
    have hc := (cell_of_row _ w.heap.size 10 _ _ _ (heap_alloc_new w (.cells (q.cells (.slice a q.ops.length cap)) 32))).trans (show _ = some (.slice a q.ops.length cap) from rfl)
    generalize q.cells (.slice a q.ops.length cap) = C at *
    clear h16 h
    go_enter Try.func13, Try.ntmps13
    go_wp2_with fail
    go_ret2
    exact putOk_none HP.out HB.out
  · have hl : decide ((16 : Int) < (q.ops.length : Int)) = false := by rw [decide_eq_false_iff_not]; omega
    have HP := Lib.hid (show putQ q = if parseP (reqL q) = some q then some (reqL q) else none from if_neg h16)
    have HB := Lib.hid ((Below.refl w.heap.size w).alloc (Nat.le_refl _) (.cells (q.cells v) 32))
    have HIN := Lib.hid (h.bel HB.out)
    have HN := Lib.hid (show q.ops.length ≤ 16 by omega)
    have HR0 := Lib.hid (heap_alloc_new w (.cells (q.cells v) 32))
    have HSZ := Lib.hid (creq_size q v)
    have HPUT := Lib.hid (fun W (hi : ReqIn W q v) => cPut q v W hi (by omega))
    have HSAME := Lib.hid (fun W (hi : ReqIn W q v) (r : CReq) (u : Value) hu => cSame q r v u W hi.sl hu (by omega))
    have hc := (cell_of_row _ w.heap.size 10 _ _ _ (heap_alloc_new w (.cells (q.cells v) 32))).trans (show _ = some (.slice a q.ops.length cap) from by rw [hv]; rfl)
    generalize q.cells v = C at *
    clear h16 h hn hv
    go_enter Try.func13, Try.ntmps13
    go_wp2_with ((with_reducible refine atLoad ?_); refine wpList_load_row rfl 32 (.tmp 1) rfl w.heap.size rfl 32 C (0, 0) _ HR0.out Try.underlying32 rfl HSZ.out ?_)
    generalize hW0 : w.alloc (.cells C 32) = W0 at *
    have HWS := Lib.hid (show W0.heap.size = w.heap.size + 1 by rw [← hW0]; simp)
    clear hW0
    refine (HPUT.out _ HIN.out).mono ?_
    rintro e W1 ⟨v1, rfl, ho1, hb1⟩
    have HO1 := Lib.hid ho1
    have HB1 := Lib.hid (hb1)
    obtain ⟨a1, cap1, hv1, hrd⟩ := OwnB.reads ho1
    rw [hv1] at HO1
    have HRD := Lib.hid (OwnB.reads HO1.out)
    subst hv1
    clear ho1 hb1 hrd hc
    go_wp2_with fail
    refine (crParse a1 cap1 (reqL q) W1 HRD.out).mono ?_
    rintro e W2 ⟨⟨u, rfl, hou⟩, hb2⟩
    have HOU := Lib.hid hou
    have HB2 := Lib.hid hb2
    clear hou hb2 HRD
    generalize hpp : parseP (reqL q) = r at *
    obtain ⟨D, hD⟩ : ∃ D, D = (reqOf r).cells u := ⟨_, rfl⟩
    have HD := Lib.hid hD
    unfold tupE
    rw [← hD]
    obtain ⟨W3, hW3⟩ : ∃ W3, W3 = (W2.alloc (.cells (CReq.zero.cells nilS) 32)).setRow W2.heap.size D := ⟨_, rfl⟩
    have HS3 := Lib.hid (run_storeRow (W2.alloc (.cells (CReq.zero.cells nilS) 32)) 32 W2.heap.size (CReq.zero.cells nilS) D (heap_alloc_new W2 _) (by rw [hD]; exact req_size) (by rw [hD]; rfl) (by obtain ⟨a5, c5, h5⟩ := HOU.out.slice; rw [hD, h5]; exact cells_one _ _ _ _))
    have HL3 := Lib.hid (setRow_heap (W2.alloc (.cells (CReq.zero.cells nilS) 32)) W2.heap.size (CReq.zero.cells nilS) D 32 (0, 0) (heap_alloc_new W2 _))
    have HB3 := Lib.hid (below_boxC W2 (CReq.zero.cells nilS) D 32)
    rw [← hW3] at HS3 HL3 HB3
    have HSZ3 := Lib.hid (show (Try.prog.info? 32).map (·.size) = some D.size by rw [hD]; exact req_size)
    clear hW3 hD
    cases r with
    | none =>
      have HPN := Lib.hid (show putQ q = none by rw [HP.out]; simp)
      rw [errN_none]
      have k1 := code_neq_nil
      go_wp2_with ((with_reducible refine atStore ?_); refine wpList_store_by rfl 32 (.tmp 5) (.tmp 17) rfl (.pointer (some ⟨W2.heap.size, 0, none⟩)) _ rfl rfl HS3.out ?_)
      go_ret2
      exact putOk_none HPN.out (HB.out.trans ((HB1.out.trans ((HB2.out.trans (HB3.out.mono (by have := HB2.out.size; omega))).mono HB1.out.size)).mono (by have := HWS.out; omega)))
    | some p =>
      rw [show errV (errN (some p)) = .nilIface from rfl]
      have HB13 := Lib.hid (HB1.out.trans ((HB2.out.trans (HB3.out.mono HB2.out.size)).mono HB1.out.size))
      have HR3 := Lib.hid ((HB13.out.block w.heap.size (by have := HWS.out; omega)).trans HR0.out)
      have HIN3 := Lib.hid (HIN.out.bel HB13.out)
      have HOU3 := Lib.hid (HOU.out.bel HB3.out)
      have HO13 := Lib.hid (HO1.out.bel (HB2.out.trans (HB3.out.mono HB2.out.size)))
      go_wp2_with (first | ((with_reducible refine atStore ?_); refine wpList_store_by rfl 32 (.tmp 5) (.tmp 17) rfl (.pointer (some ⟨W2.heap.size, 0, none⟩)) _ rfl rfl HS3.out ?_) | ((with_reducible refine atLoad ?_); refine wpList_load_rowG (.tmp 1) rfl w.heap.size rfl C (0, 0) HR3.out HSZ.out rfl ?_) | ((with_reducible refine atLoad ?_); refine wpList_load_rowG (.tmp 5) rfl W2.heap.size rfl D (0, 0) HL3.out HSZ3.out rfl ?_))
      rw [HD.out]
      refine (HSAME.out _ HIN3.out p u (req_rowOf HOU3.out)).mono ?_
      rintro e W4 ⟨rfl, hb4⟩
      have HB4 := Lib.hid hb4
      clear hb4
      by_cases hqp : q = p
      · have HPS := Lib.hid (show putQ q = some (reqL q) by rw [HP.out, hqp]; simp)
        rw [decide_eq_true hqp]
        clear hqp
        go_wp2_with fail
        go_ret2
        exact putOk_some HPS.out (OwnB.mono' (HO13.out.bel HB4.out) (by have := HWS.out; omega)) (HB.out.trans ((HB13.out.trans (HB4.out.mono HB13.out.size)).mono (by have := HWS.out; omega)))
      · have HPN := Lib.hid (show putQ q = none by rw [HP.out, if_neg (fun e => hqp (by cases e; rfl))])
        rw [decide_eq_false hqp]
        clear hqp
        go_wp2_with fail
        go_ret2
        exact putOk_none HPN.out (HB.out.trans ((HB13.out.trans (HB4.out.mono HB13.out.size)).mono (by have := HWS.out; omega)))
end Go.Proofs.Ytlngefhjoobmdaa
namespace Go.Proofs.Ytlngefhjoobmdaa
open Go.RowKit
abbrev Z39 : Obj := .cells (CReq.zero.cells nilS) 39 (0, 0)
abbrev pr3 (w : World) (a : Option Addr) (n cap : Nat) : World := ((w.alloc Z39).alloc (.cells #[.slice a n cap, .int .i64 0, .bool false] 85)).alloc (.cells #[.pointer (some ⟨w.heap.size + 1, 0, none⟩), .bool false] 87)
theorem isRef_first {w : World} {Z : Obj} {a : Option Addr} {cap : Nat} {l : List UInt8} (h : Reads w (.slice a l.length cap) l) : IsRef ((w.alloc Z).alloc (.cells #[.slice a l.length cap, .int .i64 0, .bool false] 85)) (w.heap.size + 1) l 0 false := by
  obtain ⟨a', cap', he, h1, h2, h3, h4, h5⟩ := h
  cases he
  have hb := (Below.refl w.heap.size w).alloc (Nat.le_refl _) Z
  have hb2 := (Below.refl (w.alloc Z).heap.size (w.alloc Z)).alloc (Nat.le_refl _) (.cells #[.slice a l.length cap, .int .i64 0, .bool false] 85)
  refine ⟨a, cap, ?_, (h1.bel hb).bel hb2, h2, h3, Nat.zero_le _, fun x off e hc => ?_, h4, fun x hx hc => ⟨(h5 x hx hc).1, ?_⟩⟩
  · have := heap_alloc_new (w.alloc Z) (.cells #[.slice a l.length cap, .int .i64 0, .bool false] 85 (0, 0))
    rwa [World.size_alloc] at this
  · have := (h5 _ e hc).2
    simp only at this
    omega
  · have := (h5 x hx hc).2
    simp
    omega
theorem rparse_start {w : World} {a : Option Addr} {cap : Nat} {l : List UInt8} (h : Reads w (.slice a l.length cap) l) (hl : l.length ≤ 100000000000) :
    IsPR (w.heap.size + 2) (w.heap.size + 1) (pr3 w a l.length cap) (l, false) false ∧ Below w.heap.size w (pr3 w a l.length cap) ∧ (pr3 w a l.length cap).heap[w.heap.size]? = some Z39 ∧ (pr3 w a l.length cap).heap.size = w.heap.size + 3 := by
  have hr := isRef_first (Z := Z39) h
  obtain ⟨w2, hw2⟩ : ∃ w2, w2 = (w.alloc Z39).alloc (.cells #[.slice a l.length cap, .int .i64 0, .bool false] 85) := ⟨_, rfl⟩
  have hs : w2.heap.size = w.heap.size + 2 := by rw [hw2]; simp
  have hb2 : Below w.heap.size w w2 := by rw [hw2]; exact ((Below.refl _ _).alloc (Nat.le_refl _) _).alloc (by simp) _
  have h0 : w2.heap[w.heap.size]? = some Z39 := by rw [hw2]; exact (Below.heap_alloc _ _ _ (by simp)).trans (heap_alloc_new w _)
  unfold pr3
  rw [← hw2] at hr ⊢
  have hb3 := (Below.refl w2.heap.size w2).alloc (Nat.le_refl _) (.cells #[.pointer (some ⟨w.heap.size + 1, 0, none⟩), .bool false] 87)
  refine ⟨⟨?_, ⟨l, 0, hr.bel hb3, rfl, hl⟩, by omega⟩, hb2.trans (hb3.mono (by omega)), (hb3.block _ (by omega)).trans h0, by rw [World.size_alloc]; omega⟩
  rw [← hs]
  exact heap_alloc_new w2 _
/-- The state ahead of the first read. -/
theorem rparse_qs {w : World} {a : Option Addr} {cap : Nat} {l : List UInt8} (h : Reads w (.slice a l.length cap) l) (hl : l.length ≤ 100000000000) :
    QS (w.heap.size + 2) (w.heap.size + 1) (w.heap.size + 3) (IsPR (w.heap.size + 2) (w.heap.size + 1)) ((pr3 w a l.length cap).alloc Z39) 39 (CReq.zero.cells nilS) (l, false) false ((pr3 w a l.length cap).alloc Z39) ∧ Below w.heap.size w ((pr3 w a l.length cap).alloc Z39) ∧ ((pr3 w a l.length cap).alloc Z39).heap[w.heap.size]? = some Z39 := by
  obtain ⟨h1, h2, h3, h4⟩ := rparse_start h hl
  have hb := (Below.refl (pr3 w a l.length cap).heap.size (pr3 w a l.length cap)).alloc (Nat.le_refl _) Z39
  have hn := heap_alloc_new (pr3 w a l.length cap) Z39
  rw [h4] at hn
  exact ⟨⟨goodKPR _ _, (goodPR _ _).bel h1 hb, hn, T3.refl _ _ _ _, by omega, by omega⟩, h2.trans (hb.mono (by omega)), (hb.block _ (by omega)).trans h3⟩
/-- One cell stored. -/
theorem run_storeOne (w : World) (T E : TypeId) (g o : Nat) (c c' : Array Value) (u : Value) (hg : w.heap[g]? = some (.cells c E (0, 0))) (hi : (Try.prog.info? T).map (·.size) = some 1) (ho : o < c.size) (hu : u.cells = #[u]) (h1 : u.oneCell' = true) (hc : c.setIfInBounds o u = c') :
    (Instr.storeAt T (.pointer (some ⟨g, o, none⟩)) u).run Try.prog w = .ok () (w.setRow g c') := by
  subst hc
  have := run_storeCells_at Try.prog g o E [u] 0 c w hg (by simp; omega) (fun v hv => by simp at hv; rw [hv]; exact h1)
  cases hq : Try.prog.info? T with
  | none => simp [hq] at hi
  | some i =>
    have hs : i.size = 1 := by simp [hq] at hi; omega
    simp only [Instr.storeAt, Instr.sureAddr, Sem.run_bind, Sem.run_pure, Result.andThen]
    simp [storeVar, sizeOf, typeInfo, hq, hu, hs]
    rw [this]
    have he : (c.toList.take (o + 0) ++ [u] ++ c.toList.drop (o + 0 + [u].length)).toArray = c.setIfInBounds o u := by
      apply Array.ext'
      simp only [Array.toList_setIfInBounds]
      rw [List.set_eq_take_append_cons_drop, if_pos (by simpa using ho)]
      simp
    rw [he]
section
variable {bq br qb : Nat} {w0 W : World} {T : TypeId} {C : Array Value} {s : RS} {bad : Bool}
abbrev pBox (br : Nat) (b : Bool) : Array Value := #[.pointer (some ⟨br, 0, none⟩), .bool b]
theorem QS.setBad (h : QS bq br qb (IsPR bq br) w0 T C s bad W) (b : Bool) : QS bq br qb (IsPR bq br) w0 T C s b (W.setRow bq (pBox br b)) := by
  have h1 := h.lt
  obtain ⟨b', at_, h3, h4, h5⟩ := h.rd.rd
  refine ⟨h.good, ⟨setRow_heap _ _ _ _ _ _ h.rd.box, ⟨b', at_, h3.keepG (r := some bq) ⟨rfl, rfl, rfl, by simp [World.setRow], fun k _ hk => setRow_other W bq k _ (fun e => hk (by rw [e]))⟩ (fun g e => by cases e; exact h.rd.ne), h4, h5⟩, h.rd.ne⟩, (setRow_other W bq qb _ (by omega)).trans h.c, h.tg.trans ⟨rfl, rfl, rfl, by simp [World.setRow], fun k _ hk _ _ => setRow_other W bq k _ hk⟩, h1⟩
theorem bool_size : (Try.prog.info? 4).map (·.size) = some 1 := by kernel_rfl
theorem QS.runBad (h : QS bq br qb (IsPR bq br) w0 T C s bad W) (b : Bool) : (Instr.storeAt 4 (.pointer (some ⟨bq, 1, none⟩)) (.bool b)).run Try.prog W = .ok () (W.setRow bq (pBox br b)) :=
  run_storeOne W _ _ bq 1 _ _ _ h.rd.box bool_size (by show 1 < 2; omega) rfl rfl rfl
end
/-- The ending's facts. -/
structure REnd (bq br qb : Nat) (w w1 : World) (r : CReq × RS × Bool) (v : Value) (C : Array Value) (W : World) : Prop where
  c : C = r.1.cells v
  st : QS bq br qb (IsPR bq br) w1 39 C r.2.1 r.2.2 W
  own : OwnOf 90 COp.cells 5 (qb + 1) W v r.1.ops
  bel : Below w.heap.size w w1
  rb : w1.heap[w.heap.size]? = some Z39
  lo : w.heap.size < br ∧ w.heap.size < bq ∧ w.heap.size < qb
section
variable {bq br qb : Nat} {w w1 W : World} {r : CReq × RS × Bool} {v : Value} {C : Array Value}
theorem REnd.bel' (h : REnd bq br qb w w1 r v C W) {W' : World} (hb : Below W.heap.size W W') : REnd bq br qb w w1 r v C W' := { h with st := h.st.bel' hb, own := h.own.bel hb }
theorem REnd.rbW (h : REnd bq br qb w w1 r v C W) : W.heap[w.heap.size]? = some Z39 := by
  have h1 := h.lo
  exact (h.st.tg.block _ (Array.getElem?_eq_some_iff.1 h.rb).1 (by omega) (by omega) (by omega)).trans h.rb
theorem REnd.below (h : REnd bq br qb w w1 r v C W) (cs : Array Value) : Below w.heap.size w (W.setRow w.heap.size cs) := by
  have h1 := h.lo
  have h2 := h.bel.trans (h.st.tg.below h.bel.size (by omega) (by omega) (by omega))
  exact ⟨h2.os, h2.tape, h2.output, by simpa [World.setRow] using h2.size, fun k hk => (setRow_other W _ k cs (by omega)).trans (h2.block k hk)⟩
theorem REnd.bad (h : REnd bq br qb w w1 r v C W) (hb : (r.2.2 || r.2.1.2 || decide (0 < rdLeft r.2.1.1 r.2.1.2)) = true) : ParseOk 90 tupB (endP r) w (.returned (.tuple #[.agg (CReq.zero.cells nilS), .bool false])) (W.setRow w.heap.size (CReq.zero.cells nilS)) := by
  rw [endP_none hb]
  exact ⟨⟨nilS, rfl, OwnOf.nil _ _⟩, h.below _⟩
theorem REnd.good (h : REnd bq br qb w w1 r v C W) (hb : (r.2.2 || r.2.1.2 || decide (0 < rdLeft r.2.1.1 r.2.1.2)) = false) : ParseOk 90 tupB (endP r) w (.returned (.tuple #[.agg C, .bool true])) (W.setRow w.heap.size C) := by
  rw [endP_some hb]
  have h1 := h.lo
  refine ⟨⟨v, by rw [h.c]; rfl, (h.own.kept fun k hk => ?_).mono (by omega)⟩, h.below _⟩
  have := (h.own.block k hk).1
  exact setRow_other W _ k C (by omega)
theorem REnd.runZ (h : REnd bq br qb w w1 r v C W) : (Instr.storeAt 39 (.pointer (some ⟨w.heap.size, 0, none⟩)) (.agg (CReq.zero.cells nilS))).run Try.prog W = .ok () (W.setRow w.heap.size (CReq.zero.cells nilS)) :=
  run_storeRow _ _ _ _ _ h.rbW rreq_size rfl (cells_one _ _ _ _)
theorem REnd.runC (h : REnd bq br qb w w1 r v C W) : (Instr.storeAt 39 (.pointer (some ⟨w.heap.size, 0, none⟩)) (.agg C)).run Try.prog W = .ok () (W.setRow w.heap.size C) := by
  obtain ⟨a, cap, hv⟩ := h.own.slice
  have hc := h.c
  subst hc
  exact run_storeRow _ _ _ _ _ h.rbW rreq_size rfl (by rw [hv]; exact cells_one _ _ _ _)
theorem REnd.size (h : REnd bq br qb w w1 r v C W) : (Try.prog.info? 39).map (·.size) = some C.size := by
  rw [h.c]
  exact rreq_size
/-- Of what is left. -/
theorem REnd.left (h : REnd bq br qb w w1 r v C W) : Calls Try.prog 34 #[.pointer (some ⟨br, 0, none⟩)] W (fun e w' => e = .returned (.int .i64 (rdLeft r.2.1.1 r.2.1.2 : Nat)) ∧ ∃ q, w' = W.drewN q) := by
  obtain ⟨b, at_, h1, h2, h3⟩ := h.st.rd.rd
  rw [h2]
  exact refLeft br b at_ r.2.1.2 W h1 h3
theorem IsPR.short {bq br : Nat} {W : World} {s : RS} {bad : Bool} (h : IsPR bq br W s bad) : W.cell? ⟨br, 2, none⟩ = some (.bool s.2) := by
  obtain ⟨b, at_, ⟨a, cap, hg, _⟩, _⟩ := h.rd
  exact (cell_of_row W br 2 _ _ _ hg).trans rfl
/-- A tag that is none. -/
theorem bad_body (t : Nat) (s : RS) (h : t = 0 ∨ 13 < t) : endP (bodyP t s) = none := by
  refine endP_none ?_
  rcases h with rfl | h
  · unfold bodyP
    simp
  · unfold bodyP
    rw [if_pos (by omega)]
    unfold tenP
    rw [if_neg (by omega), if_neg (by omega), if_neg (by omega), if_neg (by omega), if_neg (by omega)]
    simp
    omega
end
theorem range_of_row {W : World} {g o : Nat} {C : Array Value} {T : TypeId} {fr : Nat × Nat} (hg : W.heap[g]? = some (.cells C T fr)) (cs : List Value) (h : ∀ j v, cs[j]? = some v → C[o + j]? = some v) : W.rangeAt g o cs := fun j v hv => (cell_of_row W g (o + j) C T fr hg).trans (h j v hv)
theorem below_box (W : World) (Z C : Array Value) (T : TypeId) : Below W.heap.size W ((W.alloc (.cells Z T)).setRow W.heap.size C) := by
  have h := (Below.refl W.heap.size W).alloc (Nat.le_refl _) (.cells Z T)
  exact ⟨h.os, h.tape, h.output, by simp [World.setRow], fun k hk => (setRow_other _ _ k C (by omega)).trans (h.block k hk)⟩
theorem int_size : (Try.prog.info? 3).map (·.size) = some 1 := by kernel_rfl
theorem u64_size : (Try.prog.info? 24).map (·.size) = some 1 := by kernel_rfl
theorem i64_size : (Try.prog.info? 2).map (·.size) = some 1 := by kernel_rfl
theorem u32_size : (Try.prog.info? 27).map (·.size) = some 1 := by kernel_rfl
theorem str_size : (Try.prog.info? 9).map (·.size) = some 1 := by kernel_rfl
theorem sl_size : (Try.prog.info? 37).map (·.size) = some 1 := by kernel_rfl
end Go.Proofs.Ytlngefhjoobmdaa
namespace Go.Proofs.Ytlngefhjoobmdaa
open Go.RowKit
theorem gives_append {o : Oper} {a : Act} {w : World} (s x : Operand) (ho : o.op = .call { callee := .builtin .append, args := #[s, x], argTypes := #[22, 22] }) (B : Nat) (v : Value) (l : List UInt8) (hs : a.eval s = v) (hown : OwnB B w v l)
    (y : Value) (news : List UInt8) (hx : a.eval x = y) (hsrc : SrcB 22 y w news) (hB : B ≤ w.heap.size) (hsz : l.length + news.length ≤ 140737488355328) :
    Reg.gives Try.prog o a w (fun v' w' => OwnB B w' v' (l ++ news) ∧ Grew w w' v v') := by
  obtain ⟨v', w', hr, h2, h3⟩ := run_append_bytes w B 22 o.type v l hown y news hsrc hB hsz
  unfold Reg.gives execOp
  simp only [ho, resolve, invoke, builtin, Sem.run_bind, Sem.run_pure, Result.andThen_ok, List.map_toArray, List.map_cons, List.map_nil, hs, hx, hr]
  exact ⟨h2, h3⟩
/-- A value that is a slice of the bytes l. -/
def Bytes (w : World) (v : Value) (l : List UInt8) : Prop := ∃ a cap, v = .slice a l.length cap ∧ IsBytes w a l
theorem Bytes.bel {w w' : World} {v : Value} {l : List UInt8} (h : Bytes w v l) (hb : Below w.heap.size w w') : Bytes w' v l := by
  obtain ⟨a, cap, hv, hi⟩ := h
  exact ⟨a, cap, hv, hi.bel hb⟩
theorem OwnB.bytes {B : Nat} {w : World} {v : Value} {l : List UInt8} (h : OwnB B w v l) : Bytes w v l := by
  obtain ⟨a, cap, hv, hb, _⟩ := h.out
  exact ⟨a, cap, hv, hb⟩
theorem gives_string {o : Oper} {a : Act} {w : World} (x : Operand) (ho : o.op = .convert 22 9 x) {v : Value} {l : List UInt8} (hx : a.eval x = v) (h : Bytes w v l) :
    Reg.gives Try.prog o a w (fun v' w' => v' = .string ⟨l.toArray⟩ ∧ w' = w) := by
  obtain ⟨ad, cap, rfl, hb⟩ := h
  have hr := run_string_bytes w ad cap l hb
  unfold Reg.gives execOp
  simp only [ho, hx, Sem.run_bind, hr, Result.andThen_ok, Sem.run_pure]
  exact ⟨trivial, trivial⟩
theorem gives_empty {o : Oper} {a : Act} {w : World} (ho : o.op = .buildSlice 22 0 #[]) :
    Reg.gives Try.prog o a w (fun v' w' => v' = .slice (some ⟨w.heap.size, 0, none⟩) 0 0 ∧ w' = w.alloc (.cells #[] 5)) := by
  unfold Reg.gives
  rw [show execOp a.eval o = execOp a.eval { o with op := .buildSlice 22 0 #[] } by rw [← ho]]
  go_simp
end Go.Proofs.Ytlngefhjoobmdaa
namespace Go.Proofs.Ytlngefhjoobmdaa
open Go.RowKit
theorem u8_u64N (x : Int) : (x % 256 : Int) = ((UInt8.ofNat (u64N x)).toNat : Int) := by
  have h := wrap_u64N x
  rw [IntKind.wrap_u64] at h
  rw [UInt8.toNat_ofNat']
  omega
theorem u8_nat (n : Nat) : ((n : Int) % 256 : Int) = ((UInt8.ofNat n).toNat : Int) := by
  rw [UInt8.toNat_ofNat']
  omega
theorem putL_one (n : Nat) : putL n 1 = [UInt8.ofNat n] := by simp [putL]
theorem OwnB.one (B : Nat) (w : World) (x : Int) (b : UInt8) (h : x = (b.toNat : Int)) (hB : B ≤ w.heap.size) : OwnB B (w.alloc (.cells #[.int .u8 x] 5)) (.slice (some ⟨w.heap.size, 0, none⟩) 1 1) [b] := by
  subst h
  exact ⟨by simp, .inr ⟨w.heap.size, 1, _, rfl, hB, heap_alloc_new w _, Nat.le_refl _, by unfold maxLen; omega, by simp, by simp [u8V]⟩⟩
theorem srcB_two (w : World) (x y : Int) (b c : UInt8) (h : x = b.toNat) (k : y = c.toNat) (g : Nat) (hg : w.heap[g]? = some (.cells #[.int .u8 x, .int .u8 y] 5 (0, 0))) : SrcB 22 (.slice (some ⟨g, 0, none⟩) 2 2) w [b, c] := by
  subst h
  subst k
  have hb : IsBytes w (some ⟨g, 0, none⟩) [b, c] := by
    intro i hi
    refine ⟨g, 0, rfl, (Array.getElem?_eq_some_iff.1 hg).1, ?_⟩
    rw [cell_of_row w g _ _ _ _ hg]
    rcases i with _ | _ | i
    · rfl
    · rfl
    · simp at hi; omega
  exact SrcB.ofBytes 2 hb
/-- What stands ahead of the ops in a request's bytes, as the document has them. -/
def headR (q : CReq) : List UInt8 := putL (u64N q.tag) 1 ++ ((if q.tag ≤ 5 then putL q.admin 8 else tokL q.tb q.tg q.ts q.tc) ++ ((if q.tag ≤ 3 then putL (u64N q.bucket) 1 else []) ++
  (if q.tag = 1 ∨ q.tag = 3 then putL (u64N q.qk) 8 ++ (putL (u64N q.qb) 8 ++ putL (u64N q.qg) 8) else if q.tag = 9 then putL q.ops.length 1 else tailQ q)))
def bytesR (q : CReq) : List UInt8 := headR q ++ opsL q.tag q.ops
end Go.Proofs.Ytlngefhjoobmdaa
namespace Go.Proofs.Ytlngefhjoobmdaa
open Go.RowKit
theorem opN_bad (t : Nat) (s : RS) (bad : Bool) (h : (opN t s bad).2.2 = false) : bad = false := by
  unfold opN at h
  by_cases h9 : t = 9
  · simp only [if_pos h9] at h
    cases bad
    · rfl
    · exfalso
      revert h
      split <;> (try split) <;> simp
  · simp only [if_neg h9] at h
    cases bad
    · rfl
    · exfalso
      revert h
      split <;> (try split) <;> simp
theorem batchN_bad0 : ∀ (n : Nat) (s : RS) (bad : Bool), (batchN n s bad).2.2 = false → bad = false
  | 0, s, bad, h => h
  | n + 1, s, bad, h => by
    unfold batchN at h
    split at h
    · exact h
    · rename_i hb
      simpa using hb
/-- The form of what is parsed. -/
def CReq.form (q : CReq) : Prop := 1 ≤ q.tag ∧ q.tag ≤ 13 ∧ (q.ops = [] ∨ (6 ≤ q.tag ∧ q.tag ≤ 9))
theorem tenP_form (t : Nat) (q : CReq) (s : RS) (bad : Bool) (ht : q.tag = (t : Int)) (ho : q.ops = []) (h : (tenP t q s bad).2.2 = false) : bad = false ∧ (tenP t q s bad).1.tag = (t : Int) ∧ ((tenP t q s bad).1.ops = [] ∨ (6 ≤ t ∧ t ≤ 9)) := by
  unfold tenP at h ⊢
  split
  · rename_i h1
    rw [if_pos h1] at h
    exact ⟨opN_bad _ _ _ h, ht, .inr (by omega)⟩
  rename_i h1
  rw [if_neg h1] at h
  split
  · rename_i h2
    rw [if_pos h2] at h
    have := batchN_bad0 _ _ _ h
    simp only [Bool.or_eq_false_iff] at this
    exact ⟨this.1, ht, .inr (by omega)⟩
  rename_i h2
  rw [if_neg h2] at h
  split
  · rename_i h3
    rw [if_pos h3] at h
    simp only [Bool.or_eq_false_iff] at h
    exact ⟨h.1.1.1, ht, .inl ho⟩
  rename_i h3
  rw [if_neg h3] at h
  split
  · rename_i h4
    rw [if_pos h4] at h
    simp only [Bool.or_eq_false_iff] at h
    exact ⟨h.1, ht, .inl ho⟩
  rename_i h4
  rw [if_neg h4] at h
  split
  · rename_i h5
    rw [if_pos h5] at h
    exact ⟨h, ht, .inl ho⟩
  · rename_i h5
    rw [if_neg h5] at h
    exact ⟨h, ht, .inl ho⟩
theorem tag_ok {t : Nat} (h : (!(decide (1 ≤ t) && decide (t ≤ 13))) = false) : 1 ≤ t ∧ t ≤ 13 := by
  simpa using h
theorem bodyP_form (t : Nat) (s : RS) (h : (bodyP t s).2.2 = false) : (bodyP t s).1.form := by
  unfold bodyP at h ⊢
  split
  · rename_i h1
    rw [if_pos h1] at h
    obtain ⟨h2, h3, h4⟩ := tenP_form _ _ _ _ rfl rfl h
    have := tag_ok h2
    unfold CReq.form
    rw [h3]
    refine ⟨by omega, by omega, ?_⟩
    rcases h4 with h4 | h4
    · exact .inl h4
    · exact .inr (by omega)
  rename_i h1
  rw [if_neg h1] at h
  split
  · rename_i h2
    rw [if_pos h2] at h
    split
    · rename_i h3
      rw [if_pos h3] at h
      simp only [Bool.or_eq_false_iff] at h
      have := tag_ok h.1.1
      exact ⟨by show (1 : Int) ≤ (t : Int); omega, by show (t : Int) ≤ 13; omega, .inl rfl⟩
    · rename_i h3
      rw [if_neg h3] at h
      simp only [Bool.or_eq_false_iff] at h
      have := tag_ok h.1
      exact ⟨by show (1 : Int) ≤ (t : Int); omega, by show (t : Int) ≤ 13; omega, .inl rfl⟩
  · rename_i h2
    rw [if_neg h2] at h
    have := tag_ok h
    exact ⟨by show (1 : Int) ≤ (t : Int); omega, by show (t : Int) ≤ 13; omega, .inl rfl⟩
theorem parseP_form {b : List UInt8} {q : CReq} (h : parseP b = some q) : q.form := by
  unfold parseP endP at h
  split at h
  · cases h
  · rename_i hb
    cases h
    refine bodyP_form _ _ ?_
    simp only [Bool.or_eq_true, not_or, Bool.not_eq_true] at hb
    exact hb.1.1
/-- Of such a request both write the same bytes. -/
theorem reqL_bytesR {q : CReq} (h : q.form) : reqL q = bytesR q := by
  obtain ⟨h1, h2, h3⟩ := h
  unfold reqL bytesR headR lowQ headQ
  rcases h3 with h3 | ⟨h3, h4⟩
  · have ho : opsL q.tag q.ops = [] := by rw [h3]; rfl
    have hl : q.ops.length = 0 := by rw [h3]; rfl
    by_cases h5 : q.tag ≤ 5
    · rw [if_pos h5, if_pos h5, ho]
      by_cases h4 : q.tag < 4
      · rw [if_pos h4, if_pos (show q.tag ≤ 3 by omega)]
        by_cases h13 : q.tag = 1 ∨ q.tag = 3
        · rw [if_pos h13, if_pos h13]; simp
        · rw [if_neg h13, if_neg h13, if_neg (show ¬ q.tag = 9 by omega)]
          unfold tailQ
          rw [if_neg (show ¬ q.tag = 10 by omega), if_neg (show ¬ q.tag = 12 by omega), if_neg (show ¬ q.tag = 13 by omega)]
          simp
      · rw [if_neg h4, if_neg (show ¬ q.tag ≤ 3 by omega), if_neg (show ¬ (q.tag = 1 ∨ q.tag = 3) by omega), if_neg (show ¬ (q.tag = 1 ∨ q.tag = 3) by omega), if_neg (show ¬ q.tag = 9 by omega)]
        unfold tailQ
        rw [if_neg (show ¬ q.tag = 10 by omega), if_neg (show ¬ q.tag = 12 by omega), if_neg (show ¬ q.tag = 13 by omega)]
        simp
    · rw [if_neg h5, if_neg h5, ho, if_neg (show ¬ q.tag ≤ 3 by omega), if_neg (show ¬ (q.tag = 1 ∨ q.tag = 3) by omega)]
      by_cases h9 : q.tag = 9
      · rw [if_pos h9, if_pos h9]
        unfold tailQ
        rw [if_neg (show ¬ q.tag = 10 by omega), if_neg (show ¬ q.tag = 12 by omega), if_neg (show ¬ q.tag = 13 by omega)]
        simp
      · rw [if_neg h9, if_neg h9]; simp
  · rw [if_neg (show ¬ q.tag ≤ 5 by omega), if_neg (show ¬ q.tag ≤ 5 by omega), if_neg (show ¬ q.tag ≤ 3 by omega), if_neg (show ¬ (q.tag = 1 ∨ q.tag = 3) by omega)]
    have ht : tailQ q = [] := by
      unfold tailQ
      rw [if_neg (show ¬ q.tag = 10 by omega), if_neg (show ¬ q.tag = 12 by omega), if_neg (show ¬ q.tag = 13 by omega)]
    rw [ht]
    by_cases h9 : q.tag = 9
    · rw [if_pos h9]; simp
    · rw [if_neg h9]; simp
/-- What the document writes of a request, if it may be written. -/
def writtenQ (q : CReq) : Option (List UInt8) := if q.tag < 1 ∨ 13 < q.tag ∨ 16 < q.ops.length then none else if parseP (bytesR q) = some q then some (bytesR q) else none
theorem putQ_written (q : CReq) : putQ q = writtenQ q := by
  unfold putQ writtenQ
  by_cases h16 : 16 < q.ops.length
  · rw [if_pos h16, if_pos (.inr (.inr h16))]
  rw [if_neg h16]
  by_cases hp : parseP (reqL q) = some q
  · have hf := parseP_form hp
    rw [if_pos hp, if_neg (by have := hf.1; have := hf.2.1; omega), ← reqL_bytesR hf, if_pos hp]
  · rw [if_neg hp]
    split
    · rfl
    · rw [if_neg]
      intro hq
      rw [← reqL_bytesR (parseP_form hq)] at hq
      exact hp hq
end Go.Proofs.Ytlngefhjoobmdaa
namespace Go.Proofs.Ytlngefhjoobmdaa
open Go.RowKit
theorem rdNum_ltk (k : Nat) (l : List UInt8) (sh : Bool) : (rdNum k l sh).1 < 256 ^ k := by
  have hp : 0 < 256 ^ k := Nat.pow_pos (by omega)
  unfold rdNum
  split
  · exact hp
  · split
    · exact hp
    · have h1 := numL_lt (l.take (k : Int).toNat)
      have h2 : (l.take (k : Int).toNat).length ≤ k := by simp; omega
      exact Nat.lt_of_lt_of_le h1 (Nat.pow_le_pow_right (by omega) h2)
theorem rdNum_step (k : Nat) (l : List UInt8) (sh : Bool) (h1 : 1 ≤ k) (h8 : k ≤ 8) (h : (rdNum k l sh).2.2 = false) : sh = false ∧ (rdNum k l sh).2.1.length + k = l.length := by
  unfold rdNum at *
  rw [if_neg (by omega)] at *
  by_cases hs : sh = true ∨ (l.length : Int) < (k : Int)
  · rw [if_pos hs] at h; cases h
  · rw [if_neg hs]
    refine ⟨by cases sh <;> simp_all, ?_⟩
    simp only [Int.toNat_natCast, List.length_drop]
    omega
theorem rdText_step (l : List UInt8) (sh : Bool) (h : (rdText l sh).2.2 = false) : sh = false ∧ (rdText l sh).2.1.length + 2 ≤ l.length := by
  have hk := rdNum_step 2 l sh (by omega) (by omega)
  unfold rdText at *
  by_cases hs : (rdNum 2 l sh).2.2 = true ∨ (rdNum 2 l sh).2.1.length < (rdNum 2 l sh).1
  · simp only [hs, if_true] at h; cases h
  · simp only [hs, if_false, List.length_drop]
    obtain ⟨h1, h2⟩ := hk (by simpa using fun e => hs (.inl e))
    exact ⟨h1, by have : (rdNum 2 l sh).2.1.length + 2 = l.length := h2; omega⟩
theorem rt_num (n k : Nat) (rest : List UInt8) (h1 : 1 ≤ k) (h8 : k ≤ 8) (hn : n < 256 ^ k) : rdNum k (putL n k ++ rest) false = (n, rest, false) := by
  unfold rdNum
  rw [if_neg (by omega), if_neg (by simp; omega)]
  simp only [Int.toNat_natCast]
  rw [List.take_left' (putL_length n k), List.drop_left' (putL_length n k), numL_putL, Nat.mod_eq_of_lt hn]
theorem rt1 (n : Nat) (rest : List UInt8) (hn : n < 256) : rdNum 1 (putL n 1 ++ rest) false = (n, rest, false) := rt_num n 1 rest (by omega) (by omega) hn
theorem rt4 (n : Nat) (rest : List UInt8) (hn : n < 4294967296) : rdNum 4 (putL n 4 ++ rest) false = (n, rest, false) := rt_num n 4 rest (by omega) (by omega) hn
theorem rt8 (n : Nat) (rest : List UInt8) (hn : n < 18446744073709551616) : rdNum 8 (putL n 8 ++ rest) false = (n, rest, false) := rt_num n 8 rest (by omega) (by omega) hn
theorem rtT (s : ByteArray) (rest : List UInt8) (h : s.size ≤ 65535) : rdText (textL s.data.toList ++ rest) false = (s.data.toList, rest, false) := by
  have hl : s.data.toList.length ≤ 65535 := by simpa using h
  generalize s.data.toList = t at *
  have e : textL t ++ rest = putL t.length 2 ++ (t ++ rest) := by
    unfold textL
    rw [show min t.length 65535 = t.length by omega, List.take_of_length_le hl, List.append_assoc]
  unfold rdText
  have h2 := rt_num t.length 2 (t ++ rest) (by omega) (by omega) (by omega)
  rw [e]
  simp only [show ((2 : Nat) : Int) = 2 from rfl] at h2
  rw [h2]
  simp
theorem wrap_nat (n : Nat) (h : n < 9223372036854775808) : IntKind.i64.wrap (n : Int) = (n : Int) := by rw [IntKind.wrap_i64]; omega
theorem wrap_back (n : Nat) (h : n < 18446744073709551616) (h0 : 0 ≤ IntKind.i64.wrap (n : Int)) : (IntKind.i64.wrap (n : Int)).toNat = n := by rw [IntKind.wrap_i64] at *; omega
theorem putL_cons (n k : Nat) : putL n (k + 1) = UInt8.ofNat n :: putL (n / 256) k := by
  unfold putL
  rw [List.range_succ_eq_map, List.map_cons, List.map_map]
  congr 1
  · simp
  · apply List.map_congr_left
    intro i _
    simp only [Function.comp]
    rw [Nat.div_div_eq_div_mul, ← Nat.pow_succ']
theorem putL_numL : ∀ t : List UInt8, putL (numL t) t.length = t
  | [] => rfl
  | b :: t => by
    have hb := b.toNat_lt
    rw [List.length_cons, putL_cons]
    simp only [numL]
    rw [show (b.toNat + 256 * numL t) / 256 = numL t by omega, putL_numL t]
    congr 1
    apply UInt8.toNat_inj.1
    simp
theorem inv_num (k : Nat) (l : List UInt8) (n : Nat) (l' : List UInt8) (h1 : 1 ≤ k) (h8 : k ≤ 8) (h : rdNum k l false = (n, l', false)) : l = putL n k ++ l' := by
  unfold rdNum at h
  rw [if_neg (by omega)] at h
  by_cases hs : false = true ∨ (l.length : Int) < (k : Int)
  · rw [if_pos hs] at h; simp at h
  · rw [if_neg hs] at h
    simp only [Int.toNat_natCast, Prod.mk.injEq] at h
    obtain ⟨rfl, rfl, _⟩ := h
    have hl : (l.take k).length = k := by simp at hs ⊢; omega
    have := putL_numL (l.take k)
    rw [hl] at this
    rw [this, List.take_append_drop]
theorem inv1 {l : List UInt8} {n : Nat} {l' : List UInt8} (h : rdNum 1 l false = (n, l', false)) : l = putL n 1 ++ l' := inv_num 1 l n l' (by omega) (by omega) h
theorem inv4 {l : List UInt8} {n : Nat} {l' : List UInt8} (h : rdNum 4 l false = (n, l', false)) : l = putL n 4 ++ l' := inv_num 4 l n l' (by omega) (by omega) h
theorem inv8 {l : List UInt8} {n : Nat} {l' : List UInt8} (h : rdNum 8 l false = (n, l', false)) : l = putL n 8 ++ l' := inv_num 8 l n l' (by omega) (by omega) h
theorem invT {l : List UInt8} {s : List UInt8} {l' : List UInt8} (h : rdText l false = (s, l', false)) : l = textL s ++ l' := by
  obtain ⟨m, r, s1, q⟩ : ∃ m r s1, rdNum 2 l false = (m, r, s1) := ⟨_, _, _, rfl⟩
  have hm : m < 65536 := by have := rdNum_ltk 2 l false; rw [show ((2 : Nat) : Int) = 2 from rfl, q] at this; exact this
  unfold rdText at h
  rw [q] at h
  simp only at h
  by_cases hs : s1 = true ∨ r.length < m
  · rw [if_pos hs] at h; simp at h
  · rw [if_neg hs] at h
    simp only [Prod.mk.injEq] at h
    obtain ⟨rfl, rfl, _⟩ := h
    have hs1 : s1 = false := by simpa using fun e => hs (.inl e)
    subst hs1
    have e := inv_num 2 l m r (by omega) (by omega) q
    have hl : (r.take m).length = m := by simp; omega
    unfold textL
    rw [hl, show min m 65535 = m by omega, List.take_of_length_le (by omega), List.append_assoc, List.take_append_drop]
    exact e
theorem numS {k : Int} {l : List UInt8} {sh : Bool} {n : Nat} {l' : List UInt8} (h1 : 1 ≤ k) (h8 : k ≤ 8) (h : rdNum k l sh = (n, l', false)) : sh = false := by
  obtain ⟨k, rfl⟩ := Int.eq_ofNat_of_zero_le (show 0 ≤ k by omega)
  exact (rdNum_step k l sh (by omega) (by omega) (by rw [h])).1
theorem txtS {l : List UInt8} {sh : Bool} {s : List UInt8} {l' : List UInt8} (h : rdText l sh = (s, l', false)) : sh = false := (rdText_step l sh (by rw [h])).1
end Go.Proofs.Ytlngefhjoobmdaa
namespace Go.Proofs.Ytlngefhjoobmdaa
open Go.RowKit
/-- Out of s, l was read; s1 is left, nothing amiss. -/
structure Got (s s1 : RS) (l : List UInt8) : Prop where
  ok : s.2 = false
  eq : s.1 = l ++ s1.1
theorem Got.trans {s s1 s2 : RS} {l m : List UInt8} (h : Got s s1 l) (k : Got s1 s2 m) : Got s s2 (l ++ m) := ⟨h.ok, by rw [h.eq, k.eq, List.append_assoc]⟩
theorem Got.as {s s1 : RS} {l m : List UInt8} (h : Got s s1 l) (e : l = m) : Got s s1 m := e ▸ h
theorem Got.nil {s : RS} (h : s.2 = false) : Got s s [] := ⟨h, rfl⟩
theorem gotN (k : Nat) (s : RS) (h1 : 1 ≤ k) (h8 : k ≤ 8) (h : (rN' k s).2 = false) : Got s (rN' k s) (putL (rN k s) k) := by
  obtain ⟨l, sh⟩ := s
  have h0 : sh = false := (rdNum_step k l sh h1 h8 h).1
  subst h0
  exact ⟨rfl, inv_num k l (rdNum k l false).1 (rdNum k l false).2.1 h1 h8 (Prod.ext rfl (Prod.ext rfl h))⟩
theorem got1 (s : RS) (h : (rN' 1 s).2 = false) : Got s (rN' 1 s) (putL (rN 1 s) 1) := gotN 1 s (by omega) (by omega) h
theorem got4 (s : RS) (h : (rN' 4 s).2 = false) : Got s (rN' 4 s) (putL (rN 4 s) 4) := gotN 4 s (by omega) (by omega) h
theorem got8 (s : RS) (h : (rN' 8 s).2 = false) : Got s (rN' 8 s) (putL (rN 8 s) 8) := gotN 8 s (by omega) (by omega) h
theorem gotT (s : RS) (h : (rT' s).2 = false) : Got s (rT' s) (textL (rT s).data.toList) := by
  obtain ⟨l, sh⟩ := s
  have h0 : sh = false := (rdText_step l sh h).1
  subst h0
  have := invT (l := l) (s := (rdText l false).1) (l' := (rdText l false).2.1) (Prod.ext rfl (Prod.ext rfl h))
  exact ⟨rfl, by simpa [rT, rT'] using this⟩
theorem got_tok (s : RS) (h : (tok' s).2 = false) : Got s (tok' s) (tokL (rN 1 s : Int) (rN 4 (rN' 1 s)) (rN 4 (rN' 4 (rN' 1 s))) (rN 8 (rN' 4 (rN' 4 (rN' 1 s))))) := by
  have g3 := got8 _ h
  have g2 := got4 _ g3.ok
  have g1 := got4 _ g2.ok
  have g0 := got1 _ g1.ok
  refine (g0.trans (g1.trans (g2.trans g3))).as ?_
  unfold tokL
  rw [u64N_nat _ (by have := rN1 s; omega)]
theorem i64_back (n : Nat) (h : n < 18446744073709551616) : u64N (i64 n) = n := by
  unfold u64N i64
  rw [IntKind.wrap_u64, IntKind.wrap_i64]
  omega
theorem got_quo (s : RS) (h : (quo' s).2 = false) : Got s (quo' s) (putL (u64N (quoK s)) 8 ++ (putL (u64N (quoB s)) 8 ++ putL (u64N (quoG s)) 8)) := by
  have g2 := got8 _ h
  have g1 := got8 _ g2.ok
  have g0 := got8 _ g1.ok
  unfold quoK quoB quoG
  rw [i64_back _ (rN8 _), i64_back _ (rN8 _), i64_back _ (rN8 _)]
  exact g0.trans (g1.trans g2)
theorem bit_back (n : Nat) (h : n ≤ 1) : bitN (decide (n = 1)) = n := by
  unfold bitN
  rcases n with _ | _ | n
  · rfl
  · rfl
  · omega
theorem got_op (t : Nat) (s : RS) (ht : t = 6 ∨ t = 7 ∨ t = 8 ∨ t = 9) (hb : (opN t s false).2.2 = false) (hs : (opN t s false).2.1.2 = false) : Got s (opN t s false).2.1 (opL (t : Int) (opN t s false).1) := by
  rcases ht with rfl | rfl | rfl | rfl
  · have e : opN 6 s false = (⟨false, rT s, rT (rN' 8 (rT' s)), rN 8 (rT' s), rN 8 (rT' (rN' 8 (rT' s)))⟩, rN' 8 (rT' (rN' 8 (rT' s))), (false || !okT 1 64 (rT s)) || !okT 0 1000 (rT (rN' 8 (rT' s)))) := rfl
    rw [e] at hs ⊢
    have g3 := got8 _ hs
    have g2 := gotT _ g3.ok
    have g1 := got8 _ g2.ok
    have g0 := gotT _ g1.ok
    exact (g0.trans (g1.trans (g2.trans g3))).as (by simp [opL])
  · have e : opN 7 s false = (⟨false, rT s, ByteArray.empty, 0, 0⟩, rT' s, (false || !okT 1 64 (rT s))) := rfl
    rw [e] at hs ⊢
    exact (gotT _ hs).as (by simp [opL])
  · have e : opN 8 s false = (⟨true, rT s, ByteArray.empty, rN 8 (rT' s), 0⟩, rN' 8 (rT' s), (false || !okT 1 64 (rT s))) := rfl
    rw [e] at hs ⊢
    have g1 := got8 _ hs
    have g0 := gotT _ g1.ok
    exact (g0.trans g1).as (by simp [opL])
  · by_cases h1 : rN 1 s = 1
    · have e : opN 9 s false = (⟨true, rT (rN' 1 s), ByteArray.empty, rN 8 (rT' (rN' 1 s)), 0⟩, rN' 8 (rT' (rN' 1 s)), (false || !decide (rN 1 s ≤ 1)) || !okT 1 64 (rT (rN' 1 s))) := by
        unfold opN
        simp [h1]
      rw [e] at hs ⊢
      have g2 := got8 _ hs
      have g1 := gotT _ g2.ok
      have g0 := got1 _ g1.ok
      exact (g0.trans (g1.trans g2)).as (by rw [h1]; simp [opL, bitN])
    · have e : opN 9 s false = (⟨false, rT (rN' 1 s), rT (rN' 8 (rT' (rN' 1 s))), rN 8 (rT' (rN' 1 s)), rN 8 (rT' (rN' 8 (rT' (rN' 1 s))))⟩, rN' 8 (rT' (rN' 8 (rT' (rN' 1 s)))), ((false || !decide (rN 1 s ≤ 1)) || !okT 1 64 (rT (rN' 1 s))) || !okT 0 1000 (rT (rN' 8 (rT' (rN' 1 s))))) := by
        unfold opN
        simp [h1]
      rw [e] at hs hb ⊢
      have h0 : rN 1 s = 0 := by
        simp only [Bool.or_eq_false_iff, Bool.not_eq_false', decide_eq_true_eq] at hb
        have := hb.1.1.2
        omega
      have g4 := got8 _ hs
      have g3 := gotT _ g4.ok
      have g2 := got8 _ g3.ok
      have g1 := gotT _ g2.ok
      have g0 := got1 _ g1.ok
      exact (g0.trans (g1.trans (g2.trans (g3.trans g4)))).as (by rw [h0]; simp [opL, bitN])
theorem got_batch : ∀ (n : Nat) (s : RS) (bad : Bool), (batchN n s bad).2.2 = false → (batchN n s bad).2.1.2 = false → (batchN n s bad).1.length = n ∧ Got s (batchN n s bad).2.1 (opsL 9 (batchN n s bad).1)
  | 0, s, bad, _, hs => ⟨rfl, Got.nil hs⟩
  | n + 1, s, bad, hb, hs => by
    have hbad := batchN_bad0 _ _ _ hb
    subst hbad
    unfold batchN at hb hs ⊢
    simp only [Bool.false_eq_true, if_false] at hb hs ⊢
    obtain ⟨h1, h2⟩ := got_batch n _ _ hb hs
    have h3 := got_op 9 s (by omega) (batchN_bad0 _ _ _ hb) h2.ok
    exact ⟨by simp [h1], (h3.trans h2).as (by simp [opsL])⟩
def tenL (q : CReq) : List UInt8 := (if q.tag = 9 then putL q.ops.length 1 else []) ++ (opsL q.tag q.ops ++ tailQ q)
theorem got_ten (t : Nat) (q : CReq) (s : RS) (bad : Bool) (ht : q.tag = (t : Int)) (ho : q.ops = []) (hb : (tenP t q s bad).2.2 = false) (hs : (tenP t q s bad).2.1.2 = false) : Got s (tenP t q s bad).2.1 (tenL (tenP t q s bad).1) := by
  by_cases h678 : t = 6 ∨ t = 7 ∨ t = 8
  · have e : tenP t q s bad = ({ q with ops := [(opN t s bad).1] }, (opN t s bad).2.1, (opN t s bad).2.2) := if_pos h678
    rw [e] at hb hs ⊢
    have hbad := opN_bad _ _ _ hb
    subst hbad
    have g := got_op t s (by omega) hb hs
    refine g.as ?_
    unfold tenL tailQ
    simp only [ht]
    rw [if_neg (by omega), if_neg (by omega), if_neg (by omega), if_neg (by omega)]
    simp [opsL]
  by_cases h9 : t = 9
  · subst h9
    have e : tenP 9 q s bad = ({ q with ops := (batchN (rN 1 s) (rN' 1 s) (bad || !(decide (1 ≤ rN 1 s) && decide (rN 1 s ≤ 16)))).1 }, (batchN (rN 1 s) (rN' 1 s) (bad || !(decide (1 ≤ rN 1 s) && decide (rN 1 s ≤ 16)))).2) := rfl
    rw [e] at hb hs ⊢
    obtain ⟨h1, h2⟩ := got_batch _ _ _ hb hs
    have g := (got1 s h2.ok).trans h2
    refine g.as ?_
    unfold tenL tailQ
    simp only [ht, h1]
    simp
  by_cases h10 : t = 10
  · subst h10
    have e : tenP 10 q s bad = ({ q with after := rT s, first := decide (rN 1 (rT' s) = 1), count := (rN 1 (rN' 1 (rT' s)) : Int) }, rN' 1 (rN' 1 (rT' s)), bad || !okT 0 64 (rT s) || !decide (rN 1 (rT' s) ≤ 1) || !decide (rN 1 (rN' 1 (rT' s)) ≤ 50)) := rfl
    rw [e] at hb hs ⊢
    have g2 := got1 _ hs
    have g1 := got1 _ g2.ok
    have g0 := gotT _ g1.ok
    simp only [Bool.or_eq_false_iff, Bool.not_eq_false', decide_eq_true_eq] at hb
    refine (g0.trans (g1.trans g2)).as ?_
    unfold tenL tailQ
    simp only [ht, ho]
    rw [bit_back _ hb.1.2, u64N_nat _ (by have := rN1 (rN' 1 (rT' s)); omega)]
    simp [opsL]
  by_cases h12 : t = 12
  · subst h12
    have e : tenP 12 q s bad = ({ q with rights := (rN 1 s : Int) }, rN' 1 s, bad || !(decide (1 ≤ rN 1 s) && decide (rN 1 s ≤ 7))) := rfl
    rw [e] at hb hs ⊢
    refine (got1 _ hs).as ?_
    unfold tenL tailQ
    simp only [ht, ho]
    rw [u64N_nat _ (by have := rN1 s; omega)]
    simp [opsL]
  by_cases h13 : t = 13
  · subst h13
    have e : tenP 13 q s bad = ({ q with serial := rN 4 s }, rN' 4 s, bad) := rfl
    rw [e] at hb hs ⊢
    refine (got4 _ hs).as ?_
    unfold tenL tailQ
    simp only [ht, ho]
    simp [opsL]
  · have e : tenP t q s bad = (q, s, bad) := by
      unfold tenP
      rw [if_neg h678, if_neg h9, if_neg h10, if_neg h12, if_neg h13]
    rw [e] at hs ⊢
    refine (Got.nil hs).as ?_
    unfold tenL tailQ
    simp only [ht, ho]
    rw [if_neg (by omega), if_neg (by omega), if_neg (by omega), if_neg (by omega)]
    simp [opsL]
theorem tag_ten (t : Nat) (q : CReq) (s : RS) (bad : Bool) (P : CReq → Prop) (h1 : ∀ o a f c r e, P { q with ops := o, after := a, first := f, count := c, rights := r, serial := e }) : P (tenP t q s bad).1 := by
  unfold tenP
  split
  · exact h1 _ _ _ _ _ _
  split
  · exact h1 _ _ _ _ _ _
  split
  · exact h1 _ _ _ _ _ _
  split
  · exact h1 _ _ _ _ _ _
  split
  · exact h1 _ _ _ _ _ _
  · exact h1 q.ops q.after q.first q.count q.rights q.serial
theorem got_body (t : Nat) (s : RS) (ht : t < 256) (hb : (bodyP t s).2.2 = false) (hs : (bodyP t s).2.1.2 = false) : ∃ L, Got s (bodyP t s).2.1 L ∧ reqL (bodyP t s).1 = putL t 1 ++ L := by
  have hu : u64N (t : Int) = t := u64N_nat _ (by omega)
  have ha := (bodyP_form t s hb).1
  by_cases h5 : 5 < t
  · have e : bodyP t s = tenP t (({ CReq.zero with tag := (t : Int) } : CReq).withTok s) (tok' s) (!(decide (1 ≤ t) && decide (t ≤ 13))) := if_pos h5
    rw [e] at hb hs ⊢
    have g1 := got_ten t _ (tok' s) _ rfl rfl hb hs
    have g0 := got_tok s g1.ok
    refine ⟨_, g0.trans g1, ?_⟩
    have hk := tag_ten t (({ CReq.zero with tag := (t : Int) } : CReq).withTok s) (tok' s) (!(decide (1 ≤ t) && decide (t ≤ 13))) (fun q => q.tag = (t : Int) ∧ q.tb = (rN 1 s : Int) ∧ q.tg = rN 4 (rN' 1 s) ∧ q.ts = rN 4 (rN' 4 (rN' 1 s)) ∧ q.tc = rN 8 (rN' 4 (rN' 4 (rN' 1 s)))) (fun _ _ _ _ _ _ => ⟨rfl, rfl, rfl, rfl, rfl⟩)
    generalize (tenP t (({ CReq.zero with tag := (t : Int) } : CReq).withTok s) (tok' s) (!(decide (1 ≤ t) && decide (t ≤ 13)))).1 = q at *
    obtain ⟨k1, k2, k3, k4, k5⟩ := hk
    unfold reqL headQ tenL
    rw [if_neg (by omega), k1, k2, k3, k4, k5, hu]
    simp
  by_cases h4 : t < 4
  · by_cases h13 : t = 1 ∨ t = 3
    · have e : bodyP t s = ({ CReq.zero with tag := (t : Int), admin := rN 8 s, bucket := (rN 1 (rN' 8 s) : Int), qk := quoK (rN' 1 (rN' 8 s)), qb := quoB (rN' 1 (rN' 8 s)), qg := quoG (rN' 1 (rN' 8 s)) }, quo' (rN' 1 (rN' 8 s)), !(decide (1 ≤ t) && decide (t ≤ 13)) || !decide (rN 1 (rN' 8 s) < 64) || !quoOk (rN' 1 (rN' 8 s))) := by
        unfold bodyP
        rw [if_neg h5, if_pos h4, if_pos h13]
      rw [e] at hb hs ⊢
      have g2 := got_quo _ hs
      have g1 := got1 _ g2.ok
      have g0 := got8 _ g1.ok
      refine ⟨_, g0.trans (g1.trans g2), ?_⟩
      unfold reqL lowQ
      simp only
      rw [if_pos (by omega), if_pos (by omega), if_pos (by omega), hu, u64N_nat _ (by have := rN1 (rN' 8 s); omega)]
    · have e : bodyP t s = ({ CReq.zero with tag := (t : Int), admin := rN 8 s, bucket := (rN 1 (rN' 8 s) : Int) }, rN' 1 (rN' 8 s), !(decide (1 ≤ t) && decide (t ≤ 13)) || !decide (rN 1 (rN' 8 s) < 64)) := by
        unfold bodyP
        rw [if_neg h5, if_pos h4, if_neg h13]
      rw [e] at hb hs ⊢
      have g1 := got1 _ hs
      have g0 := got8 _ g1.ok
      refine ⟨_, g0.trans g1, ?_⟩
      unfold reqL lowQ
      simp only
      rw [if_pos (by omega), if_pos (by omega), if_neg (by omega), hu, u64N_nat _ (by have := rN1 (rN' 8 s); omega)]
      simp
  · have e : bodyP t s = ({ CReq.zero with tag := (t : Int), admin := rN 8 s }, rN' 8 s, !(decide (1 ≤ t) && decide (t ≤ 13))) := by
      unfold bodyP
      rw [if_neg h5, if_neg h4]
    rw [e] at hb hs ⊢
    have g0 := got8 _ hs
    refine ⟨_, g0, ?_⟩
    unfold reqL lowQ
    simp only
    rw [if_pos (by omega), if_neg (by omega), if_neg (by omega), hu]
    simp
/-- What is parsed is put as those bytes. -/
theorem reqL_parse {b : List UInt8} {q : CReq} (h : parseP b = some q) : reqL q = b := by
  unfold parseP endP at h
  split at h
  · cases h
  · rename_i hc
    cases h
    simp only [Bool.or_eq_true, not_or, Bool.not_eq_true, decide_eq_false_iff_not] at hc
    obtain ⟨⟨h1, h2⟩, h3⟩ := hc
    obtain ⟨L, g, e⟩ := got_body _ _ (rN1 _) h1 h2
    have g0 := (got1 (b, false) g.ok).trans g
    have hl : (bodyP (rN 1 (b, false)) (rN' 1 (b, false))).2.1.1 = [] := by
      rw [h2] at h3
      unfold rdLeft at h3
      simpa using h3
    have := g0.eq
    rw [hl, List.append_nil] at this
    rw [e, ← this]
end Go.Proofs.Ytlngefhjoobmdaa
namespace Go.Proofs.Ytlngefhjoobmdaa
open Go.RowKit
def ext (z : List UInt8) (s : RS) : RS := (s.1 ++ z, s.2)
theorem extN (z : List UInt8) (k : Nat) (s : RS) (h1 : 1 ≤ k) (h8 : k ≤ 8) (h : (rN' k s).2 = false) : rN k (ext z s) = rN k s ∧ rN' k (ext z s) = ext z (rN' k s) := by
  have g := gotN k s h1 h8 h
  have hlt := rN_lt k s
  have := rt_num (rN k s) k ((rN' k s).1 ++ z) h1 h8 hlt
  rw [← List.append_assoc, ← g.eq] at this
  unfold ext
  have e : rdNum k (s.1 ++ z) s.2 = (rN k s, (rN' k s).1 ++ z, false) := by rw [g.ok]; exact this
  refine ⟨by show (rdNum k (s.1 ++ z) s.2).1 = _; rw [e], ?_⟩
  show ((rdNum k (s.1 ++ z) s.2).2.1, (rdNum k (s.1 ++ z) s.2).2.2) = _
  rw [e, h]
theorem extT (z : List UInt8) (s : RS) (h : (rT' s).2 = false) : rT (ext z s) = rT s ∧ rT' (ext z s) = ext z (rT' s) := by
  have g := gotT s h
  have := rtT (rT s) ((rT' s).1 ++ z) (rT_size s)
  rw [← List.append_assoc, ← g.eq] at this
  have e : rdText (s.1 ++ z) s.2 = ((rT s).data.toList, (rT' s).1 ++ z, false) := by rw [g.ok]; exact this
  refine ⟨?_, ?_⟩
  · show (⟨(rdText (s.1 ++ z) s.2).1.toArray⟩ : ByteArray) = _
    rw [e]
  · show ((rdText (s.1 ++ z) s.2).2.1, (rdText (s.1 ++ z) s.2).2.2) = _
    rw [e, ← h]
    rfl
theorem ext1 (z : List UInt8) (s : RS) (h : (rN' 1 s).2 = false) : rN 1 (ext z s) = rN 1 s ∧ rN' 1 (ext z s) = ext z (rN' 1 s) := extN z 1 s (by omega) (by omega) h
theorem ext4 (z : List UInt8) (s : RS) (h : (rN' 4 s).2 = false) : rN 4 (ext z s) = rN 4 s ∧ rN' 4 (ext z s) = ext z (rN' 4 s) := extN z 4 s (by omega) (by omega) h
theorem ext8 (z : List UInt8) (s : RS) (h : (rN' 8 s).2 = false) : rN 8 (ext z s) = rN 8 s ∧ rN' 8 (ext z s) = ext z (rN' 8 s) := extN z 8 s (by omega) (by omega) h
theorem ext_op (z : List UInt8) (t : Nat) (s : RS) (ht : t = 6 ∨ t = 7 ∨ t = 8 ∨ t = 9) (hs : (opN t s false).2.1.2 = false) : opN t (ext z s) false = ((opN t s false).1, ext z (opN t s false).2.1, (opN t s false).2.2) := by
  rcases ht with rfl | rfl | rfl | rfl
  · have e : ∀ s, opN 6 s false = (⟨false, rT s, rT (rN' 8 (rT' s)), rN 8 (rT' s), rN 8 (rT' (rN' 8 (rT' s)))⟩, rN' 8 (rT' (rN' 8 (rT' s))), (false || !okT 1 64 (rT s)) || !okT 0 1000 (rT (rN' 8 (rT' s)))) := fun _ => rfl
    rw [e s] at hs
    have g3 := got8 _ hs
    have g2 := gotT _ g3.ok
    have g1 := got8 _ g2.ok
    rw [e, e, (extT z s g1.ok).1, (extT z s g1.ok).2, (ext8 z _ g2.ok).1, (ext8 z _ g2.ok).2, (extT z _ g3.ok).1, (extT z _ g3.ok).2, (ext8 z _ hs).1, (ext8 z _ hs).2]
  · have e : ∀ s, opN 7 s false = (⟨false, rT s, ByteArray.empty, 0, 0⟩, rT' s, (false || !okT 1 64 (rT s))) := fun _ => rfl
    rw [e s] at hs
    rw [e, e, (extT z s hs).1, (extT z s hs).2]
  · have e : ∀ s, opN 8 s false = (⟨true, rT s, ByteArray.empty, rN 8 (rT' s), 0⟩, rN' 8 (rT' s), (false || !okT 1 64 (rT s))) := fun _ => rfl
    rw [e s] at hs
    have g1 := got8 _ hs
    rw [e, e, (extT z s g1.ok).1, (extT z s g1.ok).2, (ext8 z _ hs).1, (ext8 z _ hs).2]
  · by_cases h1 : rN 1 s = 1
    · have e : ∀ s, rN 1 s = 1 → opN 9 s false = (⟨true, rT (rN' 1 s), ByteArray.empty, rN 8 (rT' (rN' 1 s)), 0⟩, rN' 8 (rT' (rN' 1 s)), (false || !decide (rN 1 s ≤ 1)) || !okT 1 64 (rT (rN' 1 s))) := fun s h1 => by
        unfold opN
        simp [h1]
      rw [e s h1] at hs
      have g2 := got8 _ hs
      have g1 := gotT _ g2.ok
      have q1 := ext1 z s g1.ok
      rw [e s h1, e (ext z s) (by rw [q1.1]; exact h1), q1.1, q1.2, (extT z _ g2.ok).1, (extT z _ g2.ok).2, (ext8 z _ hs).1, (ext8 z _ hs).2]
    · have e : ∀ s, ¬ rN 1 s = 1 → opN 9 s false = (⟨false, rT (rN' 1 s), rT (rN' 8 (rT' (rN' 1 s))), rN 8 (rT' (rN' 1 s)), rN 8 (rT' (rN' 8 (rT' (rN' 1 s))))⟩, rN' 8 (rT' (rN' 8 (rT' (rN' 1 s)))), ((false || !decide (rN 1 s ≤ 1)) || !okT 1 64 (rT (rN' 1 s))) || !okT 0 1000 (rT (rN' 8 (rT' (rN' 1 s))))) := fun s h1 => by
        unfold opN
        simp [h1]
      rw [e s h1] at hs
      have g4 := got8 _ hs
      have g3 := gotT _ g4.ok
      have g2 := got8 _ g3.ok
      have g1 := gotT _ g2.ok
      have q1 := ext1 z s g1.ok
      rw [e s h1, e (ext z s) (by rw [q1.1]; exact h1), q1.1, q1.2, (extT z _ g2.ok).1, (extT z _ g2.ok).2, (ext8 z _ g3.ok).1, (ext8 z _ g3.ok).2, (extT z _ g4.ok).1, (extT z _ g4.ok).2, (ext8 z _ hs).1, (ext8 z _ hs).2]
theorem ext_batch (z : List UInt8) : ∀ (n : Nat) (s : RS) (bad : Bool), (batchN n s bad).2.2 = false → (batchN n s bad).2.1.2 = false → batchN n (ext z s) bad = ((batchN n s bad).1, ext z (batchN n s bad).2.1, (batchN n s bad).2.2)
  | 0, s, bad, _, _ => rfl
  | n + 1, s, bad, hb, hs => by
    have hbad := batchN_bad0 _ _ _ hb
    subst hbad
    have e : ∀ s, batchN (n + 1) s false = ((opN 9 s false).1 :: (batchN n (opN 9 s false).2.1 (opN 9 s false).2.2).1, (batchN n (opN 9 s false).2.1 (opN 9 s false).2.2).2) := fun s => by
      conv => lhs; unfold batchN
      simp
    rw [e] at hb hs
    obtain ⟨h1, h2⟩ := got_batch n _ _ hb hs
    rw [e, e, ext_op z 9 s (by omega) h2.ok]
    simp only
    rw [ext_batch z n _ _ hb hs]
theorem ext_tok (z : List UInt8) (s : RS) (h : (tok' s).2 = false) : (∀ q : CReq, q.withTok (ext z s) = q.withTok s) ∧ tok' (ext z s) = ext z (tok' s) := by
  have g3 := got8 _ h
  have g2 := got4 _ g3.ok
  have g1 := got4 _ g2.ok
  have a := ext1 z s g1.ok
  have b := ext4 z _ g2.ok
  have c := ext4 z _ g3.ok
  have d := ext8 z _ h
  refine ⟨fun q => ?_, ?_⟩
  · unfold CReq.withTok
    rw [a.1, a.2, b.1, b.2, c.1, c.2, d.1]
  · show rN' 8 (rN' 4 (rN' 4 (rN' 1 (ext z s)))) = _
    rw [a.2, b.2, c.2, d.2]
    rfl
theorem ext_ten (z : List UInt8) (t : Nat) (q : CReq) (s : RS) (bad : Bool) (hb : (tenP t q s bad).2.2 = false) (hs : (tenP t q s bad).2.1.2 = false) : tenP t q (ext z s) bad = ((tenP t q s bad).1, ext z (tenP t q s bad).2.1, (tenP t q s bad).2.2) := by
  by_cases h678 : t = 6 ∨ t = 7 ∨ t = 8
  · have e : ∀ s, tenP t q s bad = ({ q with ops := [(opN t s bad).1] }, (opN t s bad).2.1, (opN t s bad).2.2) := fun _ => if_pos h678
    rw [e] at hb hs
    have hbad := opN_bad _ _ _ hb
    subst hbad
    rw [e, e, ext_op z t s (by omega) hs]
  by_cases h9 : t = 9
  · subst h9
    have e : ∀ s, tenP 9 q s bad = ({ q with ops := (batchN (rN 1 s) (rN' 1 s) (bad || !(decide (1 ≤ rN 1 s) && decide (rN 1 s ≤ 16)))).1 }, (batchN (rN 1 s) (rN' 1 s) (bad || !(decide (1 ≤ rN 1 s) && decide (rN 1 s ≤ 16)))).2) := fun _ => rfl
    rw [e] at hb hs
    obtain ⟨h1, h2⟩ := got_batch _ _ _ hb hs
    have a := ext1 z s h2.ok
    rw [e, e, a.1, a.2, ext_batch z _ _ _ hb hs]
  by_cases h10 : t = 10
  · subst h10
    have e : ∀ s, tenP 10 q s bad = ({ q with after := rT s, first := decide (rN 1 (rT' s) = 1), count := (rN 1 (rN' 1 (rT' s)) : Int) }, rN' 1 (rN' 1 (rT' s)), bad || !okT 0 64 (rT s) || !decide (rN 1 (rT' s) ≤ 1) || !decide (rN 1 (rN' 1 (rT' s)) ≤ 50)) := fun _ => rfl
    rw [e] at hs
    have g2 := got1 _ hs
    have g1 := got1 _ g2.ok
    have a := extT z s g1.ok
    have b := ext1 z _ g2.ok
    have c := ext1 z _ hs
    rw [e, e, a.1, a.2, b.1, b.2, c.1, c.2]
  by_cases h12 : t = 12
  · subst h12
    have e : ∀ s, tenP 12 q s bad = ({ q with rights := (rN 1 s : Int) }, rN' 1 s, bad || !(decide (1 ≤ rN 1 s) && decide (rN 1 s ≤ 7))) := fun _ => rfl
    rw [e] at hs
    have a := ext1 z s hs
    rw [e, e, a.1, a.2]
  by_cases h13 : t = 13
  · subst h13
    have e : ∀ s, tenP 13 q s bad = ({ q with serial := rN 4 s }, rN' 4 s, bad) := fun _ => rfl
    rw [e] at hs
    have a := ext4 z s hs
    rw [e, e, a.1, a.2]
  · have e : ∀ s, tenP t q s bad = (q, s, bad) := fun s => by
      unfold tenP
      rw [if_neg h678, if_neg h9, if_neg h10, if_neg h12, if_neg h13]
    rw [e, e]
theorem ext_body (z : List UInt8) (t : Nat) (s : RS) (hb : (bodyP t s).2.2 = false) (hs : (bodyP t s).2.1.2 = false) : bodyP t (ext z s) = ((bodyP t s).1, ext z (bodyP t s).2.1, (bodyP t s).2.2) := by
  by_cases h5 : 5 < t
  · have e : ∀ s, bodyP t s = tenP t (({ CReq.zero with tag := (t : Int) } : CReq).withTok s) (tok' s) (!(decide (1 ≤ t) && decide (t ≤ 13))) := fun _ => if_pos h5
    rw [e] at hb hs
    have g1 := got_ten t _ (tok' s) _ rfl rfl hb hs
    have a := ext_tok z s g1.ok
    rw [e, e, a.1, a.2, ext_ten z t _ _ _ hb hs]
  by_cases h4 : t < 4
  · by_cases h13 : t = 1 ∨ t = 3
    · have e : ∀ s, bodyP t s = ({ CReq.zero with tag := (t : Int), admin := rN 8 s, bucket := (rN 1 (rN' 8 s) : Int), qk := quoK (rN' 1 (rN' 8 s)), qb := quoB (rN' 1 (rN' 8 s)), qg := quoG (rN' 1 (rN' 8 s)) }, quo' (rN' 1 (rN' 8 s)), !(decide (1 ≤ t) && decide (t ≤ 13)) || !decide (rN 1 (rN' 8 s) < 64) || !quoOk (rN' 1 (rN' 8 s))) := fun s => by
        unfold bodyP
        rw [if_neg h5, if_pos h4, if_pos h13]
      rw [e] at hs
      have g2 := got_quo _ hs
      have g1 := got1 _ g2.ok
      have a := ext8 z s g1.ok
      have b := ext1 z _ g2.ok
      have q2 := got8 _ hs
      have q1 := got8 _ q2.ok
      have c := ext8 z _ q1.ok
      have d := ext8 z _ q2.ok
      have f := ext8 z _ hs
      rw [e, e]
      unfold quoOk quoK quoB quoG quo'
      rw [a.1, a.2, b.1, b.2, c.1, c.2, d.1, d.2, f.1, f.2]
    · have e : ∀ s, bodyP t s = ({ CReq.zero with tag := (t : Int), admin := rN 8 s, bucket := (rN 1 (rN' 8 s) : Int) }, rN' 1 (rN' 8 s), !(decide (1 ≤ t) && decide (t ≤ 13)) || !decide (rN 1 (rN' 8 s) < 64)) := fun s => by
        unfold bodyP
        rw [if_neg h5, if_pos h4, if_neg h13]
      rw [e] at hs
      have g1 := got1 _ hs
      have a := ext8 z s g1.ok
      have b := ext1 z _ hs
      rw [e, e, a.1, a.2, b.1, b.2]
  · have e : ∀ s, bodyP t s = ({ CReq.zero with tag := (t : Int), admin := rN 8 s }, rN' 8 s, !(decide (1 ≤ t) && decide (t ≤ 13))) := fun s => by
      unfold bodyP
      rw [if_neg h5, if_neg h4]
    rw [e] at hs
    have a := ext8 z s hs
    rw [e, e, a.1, a.2]
/-- With more bytes behind it nothing is parsed. -/
theorem parse_more {b z : List UInt8} {q : CReq} (h : parseP b = some q) (hz : z ≠ []) : parseP (b ++ z) = none := by
  unfold parseP endP at h
  split at h
  · cases h
  · rename_i hc
    simp only [Bool.or_eq_true, not_or, Bool.not_eq_true, decide_eq_false_iff_not] at hc
    obtain ⟨⟨h1, h2⟩, h3⟩ := hc
    obtain ⟨L, g, e⟩ := got_body _ _ (rN1 _) h1 h2
    have a := ext1 z (b, false) g.ok
    have ha : ext z (b, false) = (b ++ z, false) := rfl
    rw [ha] at a
    unfold parseP
    refine endP_none ?_
    rw [a.1, a.2, ext_body z _ _ h1 h2]
    simp only [Bool.or_eq_true, decide_eq_true_eq]
    right
    have he : (ext z (bodyP (rN 1 (b, false)) (rN' 1 (b, false))).2.1).2 = false := h2
    rw [he]
    show 0 < ((bodyP (rN 1 (b, false)) (rN' 1 (b, false))).2.1.1 ++ z).length
    have : 0 < z.length := List.length_pos_iff.2 hz
    rw [List.length_append]
    omega
end Go.Proofs.Ytlngefhjoobmdaa
namespace Go.Proofs.Ytlngefhjoobmdaa
open Go.RowKit
structure CPair where
  key : ByteArray
  val : ByteArray
def CPair.cells (p : CPair) : List Value := [.string p.key, .string p.val]
def intC (n : Int) : List Value := [.int .i64 n]
structure CRes where
  code : Int
  tb : Int
  tg : Nat
  ts : Nat
  tc : Nat
  ver : Nat
  val : ByteArray
  page : List CPair
  more : Bool
  ks : Int
  bs : Int
  cs : Int
  sq : Nat
  bk : List Int
def CRes.cells (r : CRes) (p b : Value) : Array Value := #[.int .i64 r.code, .int .i64 r.tb, .int .u32 (r.tg : Int), .int .u32 (r.ts : Int), .int .u64 (r.tc : Int), .int .u64 (r.ver : Int), .string r.val, p, .bool r.more, .int .i64 r.ks, .int .i64 r.bs, .int .i64 r.cs, .int .u64 (r.sq : Int), b]
/-- As the document has it: its numbers in a slice. -/
def CRes.rcells (r : CRes) (p s b : Value) : Array Value := #[.int .i64 r.code, .int .i64 r.tb, .int .u32 (r.tg : Int), .int .u32 (r.ts : Int), .int .u64 (r.tc : Int), .int .u64 (r.ver : Int), .string r.val, p, .bool r.more, s, b]
def CPair.wf (p : CPair) : Prop := p.key.size ≤ maxLen ∧ p.val.size ≤ maxLen
def CRes.wf (r : CRes) : Prop := r.tg < 4294967296 ∧ r.ts < 4294967296 ∧ r.tc < 18446744073709551616 ∧ r.ver < 18446744073709551616 ∧ r.sq < 18446744073709551616 ∧ r.val.size ≤ maxLen ∧ ∀ p ∈ r.page, p.wf
def pairL (p : CPair) : List UInt8 := textL p.key.data.toList ++ textL p.val.data.toList
def pagesL (l : List CPair) : List UInt8 := l.flatMap pairL
def buckL (l : List Int) : List UInt8 := l.flatMap fun n => putL (u64N n) 1
def CRes.stats (r : CRes) : List Nat := [u64N r.ks, u64N r.bs, u64N r.cs, r.sq]
def statL (l : List Nat) : List UInt8 := l.flatMap fun n => putL n 8
/-- A response's bytes. -/
def encL (r : CRes) : List UInt8 := if r.code ≠ 0 then putL (u64N r.code) 1 else
  [UInt8.ofNat 0] ++ tokL r.tb r.tg r.ts r.tc ++ putL r.ver 8 ++ textL r.val.data.toList ++ putL r.page.length 1 ++ pagesL r.page ++ putL (bitN r.more) 1 ++ statL r.stats ++ putL r.bk.length 1 ++ buckL r.bk
theorem pairL_len (p : CPair) : (pairL p).length ≤ 131074 := by
  have h1 := textL_len9 p.key.data.toList
  have h2 := textL_len9 p.val.data.toList
  unfold pairL
  rw [List.length_append]
  omega
theorem pagesL_len (l : List CPair) : (pagesL l).length ≤ 131074 * l.length := by
  induction l with
  | nil => simp [pagesL]
  | cons x l ih =>
    have := pairL_len x
    simp only [pagesL, List.flatMap_cons, List.length_append, List.length_cons] at *
    omega
theorem buckL_len (l : List Int) : (buckL l).length = l.length := by
  induction l with
  | nil => rfl
  | cons x l ih =>
    simp only [buckL, List.flatMap_cons, List.length_append, List.length_cons, putL_length] at *
    omega
theorem statL_len (l : List Nat) : (statL l).length = 8 * l.length := by
  induction l with
  | nil => rfl
  | cons x l ih =>
    simp only [statL, List.flatMap_cons, List.length_append, List.length_cons, putL_length] at *
    omega
theorem flat_take {α : Type} (f : α → List UInt8) (l : List α) (k : Nat) (h : k < l.length) : (l.take (k + 1)).flatMap f = (l.take k).flatMap f ++ f l[k] := by
  rw [List.take_succ_eq_append_getElem h, List.flatMap_append]
  simp
theorem pair_len (p : CPair) : p.cells.length = 2 := rfl
theorem int_len (n : Int) : (intC n).length = 1 := rfl
/-- A response that came in, as it lies. -/
structure ResIn (w : World) (r : CRes) (p b : Value) : Prop where
  pg : ∃ a cap, p = .slice a r.page.length cap ∧ IsRowOf CPair.cells (fun _ => True) 2 w a r.page
  bk : ∃ a cap, b = .slice a r.bk.length cap ∧ IsRowOf intC (fun _ => True) 1 w a r.bk
  wf : r.wf
theorem range_of2 {W : World} {g o : Nat} {x : CPair} (h : ∀ j, j < 2 → W.cell? ⟨g, o + j, none⟩ = (CPair.cells x)[j]?) : W.rangeAt g o x.cells := fun j _ hv => (h j (List.getElem?_eq_some_iff.1 hv).1).trans hv
theorem pair_size : (Try.prog.info? 52).map (·.size) = some 2 := by kernel_rfl
end Go.Proofs.Ytlngefhjoobmdaa
namespace Go.Proofs.Ytlngefhjoobmdaa
open Go.RowKit
def pairsN : Nat → RS → List CPair × RS
  | 0, s => ([], s)
  | n + 1, s => (⟨rT s, rT (rT' s)⟩ :: (pairsN n (rT' (rT' s))).1, (pairsN n (rT' (rT' s))).2)
def bucksN : Nat → RS → List Int × RS
  | 0, s => ([], s)
  | n + 1, s => ((rN 1 s : Int) :: (bucksN n (rN' 1 s)).1, (bucksN n (rN' 1 s)).2)
def CRes.zero : CRes := ⟨0, 0, 0, 0, 0, 0, ByteArray.empty, [], false, 0, 0, 0, 0, []⟩
theorem got_pairs : ∀ (n : Nat) (s : RS), (pairsN n s).2.2 = false → (pairsN n s).1.length = n ∧ Got s (pairsN n s).2 (pagesL (pairsN n s).1)
  | 0, s, h => ⟨rfl, Got.nil h⟩
  | n + 1, s, h => by
    obtain ⟨h1, h2⟩ := got_pairs n (rT' (rT' s)) h
    have g1 := gotT _ h2.ok
    have g0 := gotT _ g1.ok
    exact ⟨by simp [pairsN, h1], (g0.trans (g1.trans h2)).as (by simp [pairsN, pagesL, pairL])⟩
theorem got_bucks : ∀ (n : Nat) (s : RS), (bucksN n s).2.2 = false → (bucksN n s).1.length = n ∧ Got s (bucksN n s).2 (buckL (bucksN n s).1)
  | 0, s, h => ⟨rfl, Got.nil h⟩
  | n + 1, s, h => by
    obtain ⟨h1, h2⟩ := got_bucks n (rN' 1 s) h
    have g0 := got1 _ h2.ok
    refine ⟨by simp [bucksN, h1], (g0.trans h2).as ?_⟩
    have hu : u64N (rN 1 s : Int) = rN 1 s := u64N_nat _ (by have := rN1 s; omega)
    simp [bucksN, buckL, hu]
/-- The state behind the texts' page; behind the bit; behind the numbers. -/
def dS4 (s : RS) : RS := rT' (rN' 8 (tok' s))
def dP (s : RS) : List CPair × RS := pairsN (rN 1 (dS4 s)) (rN' 1 (dS4 s))
def dS7 (s : RS) : RS := rN' 1 (dP s).2
def dS11 (s : RS) : RS := rN' 8 (rN' 8 (rN' 8 (rN' 8 (dS7 s))))
def dB (s : RS) : List Int × RS := bucksN (rN 1 (dS11 s)) (rN' 1 (dS11 s))
def dec0 (s : RS) : CRes := ⟨0, (rN 1 s : Int), rN 4 (rN' 1 s), rN 4 (rN' 4 (rN' 1 s)), rN 8 (rN' 4 (rN' 4 (rN' 1 s))), rN 8 (tok' s), rT (rN' 8 (tok' s)), (dP s).1, decide (rN 1 (dP s).2 = 1), i64 (rN 8 (dS7 s)), i64 (rN 8 (rN' 8 (dS7 s))), i64 (rN 8 (rN' 8 (rN' 8 (dS7 s)))), rN 8 (rN' 8 (rN' 8 (rN' 8 (dS7 s)))), (dB s).1⟩
def bodyD (t : Nat) (s : RS) : CRes × RS × Bool := if t = 0 then (dec0 s, (dB s).2, !decide (rN 1 (dP s).2 ≤ 1)) else ({ CRes.zero with code := (t : Int) }, s, false)
def decodeP (b : List UInt8) : Option CRes := if ((bodyD (rN 1 (b, false)) (rN' 1 (b, false))).2.2 || (bodyD (rN 1 (b, false)) (rN' 1 (b, false))).2.1.2 || decide (0 < rdLeft (bodyD (rN 1 (b, false)) (rN' 1 (b, false))).2.1.1 (bodyD (rN 1 (b, false)) (rN' 1 (b, false))).2.1.2)) = true then none else some (bodyD (rN 1 (b, false)) (rN' 1 (b, false))).1
theorem got_dec (t : Nat) (s : RS) (ht : t < 256) (hb : (bodyD t s).2.2 = false) (hs : (bodyD t s).2.1.2 = false) : ∃ L, Got s (bodyD t s).2.1 L ∧ encL (bodyD t s).1 = putL t 1 ++ L := by
  have hu : u64N (t : Int) = t := u64N_nat _ (by omega)
  by_cases h0 : t = 0
  · have e : bodyD t s = (dec0 s, (dB s).2, !decide (rN 1 (dP s).2 ≤ 1)) := if_pos h0
    rw [e] at hb hs ⊢
    subst h0
    obtain ⟨b1, b2⟩ := got_bucks _ _ hs
    have n5 := got1 (dS11 s) b2.ok
    have n4 := got8 _ n5.ok
    have n3 := got8 _ n4.ok
    have n2 := got8 _ n3.ok
    have n1 := got8 (dS7 s) n2.ok
    have m1 := got1 (dP s).2 n1.ok
    obtain ⟨p1, p2⟩ := got_pairs _ _ m1.ok
    have p0 := got1 (dS4 s) p2.ok
    have v1 := gotT _ p0.ok
    have v0 := got8 _ v1.ok
    have t0 := got_tok s v0.ok
    refine ⟨_, t0.trans (v0.trans (v1.trans (p0.trans (p2.trans (m1.trans (n1.trans (n2.trans (n3.trans (n4.trans (n5.trans b2)))))))))), ?_⟩
    have hbit : bitN (decide (rN 1 (dP s).2 = 1)) = rN 1 (dP s).2 := bit_back _ (by simpa using hb)
    have hp : (dP s).1.length = rN 1 (dS4 s) := p1
    have hq : (dB s).1.length = rN 1 (dS11 s) := b1
    unfold encL dec0 CRes.stats
    rw [if_neg (by simp)]
    simp only [hp, hq, hbit, i64_back _ (rN8 _), statL]
    simp [putL_one, dP, dB]
  · have e : bodyD t s = ({ CRes.zero with code := (t : Int) }, s, false) := if_neg h0
    rw [e] at hs ⊢
    refine ⟨[], Got.nil hs, ?_⟩
    unfold encL
    rw [if_pos (by show (t : Int) ≠ 0; omega), hu]
    simp
/-- What is decoded is encoded as those bytes. -/
theorem encL_decode {b : List UInt8} {r : CRes} (h : decodeP b = some r) : encL r = b := by
  unfold decodeP at h
  split at h
  · cases h
  · rename_i hc
    cases h
    simp only [Bool.or_eq_true, not_or, Bool.not_eq_true, decide_eq_false_iff_not] at hc
    obtain ⟨⟨h1, h2⟩, h3⟩ := hc
    obtain ⟨L, g, e⟩ := got_dec _ _ (rN1 _) h1 h2
    have g0 := (got1 (b, false) g.ok).trans g
    have hl : (bodyD (rN 1 (b, false)) (rN' 1 (b, false))).2.1.1 = [] := by
      rw [h2] at h3
      unfold rdLeft at h3
      simpa using h3
    have := g0.eq
    rw [hl, List.append_nil] at this
    rw [e, ← this]
end Go.Proofs.Ytlngefhjoobmdaa
namespace Go.Proofs.Ytlngefhjoobmdaa
open Go.RowKit
theorem dres_size : (Try.prog.info? 49).map (·.size) = some 14 := by kernel_rfl
theorem dpair_info : (Try.prog.info? 52).map (fun i => (i.zero, i.size, i.bytes)) = some (some (.agg #[.string ByteArray.empty, .string ByteArray.empty]), 2, 32) := by kernel_rfl
theorem dint_info : (Try.prog.info? 3).map (fun i => (i.zero, i.size, i.bytes)) = some (some (.int .i64 0), 1, 8) := by kernel_rfl
theorem dpair_one (x : CPair) : ∀ u ∈ x.cells, u.oneCell' = true := by
  intro u hu
  simp [CPair.cells] at hu
  rcases hu with rfl | rfl <;> rfl
theorem dint_one (x : Int) : ∀ u ∈ intC x, u.oneCell' = true := by
  intro u hu
  simp [intC] at hu
  subst hu
  rfl
/-- The walk stops at a call's end. -/
structure Stop (p : Prop) : Prop where
  out : p
theorem stopPost {P : Program} {fn : Func} {R : Ending → World → Prop} {e : Exit} {a : Act} {w : World} (h : Stop (bodyPost P fn R e a w)) : bodyPost P fn R e a w := h.out
abbrev ZRes : Obj := .cells (CRes.zero.cells nilS nilS) 49 (0, 0)
abbrev cd3 (w : World) (a : Option Addr) (n cap : Nat) : World := ((w.alloc ZRes).alloc (.cells #[.slice a n cap, .bool false] 105)).alloc (.cells #[.pointer (some ⟨w.heap.size + 1, 0, none⟩), .bool false] 74)
theorem dec_start {w : World} {a : Option Addr} {cap : Nat} {l : List UInt8} (h : Reads w (.slice a l.length cap) l) : IsCR (w.heap.size + 2) (w.heap.size + 1) (cd3 w a l.length cap) (l, false) false ∧ Below w.heap.size w (cd3 w a l.length cap) ∧ (cd3 w a l.length cap).heap[w.heap.size]? = some ZRes := by
  have hr := isReader_first (Z := ZRes) h
  obtain ⟨w2, hw2⟩ : ∃ w2, w2 = (w.alloc ZRes).alloc (.cells #[.slice a l.length cap, .bool false] 105) := ⟨_, rfl⟩
  have hs : w2.heap.size = w.heap.size + 2 := by rw [hw2]; simp
  have hb2 : Below w.heap.size w w2 := by rw [hw2]; exact ((Below.refl _ _).alloc (Nat.le_refl _) _).alloc (by simp) _
  have h0 : w2.heap[w.heap.size]? = some ZRes := by rw [hw2]; exact (Below.heap_alloc _ _ _ (by simp)).trans (heap_alloc_new w _)
  unfold cd3
  rw [← hw2] at hr ⊢
  have hb3 := (Below.refl w2.heap.size w2).alloc (Nat.le_refl _) (.cells #[.pointer (some ⟨w.heap.size + 1, 0, none⟩), .bool false] 74)
  refine ⟨⟨?_, hr.bel hb3, by omega⟩, hb2.trans (hb3.mono (by omega)), (hb3.block _ (by omega)).trans h0⟩
  rw [← hs]
  exact heap_alloc_new w2 _
/-- The walk's state: the response's box, its rows. -/
structure DS (bq br xb : Nat) (w w1 : World) (r : CRes) (p b : Value) (s : RS) (bad : Bool) (W : World) : Prop where
  st : QS bq br xb (IsCR bq br) w1 49 (r.cells p b) s bad W
  pg : OwnOf 52 CPair.cells 2 (xb + 1) W p r.page
  bk : OwnOf 3 intC 1 (xb + 1) W b r.bk
  sep : ∀ k, p.ownBlock = some k → b.ownBlock ≠ some k
  bel : Below w.heap.size w w1
  rb : w1.heap[w.heap.size]? = some ZRes
  lo : w.heap.size < br ∧ w.heap.size < bq ∧ w.heap.size < xb
  top : w1.heap.size = xb + 1
theorem DS.start {w w3 W1 : World} {bq br : Nat} {s : RS} {bad : Bool} (r : CRes) (hp : r.page = []) (hk : r.bk = []) (hb : Below w.heap.size w w3) (h0 : w3.heap[w.heap.size]? = some ZRes) (h1 : w.heap.size < br) (h2 : w.heap.size < bq) (hr : IsCR bq br W1 s bad) (hg : TG bq br w3 W1) :
    DS bq br W1.heap.size w ((W1.alloc ZRes).setRow W1.heap.size (r.cells nilS nilS)) r nilS nilS s bad ((W1.alloc ZRes).setRow W1.heap.size (r.cells nilS nilS)) := by
  have hlt : w.heap.size < w3.heap.size := (Array.getElem?_eq_some_iff.1 h0).1
  have hlt1 : w.heap.size < W1.heap.size := Nat.lt_of_lt_of_le hlt hg.size
  have hbW : Below w.heap.size w W1 := hb.trans (hg.below hb.size (by omega) (by omega))
  have hbA := hbW.alloc hbW.size ZRes
  refine ⟨QS.start (goodKCR bq br) hr, by rw [hp]; exact OwnOf.nil _ _, by rw [hk]; exact OwnOf.nil _ _, (fun k h => by cases h), ⟨hbA.os, hbA.tape, hbA.output, by simpa [World.setRow] using hbA.size, fun k hk => (setRow_other _ _ _ _ (by omega)).trans (hbA.block k hk)⟩, ?_, ⟨h1, h2, hlt1⟩, by simp [World.setRow]⟩
  exact (setRow_other _ _ _ _ (by omega)).trans ((Below.heap_alloc _ _ _ hlt1).trans ((hg.block _ hlt (by omega) (by omega)).trans h0))
section
variable {bq br xb : Nat} {w w1 W W' : World} {r r' : CRes} {p p' b b' : Value} {s s' : RS} {bad bad' : Bool} {lp : List CPair} {lb : List Int}
theorem DS.size (h : DS bq br xb w w1 r p b s bad W) : xb + 1 ≤ W.heap.size := h.top ▸ h.st.tg.size
theorem DS.call (h : DS bq br xb w w1 r p b s bad W) (hr : IsCR bq br W' s' bad') (hg : TG bq br W W') : DS bq br xb w w1 r p b s' bad' W' :=
  ⟨h.st.call hr hg, h.pg.tg h.st.lt hg, h.bk.tg h.st.lt hg, h.sep, h.bel, h.rb, h.lo, h.top⟩
theorem DS.bel' (h : DS bq br xb w w1 r p b s bad W) (hb : Below W.heap.size W W') : DS bq br xb w w1 r p b s bad W' :=
  ⟨h.st.bel' hb, h.pg.bel hb, h.bk.bel hb, h.sep, h.bel, h.rb, h.lo, h.top⟩
theorem DS.put (h : DS bq br xb w w1 r p b s bad W) (i : Nat) (u : Value) (hc : (r.cells p b).setIfInBounds i u = r'.cells p b) (hp : r'.page = r.page) (hk : r'.bk = r.bk) : DS bq br xb w w1 r' p b s bad (W.setCell ⟨xb, i, none⟩ u) :=
  ⟨h.st.store i u hc, by rw [hp]; exact h.pg.t3 h.st.lt (T3.setCell _ _ _), by rw [hk]; exact h.bk.t3 h.st.lt (T3.setCell _ _ _), h.sep, h.bel, h.rb, h.lo, h.top⟩
theorem DS.row (h : DS bq br xb w w1 r p b s bad W) (hp : r'.page = r.page) (hk : r'.bk = r.bk) : DS bq br xb w w1 r' p b s bad (W.setRow xb (r'.cells p b)) :=
  ⟨h.st.row _, by rw [hp]; exact h.pg.t3 h.st.lt (T3.setRow _ _), by rw [hk]; exact h.bk.t3 h.st.lt (T3.setRow _ _), h.sep, h.bel, h.rb, h.lo, h.top⟩
/-- A page's row grows, and is stored. -/
theorem DS.page (h : DS bq br xb w w1 r p b s bad W) (hg : Grew W W' p p') (ho : OwnOf 52 CPair.cells 2 (xb + 1) W' p' lp) : W'.heap[xb]? = some (.cells (r.cells p b) 49 (0, 0)) ∧ DS bq br xb w w1 { r with page := lp } p' b s bad (W'.setRow xb (CRes.cells { r with page := lp } p' b)) := by
  have hst := h.st.grown hg (fun k hk => by have := (h.pg.block k hk).1; have := h.top; omega)
  have hbk : OwnOf 3 intC 1 (xb + 1) W' b r.bk := h.bk.keep hg.1 (fun k hk e => h.sep k e.symm hk)
  refine ⟨hst.c, hst.row _, ho.t3 h.st.lt (T3.setRow _ _), hbk.t3 h.st.lt (T3.setRow _ _), fun k hk hb => ?_, h.bel, h.rb, h.lo, h.top⟩
  rcases hg.2 k hk with e | e
  · exact h.sep k e hb
  · have := (h.bk.block k hb).2; omega
/-- Between the append of a number and its store. -/
def DMid (bq br xb : Nat) (w w1 : World) (r : CRes) (p b : Value) (s : RS) (bad : Bool) (lb : List Int) (vv : Value) (W : World) : Prop := (QS bq br xb (IsCR bq br) w1 49 (r.cells p b) s bad W ∧ OwnOf 52 CPair.cells 2 (xb + 1) W p r.page) ∧ OwnOf 3 intC 1 (xb + 1) W vv lb ∧ (∀ k, p.ownBlock = some k → vv.ownBlock ≠ some k) ∧ (Below w.heap.size w w1 ∧ w1.heap[w.heap.size]? = some ZRes ∧ (w.heap.size < br ∧ w.heap.size < bq ∧ w.heap.size < xb) ∧ w1.heap.size = xb + 1)
def DEnd (bq br xb : Nat) (w w1 : World) (r : CRes) (p : Value) (s : RS) (bad : Bool) (lb : List Int) (W : World) : Prop := ∃ b, DS bq br xb w w1 { r with bk := lb } p b s bad W
/-- The numbers' row grows. -/
theorem DS.grewB (h : DS bq br xb w w1 r p b s bad W) (hg : Grew W W' b b') (ho : OwnOf 3 intC 1 (xb + 1) W' b' lb) : DMid bq br xb w w1 r p b s bad lb b' W' := by
  refine ⟨⟨h.st.grown hg (fun k hk => by have := (h.bk.block k hk).1; have := h.top; omega), h.pg.keep hg.1 (fun k hk e => h.sep k hk e.symm)⟩, ho, fun k hk hb => ?_, h.bel, h.rb, h.lo, h.top⟩
  rcases hg.2 k hb with e | e
  · exact h.sep k hk e
  · have := (h.pg.block k hk).2; omega
theorem DMid.store (h : DMid bq br xb w w1 r p b s bad lb b' W) : DEnd bq br xb w w1 r p s bad lb (W.setRow xb (CRes.cells { r with bk := lb } p b')) := by
  obtain ⟨⟨h1, h2⟩, h3, h4, h5, h6, h7, h8⟩ := h
  exact ⟨b', h1.row _, h2.t3 h1.lt (T3.setRow _ _), h3.t3 h1.lt (T3.setRow _ _), h4, h5, h6, h7, h8⟩
/-- A block beyond all of it turns. -/
theorem DS.other (h : DS bq br xb w w1 r p b s bad W) {g : Nat} (cs : Array Value) (h1 : xb < g) (h2 : p.ownBlock ≠ some g) (h3 : b.ownBlock ≠ some g) : DS bq br xb w w1 r p b s bad (W.setRow g cs) := by
  have h0 := h.st.lt
  have ht := h.top
  refine ⟨⟨h.st.good, h.st.good.row _ _ h.st.rd (by omega) (by omega), (setRow_other _ _ _ _ (by omega)).trans h.st.c, ⟨h.st.tg.os, h.st.tg.tape, h.st.tg.output, by simpa [World.setRow] using h.st.tg.size, fun k hk a b c => (setRow_other _ _ _ _ (by omega)).trans (h.st.tg.block k hk a b c)⟩, h0⟩, h.pg.kept fun k hk => setRow_other _ _ _ _ (fun e => h2 (e ▸ hk)), h.bk.kept fun k hk => setRow_other _ _ _ _ (fun e => h3 (e ▸ hk)), h.sep, h.bel, h.rb, h.lo, ht⟩
theorem DS.rbW (h : DS bq br xb w w1 r p b s bad W) : W.heap[w.heap.size]? = some ZRes := by
  have h1 := h.lo
  exact (h.st.tg.block _ (Array.getElem?_eq_some_iff.1 h.rb).1 (by omega) (by omega) (by omega)).trans h.rb
theorem DS.below (h : DS bq br xb w w1 r p b s bad W) (cs : Array Value) : Below w.heap.size w (W.setRow w.heap.size cs) := by
  have h1 := h.lo
  have h2 := h.bel.trans (h.st.tg.below h.bel.size (by omega) (by omega) (by omega))
  exact ⟨h2.os, h2.tape, h2.output, by simpa [World.setRow] using h2.size, fun k hk => (setRow_other W _ k cs (by omega)).trans (h2.block k hk)⟩
theorem res_one (r : CRes) (a c : Option Addr) (n m k l : Nat) : (r.cells (.slice a n m) (.slice c k l)).all (·.oneCell') = true := by
  unfold CRes.cells
  simp [Value.oneCell']
theorem DS.one (h : DS bq br xb w w1 r p b s bad W) : (r.cells p b).all (·.oneCell') = true := by
  obtain ⟨a, m, rfl⟩ := h.pg.slice
  obtain ⟨c, l, rfl⟩ := h.bk.slice
  exact res_one ..
theorem DS.runZ (h : DS bq br xb w w1 r p b s bad W) : (Instr.storeAt 49 (.pointer (some ⟨w.heap.size, 0, none⟩)) (.agg (CRes.zero.cells nilS nilS))).run Try.prog W = .ok () (W.setRow w.heap.size (CRes.zero.cells nilS nilS)) :=
  run_storeRow _ _ _ _ _ h.rbW dres_size rfl (res_one ..)
theorem DS.runC (h : DS bq br xb w w1 r p b s bad W) : (Instr.storeAt 49 (.pointer (some ⟨w.heap.size, 0, none⟩)) (.agg (r.cells p b))).run Try.prog W = .ok () (W.setRow w.heap.size (r.cells p b)) :=
  run_storeRow _ _ _ _ _ h.rbW dres_size rfl h.one
end
/-- A row of one number, just made. -/
def IRow (bq br xb : Nat) (y : Value) (n : Int) (u : Value) (W : World) : Prop := ∃ g, u = .slice (some ⟨g, 0, none⟩) 1 1 ∧ g < W.heap.size ∧ g ≠ bq ∧ g ≠ br ∧ g ≠ xb ∧ y.ownBlock ≠ some g ∧ W.heap[g]? = some (.cells #[.int .i64 n] 3 (0, 0))
theorem IRow.ro {bq br xb : Nat} {y : Value} {n : Int} {u : Value} {w1 w2 : World} (h : IRow bq br xb y n u w1) (hr : RO bq br xb y w1 w2) : IRow bq br xb y n u w2 := by
  obtain ⟨g, hu, h1, h2, h3, h4, h5, h6⟩ := h
  exact ⟨g, hu, Nat.lt_of_lt_of_le h1 hr.size, h2, h3, h4, h5, (hr.block g h1 h2 h3 h4 h5).trans h6⟩
theorem DS.made {bq br xb : Nat} {w w1 W : World} {r : CRes} {p b : Value} {s : RS} {bad : Bool} (h : DS bq br xb w w1 r p b s bad W) (n : Int) : RO bq br xb b W (W.alloc (.cells #[.int .i64 n] 3)) ∧ DS bq br xb w w1 r p b s bad (W.alloc (.cells #[.int .i64 n] 3)) ∧ IRow bq br xb b n (.slice (some ⟨W.heap.size, 0, none⟩) 1 1) (W.alloc (.cells #[.int .i64 n] 3)) := by
  have hb := (Below.refl W.heap.size W).alloc (Nat.le_refl _) (.cells #[.int .i64 n] 3)
  have h1 := h.st.lt
  have h2 := h.size
  exact ⟨RO.of_t3 (T3.of_below hb), h.bel' hb, W.heap.size, rfl, by simp, by omega, by omega, by omega, fun e => by have := (h.bk.block _ e).2; omega, heap_alloc_new W _⟩
def decErr : Option CRes → Nat
  | none => 2
  | some _ => 0
def resOf : Option CRes → CRes
  | none => CRes.zero
  | some r => r
theorem gives_storeD {o : Oper} {a : Act} {w w' : World} (ty : TypeId) (x y : Operand) (ho : o.op = .store ty x y) (p v : Value) (hx : a.eval x = p) (hy : a.eval y = v) (hr : (Instr.storeAt ty p v).run Try.prog w = .ok () w') : Reg.gives Try.prog o a w (fun v' w2 => v' = undef ∧ w2 = w') := by
  unfold Reg.gives execOp
  simp only [ho, hx, hy, Sem.run_bind, hr, Result.andThen_ok, Sem.run_pure]
  exact ⟨trivial, trivial⟩
/-- What Decode comes to. -/
structure DecOk (r : Option CRes) (w : World) (e : Ending) (W : World) : Prop where
  ret : ∃ p b, e = .returned (.tuple #[.agg ((resOf r).cells p b), errV (decErr r)]) ∧ OwnOf 52 CPair.cells 2 w.heap.size W p (resOf r).page ∧ OwnOf 3 intC 1 w.heap.size W b (resOf r).bk
  bel : Below w.heap.size w W
def endD (r : CRes) (s : RS) (bad : Bool) : Option CRes := if (bad || s.2 || decide (0 < rdLeft s.1 s.2)) = true then none else some r
section
variable {bq br xb : Nat} {w w1 W : World} {r : CRes} {p b : Value} {s : RS} {bad : Bool}
theorem DS.endBad (h : DS bq br xb w w1 r p b s bad W) (hb : (bad || s.2 || decide (0 < rdLeft s.1 s.2)) = true) : DecOk (endD r s bad) w (.returned (.tuple #[.agg (CRes.zero.cells nilS nilS), errV 2])) (W.setRow w.heap.size (CRes.zero.cells nilS nilS)) := by
  unfold endD
  rw [if_pos hb]
  exact ⟨⟨nilS, nilS, rfl, OwnOf.nil _ _, OwnOf.nil _ _⟩, h.below _⟩
theorem DS.endGood (h : DS bq br xb w w1 r p b s bad W) (hb : (bad || s.2 || decide (0 < rdLeft s.1 s.2)) = false) : DecOk (endD r s bad) w (.returned (.tuple #[.agg (r.cells p b), .nilIface])) (W.setRow w.heap.size (r.cells p b)) := by
  unfold endD
  rw [if_neg (by rw [hb]; simp)]
  have h1 := h.lo
  exact ⟨⟨p, b, rfl, (h.pg.kept fun k hk => setRow_other W _ k _ (by have := (h.pg.block k hk).1; omega)).mono (by omega), (h.bk.kept fun k hk => setRow_other W _ k _ (by have := (h.bk.block k hk).1; omega)).mono (by omega)⟩, h.below _⟩
end
/-- Where the pages, the numbers are read. -/
theorem pairs_step (n : Nat) (s : RS) (l : List CPair) (R : List CPair × RS) (h : (l ++ (pairsN (n + 1) s).1, (pairsN (n + 1) s).2) = R) : ((l ++ [⟨rT s, rT (rT' s)⟩]) ++ (pairsN n (rT' (rT' s))).1, (pairsN n (rT' (rT' s))).2) = R := by
  rw [← h]
  simp [pairsN]
theorem pairs_none (s : RS) (l : List CPair) (R : List CPair × RS) (h : (l ++ (pairsN 0 s).1, (pairsN 0 s).2) = R) : (l, s) = R := by
  rw [← h]
  simp [pairsN]
theorem bucks_step (n : Nat) (s : RS) (l : List Int) (R : List Int × RS) (h : (l ++ (bucksN (n + 1) s).1, (bucksN (n + 1) s).2) = R) : ((l ++ [(rN 1 s : Int)]) ++ (bucksN n (rN' 1 s)).1, (bucksN n (rN' 1 s)).2) = R := by
  rw [← h]
  simp [bucksN]
theorem bucks_none (s : RS) (l : List Int) (R : List Int × RS) (h : (l ++ (bucksN 0 s).1, (bucksN 0 s).2) = R) : (l, s) = R := by
  rw [← h]
  simp [bucksN]
end Go.Proofs.Ytlngefhjoobmdaa
namespace Go.Proofs.Ytlngefhjoobmdaa
open Go.RowKit
set_option maxRecDepth 100000 in
set_option maxHeartbeats 8000000 in
theorem crDecN (a : Option Addr) (cap : Nat) (b : List UInt8) (w : World) (h : Reads w (.slice a b.length cap) b) (t : Nat) (s1 : RS) (ht : t = rN 1 (b, false)) (hs1 : s1 = rN' 1 (b, false)) (h0 : t ≠ 0) : Calls Try.prog 18 #[.slice a b.length cap] w (DecOk (decodeP b) w) := by
  have hb1 : (t : Int) ≤ 255 := by have := rN1 (b, false); omega
  have hw1 : IntKind.i64.wrap (t : Int) = (t : Int) := by rw [IntKind.wrap_i64]; omega
  have HRES := Lib.hid (show decodeP b = endD (⟨(t : Int), 0, 0, 0, 0, 0, ByteArray.empty, [], false, 0, 0, 0, 0, []⟩ : CRes) s1 false by unfold decodeP bodyD; rw [← ht, ← hs1, if_neg h0]; rfl)
  have HQ1 := Lib.hid (fun bq br W (hW : IsCR bq br W (b, false) false) => by have := crNum bq br (b, false) false 1 W hW; rw [← ht, ← hs1] at this; exact this)
  have HS := Lib.hid (dec_start h)
  have e0 : ((t : Int) == 0) = false := by rw [beq_eq_false_iff_ne]; omega
  clear ht hs1 h h0
  go_enter Try.func18, Try.ntmps18
  go_wp2_with fail
  refine (packNew a b.length cap _).mono ?_
  rintro e Wr ⟨rfl, hWr⟩
  rw [← hWr]
  clear hWr
  go_wp2_with fail
  refine (HQ1.out (w.heap.size + 2) (w.heap.size + 1) _ HS.out.1).mono ?_
  rintro e W1 ⟨rfl, hr, hg⟩
  obtain ⟨WS, hWS⟩ : ∃ WS, WS = (W1.alloc ZRes).setRow W1.heap.size (CRes.cells (⟨(t : Int), 0, 0, 0, 0, 0, ByteArray.empty, [], false, 0, 0, 0, 0, []⟩ : CRes) nilS nilS) := ⟨_, rfl⟩
  have HU := Lib.hid (DS.start (⟨(t : Int), 0, 0, 0, 0, 0, ByteArray.empty, [], false, 0, 0, 0, 0, []⟩ : CRes) rfl rfl HS.out.2.1 HS.out.2.2 (by omega) (by omega) hr hg)
  have HSR := Lib.hid (run_storeRow (W1.alloc ZRes) 49 W1.heap.size (CRes.zero.cells nilS nilS) (CRes.cells (⟨(t : Int), 0, 0, 0, 0, 0, ByteArray.empty, [], false, 0, 0, 0, 0, []⟩ : CRes) nilS nilS) (heap_alloc_new W1 _) dres_size rfl (res_one ..))
  rw [← hWS] at HU HSR
  generalize hbq : w.heap.size + 2 = bq at *
  generalize hbr : w.heap.size + 1 = br at *
  have b0 := HU.out.st.rd.cells.c0
  have b1 := HU.out.st.rd.cells.c1
  have t0 := HU.out.st.cell 0 (v := .int .i64 (t : Int)) rfl
  clear hr hg HS HQ1 hbq hbr hWS
  generalize hxb : W1.heap.size = xb at *
  obtain ⟨l9, sh9⟩ := s1
  go_wp2_with ((with_reducible refine atStore ?_); refine wpList_store_by rfl 49 (.tmp 5) (.tmp 17) rfl (.pointer (some ⟨xb, 0, none⟩)) _ rfl rfl HSR.out ?_)
  clear t0 HSR
  have HE := Lib.hid HU.out
  clear HU b0 b1
  obtain ⟨r9, hr9⟩ : ∃ r, r = (⟨(t : Int), 0, 0, 0, 0, 0, ByteArray.empty, [], false, 0, 0, 0, 0, []⟩ : CRes) := ⟨_, rfl⟩
  rw [← hr9] at HE HRES
  clear hr9
  have b0 := HE.out.st.rd.cells.c0
  have b1 := HE.out.st.rd.cells.c1
  go_wp2_with fail
  refine (packShort br l9 sh9 _ HE.out.st.rd.rd).mono ?_
  rintro e Wr ⟨rfl, hWr⟩
  rw [← hWr]
  clear hWr
  cases sh9 with
  | true =>
    go_wp2_with (first | ((with_reducible refine atStore ?_); refine wpList_store_by rfl 49 (.tmp 2) (.tmp 130) rfl (.pointer (some ⟨w.heap.size, 0, none⟩)) _ rfl rfl HE.out.runZ ?_) | (with_reducible refine stopPost ?_))
    refine ⟨bodyPost_ret (v := .tuple #[.agg (CRes.zero.cells nilS nilS), errV 2]) (results_row_tmp rfl _ _ w.heap.size (CRes.zero.cells nilS nilS) rfl (run_loadVar_row _ w.heap.size _ _ _ (0, 0) _ (setRow_heap _ _ _ _ _ _ HE.out.rbW) Try.underlying49 rfl dres_size) _ rfl) rfl ?_⟩
    rw [HRES.out]
    exact HE.out.endBad rfl
  | false =>
    go_wp2_with fail
    refine (packLeft br l9 false _ HE.out.st.rd.rd).mono ?_
    rintro e Wr ⟨rfl, hWr⟩
    rw [← hWr]
    clear hWr
    by_cases hz : l9.length = 0
    · have dz : decide ((0 : Int) < (rdLeft l9 false : Int)) = false := by rw [decide_eq_false_iff_not, show rdLeft l9 false = l9.length from rfl]; omega
      have dz2 : decide (0 < rdLeft l9 false) = false := by rw [decide_eq_false_iff_not, show rdLeft l9 false = l9.length from rfl]; omega
      have HDZ := Lib.hid dz2
      obtain ⟨C9, hC9⟩ : ∃ C, C = r9.cells nilS nilS := ⟨_, rfl⟩
      have HC := Lib.hid HE.out.st.c
      have HRC := Lib.hid HE.out.runC
      have HG := Lib.hid (HE.out.endGood dz2)
      have HSZ := Lib.hid (show (Try.prog.info? 49).map (·.size) = some C9.size by rw [hC9]; exact dres_size)
      rw [← hC9] at HC HRC HG
      clear hz hC9
      go_wp2_with (first | ((with_reducible refine atLoad ?_); refine wpList_load_row rfl 49 (.tmp 5) rfl xb rfl 49 C9 (0, 0) _ HC.out Try.underlying49 rfl HSZ.out ?_) | ((with_reducible refine atStore ?_); refine wpList_store_by rfl 49 (.tmp 2) (.tmp 132) rfl (.pointer (some ⟨w.heap.size, 0, none⟩)) _ rfl rfl HRC.out ?_) | (with_reducible refine stopPost ?_))
      refine ⟨bodyPost_ret (v := .tuple #[.agg C9, .nilIface]) (results_row_tmp rfl _ _ w.heap.size C9 rfl (run_loadVar_row _ w.heap.size _ _ _ (0, 0) _ (setRow_heap _ _ _ _ _ _ HE.out.rbW) Try.underlying49 rfl HSZ.out) _ rfl) rfl ?_⟩
      rw [HRES.out]
      exact HG.out
    · have dz : decide ((0 : Int) < (rdLeft l9 false : Int)) = true := by rw [decide_eq_true_iff, show rdLeft l9 false = l9.length from rfl]; omega
      have dz2 : decide (0 < rdLeft l9 false) = true := by rw [decide_eq_true_iff, show rdLeft l9 false = l9.length from rfl]; omega
      have HDZ := Lib.hid dz2
      clear hz
      go_wp2_with (first | ((with_reducible refine atStore ?_); refine wpList_store_by rfl 49 (.tmp 2) (.tmp 130) rfl (.pointer (some ⟨w.heap.size, 0, none⟩)) _ rfl rfl HE.out.runZ ?_) | (with_reducible refine stopPost ?_))
      refine ⟨bodyPost_ret (v := .tuple #[.agg (CRes.zero.cells nilS nilS), errV 2]) (results_row_tmp rfl _ _ w.heap.size (CRes.zero.cells nilS nilS) rfl (run_loadVar_row _ w.heap.size _ _ _ (0, 0) _ (setRow_heap _ _ _ _ _ _ HE.out.rbW) Try.underlying49 rfl dres_size) _ rfl) rfl ?_⟩
      rw [HRES.out]
      exact HE.out.endBad HDZ.out
set_option maxRecDepth 100000 in
set_option maxHeartbeats 8000000 in
theorem crDec0 (a : Option Addr) (cap : Nat) (b : List UInt8) (w : World) (h : Reads w (.slice a b.length cap) b) (h0 : 0 = rN 1 (b, false)) : Calls Try.prog 18 #[.slice a b.length cap] w (DecOk (decodeP b) w) := by
  have HS := Lib.hid (dec_start h)
  obtain ⟨s1, hs1⟩ : ∃ x, x = rN' 1 (b, false) := ⟨_, rfl⟩
  have HQ1 := Lib.hid (fun bq br W (hW : IsCR bq br W (b, false) false) => by have := crNum bq br (b, false) false 1 W hW; rw [← h0, ← hs1] at this; exact this)
  obtain ⟨s2, hs2⟩ : ∃ x, x = tok' s1 := ⟨_, rfl⟩
  obtain ⟨n3, hn3⟩ : ∃ x, x = rN 8 s2 := ⟨_, rfl⟩
  obtain ⟨s3, hs3⟩ : ∃ x, x = rN' 8 s2 := ⟨_, rfl⟩
  have HQ3 := Lib.hid (fun bq br W (hW : IsCR bq br W s2 false) => by have := crNum bq br s2 false 8 W hW; rw [← hn3, ← hs3] at this; exact this)
  have hb3 : (n3 : Int) ≤ 18446744073709551615 := by have := rN8 s2; omega
  obtain ⟨x4, hx4⟩ : ∃ x, x = rT s3 := ⟨_, rfl⟩
  obtain ⟨s4, hs4⟩ : ∃ x, x = rT' s3 := ⟨_, rfl⟩
  have HQ4 := Lib.hid (fun bq br W (hW : IsCR bq br W s3 false) => by have := crTxt bq br s3 false W hW; rw [← hx4, ← hs4] at this; exact this)
  obtain ⟨n5, hn5⟩ : ∃ x, x = rN 1 s4 := ⟨_, rfl⟩
  obtain ⟨s5, hs5⟩ : ∃ x, x = rN' 1 s4 := ⟨_, rfl⟩
  have HQ5 := Lib.hid (fun bq br W (hW : IsCR bq br W s4 false) => by have := crNum bq br s4 false 1 W hW; rw [← hn5, ← hs5] at this; exact this)
  have hb5 : (n5 : Int) ≤ 255 := by have := rN1 s4; omega
  obtain ⟨RP, hRP⟩ : ∃ R, R = pairsN n5 s5 := ⟨_, rfl⟩
  have HRP := Lib.hid (show (([] : List CPair) ++ (pairsN (n5 - 0) s5).1, (pairsN (n5 - 0) s5).2) = RP by rw [hRP]; rfl)
  obtain ⟨P, sP⟩ := RP
  obtain ⟨fb, hfb⟩ : ∃ x, x = decide (rN 1 sP = 1) := ⟨_, rfl⟩
  obtain ⟨fo, hfo⟩ : ∃ x, x = decide (rN 1 sP ≤ 1) := ⟨_, rfl⟩
  obtain ⟨s6, hs6⟩ : ∃ x, x = rN' 1 sP := ⟨_, rfl⟩
  have HQ6 := Lib.hid (fun bq br W (hW : IsCR bq br W sP false) => by have := crFlag bq br sP false W hW; rw [← hfb, ← hfo, ← hs6] at this; exact this)
  obtain ⟨n7, hn7⟩ : ∃ x, x = rN 8 s6 := ⟨_, rfl⟩
  obtain ⟨s7, hs7⟩ : ∃ x, x = rN' 8 s6 := ⟨_, rfl⟩
  have HQ7 := Lib.hid (fun bq br W (hW : IsCR bq br W s6 (false || !fo)) => by have := crNum bq br s6 (false || !fo) 8 W hW; rw [← hn7, ← hs7] at this; exact this)
  have hb7 : (n7 : Int) ≤ 18446744073709551615 := by have := rN8 s6; omega
  obtain ⟨n8, hn8⟩ : ∃ x, x = rN 8 s7 := ⟨_, rfl⟩
  obtain ⟨s8, hs8⟩ : ∃ x, x = rN' 8 s7 := ⟨_, rfl⟩
  have HQ8 := Lib.hid (fun bq br W (hW : IsCR bq br W s7 (false || !fo)) => by have := crNum bq br s7 (false || !fo) 8 W hW; rw [← hn8, ← hs8] at this; exact this)
  have hb8 : (n8 : Int) ≤ 18446744073709551615 := by have := rN8 s7; omega
  obtain ⟨n9, hn9⟩ : ∃ x, x = rN 8 s8 := ⟨_, rfl⟩
  obtain ⟨s9, hs9⟩ : ∃ x, x = rN' 8 s8 := ⟨_, rfl⟩
  have HQ9 := Lib.hid (fun bq br W (hW : IsCR bq br W s8 (false || !fo)) => by have := crNum bq br s8 (false || !fo) 8 W hW; rw [← hn9, ← hs9] at this; exact this)
  have hb9 : (n9 : Int) ≤ 18446744073709551615 := by have := rN8 s8; omega
  obtain ⟨nA, hnA⟩ : ∃ x, x = rN 8 s9 := ⟨_, rfl⟩
  obtain ⟨sA, hsA⟩ : ∃ x, x = rN' 8 s9 := ⟨_, rfl⟩
  have HQA := Lib.hid (fun bq br W (hW : IsCR bq br W s9 (false || !fo)) => by have := crNum bq br s9 (false || !fo) 8 W hW; rw [← hnA, ← hsA] at this; exact this)
  have hbA : (nA : Int) ≤ 18446744073709551615 := by have := rN8 s9; omega
  obtain ⟨nB, hnB⟩ : ∃ x, x = rN 1 sA := ⟨_, rfl⟩
  obtain ⟨sB, hsB⟩ : ∃ x, x = rN' 1 sA := ⟨_, rfl⟩
  have HQB := Lib.hid (fun bq br W (hW : IsCR bq br W sA (false || !fo)) => by have := crNum bq br sA (false || !fo) 1 W hW; rw [← hnB, ← hsB] at this; exact this)
  have hbB : (nB : Int) ≤ 255 := by have := rN1 sA; omega
  obtain ⟨z7, hz7⟩ : ∃ z, IntKind.i64.wrap (n7 : Int) = z := ⟨_, rfl⟩
  obtain ⟨z8, hz8⟩ : ∃ z, IntKind.i64.wrap (n8 : Int) = z := ⟨_, rfl⟩
  obtain ⟨z9, hz9⟩ : ∃ z, IntKind.i64.wrap (n9 : Int) = z := ⟨_, rfl⟩
  obtain ⟨RB, hRB⟩ : ∃ R, R = bucksN nB sB := ⟨_, rfl⟩
  have HRB := Lib.hid (show (([] : List Int) ++ (bucksN (nB - 0) sB).1, (bucksN (nB - 0) sB).2) = RB by rw [hRB]; rfl)
  obtain ⟨B, l9, sh9⟩ := RB
  have HRES := Lib.hid (show decodeP b = endD (⟨0, (rN 1 s1 : Int), rN 4 (rN' 1 s1), rN 4 (rN' 4 (rN' 1 s1)), rN 8 (rN' 4 (rN' 4 (rN' 1 s1))), n3, x4, P, fb, z7, z8, z9, nA, B⟩ : CRes) (l9, sh9) (false || !fo) by
    have eP : dP s1 = (P, sP) := by rw [hRP, hs5, hn5, hs4, hs3, hs2]; rfl
    have e7 : dS7 s1 = s6 := by unfold dS7; rw [eP, hs6]
    have eA : dS11 s1 = sA := by unfold dS11; rw [e7, hsA, hs9, hs8, hs7]
    have eB : dB s1 = (B, l9, sh9) := by unfold dB; rw [eA, hRB, hsB, hnB]
    have e0 : dec0 s1 = (⟨0, (rN 1 s1 : Int), rN 4 (rN' 1 s1), rN 4 (rN' 4 (rN' 1 s1)), rN 8 (rN' 4 (rN' 4 (rN' 1 s1))), n3, x4, P, fb, z7, z8, z9, nA, B⟩ : CRes) := by unfold dec0 i64; rw [eB, e7, eP, ← hs2, ← hs3, ← hn3, ← hx4, ← hfb, ← hs7, ← hs8, ← hs9, ← hn7, ← hn8, ← hn9, ← hnA, hz7, hz8, hz9]
    have eD : bodyD (rN 1 (b, false)) (rN' 1 (b, false)) = ((⟨0, (rN 1 s1 : Int), rN 4 (rN' 1 s1), rN 4 (rN' 4 (rN' 1 s1)), rN 8 (rN' 4 (rN' 4 (rN' 1 s1))), n3, x4, P, fb, z7, z8, z9, nA, B⟩ : CRes), (l9, sh9), (false || !fo)) := by unfold bodyD; rw [← h0, if_pos rfl, ← hs1, e0, eB, eP, ← hfo]; rfl
    unfold decodeP
    rw [eD]
    rfl)
  clear h h0 hs1 hn3 hs3 hx4 hs4 hn5 hs5 hRP hfb hfo hs6 hn7 hs7 hn8 hs8 hn9 hs9 hnA hsA hnB hsB hRB hb3 hb7 hb8 hb9 hbA
  go_enter Try.func18, Try.ntmps18
  go_wp2_with fail
  refine (packNew a b.length cap _).mono ?_
  rintro e Wr ⟨rfl, hWr⟩
  rw [← hWr]
  clear hWr
  go_wp2_with fail
  refine (HQ1.out (w.heap.size + 2) (w.heap.size + 1) _ HS.out.1).mono ?_
  rintro e W1 ⟨rfl, hr, hg⟩
  obtain ⟨WS, hWS⟩ : ∃ WS, WS = (W1.alloc ZRes).setRow W1.heap.size (CRes.cells (⟨0, 0, 0, 0, 0, 0, ByteArray.empty, [], false, 0, 0, 0, 0, []⟩ : CRes) nilS nilS) := ⟨_, rfl⟩
  have HU := Lib.hid (DS.start (⟨0, 0, 0, 0, 0, 0, ByteArray.empty, [], false, 0, 0, 0, 0, []⟩ : CRes) rfl rfl HS.out.2.1 HS.out.2.2 (by omega) (by omega) hr hg)
  have HSR := Lib.hid (run_storeRow (W1.alloc ZRes) 49 W1.heap.size (CRes.zero.cells nilS nilS) (CRes.cells (⟨0, 0, 0, 0, 0, 0, ByteArray.empty, [], false, 0, 0, 0, 0, []⟩ : CRes) nilS nilS) (heap_alloc_new W1 _) dres_size rfl (res_one ..))
  rw [← hWS] at HU HSR
  generalize hbq : w.heap.size + 2 = bq at *
  generalize hbr : w.heap.size + 1 = br at *
  have b0 := HU.out.st.rd.cells.c0
  have b1 := HU.out.st.rd.cells.c1
  have t0 := HU.out.st.cell 0 (v := .int .i64 0) rfl
  clear hr hg HS HQ1 hbq hbr hWS
  generalize hxb : W1.heap.size = xb at *
  go_wp2_with ((with_reducible refine atStore ?_); refine wpList_store_by rfl 49 (.tmp 5) (.tmp 17) rfl (.pointer (some ⟨xb, 0, none⟩)) _ rfl rfl HSR.out ?_)
  clear t0 HSR
  refine (crToken bq br s1 false _ HU.out.st.rd).mono ?_
  rintro e W2 ⟨rfl, hr, hg⟩
  rw [← hs2] at hr
  have HT := Lib.hid (HU.out.call hr hg)
  clear HU hr hg b0 b1 hs2
  obtain ⟨V2, hV2⟩ : ∃ V, V = W2.setRow xb (CRes.cells (⟨0, (rN 1 s1 : Int), rN 4 (rN' 1 s1), rN 4 (rN' 4 (rN' 1 s1)), rN 8 (rN' 4 (rN' 4 (rN' 1 s1))), 0, ByteArray.empty, [], false, 0, 0, 0, 0, []⟩ : CRes) nilS nilS) := ⟨_, rfl⟩
  unfold tokV
  have HS := Lib.hid (run_storePart W2 29 49 xb 1 _ #[.int .i64 (rN 1 s1 : Int), .int .u32 (rN 4 (rN' 1 s1) : Int), .int .u32 (rN 4 (rN' 4 (rN' 1 s1)) : Int), .int .u64 (rN 8 (rN' 4 (rN' 4 (rN' 1 s1))) : Int)] (CRes.cells (⟨0, (rN 1 s1 : Int), rN 4 (rN' 1 s1), rN 4 (rN' 4 (rN' 1 s1)), rN 8 (rN' 4 (rN' 4 (rN' 1 s1))), 0, ByteArray.empty, [], false, 0, 0, 0, 0, []⟩ : CRes) nilS nilS) HT.out.st.c tok_size (by show 1 + 4 ≤ 14; omega) (by simp [Value.oneCell']) rfl)
  have HU := Lib.hid (HT.out.row (r' := (⟨0, (rN 1 s1 : Int), rN 4 (rN' 1 s1), rN 4 (rN' 4 (rN' 1 s1)), rN 8 (rN' 4 (rN' 4 (rN' 1 s1))), 0, ByteArray.empty, [], false, 0, 0, 0, 0, []⟩ : CRes)) rfl rfl)
  rw [← hV2] at HS HU
  clear hV2 HT
  have b0 := HU.out.st.rd.cells.c0
  go_wp2_with ((with_reducible refine atStore ?_); refine wpList_store_by rfl 29 (.tmp 23) (.tmp 22) rfl (.pointer (some ⟨xb, 1, none⟩)) _ rfl rfl HS.out ?_)
  clear HS
  refine (HQ3.out _ _ _ HU.out.st.rd).mono ?_
  rintro e W3 ⟨rfl, hr, hg⟩
  have HT := Lib.hid (HU.out.call hr hg)
  clear HU HQ3 hr hg b0
  obtain ⟨V3, hV3⟩ : ∃ V, V = W3.setRow xb (CRes.cells (⟨0, (rN 1 s1 : Int), rN 4 (rN' 1 s1), rN 4 (rN' 4 (rN' 1 s1)), rN 8 (rN' 4 (rN' 4 (rN' 1 s1))), n3, ByteArray.empty, [], false, 0, 0, 0, 0, []⟩ : CRes) nilS nilS) := ⟨_, rfl⟩
  have HS := Lib.hid (run_storeOne W3 24 49 xb 5 _ (CRes.cells (⟨0, (rN 1 s1 : Int), rN 4 (rN' 1 s1), rN 4 (rN' 4 (rN' 1 s1)), rN 8 (rN' 4 (rN' 4 (rN' 1 s1))), n3, ByteArray.empty, [], false, 0, 0, 0, 0, []⟩ : CRes) nilS nilS) (.int .u64 (n3 : Int)) HT.out.st.c (by kernel_rfl) (by show 5 < 14; omega) rfl rfl rfl)
  have HU := Lib.hid (HT.out.row (r' := (⟨0, (rN 1 s1 : Int), rN 4 (rN' 1 s1), rN 4 (rN' 4 (rN' 1 s1)), rN 8 (rN' 4 (rN' 4 (rN' 1 s1))), n3, ByteArray.empty, [], false, 0, 0, 0, 0, []⟩ : CRes)) rfl rfl)
  rw [← hV3] at HS HU
  clear hV3 HT
  have b0 := HU.out.st.rd.cells.c0
  go_wp2_with ((with_reducible refine atStore ?_); refine wpList_store_by rfl 24 (.tmp 29) (.tmp 28) rfl (.pointer (some ⟨xb, 5, none⟩)) _ rfl rfl HS.out ?_)
  clear HS
  refine (HQ4.out _ _ _ HU.out.st.rd).mono ?_
  rintro e W4 ⟨rfl, hr, hg⟩
  have HT := Lib.hid (HU.out.call hr hg)
  clear HU HQ4 hr hg b0
  obtain ⟨V4, hV4⟩ : ∃ V, V = W4.setRow xb (CRes.cells (⟨0, (rN 1 s1 : Int), rN 4 (rN' 1 s1), rN 4 (rN' 4 (rN' 1 s1)), rN 8 (rN' 4 (rN' 4 (rN' 1 s1))), n3, x4, [], false, 0, 0, 0, 0, []⟩ : CRes) nilS nilS) := ⟨_, rfl⟩
  have HS := Lib.hid (run_storeOne W4 9 49 xb 6 _ (CRes.cells (⟨0, (rN 1 s1 : Int), rN 4 (rN' 1 s1), rN 4 (rN' 4 (rN' 1 s1)), rN 8 (rN' 4 (rN' 4 (rN' 1 s1))), n3, x4, [], false, 0, 0, 0, 0, []⟩ : CRes) nilS nilS) (.string x4) HT.out.st.c (by kernel_rfl) (by show 6 < 14; omega) rfl rfl rfl)
  have HU := Lib.hid (HT.out.row (r' := (⟨0, (rN 1 s1 : Int), rN 4 (rN' 1 s1), rN 4 (rN' 4 (rN' 1 s1)), rN 8 (rN' 4 (rN' 4 (rN' 1 s1))), n3, x4, [], false, 0, 0, 0, 0, []⟩ : CRes)) rfl rfl)
  rw [← hV4] at HS HU
  clear hV4 HT
  have b0 := HU.out.st.rd.cells.c0
  go_wp2_with ((with_reducible refine atStore ?_); refine wpList_store_by rfl 9 (.tmp 35) (.tmp 34) rfl (.pointer (some ⟨xb, 6, none⟩)) _ rfl rfl HS.out ?_)
  clear HS
  refine (HQ5.out _ _ _ HU.out.st.rd).mono ?_
  rintro e W5 ⟨rfl, hr, hg⟩
  have HL0 := Lib.hid (HU.out.call hr hg)
  clear HU HQ5 hr hg b0
  go_wp2_with fail
  go_loopw [41] (fun i wr => ∃ (k : Nat) (l : List CPair) (v : Value) (s' : RS), k ≤ n5 ∧ i = .int .u64 k ∧ Hid (l.length = k) ∧ Hid ((l ++ (pairsN (n5 - k) s').1, (pairsN (n5 - k) s').2) = (P, sP)) ∧ Hid (DS bq br xb w WS (⟨0, (rN 1 s1 : Int), rN 4 (rN' 1 s1), rN 4 (rN' 4 (rN' 1 s1)), rN 8 (rN' 4 (rN' 4 (rN' 1 s1))), n3, x4, l, false, 0, 0, 0, 0, []⟩ : CRes) v nilS s' false wr)) (fun i _ => n5 - (intOf i).toNat)
  case atStart => exact ⟨0, [], nilS, s5, Nat.zero_le _, rfl, rfl, HRP, HL0⟩
  case round =>
    obtain ⟨k, l, v, s', hk, rfl, HLL, HRR, HU⟩ := hrel
    clear HL0 HRP
    have b0 := HU.out.st.rd.cells.c0
    by_cases hlt : k < n5
    · have HE := Lib.hid (pairs_step (n5 - (k + 1)) s' l (P, sP) (by rw [show n5 - (k + 1) + 1 = n5 - k by omega]; exact HRR.out))
      have hki : (k : Int) < (n5 : Int) := by omega
      have HKN := Lib.hid hlt
      obtain ⟨xk, hxk⟩ : ∃ x, x = rT s' := ⟨_, rfl⟩
      obtain ⟨u1, hu1⟩ : ∃ x, x = rT' s' := ⟨_, rfl⟩
      obtain ⟨xv, hxv⟩ : ∃ x, x = rT u1 := ⟨_, rfl⟩
      obtain ⟨u2, hu2⟩ : ∃ x, x = rT' u1 := ⟨_, rfl⟩
      have HC1 := Lib.hid (fun bq br W (hW : IsCR bq br W s' false) => by have := crTxt bq br s' false W hW; rw [← hxk, ← hu1] at this; exact this)
      have HC2 := Lib.hid (fun bq br W (hW : IsCR bq br W u1 false) => by have := crTxt bq br u1 false W hW; rw [← hxv, ← hu2] at this; exact this)
      rw [← hu1, ← hxk, ← hxv, ← hu2] at HE
      have HPI := Lib.hid dpair_info
      clear HRR hlt hxk hu1 hxv hu2
      go_wp2_with fail
      refine (HC1.out _ _ _ HU.out.st.rd).mono ?_
      rintro e Wa ⟨rfl, hr, hg⟩
      have HT := Lib.hid (HU.out.call hr hg)
      have HVb := Lib.hid (show v.ownBlock ≠ some Wa.heap.size from fun e => by have := (HT.out.pg.block _ e).2; omega)
      have hgx := HT.out.size
      have HA := Lib.hid (HT.out.bel' ((Below.refl Wa.heap.size Wa).alloc (Nat.le_refl _) (.cells #[.string xk, .string { data := #[] }] 52)))
      have HR := Lib.hid (heap_alloc_new Wa (.cells #[.string xk, .string { data := #[] }] 52))
      have HAL := Lib.hid (show Wa.heap.size < (Wa.alloc (.cells #[.string xk, .string { data := #[] }] 52)).heap.size by simp)
      have q1 : (Wa.alloc (.cells #[.string xk, .string { data := #[] }] 52)).cell? ⟨bq, 0, none⟩ = some (.pointer (some ⟨br, 0, none⟩)) := HA.out.st.rd.cells.c0
      have HGX := Lib.hid (show xb < Wa.heap.size by omega)
      clear HU HC1 hr hg b0 HT hgx
      go_wp2_with fail
      clear q1
      generalize hWb : World.alloc Wa _ = Wb at HA HR HAL ⊢
      clear hWb
      generalize Wa.heap.size = g at *
      clear Wa
      refine (HC2.out _ _ _ HA.out.st.rd).mono ?_
      rintro e Wc ⟨rfl, hr, hg⟩
      have HT := Lib.hid (HA.out.call hr hg)
      have hlt' := HT.out.st.lt
      have hgc : Wc.heap[g]? = some (.cells #[.string xk, .string { data := #[] }] 52 (0, 0)) := (hg.block g HAL.out (by have := HGX.out; omega) (by have := HGX.out; omega)).trans HR.out
      obtain ⟨Wd, hWd⟩ : ∃ W, W = Wc.setRow g #[.string xk, .string xv] := ⟨_, rfl⟩
      have HS := Lib.hid (run_storeOne Wc 9 52 g 1 _ #[.string xk, .string xv] (.string xv) hgc (by kernel_rfl) (by show 1 < 2; omega) rfl rfl rfl)
      have HB := Lib.hid (HT.out.other #[.string xk, .string xv] HGX.out HVb.out (fun e => by cases e))
      have HR2 := Lib.hid (setRow_heap Wc g _ #[.string xk, .string xv] _ _ hgc)
      rw [← hWd] at HS HB HR2
      have c7 := HB.out.st.cell 7 (v := v) rfl
      obtain ⟨av, cv, hv⟩ := HB.out.pg.slice
      have HVS := Lib.hid hv
      rw [hv] at c7
      have HD := Lib.hid (HB.out.bel' ((Below.refl Wd.heap.size Wd).alloc (Nat.le_refl _) (.cells #[.string xk, .string xv] 52)))
      have HSRC := Lib.hid (src_rowOf (W := fun _ => True) (S := 46) (E := 52) (C := CPair.cells) (sz := 2) Try.underlying46 pair_len dpair_one (by omega) 1 (rowOf_new (w := Wd.alloc (.cells #[.string xk, .string xv] 52)) (g := Wd.heap.size) (t := 52) (fr := (0, 0)) ⟨xk, xv⟩ trivial rfl (heap_alloc_new Wd _)))
      have HKL := Lib.hid (show l.length + [(⟨xk, xv⟩ : CPair)].length ≤ 1000000000 by have := HLL.out; have := HKN.out; simp; omega)
      clear HA HR HAL HC2 hr hg HT hlt' hgc hWd hv HB HVb HGX
      go_wp2_with (first | ((with_reducible refine atStore ?_); refine wpList_store_by rfl 9 (.tmp 54) (.tmp 53) rfl (.pointer (some ⟨g, 1, none⟩)) _ rfl rfl HS.out ?_) | ((with_reducible refine atLoad ?_); refine wpList_load_row rfl 52 (.tmp 6) rfl g rfl 52 #[.string xk, .string xv] (0, 0) _ HR2.out Try.underlying52 rfl (by kernel_rfl) ?_) | (at_builtin; refine wpList_append_of Try.underlying46 HPI.out rfl (by omega) rfl (.tmp 56) (.tmp 58) rfl (xb + 1) (.slice av l.length cv) l rfl (HVS.out ▸ HD.out.pg) _ [⟨xk, xv⟩] rfl HSRC.out HD.out.size HKL.out ?_))
      intro v' We ho5 hg5
      obtain ⟨hc5, hst5⟩ := DS.page HD.out (HVS.out ▸ hg5) ho5
      have HS6 := Lib.hid (run_storeOne We 46 49 xb 7 _ (CRes.cells (⟨0, (rN 1 s1 : Int), rN 4 (rN' 1 s1), rN 4 (rN' 4 (rN' 1 s1)), rN 8 (rN' 4 (rN' 4 (rN' 1 s1))), n3, x4, (l ++ [⟨xk, xv⟩]), false, 0, 0, 0, 0, []⟩ : CRes) v' nilS) v' hc5 (by kernel_rfl) (by show 7 < 14; omega) (by obtain ⟨a5, c5, h5⟩ := ho5.slice; rw [h5]; rfl) (by obtain ⟨a5, c5, h5⟩ := ho5.slice; rw [h5]; rfl) rfl)
      have HST := Lib.hid hst5
      clear hc5 hst5 ho5 hg5 HD HSRC HVS c7 HS HR2 HPI
      go_wp2_with ((with_reducible refine atStore ?_); refine wpList_store_by rfl 46 (.tmp 60) (.tmp 59) rfl (.pointer (some ⟨xb, 7, none⟩)) _ rfl rfl HS6.out ?_)
      go_roundw
      case rel => exact ⟨k + 1, l ++ [⟨xk, xv⟩], v', u2, by have := HKN.out; omega, by go_num, Lib.hid (show (l ++ [(⟨xk, xv⟩ : CPair)]).length = k + 1 by rw [List.length_append, HLL.out]; rfl), HE, HST⟩
      case measure => simp [intOf]; omega
    · obtain rfl : k = n5 := by omega
      have HE := Lib.hid (pairs_none s' l (P, sP) (by have h9 := HRR.out; rw [Nat.sub_self] at h9; exact h9))
      obtain ⟨rfl, rfl⟩ : l = P ∧ s' = sP := by cases HE.out; exact ⟨rfl, rfl⟩
      clear HRR hlt HE HLL hk
      go_wp2_with fail
      refine (HQ6.out _ _ _ HU.out.st.rd).mono ?_
      rintro e W6 ⟨rfl, hr, hg⟩
      have HT := Lib.hid (HU.out.call hr hg)
      clear HU HQ6 hr hg b0
      obtain ⟨V6, hV6⟩ : ∃ V, V = W6.setRow xb (CRes.cells (⟨0, (rN 1 s1 : Int), rN 4 (rN' 1 s1), rN 4 (rN' 4 (rN' 1 s1)), rN 8 (rN' 4 (rN' 4 (rN' 1 s1))), n3, x4, l, fb, 0, 0, 0, 0, []⟩ : CRes) v nilS) := ⟨_, rfl⟩
      have HS := Lib.hid (run_storeOne W6 4 49 xb 8 _ (CRes.cells (⟨0, (rN 1 s1 : Int), rN 4 (rN' 1 s1), rN 4 (rN' 4 (rN' 1 s1)), rN 8 (rN' 4 (rN' 4 (rN' 1 s1))), n3, x4, l, fb, 0, 0, 0, 0, []⟩ : CRes) v nilS) (.bool fb) HT.out.st.c (by kernel_rfl) (by show 8 < 14; omega) rfl rfl rfl)
      have HU := Lib.hid (HT.out.row (r' := (⟨0, (rN 1 s1 : Int), rN 4 (rN' 1 s1), rN 4 (rN' 4 (rN' 1 s1)), rN 8 (rN' 4 (rN' 4 (rN' 1 s1))), n3, x4, l, fb, 0, 0, 0, 0, []⟩ : CRes)) rfl rfl)
      rw [← hV6] at HS HU
      clear hV6 HT
      have b0 := HU.out.st.rd.cells.c0
      go_wp2_with ((with_reducible refine atStore ?_); refine wpList_store_by rfl 4 (.tmp 64) (.tmp 63) rfl (.pointer (some ⟨xb, 8, none⟩)) _ rfl rfl HS.out ?_)
      clear HS
      refine (HQ7.out _ _ _ HU.out.st.rd).mono ?_
      rintro e W7 ⟨rfl, hr, hg⟩
      have HT := Lib.hid (HU.out.call hr hg)
      clear HU HQ7 hr hg b0
      obtain ⟨V7, hV7⟩ : ∃ V, V = W7.setRow xb (CRes.cells (⟨0, (rN 1 s1 : Int), rN 4 (rN' 1 s1), rN 4 (rN' 4 (rN' 1 s1)), rN 8 (rN' 4 (rN' 4 (rN' 1 s1))), n3, x4, l, fb, z7, 0, 0, 0, []⟩ : CRes) v nilS) := ⟨_, rfl⟩
      have HS := Lib.hid (run_storeOne W7 2 49 xb 9 _ (CRes.cells (⟨0, (rN 1 s1 : Int), rN 4 (rN' 1 s1), rN 4 (rN' 4 (rN' 1 s1)), rN 8 (rN' 4 (rN' 4 (rN' 1 s1))), n3, x4, l, fb, z7, 0, 0, 0, []⟩ : CRes) v nilS) (.int .i64 z7) HT.out.st.c (by kernel_rfl) (by show 9 < 14; omega) rfl rfl rfl)
      have HU := Lib.hid (HT.out.row (r' := (⟨0, (rN 1 s1 : Int), rN 4 (rN' 1 s1), rN 4 (rN' 4 (rN' 1 s1)), rN 8 (rN' 4 (rN' 4 (rN' 1 s1))), n3, x4, l, fb, z7, 0, 0, 0, []⟩ : CRes)) rfl rfl)
      rw [← hV7] at HS HU
      clear hV7 HT
      have b0 := HU.out.st.rd.cells.c0
      go_wp2_with ((with_reducible refine atStore ?_); refine wpList_store_by rfl 2 (.tmp 71) (.tmp 70) rfl (.pointer (some ⟨xb, 9, none⟩)) _ rfl rfl HS.out ?_)
      clear HS
      refine (HQ8.out _ _ _ HU.out.st.rd).mono ?_
      rintro e W8 ⟨rfl, hr, hg⟩
      have HT := Lib.hid (HU.out.call hr hg)
      clear HU HQ8 hr hg b0
      obtain ⟨V8, hV8⟩ : ∃ V, V = W8.setRow xb (CRes.cells (⟨0, (rN 1 s1 : Int), rN 4 (rN' 1 s1), rN 4 (rN' 4 (rN' 1 s1)), rN 8 (rN' 4 (rN' 4 (rN' 1 s1))), n3, x4, l, fb, z7, z8, 0, 0, []⟩ : CRes) v nilS) := ⟨_, rfl⟩
      have HS := Lib.hid (run_storeOne W8 2 49 xb 10 _ (CRes.cells (⟨0, (rN 1 s1 : Int), rN 4 (rN' 1 s1), rN 4 (rN' 4 (rN' 1 s1)), rN 8 (rN' 4 (rN' 4 (rN' 1 s1))), n3, x4, l, fb, z7, z8, 0, 0, []⟩ : CRes) v nilS) (.int .i64 z8) HT.out.st.c (by kernel_rfl) (by show 10 < 14; omega) rfl rfl rfl)
      have HU := Lib.hid (HT.out.row (r' := (⟨0, (rN 1 s1 : Int), rN 4 (rN' 1 s1), rN 4 (rN' 4 (rN' 1 s1)), rN 8 (rN' 4 (rN' 4 (rN' 1 s1))), n3, x4, l, fb, z7, z8, 0, 0, []⟩ : CRes)) rfl rfl)
      rw [← hV8] at HS HU
      clear hV8 HT
      have b0 := HU.out.st.rd.cells.c0
      go_wp2_with ((with_reducible refine atStore ?_); refine wpList_store_by rfl 2 (.tmp 78) (.tmp 77) rfl (.pointer (some ⟨xb, 10, none⟩)) _ rfl rfl HS.out ?_)
      clear HS
      refine (HQ9.out _ _ _ HU.out.st.rd).mono ?_
      rintro e W9 ⟨rfl, hr, hg⟩
      have HT := Lib.hid (HU.out.call hr hg)
      clear HU HQ9 hr hg b0
      obtain ⟨V9, hV9⟩ : ∃ V, V = W9.setRow xb (CRes.cells (⟨0, (rN 1 s1 : Int), rN 4 (rN' 1 s1), rN 4 (rN' 4 (rN' 1 s1)), rN 8 (rN' 4 (rN' 4 (rN' 1 s1))), n3, x4, l, fb, z7, z8, z9, 0, []⟩ : CRes) v nilS) := ⟨_, rfl⟩
      have HS := Lib.hid (run_storeOne W9 2 49 xb 11 _ (CRes.cells (⟨0, (rN 1 s1 : Int), rN 4 (rN' 1 s1), rN 4 (rN' 4 (rN' 1 s1)), rN 8 (rN' 4 (rN' 4 (rN' 1 s1))), n3, x4, l, fb, z7, z8, z9, 0, []⟩ : CRes) v nilS) (.int .i64 z9) HT.out.st.c (by kernel_rfl) (by show 11 < 14; omega) rfl rfl rfl)
      have HU := Lib.hid (HT.out.row (r' := (⟨0, (rN 1 s1 : Int), rN 4 (rN' 1 s1), rN 4 (rN' 4 (rN' 1 s1)), rN 8 (rN' 4 (rN' 4 (rN' 1 s1))), n3, x4, l, fb, z7, z8, z9, 0, []⟩ : CRes)) rfl rfl)
      rw [← hV9] at HS HU
      clear hV9 HT
      have b0 := HU.out.st.rd.cells.c0
      go_wp2_with ((with_reducible refine atStore ?_); refine wpList_store_by rfl 2 (.tmp 85) (.tmp 84) rfl (.pointer (some ⟨xb, 11, none⟩)) _ rfl rfl HS.out ?_)
      clear HS
      refine (HQA.out _ _ _ HU.out.st.rd).mono ?_
      rintro e WA ⟨rfl, hr, hg⟩
      have HT := Lib.hid (HU.out.call hr hg)
      clear HU HQA hr hg b0
      obtain ⟨VA, hVA⟩ : ∃ V, V = WA.setRow xb (CRes.cells (⟨0, (rN 1 s1 : Int), rN 4 (rN' 1 s1), rN 4 (rN' 4 (rN' 1 s1)), rN 8 (rN' 4 (rN' 4 (rN' 1 s1))), n3, x4, l, fb, z7, z8, z9, nA, []⟩ : CRes) v nilS) := ⟨_, rfl⟩
      have HS := Lib.hid (run_storeOne WA 24 49 xb 12 _ (CRes.cells (⟨0, (rN 1 s1 : Int), rN 4 (rN' 1 s1), rN 4 (rN' 4 (rN' 1 s1)), rN 8 (rN' 4 (rN' 4 (rN' 1 s1))), n3, x4, l, fb, z7, z8, z9, nA, []⟩ : CRes) v nilS) (.int .u64 (nA : Int)) HT.out.st.c (by kernel_rfl) (by show 12 < 14; omega) rfl rfl rfl)
      have HU := Lib.hid (HT.out.row (r' := (⟨0, (rN 1 s1 : Int), rN 4 (rN' 1 s1), rN 4 (rN' 4 (rN' 1 s1)), rN 8 (rN' 4 (rN' 4 (rN' 1 s1))), n3, x4, l, fb, z7, z8, z9, nA, []⟩ : CRes)) rfl rfl)
      rw [← hVA] at HS HU
      clear hVA HT
      have b0 := HU.out.st.rd.cells.c0
      go_wp2_with ((with_reducible refine atStore ?_); refine wpList_store_by rfl 24 (.tmp 91) (.tmp 90) rfl (.pointer (some ⟨xb, 12, none⟩)) _ rfl rfl HS.out ?_)
      clear HS
      refine (HQB.out _ _ _ HU.out.st.rd).mono ?_
      rintro e WB ⟨rfl, hr, hg⟩
      have HL0 := Lib.hid (HU.out.call hr hg)
      clear HU HQB hr hg b0
      go_wp2_with fail
      go_loopw [97] (fun i wr => ∃ (k : Nat) (m : List Int) (y : Value) (s' : RS), k ≤ nB ∧ i = .int .u64 k ∧ Hid (m.length = k) ∧ Hid ((m ++ (bucksN (nB - k) s').1, (bucksN (nB - k) s').2) = (B, l9, sh9)) ∧ Hid (DS bq br xb w WS (⟨0, (rN 1 s1 : Int), rN 4 (rN' 1 s1), rN 4 (rN' 4 (rN' 1 s1)), rN 8 (rN' 4 (rN' 4 (rN' 1 s1))), n3, x4, l, fb, z7, z8, z9, nA, m⟩ : CRes) v y s' (false || !fo) wr)) (fun i _ => nB - (intOf i).toNat)
      case atStart => exact ⟨0, [], nilS, sB, Nat.zero_le _, rfl, rfl, HRB, HL0⟩
      case round =>
        obtain ⟨k, m, y, s', hk, rfl, HLL, HRR, HU⟩ := hrel
        clear HL0 HRB
        by_cases hlt : k < nB
        · have HE := Lib.hid (bucks_step (nB - (k + 1)) s' m (B, l9, sh9) (by rw [show nB - (k + 1) + 1 = nB - k by omega]; exact HRR.out))
          have hki : (k : Int) < (nB : Int) := by omega
          have HKN := Lib.hid hlt
          obtain ⟨nC, hnC⟩ : ∃ x, x = rN 1 s' := ⟨_, rfl⟩
          obtain ⟨u1, hu1⟩ : ∃ x, x = rN' 1 s' := ⟨_, rfl⟩
          have HC1 := Lib.hid (fun bq br W (hW : IsCR bq br W s' (false || !fo)) => by have := crNum bq br s' (false || !fo) 1 W hW; rw [← hnC, ← hu1] at this; exact this)
          have hbC : (nC : Int) ≤ 255 := by have := rN1 s'; omega
          have hwC : IntKind.i64.wrap (nC : Int) = (nC : Int) := by rw [IntKind.wrap_i64]; omega
          rw [← hnC, ← hu1] at HE
          have HPI := Lib.hid dint_info
          clear HRR hlt hnC hu1
          obtain ⟨av, cv, hv⟩ := HU.out.bk.slice
          have HVS := Lib.hid hv
          obtain ⟨RM0, hRM⟩ : ∃ r, r = (⟨0, (rN 1 s1 : Int), rN 4 (rN' 1 s1), rN 4 (rN' 4 (rN' 1 s1)), rN 8 (rN' 4 (rN' 4 (rN' 1 s1))), n3, x4, l, fb, z7, z8, z9, nA, m⟩ : CRes) := ⟨_, rfl⟩
          have HRM := Lib.hid (show (⟨0, (rN 1 s1 : Int), rN 4 (rN' 1 s1), rN 4 (rN' 4 (rN' 1 s1)), rN 8 (rN' 4 (rN' 4 (rN' 1 s1))), n3, x4, l, fb, z7, z8, z9, nA, (m ++ [(nC : Int)])⟩ : CRes) = { RM0 with bk := m ++ [(nC : Int)] } by rw [hRM])
          rw [← hRM] at HU
          have HPB := Lib.hid (show RM0.bk = m by rw [hRM])
          clear hv hRM
          go_wp2_with fail
          refine Reg.wp_regionD (RO bq br xb y) (RO.refl bq br xb y) (fun _ _ _ h k => h.trans k) 6 9 11 (DS bq br xb w WS RM0 v y s' (false || !fo)) (DS bq br xb w WS RM0 v y u1 (false || !fo)) (DMid bq br xb w WS RM0 v y u1 (false || !fo) (m ++ [(nC : Int)])) (DEnd bq br xb w WS RM0 v u1 (false || !fo) (m ++ [(nC : Int)])) (by kernel_rfl) (by kernel_rfl) (HU.out.bel' (Below.refl _ _).drew) ?_
          refine Reg.segD 1 (by kernel_rfl) rfl (by kernel_rfl) ?_
          apply Exists.intro
          refine ⟨fun e => ?_, ?_⟩
          · simp only [List.take_succ_cons, List.take_zero]
            repeat (go_big_quiet_step ((intro _; rfl)))
            refine wpQuiet_nil ?_
            exact rfl
          simp only [List.drop_succ_cons, List.drop_zero, Nat.reduceAdd]
          refine Reg.readD y (RO.refl bq br xb y) rfl (by kernel_rfl) (fun e w1 hR hp => ⟨by rfl, ?_⟩) ?_
          · have hc : w1.cell? ⟨xb, 13, none⟩ = some y := by
              rcases hp with hp | hp
              · exact hp.st.cell 13 rfl
              · exact hp.st.cell 13 rfl
            clear hp
            have hv := HVS.out
            rw [hv] at hc ⊢
            clear hv
            unfold Reg.gives
            go_simp
          simp only [Act.put, List.setIfInBounds_toArray, List.set_cons_zero, List.set_cons_succ, Nat.reduceAdd]
          refine Reg.segD 1 (by kernel_rfl) rfl (by kernel_rfl) ?_
          apply Exists.intro
          refine ⟨fun e => ?_, ?_⟩
          · simp only [List.take_succ_cons, List.take_zero]
            repeat (go_big_quiet_step ((intro _; rfl)))
            refine wpQuiet_nil ?_
            exact rfl
          simp only [List.drop_succ_cons, List.drop_zero, Nat.reduceAdd]
          refine Reg.stillD (.pointer (some ⟨bq, 0, none⟩)) (RO.refl bq br xb y) rfl (fun e w1 hR => ⟨by rfl, ?_⟩) ?_
          · unfold Reg.gives
            go_simp
          simp only [Act.put, List.setIfInBounds_toArray, List.set_cons_zero, List.set_cons_succ, Nat.reduceAdd]
          refine Reg.segD 1 (by kernel_rfl) rfl (by kernel_rfl) ?_
          apply Exists.intro
          refine ⟨fun e => ?_, ?_⟩
          · simp only [List.take_succ_cons, List.take_zero]
            repeat (go_big_quiet_step ((intro _; rfl)))
            refine wpQuiet_nil ?_
            exact rfl
          simp only [List.drop_succ_cons, List.drop_zero, Nat.reduceAdd]
          refine Reg.readD (.pointer (some ⟨br, 0, none⟩)) (RO.refl bq br xb y) rfl (by kernel_rfl) (fun e w1 hR hp => ⟨by rfl, ?_⟩) ?_
          · have hc : w1.cell? ⟨bq, 0, none⟩ = some (.pointer (some ⟨br, 0, none⟩)) := by
              rcases hp with hp | hp
              · exact hp.st.rd.cells.c0
              · exact hp.st.rd.cells.c0
            clear hp
            unfold Reg.gives
            go_simp
          simp only [Act.put, List.setIfInBounds_toArray, List.set_cons_zero, List.set_cons_succ, Nat.reduceAdd]
          refine Reg.callD (.int .u64 (nC : Int)) (by kernel_rfl) (fun e w1 hR hp => ⟨by rfl, ?_⟩) ?_
          · have HP := Lib.hid hp
            clear hR hp
            unfold Reg.gives
            go_simp
            refine (HC1.out _ _ _ HP.out.st.rd).mono ?_
            rintro e W3 ⟨rfl, hr, hg⟩
            exact ⟨_, rfl, RO.of_t3 (T3.of_tg hg), HP.out.call hr hg, rfl⟩
          simp only [Act.put, List.setIfInBounds_toArray, List.set_cons_zero, List.set_cons_succ, Nat.reduceAdd]
          refine Reg.segD 1 (by kernel_rfl) rfl (by kernel_rfl) ?_
          apply Exists.intro
          refine ⟨fun e => ?_, ?_⟩
          · simp only [List.take_succ_cons, List.take_zero]
            repeat (go_big_quiet_step ((intro _; rfl)))
            refine wpQuiet_nil ?_
            exact rfl
          simp only [List.drop_succ_cons, List.drop_zero, Nat.reduceAdd]
          refine Reg.makeD (IRow bq br xb y (nC : Int)) (fun u w1 w2 h hr => h.ro hr) rfl (by kernel_rfl) (fun e w1 hR hp => ⟨by rfl, ?_⟩) ?_
          · have HP := Lib.hid (hp.made (nC : Int))
            clear hp hR
            unfold Reg.gives
            go_simp
            exact HP.out
          simp only [Act.put, List.setIfInBounds_toArray, List.set_cons_zero, List.set_cons_succ, Nat.reduceAdd]
          refine Reg.appD (by kernel_rfl) (fun e w1 hR hp hf => ⟨by rfl, ?_⟩) ?_
          · obtain ⟨g, hu, _, _, _, _, _, hrow⟩ := Reg.factsAt_here hf (by kernel_rfl)
            refine Reg.gives_mono ?_ (gives_append_of Try.underlying47 HPI.out rfl (by omega) (.tmp 100) (.tmp 107) rfl (xb + 1) y m rfl (HPB.out ▸ hp.bk) _ [(nC : Int)] hu (src_rowOf (W := fun _ => True) (E := 3) (C := intC) (sz := 1) Try.underlying47 (fun _ => rfl) dint_one (by omega) 1 (rowOf_new (nC : Int) trivial rfl hrow)) hp.size (by have := HLL.out; have := HKN.out; simp; omega))
            rintro v' w2 ⟨ho, hg⟩
            exact ⟨RO.of_grew hg, hp.grewB hg ho⟩
          simp only [Act.put, List.setIfInBounds_toArray, List.set_cons_zero, List.set_cons_succ, Nat.reduceAdd]
          refine Reg.segD 1 (by kernel_rfl) rfl (by kernel_rfl) ?_
          apply Exists.intro
          refine ⟨fun e => ?_, ?_⟩
          · simp only [List.take_succ_cons, List.take_zero]
            repeat (go_big_quiet_step ((intro _; rfl)))
            refine wpQuiet_nil ?_
            exact rfl
          simp only [List.drop_succ_cons, List.drop_zero, Nat.reduceAdd]
          refine Reg.storeD (by kernel_rfl) (fun e w1 hR hp hf => ⟨by rfl, ?_⟩) ?_
          · have HS := Lib.hid (run_storeOne w1 47 49 xb 13 _ (CRes.cells { RM0 with bk := m ++ [(nC : Int)] } v (e 9)) (e 9) hp.1.1.c (by kernel_rfl) (by show 13 < 14; omega) (by obtain ⟨a5, c5, h5⟩ := hp.2.1.slice; rw [h5]; rfl) (by obtain ⟨a5, c5, h5⟩ := hp.2.1.slice; rw [h5]; rfl) rfl)
            have HP := Lib.hid hp.store
            have HK := Lib.hid (show RO bq br xb y w1 (w1.setRow xb (CRes.cells { RM0 with bk := m ++ [(nC : Int)] } v (e 9))) from RO.of_t3 (T3.setRow _ _))
            clear hf hR hp
            refine Reg.gives_mono ?_ (gives_storeD 47 (.tmp 109) (.tmp 108) rfl _ _ rfl rfl HS.out)
            rintro v' w2 ⟨rfl, rfl⟩
            exact ⟨HK.out, HP.out, rfl⟩
          simp only [Act.put, Nat.reduceAdd]
          intro e W5 hR hJ hf
          obtain ⟨y5, h5⟩ := hJ.2.2.2 rfl
          have H5 := Lib.hid h5
          clear hR hJ hf h5
          go_wp2
          go_roundw
          case rel => exact ⟨k + 1, m ++ [(nC : Int)], y5, u1, by have := HKN.out; omega, by go_num, Lib.hid (show (m ++ [(nC : Int)]).length = k + 1 by rw [List.length_append, HLL.out]; rfl), HE, Lib.hid (by rw [HRM.out]; exact H5.out)⟩
          case measure => simp [intOf]; omega
        · obtain rfl : k = nB := by omega
          have HE := Lib.hid (bucks_none s' m (B, l9, sh9) (by have h9 := HRR.out; rw [Nat.sub_self] at h9; exact h9))
          obtain ⟨rfl, rfl⟩ : m = B ∧ s' = (l9, sh9) := by cases HE.out; exact ⟨rfl, rfl⟩
          clear HRR hlt HE HLL hk
          have HE := Lib.hid HU.out
          clear HU
          obtain ⟨r9, hr9⟩ : ∃ r, r = (⟨0, (rN 1 s1 : Int), rN 4 (rN' 1 s1), rN 4 (rN' 4 (rN' 1 s1)), rN 8 (rN' 4 (rN' 4 (rN' 1 s1))), n3, x4, l, fb, z7, z8, z9, nA, m⟩ : CRes) := ⟨_, rfl⟩
          rw [← hr9] at HE HRES
          clear hr9
          generalize v = p9 at *
          generalize y = v9 at *
          generalize (false || !fo) = d9 at *
          have b0 := HE.out.st.rd.cells.c0
          have b1 := HE.out.st.rd.cells.c1
          cases d9 with
          | true =>
            go_wp2_with (first | ((with_reducible refine atStore ?_); refine wpList_store_by rfl 49 (.tmp 2) (.tmp 130) rfl (.pointer (some ⟨w.heap.size, 0, none⟩)) _ rfl rfl HE.out.runZ ?_) | (with_reducible refine stopPost ?_))
            refine ⟨bodyPost_ret (v := .tuple #[.agg (CRes.zero.cells nilS nilS), errV 2]) (results_row_tmp rfl _ _ w.heap.size (CRes.zero.cells nilS nilS) rfl (run_loadVar_row _ w.heap.size _ _ _ (0, 0) _ (setRow_heap _ _ _ _ _ _ HE.out.rbW) Try.underlying49 rfl dres_size) _ rfl) rfl ?_⟩
            rw [HRES.out]
            exact HE.out.endBad rfl
          | false =>
            go_wp2_with fail
            refine (packShort br l9 sh9 _ HE.out.st.rd.rd).mono ?_
            rintro e Wr ⟨rfl, hWr⟩
            rw [← hWr]
            clear hWr
            cases sh9 with
            | true =>
              go_wp2_with (first | ((with_reducible refine atStore ?_); refine wpList_store_by rfl 49 (.tmp 2) (.tmp 130) rfl (.pointer (some ⟨w.heap.size, 0, none⟩)) _ rfl rfl HE.out.runZ ?_) | (with_reducible refine stopPost ?_))
              refine ⟨bodyPost_ret (v := .tuple #[.agg (CRes.zero.cells nilS nilS), errV 2]) (results_row_tmp rfl _ _ w.heap.size (CRes.zero.cells nilS nilS) rfl (run_loadVar_row _ w.heap.size _ _ _ (0, 0) _ (setRow_heap _ _ _ _ _ _ HE.out.rbW) Try.underlying49 rfl dres_size) _ rfl) rfl ?_⟩
              rw [HRES.out]
              exact HE.out.endBad rfl
            | false =>
              go_wp2_with fail
              refine (packLeft br l9 false _ HE.out.st.rd.rd).mono ?_
              rintro e Wr ⟨rfl, hWr⟩
              rw [← hWr]
              clear hWr
              by_cases hz : l9.length = 0
              · have dz : decide ((0 : Int) < (rdLeft l9 false : Int)) = false := by rw [decide_eq_false_iff_not, show rdLeft l9 false = l9.length from rfl]; omega
                have dz2 : decide (0 < rdLeft l9 false) = false := by rw [decide_eq_false_iff_not, show rdLeft l9 false = l9.length from rfl]; omega
                have HDZ := Lib.hid dz2
                obtain ⟨C9, hC9⟩ : ∃ C, C = r9.cells p9 v9 := ⟨_, rfl⟩
                have HC := Lib.hid HE.out.st.c
                have HRC := Lib.hid HE.out.runC
                have HG := Lib.hid (HE.out.endGood dz2)
                have HSZ := Lib.hid (show (Try.prog.info? 49).map (·.size) = some C9.size by rw [hC9]; exact dres_size)
                rw [← hC9] at HC HRC HG
                clear hz hC9
                go_wp2_with (first | ((with_reducible refine atLoad ?_); refine wpList_load_row rfl 49 (.tmp 5) rfl xb rfl 49 C9 (0, 0) _ HC.out Try.underlying49 rfl HSZ.out ?_) | ((with_reducible refine atStore ?_); refine wpList_store_by rfl 49 (.tmp 2) (.tmp 132) rfl (.pointer (some ⟨w.heap.size, 0, none⟩)) _ rfl rfl HRC.out ?_) | (with_reducible refine stopPost ?_))
                refine ⟨bodyPost_ret (v := .tuple #[.agg C9, .nilIface]) (results_row_tmp rfl _ _ w.heap.size C9 rfl (run_loadVar_row _ w.heap.size _ _ _ (0, 0) _ (setRow_heap _ _ _ _ _ _ HE.out.rbW) Try.underlying49 rfl HSZ.out) _ rfl) rfl ?_⟩
                rw [HRES.out]
                exact HG.out
              · have dz : decide ((0 : Int) < (rdLeft l9 false : Int)) = true := by rw [decide_eq_true_iff, show rdLeft l9 false = l9.length from rfl]; omega
                have dz2 : decide (0 < rdLeft l9 false) = true := by rw [decide_eq_true_iff, show rdLeft l9 false = l9.length from rfl]; omega
                have HDZ := Lib.hid dz2
                clear hz
                go_wp2_with (first | ((with_reducible refine atStore ?_); refine wpList_store_by rfl 49 (.tmp 2) (.tmp 130) rfl (.pointer (some ⟨w.heap.size, 0, none⟩)) _ rfl rfl HE.out.runZ ?_) | (with_reducible refine stopPost ?_))
                refine ⟨bodyPost_ret (v := .tuple #[.agg (CRes.zero.cells nilS nilS), errV 2]) (results_row_tmp rfl _ _ w.heap.size (CRes.zero.cells nilS nilS) rfl (run_loadVar_row _ w.heap.size _ _ _ (0, 0) _ (setRow_heap _ _ _ _ _ _ HE.out.rbW) Try.underlying49 rfl dres_size) _ rfl) rfl ?_⟩
                rw [HRES.out]
                exact HE.out.endBad HDZ.out
theorem crDecode (a : Option Addr) (cap : Nat) (b : List UInt8) (w : World) (h : Reads w (.slice a b.length cap) b) : Calls Try.prog 18 #[.slice a b.length cap] w (DecOk (decodeP b) w) := by
  by_cases h0 : 0 = rN 1 (b, false)
  · exact crDec0 a cap b w h h0
  · exact crDecN a cap b w h _ _ rfl rfl (fun e => h0 e.symm)
end Go.Proofs.Ytlngefhjoobmdaa
