/- Texts laid together: CmdParse Code CmdPutReq CmdUp RefPHead CmdAs RefSamL RefSam RefPBad. -/
import Derived.Test.YtlngefhjoobmdaaZCmdP45
import Derived.Test.YtlngefhjoobmdaaZCmdP2
import Derived.Test.YtlngefhjoobmdaaZCmdP0
import Derived.Test.YtlngefhjoobmdaaZCmdPQ1
import Derived.Test.YtlngefhjoobmdaaZCmdPQ3
import Derived.Test.YtlngefhjoobmdaaZCmdPT
import Derived.Test.YtlngefhjoobmdaaMg1
import Derived.LoopTactic
import Derived.Test.YtlngefhjoobmdaaZCmdPutT
import Derived.Test.YtlngefhjoobmdaaMg5
import Derived.Deep.MidRow
import Derived.Test.YtlngefhjoobmdaaMg4
import Derived.Test.YtlngefhjoobmdaaZRefSamA
import Derived.Test.YtlngefhjoobmdaaZRefSamB
import Derived.Test.YtlngefhjoobmdaaZRefSamC
import Derived.Test.YtlngefhjoobmdaaZRefSamD
namespace Go.Proofs.Ytlngefhjoobmdaa
open Go.RowKit
theorem crParse (a : Option Addr) (cap : Nat) (b : List UInt8) (w : World) (h : Reads w (.slice a b.length cap) b) : Calls Try.prog 7 #[.slice a b.length cap] w (ParseOk 93 tupE (parseP b) w) := by
  obtain ⟨t, ht⟩ : ∃ x, x = rN 1 (b, false) := ⟨_, rfl⟩
  by_cases h6 : 5 < t
  · exact crParseT a cap b w h t _ ht rfl h6
  by_cases h4 : 4 ≤ t
  · exact crParse45 a cap b w h t _ ht rfl ⟨h4, by omega⟩
  by_cases h0 : t = 0
  · exact crParse0 a cap b w h t _ ht rfl h0
  by_cases h2 : t = 2
  · exact crParse2 a cap b w h t _ ht rfl h2
  by_cases h1 : t = 1
  · exact crParseQ1 a cap b w h t _ ht rfl h1
  exact crParseQ3 a cap b w h t _ ht rfl (by omega)
end Go.Proofs.Ytlngefhjoobmdaa
namespace Go.Proofs.Ytlngefhjoobmdaa
open Go.RowKit
set_option maxHeartbeats 1000000 in
theorem lawCode (c : Nat) (w : World) (hc : c ≤ 15) : Calls Try.prog 9 #[errV c] w (fun e w' => e = .returned (.int .i64 (c : Int)) ∧ w' = w) := by
  by_cases h0 : c = 0
  · subst h0
    rw [show errV 0 = .nilIface from rfl]
    have k1 := code_nil_nil
    go_enter Try.func9, Try.ntmps9
    go_wp2
    go_ret
    exact ⟨rfl, rfl⟩
  · rw [show errV c = .iface 57 (.int .i64 (c : Int)) from if_neg h0]
    have k1 := code_eql_nil
    have k2 := code_eql
    go_enter Try.func9, Try.ntmps9
    go_wp2
    go_loop [3] (fun i => ∃ k : Nat, 1 ≤ k ∧ k ≤ c ∧ i = .int .i64 k) (fun i => 16 - (intOf i).toNat)
    case atStart => exact ⟨1, by omega, by omega, rfl⟩
    case round =>
      obtain ⟨k, hk1, hk, rfl⟩ := hrel
      have d1 : decide ((k : Int) ≤ 15) = true := by simp; omega
      by_cases hkc : k = c
      · subst hkc
        go_wp2
        go_ret
        exact ⟨rfl, rfl⟩
      · have d2 : ((c : Int) == (k : Int)) = false := by simp; omega
        go_wp2
        go_round
        case rel => exact ⟨k + 1, by omega, by omega, by go_num⟩
        case measure => simp [intOf]; omega
end Go.Proofs.Ytlngefhjoobmdaa
namespace Go.Proofs.Ytlngefhjoobmdaa
open Go.RowKit
/-- A request's bytes, if it has some. -/
def putQ (q : CReq) : Option (List UInt8) := if 16 < q.ops.length then none else if parseP (reqL q) = some q then some (reqL q) else none
structure PutOk (r : Option (List UInt8)) (w : World) (e : Ending) (W : World) : Prop where
  ret : (r = none → e = .returned (.tuple #[.slice none 0 0, errV 1])) ∧ ∀ b, r = some b → ∃ v, e = .returned (.tuple #[v, .nilIface]) ∧ OwnB w.heap.size W v b
  bel : Below w.heap.size w W
theorem putOk_none {w W : World} {r : Option (List UInt8)} (h : r = none) (hb : Below w.heap.size w W) : PutOk r w (.returned (.tuple #[.slice none 0 0, errV 1])) W := ⟨⟨fun _ => rfl, fun b e => (by rw [h] at e; cases e)⟩, hb⟩
theorem putOk_some {w W : World} {r : Option (List UInt8)} {b : List UInt8} {v : Value} (h : r = some b) (ho : OwnB w.heap.size W v b) (hb : Below w.heap.size w W) : PutOk r w (.returned (.tuple #[v, .nilIface])) W := ⟨⟨fun e => (by rw [h] at e; cases e), fun b' e => (by rw [h] at e; cases e; exact ⟨v, rfl, ho⟩)⟩, hb⟩
theorem wpList_load_rowG {ops : Array Oper} {rest : List Oper} {o : Oper} {a : Act} {w : World} {Q : Exit → Act → World → Prop} (x : Operand) (ho : o.op = .load 32 x) (g : Nat) (hx : a.eval x = .pointer (some ⟨g, 0, none⟩)) (cs : Array Value) (fr : Nat × Nat)
    (hg : w.heap[g]? = some (.cells cs 32 fr)) (hs : (Try.prog.info? 32).map (·.size) = some cs.size) (hw : Region.wanted o (yielded ops a.tmps) = true)
    (h : wpList Try.prog ops Q rest (a.put o.dst (.agg cs)) w) : wpList Try.prog ops Q (o :: rest) a w := by
  rw [wpList, if_pos hw]
  exact .inl (wp_load_row 32 x ho g hx 32 cs fr _ hg Try.underlying32 rfl hs h)
theorem creq_size (q : CReq) (v : Value) : (Try.prog.info? 32).map (·.size) = some (q.cells v).size := req_size
theorem errN_none : errV (errN none) = .iface 57 (.int .i64 2) := rfl
theorem OwnB.mono' {B B' : Nat} {w : World} {v : Value} {l : List UInt8} (h : OwnB B w v l) (hB : B' ≤ B) : OwnB B' w v l := by
  refine ⟨h.1, ?_⟩
  rcases h.2 with h2 | ⟨g, cap, cur, hv, hbg, hg, hr⟩
  · exact .inl h2
  · exact .inr ⟨g, cap, cur, hv, Nat.le_trans hB hbg, hg, hr⟩
theorem req_rowOf {E : TypeId} {B : Nat} {W : World} {v : Value} {l : List COp} (h : OwnOf E COp.cells 5 B W v l) : ∃ a cap, v = .slice a l.length cap ∧ IsRowOf COp.cells (fun _ => True) 5 W a l := by
  obtain ⟨a, cap, h1, h2, _⟩ := h.rowOf cop_len (W := fun _ => True) (fun _ _ => trivial)
  exact ⟨a, cap, h1, h2⟩
set_option maxRecDepth 100000 in
set_option maxHeartbeats 4000000 in
theorem cPutReq (q : CReq) (v : Value) (w : World) (h : ReqIn w q v) (hn : q.ops.length ≤ 1000000) : Calls Try.prog 13 #[.agg (q.cells v)] w (PutOk (putQ q) w) := by
  obtain ⟨a, cap, hv, _⟩ := h.sl
  have HV := Lib.hid hv
  by_cases h16 : 16 < q.ops.length
  · have hl : decide ((16 : Int) < (q.ops.length : Int)) = true := by rw [decide_eq_true_iff]; omega
    have HP := Lib.hid (show putQ q = none from if_pos h16)
    have HB := Lib.hid ((Below.refl w.heap.size w).alloc (Nat.le_refl _) (.cells (q.cells v) 32))
    rw [hv] at HB ⊢
    have hc := (cell_of_row _ w.heap.size 10 _ _ _ (heap_alloc_new w (.cells (q.cells (.slice a q.ops.length cap)) 32))).trans (show _ = some (.slice a q.ops.length cap) from rfl)
    generalize q.cells (.slice a q.ops.length cap) = C at *
    clear h16 h
    go_enter Try.func13, Try.ntmps13
    go_wp2_with fail
    go_ret2
    exact putOk_none HP.out HB.out
  · have hl : decide ((16 : Int) < (q.ops.length : Int)) = false := by rw [decide_eq_false_iff_not]; omega
    have HP := Lib.hid (show putQ q = if parseP (reqL q) = some q then some (reqL q) else none from if_neg h16)
    have HB := Lib.hid ((Below.refl w.heap.size w).alloc (Nat.le_refl _) (.cells (q.cells v) 32))
    have HIN := Lib.hid (h.bel HB.out)
    have HN := Lib.hid (show q.ops.length ≤ 16 by omega)
    have HR0 := Lib.hid (heap_alloc_new w (.cells (q.cells v) 32))
    have HSZ := Lib.hid (creq_size q v)
    have HPUT := Lib.hid (fun W (hi : ReqIn W q v) => cPut q v W hi (by omega))
    have HSAME := Lib.hid (fun W (hi : ReqIn W q v) (r : CReq) (u : Value) hu => cSame q r v u W hi.sl hu (by omega))
    have hc := (cell_of_row _ w.heap.size 10 _ _ _ (heap_alloc_new w (.cells (q.cells v) 32))).trans (show _ = some (.slice a q.ops.length cap) from by rw [hv]; rfl)
    generalize q.cells v = C at *
    clear h16 h hn hv
    go_enter Try.func13, Try.ntmps13
    go_wp2_with ((with_reducible refine atLoad ?_); refine wpList_load_row rfl 32 (.tmp 1) rfl w.heap.size rfl 32 C (0, 0) _ HR0.out Try.underlying32 rfl HSZ.out ?_)
    generalize hW0 : w.alloc (.cells C 32) = W0 at *
    have HWS := Lib.hid (show W0.heap.size = w.heap.size + 1 by rw [← hW0]; simp)
    clear hW0
    refine (HPUT.out _ HIN.out).mono ?_
    rintro e W1 ⟨v1, rfl, ho1, hb1⟩
    have HO1 := Lib.hid ho1
    have HB1 := Lib.hid (hb1)
    obtain ⟨a1, cap1, hv1, hrd⟩ := OwnB.reads ho1
    rw [hv1] at HO1
    have HRD := Lib.hid (OwnB.reads HO1.out)
    subst hv1
    clear ho1 hb1 hrd hc
    go_wp2_with fail
    refine (crParse a1 cap1 (reqL q) W1 HRD.out).mono ?_
    rintro e W2 ⟨⟨u, rfl, hou⟩, hb2⟩
    have HOU := Lib.hid hou
    have HB2 := Lib.hid hb2
    clear hou hb2 HRD
    generalize hpp : parseP (reqL q) = r at *
    obtain ⟨D, hD⟩ : ∃ D, D = (reqOf r).cells u := ⟨_, rfl⟩
    have HD := Lib.hid hD
    unfold tupE
    rw [← hD]
    obtain ⟨W3, hW3⟩ : ∃ W3, W3 = (W2.alloc (.cells (CReq.zero.cells nilS) 32)).setRow W2.heap.size D := ⟨_, rfl⟩
    have HS3 := Lib.hid (run_storeRow (W2.alloc (.cells (CReq.zero.cells nilS) 32)) 32 W2.heap.size (CReq.zero.cells nilS) D (heap_alloc_new W2 _) (by rw [hD]; exact req_size) (by rw [hD]; rfl) (by obtain ⟨a5, c5, h5⟩ := HOU.out.slice; rw [hD, h5]; exact cells_one _ _ _ _))
    have HL3 := Lib.hid (setRow_heap (W2.alloc (.cells (CReq.zero.cells nilS) 32)) W2.heap.size (CReq.zero.cells nilS) D 32 (0, 0) (heap_alloc_new W2 _))
    have HB3 := Lib.hid (below_boxC W2 (CReq.zero.cells nilS) D 32)
    rw [← hW3] at HS3 HL3 HB3
    have HSZ3 := Lib.hid (show (Try.prog.info? 32).map (·.size) = some D.size by rw [hD]; exact req_size)
    clear hW3 hD
    cases r with
    | none =>
      have HPN := Lib.hid (show putQ q = none by rw [HP.out]; simp)
      rw [errN_none]
      have k1 := code_neq_nil
      go_wp2_with ((with_reducible refine atStore ?_); refine wpList_store_by rfl 32 (.tmp 5) (.tmp 17) rfl (.pointer (some ⟨W2.heap.size, 0, none⟩)) _ rfl rfl HS3.out ?_)
      go_ret2
      exact putOk_none HPN.out (HB.out.trans ((HB1.out.trans ((HB2.out.trans (HB3.out.mono (by have := HB2.out.size; omega))).mono HB1.out.size)).mono (by have := HWS.out; omega)))
    | some p =>
      rw [show errV (errN (some p)) = .nilIface from rfl]
      have HB13 := Lib.hid (HB1.out.trans ((HB2.out.trans (HB3.out.mono HB2.out.size)).mono HB1.out.size))
      have HR3 := Lib.hid ((HB13.out.block w.heap.size (by have := HWS.out; omega)).trans HR0.out)
      have HIN3 := Lib.hid (HIN.out.bel HB13.out)
      have HOU3 := Lib.hid (HOU.out.bel HB3.out)
      have HO13 := Lib.hid (HO1.out.bel (HB2.out.trans (HB3.out.mono HB2.out.size)))
      go_wp2_with (first | ((with_reducible refine atStore ?_); refine wpList_store_by rfl 32 (.tmp 5) (.tmp 17) rfl (.pointer (some ⟨W2.heap.size, 0, none⟩)) _ rfl rfl HS3.out ?_) | ((with_reducible refine atLoad ?_); refine wpList_load_rowG (.tmp 1) rfl w.heap.size rfl C (0, 0) HR3.out HSZ.out rfl ?_) | ((with_reducible refine atLoad ?_); refine wpList_load_rowG (.tmp 5) rfl W2.heap.size rfl D (0, 0) HL3.out HSZ3.out rfl ?_))
      rw [HD.out]
      refine (HSAME.out _ HIN3.out p u (req_rowOf HOU3.out)).mono ?_
      rintro e W4 ⟨rfl, hb4⟩
      have HB4 := Lib.hid hb4
      clear hb4
      by_cases hqp : q = p
      · have HPS := Lib.hid (show putQ q = some (reqL q) by rw [HP.out, hqp]; simp)
        rw [decide_eq_true hqp]
        clear hqp
        go_wp2_with fail
        go_ret2
        exact putOk_some HPS.out (OwnB.mono' (HO13.out.bel HB4.out) (by have := HWS.out; omega)) (HB.out.trans ((HB13.out.trans (HB4.out.mono HB13.out.size)).mono (by have := HWS.out; omega)))
      · have HPN := Lib.hid (show putQ q = none by rw [HP.out, if_neg (fun e => hqp (by cases e; rfl))])
        rw [decide_eq_false hqp]
        clear hqp
        go_wp2_with fail
        go_ret2
        exact putOk_none HPN.out (HB.out.trans ((HB13.out.trans (HB4.out.mono HB13.out.size)).mono (by have := HWS.out; omega)))
end Go.Proofs.Ytlngefhjoobmdaa
namespace Go.Proofs.Ytlngefhjoobmdaa
open Go.RowKit
def qMerge : CReq := { CReq.zero with tag := 4, admin := 1 }
theorem put_merge : putQ qMerge = some [4, 1, 0, 0, 0, 0, 0, 0, 0] := by decide +kernel
theorem put_zero : putQ CReq.zero = none := by decide +kernel
theorem parse_nil : parseP [] = none := by decide +kernel
theorem reqIn_nil (w : World) (q : CReq) (h : q.ops = []) (hw : q.wf) : ReqIn w q nilS := ⟨⟨none, 0, by rw [h]; rfl, by rw [h]; exact IsRowOf.nil⟩, hw⟩
theorem cDenied (w : World) : Calls Try.prog 19 #[] w (fun e W => e = .returned (.agg #[.int .i64 7, .int .i64 0, .int .u32 0, .int .u32 0, .int .u64 0, .int .u64 0, .string { data := #[] }, .slice none 0 0, .bool false, .int .i64 0, .int .i64 0, .int .i64 0, .int .u64 0, .slice none 0 0]) ∧ Below w.heap.size w W) := by
  go_enter Try.func19, Try.ntmps19
  go_wp2
  go_returns
  exact ⟨rfl, (Below.refl _ _).alloc (Nat.le_refl _) _⟩
set_option maxRecDepth 100000 in
set_option maxHeartbeats 4000000 in
theorem cmdUp (w : World) : LawOk Try.prog 6 #[] w := by
  unfold LawOk
  have HQ1 := Lib.hid (fun W => (cPutReq qMerge nilS W (reqIn_nil W qMerge rfl (by unfold CReq.wf qMerge CReq.zero maxLen; simp)) (by show 0 ≤ _; omega)))
  have HQ2 := Lib.hid (fun W => (cPutReq CReq.zero nilS W (reqIn_nil W CReq.zero rfl (by unfold CReq.wf CReq.zero maxLen; simp)) (by show 0 ≤ _; omega)))
  rw [put_merge] at HQ1
  rw [put_zero] at HQ2
  have HP := Lib.hid (fun W => crParse none 0 [] W ⟨none, 0, rfl, IsBytes.nil _ _, Nat.le_refl _, Nat.zero_le _, fun _ => rfl, fun x hx => by cases hx⟩)
  rw [parse_nil] at HP
  go_enter Try.func6, Try.ntmps6
  go_wp2_with fail
  refine (HQ1.out w).mono ?_
  rintro e W1 ⟨⟨_, h2⟩, hb1⟩
  obtain ⟨v1, rfl, ho1⟩ := h2 _ rfl
  obtain ⟨a1, cap1, rfl, hba1, _, _⟩ := ho1.out
  have HBA := Lib.hid hba1
  have HB1 := Lib.hid hb1
  clear h2 ho1 hba1 hb1
  go_wp2_with fail
  refine (HP.out W1).mono ?_
  rintro e W2 ⟨⟨u, rfl, hou⟩, hb2⟩
  have HB2 := Lib.hid (below_next HB1.out hb2)
  have HBA2 := Lib.hid (HBA.out.bel hb2)
  obtain ⟨D, hD⟩ : ∃ D, D = (reqOf none).cells u := ⟨_, rfl⟩
  unfold tupE
  rw [← hD, errN_none]
  obtain ⟨W3, hW3⟩ : ∃ W3, W3 = (W2.alloc (.cells (CReq.zero.cells nilS) 32)).setRow W2.heap.size D := ⟨_, rfl⟩
  have HS3 := Lib.hid (run_storeRow (W2.alloc (.cells (CReq.zero.cells nilS) 32)) 32 W2.heap.size (CReq.zero.cells nilS) D (heap_alloc_new W2 _) (by rw [hD]; exact req_size) (by rw [hD]; rfl) (by obtain ⟨a5, c5, h5⟩ := hou.slice; rw [hD, h5]; exact cells_one _ _ _ _))
  have HB3 := Lib.hid (below_boxC W2 (CReq.zero.cells nilS) D 32)
  rw [← hW3] at HS3 HB3
  have HBA3 := Lib.hid (HBA2.out.bel HB3.out)
  have HB23 := Lib.hid (below_next HB2.out HB3.out)
  clear hW3 hou hb2 hD
  go_wp2_with ((with_reducible refine atStore ?_); refine wpList_store_by rfl 32 (.tmp 3) (.tmp 14) rfl (.pointer (some ⟨W2.heap.size, 0, none⟩)) _ rfl rfl HS3.out ?_)
  refine (HQ2.out W3).mono ?_
  rintro e W4 ⟨⟨h1, _⟩, hb4⟩
  obtain rfl := h1 rfl
  have HB4 := Lib.hid (below_next HB23.out hb4)
  have kc := run_string_bytes W4 a1 cap1 _ (HBA3.out.bel hb4)
  simp only [List.length_cons, List.length_nil, Nat.zero_add, Nat.reduceAdd] at kc ⊢
  rw [show errV 1 = .iface 57 (.int .i64 1) from rfl]
  have k1 := code_nil_nil
  have k2 := code_eql
  clear h1 hb4
  go_wp2_with fail
  refine (cDenied W4).mono ?_
  rintro e W5 ⟨rfl, hb5⟩
  have HB5 := Lib.hid (below_next HB4.out hb5)
  clear hb5
  have kf : (Instr.field 49 (.agg #[.int .i64 7, .int .i64 0, .int .u32 0, .int .u32 0, .int .u64 0, .int .u64 0, .string { data := #[] }, .slice none 0 0, .bool false, .int .i64 0, .int .i64 0, .int .i64 0, .int .u64 0, .slice none 0 0]) 0).run Try.prog W5 = .ok (.int .i64 7) W5 := by with_unfolding_all rfl
  go_wp2

  go_ret
  exact ⟨rfl, HB5.out⟩
end Go.Proofs.Ytlngefhjoobmdaa
namespace Go.Proofs.Ytlngefhjoobmdaa
open Go.RowKit
abbrev Z39 : Obj := .cells (CReq.zero.cells nilS) 39 (0, 0)
abbrev pr3 (w : World) (a : Option Addr) (n cap : Nat) : World := ((w.alloc Z39).alloc (.cells #[.slice a n cap, .int .i64 0, .bool false] 85)).alloc (.cells #[.pointer (some ⟨w.heap.size + 1, 0, none⟩), .bool false] 87)
theorem isRef_first {w : World} {Z : Obj} {a : Option Addr} {cap : Nat} {l : List UInt8} (h : Reads w (.slice a l.length cap) l) : IsRef ((w.alloc Z).alloc (.cells #[.slice a l.length cap, .int .i64 0, .bool false] 85)) (w.heap.size + 1) l 0 false := by
  obtain ⟨a', cap', he, h1, h2, h3, h4, h5⟩ := h
  cases he
  have hb := (Below.refl w.heap.size w).alloc (Nat.le_refl _) Z
  have hb2 := (Below.refl (w.alloc Z).heap.size (w.alloc Z)).alloc (Nat.le_refl _) (.cells #[.slice a l.length cap, .int .i64 0, .bool false] 85)
  refine ⟨a, cap, ?_, (h1.bel hb).bel hb2, h2, h3, Nat.zero_le _, fun x off e hc => ?_, h4, fun x hx hc => ⟨(h5 x hx hc).1, ?_⟩⟩
  · have := heap_alloc_new (w.alloc Z) (.cells #[.slice a l.length cap, .int .i64 0, .bool false] 85 (0, 0))
    rwa [World.size_alloc] at this
  · have := (h5 _ e hc).2
    simp only at this
    omega
  · have := (h5 x hx hc).2
    simp
    omega
theorem rparse_start {w : World} {a : Option Addr} {cap : Nat} {l : List UInt8} (h : Reads w (.slice a l.length cap) l) (hl : l.length ≤ 100000000000) :
    IsPR (w.heap.size + 2) (w.heap.size + 1) (pr3 w a l.length cap) (l, false) false ∧ Below w.heap.size w (pr3 w a l.length cap) ∧ (pr3 w a l.length cap).heap[w.heap.size]? = some Z39 ∧ (pr3 w a l.length cap).heap.size = w.heap.size + 3 := by
  have hr := isRef_first (Z := Z39) h
  obtain ⟨w2, hw2⟩ : ∃ w2, w2 = (w.alloc Z39).alloc (.cells #[.slice a l.length cap, .int .i64 0, .bool false] 85) := ⟨_, rfl⟩
  have hs : w2.heap.size = w.heap.size + 2 := by rw [hw2]; simp
  have hb2 : Below w.heap.size w w2 := by rw [hw2]; exact ((Below.refl _ _).alloc (Nat.le_refl _) _).alloc (by simp) _
  have h0 : w2.heap[w.heap.size]? = some Z39 := by rw [hw2]; exact (Below.heap_alloc _ _ _ (by simp)).trans (heap_alloc_new w _)
  unfold pr3
  rw [← hw2] at hr ⊢
  have hb3 := (Below.refl w2.heap.size w2).alloc (Nat.le_refl _) (.cells #[.pointer (some ⟨w.heap.size + 1, 0, none⟩), .bool false] 87)
  refine ⟨⟨?_, ⟨l, 0, hr.bel hb3, rfl, hl⟩, by omega⟩, hb2.trans (hb3.mono (by omega)), (hb3.block _ (by omega)).trans h0, by rw [World.size_alloc]; omega⟩
  rw [← hs]
  exact heap_alloc_new w2 _
/-- The state ahead of the first read. -/
theorem rparse_qs {w : World} {a : Option Addr} {cap : Nat} {l : List UInt8} (h : Reads w (.slice a l.length cap) l) (hl : l.length ≤ 100000000000) :
    QS (w.heap.size + 2) (w.heap.size + 1) (w.heap.size + 3) (IsPR (w.heap.size + 2) (w.heap.size + 1)) ((pr3 w a l.length cap).alloc Z39) 39 (CReq.zero.cells nilS) (l, false) false ((pr3 w a l.length cap).alloc Z39) ∧ Below w.heap.size w ((pr3 w a l.length cap).alloc Z39) ∧ ((pr3 w a l.length cap).alloc Z39).heap[w.heap.size]? = some Z39 := by
  obtain ⟨h1, h2, h3, h4⟩ := rparse_start h hl
  have hb := (Below.refl (pr3 w a l.length cap).heap.size (pr3 w a l.length cap)).alloc (Nat.le_refl _) Z39
  have hn := heap_alloc_new (pr3 w a l.length cap) Z39
  rw [h4] at hn
  exact ⟨⟨goodKPR _ _, (goodPR _ _).bel h1 hb, hn, T3.refl _ _ _ _, by omega, by omega⟩, h2.trans (hb.mono (by omega)), (hb.block _ (by omega)).trans h3⟩
/-- One cell stored. -/
theorem run_storeOne (w : World) (T E : TypeId) (g o : Nat) (c c' : Array Value) (u : Value) (hg : w.heap[g]? = some (.cells c E (0, 0))) (hi : (Try.prog.info? T).map (·.size) = some 1) (ho : o < c.size) (hu : u.cells = #[u]) (h1 : u.oneCell' = true) (hc : c.setIfInBounds o u = c') :
    (Instr.storeAt T (.pointer (some ⟨g, o, none⟩)) u).run Try.prog w = .ok () (w.setRow g c') := by
  subst hc
  have := run_storeCells_at Try.prog g o E [u] 0 c w hg (by simp; omega) (fun v hv => by simp at hv; rw [hv]; exact h1)
  cases hq : Try.prog.info? T with
  | none => simp [hq] at hi
  | some i =>
    have hs : i.size = 1 := by simp [hq] at hi; omega
    simp only [Instr.storeAt, Instr.sureAddr, Sem.run_bind, Sem.run_pure, Result.andThen]
    simp [storeVar, sizeOf, typeInfo, hq, hu, hs]
    rw [this]
    have he : (c.toList.take (o + 0) ++ [u] ++ c.toList.drop (o + 0 + [u].length)).toArray = c.setIfInBounds o u := by
      apply Array.ext'
      simp only [Array.toList_setIfInBounds]
      rw [List.set_eq_take_append_cons_drop, if_pos (by simpa using ho)]
      simp
    rw [he]
section
variable {bq br qb : Nat} {w0 W : World} {T : TypeId} {C : Array Value} {s : RS} {bad : Bool}
abbrev pBox (br : Nat) (b : Bool) : Array Value := #[.pointer (some ⟨br, 0, none⟩), .bool b]
theorem QS.setBad (h : QS bq br qb (IsPR bq br) w0 T C s bad W) (b : Bool) : QS bq br qb (IsPR bq br) w0 T C s b (W.setRow bq (pBox br b)) := by
  have h1 := h.lt
  obtain ⟨b', at_, h3, h4, h5⟩ := h.rd.rd
  refine ⟨h.good, ⟨setRow_heap _ _ _ _ _ _ h.rd.box, ⟨b', at_, h3.keepG (r := some bq) ⟨rfl, rfl, rfl, by simp [World.setRow], fun k _ hk => setRow_other W bq k _ (fun e => hk (by rw [e]))⟩ (fun g e => by cases e; exact h.rd.ne), h4, h5⟩, h.rd.ne⟩, (setRow_other W bq qb _ (by omega)).trans h.c, h.tg.trans ⟨rfl, rfl, rfl, by simp [World.setRow], fun k _ hk _ _ => setRow_other W bq k _ hk⟩, h1⟩
theorem bool_size : (Try.prog.info? 4).map (·.size) = some 1 := by kernel_rfl
theorem QS.runBad (h : QS bq br qb (IsPR bq br) w0 T C s bad W) (b : Bool) : (Instr.storeAt 4 (.pointer (some ⟨bq, 1, none⟩)) (.bool b)).run Try.prog W = .ok () (W.setRow bq (pBox br b)) :=
  run_storeOne W _ _ bq 1 _ _ _ h.rd.box bool_size (by show 1 < 2; omega) rfl rfl rfl
end
/-- The ending's facts. -/
structure REnd (bq br qb : Nat) (w w1 : World) (r : CReq × RS × Bool) (v : Value) (C : Array Value) (W : World) : Prop where
  c : C = r.1.cells v
  st : QS bq br qb (IsPR bq br) w1 39 C r.2.1 r.2.2 W
  own : OwnOf 90 COp.cells 5 (qb + 1) W v r.1.ops
  bel : Below w.heap.size w w1
  rb : w1.heap[w.heap.size]? = some Z39
  lo : w.heap.size < br ∧ w.heap.size < bq ∧ w.heap.size < qb
section
variable {bq br qb : Nat} {w w1 W : World} {r : CReq × RS × Bool} {v : Value} {C : Array Value}
theorem REnd.bel' (h : REnd bq br qb w w1 r v C W) {W' : World} (hb : Below W.heap.size W W') : REnd bq br qb w w1 r v C W' := { h with st := h.st.bel' hb, own := h.own.bel hb }
theorem REnd.rbW (h : REnd bq br qb w w1 r v C W) : W.heap[w.heap.size]? = some Z39 := by
  have h1 := h.lo
  exact (h.st.tg.block _ (Array.getElem?_eq_some_iff.1 h.rb).1 (by omega) (by omega) (by omega)).trans h.rb
theorem REnd.below (h : REnd bq br qb w w1 r v C W) (cs : Array Value) : Below w.heap.size w (W.setRow w.heap.size cs) := by
  have h1 := h.lo
  have h2 := h.bel.trans (h.st.tg.below h.bel.size (by omega) (by omega) (by omega))
  exact ⟨h2.os, h2.tape, h2.output, by simpa [World.setRow] using h2.size, fun k hk => (setRow_other W _ k cs (by omega)).trans (h2.block k hk)⟩
theorem REnd.bad (h : REnd bq br qb w w1 r v C W) (hb : (r.2.2 || r.2.1.2 || decide (0 < rdLeft r.2.1.1 r.2.1.2)) = true) : ParseOk 90 tupB (endP r) w (.returned (.tuple #[.agg (CReq.zero.cells nilS), .bool false])) (W.setRow w.heap.size (CReq.zero.cells nilS)) := by
  rw [endP_none hb]
  exact ⟨⟨nilS, rfl, OwnOf.nil _ _⟩, h.below _⟩
theorem REnd.good (h : REnd bq br qb w w1 r v C W) (hb : (r.2.2 || r.2.1.2 || decide (0 < rdLeft r.2.1.1 r.2.1.2)) = false) : ParseOk 90 tupB (endP r) w (.returned (.tuple #[.agg C, .bool true])) (W.setRow w.heap.size C) := by
  rw [endP_some hb]
  have h1 := h.lo
  refine ⟨⟨v, by rw [h.c]; rfl, (h.own.kept fun k hk => ?_).mono (by omega)⟩, h.below _⟩
  have := (h.own.block k hk).1
  exact setRow_other W _ k C (by omega)
theorem REnd.runZ (h : REnd bq br qb w w1 r v C W) : (Instr.storeAt 39 (.pointer (some ⟨w.heap.size, 0, none⟩)) (.agg (CReq.zero.cells nilS))).run Try.prog W = .ok () (W.setRow w.heap.size (CReq.zero.cells nilS)) :=
  run_storeRow _ _ _ _ _ h.rbW rreq_size rfl (cells_one _ _ _ _)
theorem REnd.runC (h : REnd bq br qb w w1 r v C W) : (Instr.storeAt 39 (.pointer (some ⟨w.heap.size, 0, none⟩)) (.agg C)).run Try.prog W = .ok () (W.setRow w.heap.size C) := by
  obtain ⟨a, cap, hv⟩ := h.own.slice
  have hc := h.c
  subst hc
  exact run_storeRow _ _ _ _ _ h.rbW rreq_size rfl (by rw [hv]; exact cells_one _ _ _ _)
theorem REnd.size (h : REnd bq br qb w w1 r v C W) : (Try.prog.info? 39).map (·.size) = some C.size := by
  rw [h.c]
  exact rreq_size
/-- Of what is left. -/
theorem REnd.left (h : REnd bq br qb w w1 r v C W) : Calls Try.prog 34 #[.pointer (some ⟨br, 0, none⟩)] W (fun e w' => e = .returned (.int .i64 (rdLeft r.2.1.1 r.2.1.2 : Nat)) ∧ ∃ q, w' = W.drewN q) := by
  obtain ⟨b, at_, h1, h2, h3⟩ := h.st.rd.rd
  rw [h2]
  exact refLeft br b at_ r.2.1.2 W h1 h3
theorem IsPR.short {bq br : Nat} {W : World} {s : RS} {bad : Bool} (h : IsPR bq br W s bad) : W.cell? ⟨br, 2, none⟩ = some (.bool s.2) := by
  obtain ⟨b, at_, ⟨a, cap, hg, _⟩, _⟩ := h.rd
  exact (cell_of_row W br 2 _ _ _ hg).trans rfl
/-- A tag that is none. -/
theorem bad_body (t : Nat) (s : RS) (h : t = 0 ∨ 13 < t) : endP (bodyP t s) = none := by
  refine endP_none ?_
  rcases h with rfl | h
  · unfold bodyP
    simp
  · unfold bodyP
    rw [if_pos (by omega)]
    unfold tenP
    rw [if_neg (by omega), if_neg (by omega), if_neg (by omega), if_neg (by omega), if_neg (by omega)]
    simp
    omega
end
theorem range_of_row {W : World} {g o : Nat} {C : Array Value} {T : TypeId} {fr : Nat × Nat} (hg : W.heap[g]? = some (.cells C T fr)) (cs : List Value) (h : ∀ j v, cs[j]? = some v → C[o + j]? = some v) : W.rangeAt g o cs := fun j v hv => (cell_of_row W g (o + j) C T fr hg).trans (h j v hv)
theorem below_box (W : World) (Z C : Array Value) (T : TypeId) : Below W.heap.size W ((W.alloc (.cells Z T)).setRow W.heap.size C) := by
  have h := (Below.refl W.heap.size W).alloc (Nat.le_refl _) (.cells Z T)
  exact ⟨h.os, h.tape, h.output, by simp [World.setRow], fun k hk => (setRow_other _ _ k C (by omega)).trans (h.block k hk)⟩
theorem int_size : (Try.prog.info? 3).map (·.size) = some 1 := by kernel_rfl
theorem u64_size : (Try.prog.info? 24).map (·.size) = some 1 := by kernel_rfl
theorem i64_size : (Try.prog.info? 2).map (·.size) = some 1 := by kernel_rfl
theorem u32_size : (Try.prog.info? 27).map (·.size) = some 1 := by kernel_rfl
theorem str_size : (Try.prog.info? 9).map (·.size) = some 1 := by kernel_rfl
theorem sl_size : (Try.prog.info? 37).map (·.size) = some 1 := by kernel_rfl
end Go.Proofs.Ytlngefhjoobmdaa
namespace Go.Proofs.Ytlngefhjoobmdaa
open Go.RowKit
/-- A request in the document's struct, its ops in a row of the call's own. -/
def AsOk (q : CReq) (w : World) (e : Ending) (W : World) : Prop := (∃ v, e = .returned (.agg (q.cells v)) ∧ OwnOf 90 COp.cells 5 w.heap.size W v q.ops) ∧ Below w.heap.size w W
theorem range_row' {W : World} {g : Nat} {C : Array Value} {T : TypeId} (hg : W.heap[g]? = some (.cells C T (0, 0))) (j : Nat) {v : Value} (hv : C[j]? = some v) : W.cell? ⟨g, j, none⟩ = some v := (cell_of_row W g j _ _ _ hg).trans hv
/-- The walk's state: the request's box, the result's, what is built, its ops. -/
structure AsSt (C0 : Array Value) (F : Value → Array Value) (w W : World) (v : Value) (l : List COp) : Prop where
  b0 : W.heap[w.heap.size]? = some (.cells C0 32 (0, 0))
  b1 : W.heap[w.heap.size + 1]? = some (.cells (CReq.zero.cells nilS) 39 (0, 0))
  b2 : W.heap[w.heap.size + 2]? = some (.cells (F v) 39 (0, 0))
  own : OwnOf 90 COp.cells 5 (w.heap.size + 3) W v l
  bel : Below w.heap.size w W
  sz : w.heap.size + 3 ≤ W.heap.size
section
variable {C0 : Array Value} {F : Value → Array Value} {w W W' : World} {v v' : Value} {l l' : List COp}
theorem AsSt.bel' (h : AsSt C0 F w W v l) (hb : Below W.heap.size W W') : AsSt C0 F w W' v l := by
  have h1 := h.sz
  exact ⟨(hb.block _ (by omega)).trans h.b0, (hb.block _ (by omega)).trans h.b1, (hb.block _ (by omega)).trans h.b2, h.own.bel hb, h.bel.trans (hb.mono (by omega)), Nat.le_trans h1 hb.size⟩
/-- The row has grown; then it is stored. -/
theorem AsSt.app (h : AsSt C0 F w W v l) (hg : Grew W W' v v') (ho : OwnOf 90 COp.cells 5 (w.heap.size + 3) W' v' l') :
    W'.heap[w.heap.size + 2]? = some (.cells (F v) 39 (0, 0)) ∧ AsSt C0 F w (W'.setRow (w.heap.size + 2) (F v')) v' l' := by
  have h1 := h.sz
  have hk : ∀ k, k < w.heap.size + 3 → W'.heap[k]? = W.heap[k]? := fun k hk => hg.1.block k (by omega) (fun e => by have := (h.own.block k e.symm).1; omega)
  have hb : Below (w.heap.size + 3) W W' := hg.below h1 (fun k hk => (h.own.block k hk).1)
  have h2 := (hk (w.heap.size + 2) (by omega)).trans h.b2
  refine ⟨h2, (setRow_other _ _ _ _ (by omega)).trans ((hk _ (by omega)).trans h.b0), (setRow_other _ _ _ _ (by omega)).trans ((hk _ (by omega)).trans h.b1), setRow_heap _ _ _ _ _ _ h2, ho.kept fun k hk => setRow_other _ _ _ _ (by have := (ho.block k hk).1; omega), ?_, by simpa [World.setRow] using Nat.le_trans h1 hb.size⟩
  have hb2 := h.bel.trans (hb.mono (by omega))
  exact ⟨hb2.os, hb2.tape, hb2.output, by simpa [World.setRow] using hb2.size, fun k hk => (setRow_other _ _ _ _ (by omega)).trans (hb2.block k hk)⟩
end
set_option maxRecDepth 100000 in
set_option maxHeartbeats 4000000 in
theorem lawAs0 (tag : Int) (ad : Nat) (bu qk qb qg tb : Int) (tg ts tc : Nat) (l : List COp) (af : ByteArray) (fi : Bool) (co ri : Int) (se : Nat) (a : Option Addr) (cap : Nat) (w : World) (hr : IsRowOf COp.cells (fun _ => True) 5 w a l) (hl : l.length ≤ 100000000) :
    Calls Try.prog 11 #[.agg #[.int .i64 tag, .int .u64 (ad : Int), .int .i64 bu, .int .i64 qk, .int .i64 qb, .int .i64 qg, .int .i64 tb, .int .u32 (tg : Int), .int .u32 (ts : Int), .int .u64 (tc : Int), .slice a l.length cap, .string af, .bool fi, .int .i64 co, .int .i64 ri, .int .u32 (se : Int)]] w (AsOk ⟨tag, ad, bu, qk, qb, qg, tb, tg, ts, tc, l, af, fi, co, ri, se⟩ w) := by
  have HROW := Lib.hid hr
  have HL := Lib.hid hl
  generalize hnn : l.length = n at *
  have HNN := Lib.hid hnn
  obtain ⟨F, hF⟩ : ∃ F : Value → Array Value, F = fun v => #[.int .i64 tag, .int .u64 (ad : Int), .int .i64 bu, .int .i64 qk, .int .i64 qb, .int .i64 qg, .int .i64 tb, .int .u32 (tg : Int), .int .u32 (ts : Int), .int .u64 (tc : Int), v, .string af, .bool fi, .int .i64 co, .int .i64 ri, .int .u32 (se : Int)] := ⟨_, rfl⟩
  have HF := Lib.hid (fun v => congrFun hF v)
  have HSTART := Lib.hid (show AsSt #[.int .i64 tag, .int .u64 (ad : Int), .int .i64 bu, .int .i64 qk, .int .i64 qb, .int .i64 qg, .int .i64 tb, .int .u32 (tg : Int), .int .u32 (ts : Int), .int .u64 (tc : Int), .slice a n cap, .string af, .bool fi, .int .i64 co, .int .i64 ri, .int .u32 (se : Int)] F w (((w.alloc (.cells #[.int .i64 tag, .int .u64 (ad : Int), .int .i64 bu, .int .i64 qk, .int .i64 qb, .int .i64 qg, .int .i64 tb, .int .u32 (tg : Int), .int .u32 (ts : Int), .int .u64 (tc : Int), .slice a n cap, .string af, .bool fi, .int .i64 co, .int .i64 ri, .int .u32 (se : Int)] 32)).alloc (.cells #[.int .i64 0, .int .u64 0, .int .i64 0, .int .i64 0, .int .i64 0, .int .i64 0, .int .i64 0, .int .u32 0, .int .u32 0, .int .u64 0, .slice none 0 0, .string { data := #[] }, .bool false, .int .i64 0, .int .i64 0, .int .u32 0] 39)).alloc (.cells #[.int .i64 tag, .int .u64 (ad : Int), .int .i64 bu, .int .i64 qk, .int .i64 qb, .int .i64 qg, .int .i64 tb, .int .u32 (tg : Int), .int .u32 (ts : Int), .int .u64 (tc : Int), .slice none 0 0, .string af, .bool fi, .int .i64 co, .int .i64 ri, .int .u32 (se : Int)] 39)) nilS [] from by
    have h0 := heap_alloc_new w (.cells #[.int .i64 tag, .int .u64 (ad : Int), .int .i64 bu, .int .i64 qk, .int .i64 qb, .int .i64 qg, .int .i64 tb, .int .u32 (tg : Int), .int .u32 (ts : Int), .int .u64 (tc : Int), .slice a n cap, .string af, .bool fi, .int .i64 co, .int .i64 ri, .int .u32 (se : Int)] 32)
    obtain ⟨w1, hw1⟩ : ∃ w1, w1 = w.alloc (.cells #[.int .i64 tag, .int .u64 (ad : Int), .int .i64 bu, .int .i64 qk, .int .i64 qb, .int .i64 qg, .int .i64 tb, .int .u32 (tg : Int), .int .u32 (ts : Int), .int .u64 (tc : Int), .slice a n cap, .string af, .bool fi, .int .i64 co, .int .i64 ri, .int .u32 (se : Int)] 32) := ⟨_, rfl⟩
    have s1 : w1.heap.size = w.heap.size + 1 := by rw [hw1]; simp
    have e1 : Below w.heap.size w w1 := by rw [hw1]; exact (Below.refl _ _).alloc (Nat.le_refl _) _
    rw [← hw1] at h0 ⊢
    have h1 := heap_alloc_new w1 (.cells (CReq.zero.cells nilS) 39)
    rw [s1] at h1
    have e2 := (Below.refl w1.heap.size w1).alloc (Nat.le_refl _) (.cells (CReq.zero.cells nilS) 39)
    obtain ⟨w2, hw2⟩ : ∃ w2, w2 = w1.alloc (.cells (CReq.zero.cells nilS) 39) := ⟨_, rfl⟩
    have s2 : w2.heap.size = w.heap.size + 2 := by rw [hw2, World.size_alloc, s1]
    have hz : w1.alloc (.cells #[.int .i64 0, .int .u64 0, .int .i64 0, .int .i64 0, .int .i64 0, .int .i64 0, .int .i64 0, .int .u32 0, .int .u32 0, .int .u64 0, .slice none 0 0, .string { data := #[] }, .bool false, .int .i64 0, .int .i64 0, .int .u32 0] 39) = w2 := hw2.symm
    rw [hz]
    rw [← hw2] at h1 e2
    have h2 := heap_alloc_new w2 (.cells #[.int .i64 tag, .int .u64 (ad : Int), .int .i64 bu, .int .i64 qk, .int .i64 qb, .int .i64 qg, .int .i64 tb, .int .u32 (tg : Int), .int .u32 (ts : Int), .int .u64 (tc : Int), .slice none 0 0, .string af, .bool fi, .int .i64 co, .int .i64 ri, .int .u32 (se : Int)] 39)
    rw [s2] at h2
    have e3 := (Below.refl w2.heap.size w2).alloc (Nat.le_refl _) (.cells #[.int .i64 tag, .int .u64 (ad : Int), .int .i64 bu, .int .i64 qk, .int .i64 qb, .int .i64 qg, .int .i64 tb, .int .u32 (tg : Int), .int .u32 (ts : Int), .int .u64 (tc : Int), .slice none 0 0, .string af, .bool fi, .int .i64 co, .int .i64 ri, .int .u32 (se : Int)] 39)
    exact ⟨(e3.block _ (by omega)).trans ((e2.block _ (by omega)).trans h0), (e3.block _ (by omega)).trans h1, by rw [hF]; exact h2, OwnOf.nil _ _, e1.trans ((e2.trans (e3.mono (by omega))).mono (by omega)), by rw [World.size_alloc]; omega⟩)
  clear hnn hr hl hF
  go_enter Try.func11, Try.ntmps11
  go_wp2_with fail
  generalize (((w.alloc (.cells #[.int .i64 tag, .int .u64 (ad : Int), .int .i64 bu, .int .i64 qk, .int .i64 qb, .int .i64 qg, .int .i64 tb, .int .u32 (tg : Int), .int .u32 (ts : Int), .int .u64 (tc : Int), .slice a n cap, .string af, .bool fi, .int .i64 co, .int .i64 ri, .int .u32 (se : Int)] 32)).alloc (.cells #[.int .i64 0, .int .u64 0, .int .i64 0, .int .i64 0, .int .i64 0, .int .i64 0, .int .i64 0, .int .u32 0, .int .u32 0, .int .u64 0, .slice none 0 0, .string { data := #[] }, .bool false, .int .i64 0, .int .i64 0, .int .u32 0] 39)).alloc (.cells #[.int .i64 tag, .int .u64 (ad : Int), .int .i64 bu, .int .i64 qk, .int .i64 qb, .int .i64 qg, .int .i64 tb, .int .u32 (tg : Int), .int .u32 (ts : Int), .int .u64 (tc : Int), .slice none 0 0, .string af, .bool fi, .int .i64 co, .int .i64 ri, .int .u32 (se : Int)] 39)) = W0 at *
  go_loopw [4] (fun i wr => ∃ (k : Nat) (v : Value), k ≤ n ∧ i = .int .i64 k ∧ Hid (AsSt #[.int .i64 tag, .int .u64 (ad : Int), .int .i64 bu, .int .i64 qk, .int .i64 qb, .int .i64 qg, .int .i64 tb, .int .u32 (tg : Int), .int .u32 (ts : Int), .int .u64 (tc : Int), .slice a n cap, .string af, .bool fi, .int .i64 co, .int .i64 ri, .int .u32 (se : Int)] F w wr v (l.take k))) (fun i _ => n - (intOf i).toNat)
  case atStart => exact ⟨0, nilS, Nat.zero_le _, rfl, HSTART⟩
  case round =>
    obtain ⟨k, v, hk, rfl, HST⟩ := hrel
    clear HSTART
    have c0 := range_row' HST.out.b0 10 (v := .slice a n cap) rfl
    by_cases hlt : k < n
    · have hki : (k : Int) < (n : Int) := by omega
      have hkl : k < l.length := by have := HNN.out; omega
      have hk9 : k < 100000000 := by have := HL.out; omega
      obtain ⟨b, off, rfl, hb, hc, _⟩ := HROW.out k hkl
      have HX := Lib.hid (range_of (W := w) hc)
      have HBL := Lib.hid hb
      have HTK := Lib.hid (show l.take (k + 1) = l.take k ++ [l[k]] from List.take_succ_eq_append_getElem hkl)
      have HKL := Lib.hid (show (l.take k).length = k by rw [List.length_take]; omega)
      clear hc hb
      generalize l[k] = x at *
      obtain ⟨xd, xk, xv, xc, xu⟩ := x
      have HRW := Lib.hid (show wr.rangeAt b (off + k * 5) [.bool xd, .string xk, .string xv, .int .u64 (xc : Int), .int .u64 (xu : Int)] from fun (j : Nat) (v : Value) hv => (HST.out.bel.cell (p := ⟨b, off + k * 5 + j, none⟩) HBL.out).trans (HX.out j v hv))
      obtain ⟨V3, hV3⟩ : ∃ V, V = (wr.alloc (.cells #[.bool false, .string ByteArray.empty, .string ByteArray.empty, .int .u64 0, .int .u64 0] 93)).setRow wr.heap.size #[.bool xd, .string xk, .string xv, .int .u64 (xc : Int), .int .u64 (xu : Int)] := ⟨_, rfl⟩
      have HS3 := Lib.hid (run_storeRow (wr.alloc (.cells #[.bool false, .string ByteArray.empty, .string ByteArray.empty, .int .u64 0, .int .u64 0] 93)) 93 wr.heap.size #[.bool false, .string ByteArray.empty, .string ByteArray.empty, .int .u64 0, .int .u64 0] #[.bool xd, .string xk, .string xv, .int .u64 (xc : Int), .int .u64 (xu : Int)] (heap_alloc_new wr _) cop_size rfl (by simp [Value.oneCell']))
      have HL3 := Lib.hid (setRow_heap (wr.alloc (.cells #[.bool false, .string ByteArray.empty, .string ByteArray.empty, .int .u64 0, .int .u64 0] 93)) wr.heap.size #[.bool false, .string ByteArray.empty, .string ByteArray.empty, .int .u64 0, .int .u64 0] #[.bool xd, .string xk, .string xv, .int .u64 (xc : Int), .int .u64 (xu : Int)] 93 (0, 0) (heap_alloc_new wr _))
      have HST3 := Lib.hid (HST.out.bel' (below_boxC wr #[.bool false, .string ByteArray.empty, .string ByteArray.empty, .int .u64 0, .int .u64 0] #[.bool xd, .string xk, .string xv, .int .u64 (xc : Int), .int .u64 (xu : Int)] 93))
      rw [← hV3] at HS3 HL3 HST3
      have x0 := range_row' HL3.out 0 (v := .bool xd) rfl
      have x1 := range_row' HL3.out 1 (v := .string xk) rfl
      have x2 := range_row' HL3.out 2 (v := .string xv) rfl
      have x3 := range_row' HL3.out 3 (v := .int .u64 (xc : Int)) rfl
      have x4 := range_row' HL3.out 4 (v := .int .u64 (xu : Int)) rfl
      have x5 := range_row' HST3.out.b2 10 (v := v) (by rw [HF.out]; rfl)
      obtain ⟨av, cv, hv⟩ := HST3.out.own.slice
      rw [HKL.out] at hv
      have HVS := Lib.hid hv
      rw [hv] at x5
      have HOPI := Lib.hid rop_info
      have HY := Lib.hid (HST3.out.bel' ((Below.refl V3.heap.size V3).alloc (Nat.le_refl _) (.cells #[.bool xd, .string xk, .string xv, .int .u64 (xc : Int), .int .u64 (xu : Int)] 90)))
      have HSRC := Lib.hid (src_rowOf (W := fun _ => True) (S := 37) (E := 90) (C := COp.cells) (sz := 5) Try.underlying37 cop_len cop_one (by omega) 1 (rowOf_new (w := V3.alloc (.cells #[.bool xd, .string xk, .string xv, .int .u64 (xc : Int), .int .u64 (xu : Int)] 90)) (g := V3.heap.size) (t := 90) (fr := (0, 0)) ⟨xd, xk, xv, xc, xu⟩ trivial rfl (heap_alloc_new V3 _)))
      clear hV3 HST hkl HX hv
      go_wp2_with (first | ((with_reducible refine atLoad ?_); refine wpList_load_mid rfl 93 (.tmp 37) rfl b (off + k * 5) rfl [.bool xd, .string xk, .string xv, .int .u64 (xc : Int), .int .u64 (xu : Int)] _ HRW.out Try.underlying93 rfl cop_size ?_) | ((with_reducible refine atStore ?_); refine wpList_store_by rfl 93 (.tmp 5) (.tmp 38) rfl (.pointer (some ⟨wr.heap.size, 0, none⟩)) _ rfl rfl HS3.out ?_) | (at_builtin; refine wpList_append_of Try.underlying37 HOPI.out rfl (by omega) rfl (.tmp 40) (.tmp 52) rfl (w.heap.size + 3) (.slice av k cv) (l.take k) rfl (HVS.out ▸ HY.out.own) _ [⟨xd, xk, xv, xc, xu⟩] rfl HSRC.out HY.out.sz (by have := HKL.out; simp; omega) ?_))
      intro v' W5 ho5 hg5
      obtain ⟨hb2, hst⟩ := AsSt.app HY.out (HVS.out ▸ hg5) ho5
      have HS6 := Lib.hid (run_storeOne W5 37 39 (w.heap.size + 2) 10 (F v) (F v') v' hb2 sl_size (by rw [HF.out]; show 10 < 16; omega) (by obtain ⟨a5, c5, h5⟩ := ho5.slice; rw [h5]; rfl) (by obtain ⟨a5, c5, h5⟩ := ho5.slice; rw [h5]; rfl) (by rw [HF.out, HF.out]; rfl))
      have HST6 := Lib.hid hst
      clear hb2 hst ho5 hg5 x0 x1 x2 x3 x4 x5 HS3 HL3 HST3 HY HSRC HVS c0
      go_wp2_with ((with_reducible refine atStore ?_); refine wpList_store_by rfl 37 (.tmp 54) (.tmp 53) rfl (.pointer (some ⟨w.heap.size + 2, 0 + 10, none⟩)) _ rfl rfl HS6.out ?_)
      go_roundw
      case rel => exact ⟨k + 1, v', by omega, by go_num, (show AsSt _ _ _ _ _ _ by rw [HTK.out]; exact HST6.out)⟩
      case measure => simp [intOf]; omega
    · obtain rfl : k = n := by omega
      have HS9 := Lib.hid (show AsSt #[.int .i64 tag, .int .u64 (ad : Int), .int .i64 bu, .int .i64 qk, .int .i64 qb, .int .i64 qg, .int .i64 tb, .int .u32 (tg : Int), .int .u32 (ts : Int), .int .u64 (tc : Int), .slice a k cap, .string af, .bool fi, .int .i64 co, .int .i64 ri, .int .u32 (se : Int)] F w wr v l by have := HST.out; rwa [List.take_of_length_le (show l.length ≤ k by rw [HNN.out]; exact Nat.le_refl _)] at this)
      obtain ⟨C9, hC9⟩ : ∃ C, C = F v := ⟨_, rfl⟩
      have h2 := HS9.out.b2
      rw [← hC9] at h2
      have HL9 := Lib.hid h2
      have HRS := Lib.hid (run_storeRow wr 39 (w.heap.size + 1) _ C9 HS9.out.b1 (by rw [hC9, HF.out]; exact rreq_size) (by rw [hC9, HF.out]; rfl) (by obtain ⟨a5, c5, h5⟩ := HS9.out.own.slice; rw [hC9, HF.out, h5]; simp [Value.oneCell']))
      have HSZ := Lib.hid (show (Try.prog.info? 39).map (·.size) = some C9.size by rw [hC9, HF.out]; exact rreq_size)
      have HC9 := Lib.hid (hC9.trans (HF.out v))
      clear HST h2 hC9
      go_wp2_with (first | ((with_reducible refine atLoad ?_); refine wpList_load_row rfl 39 (.tmp 3) rfl (w.heap.size + 2) rfl 39 C9 (0, 0) _ HL9.out Try.underlying39 rfl HSZ.out ?_) | ((with_reducible refine atStore ?_); refine wpList_store_by rfl 39 (.tmp 2) (.tmp 55) rfl (.pointer (some ⟨w.heap.size + 1, 0, none⟩)) _ rfl rfl HRS.out ?_))
      refine bodyPost_ret (v := .agg C9) (results_cell_row rfl _ _ (w.heap.size + 1) 39 C9 (0, 0) _ rfl (setRow_heap _ _ _ _ _ _ HS9.out.b1) Try.underlying39 rfl HSZ.out) rfl ?_
      have hb := HS9.out.bel
      refine ⟨⟨v, by rw [HC9.out]; rfl, (HS9.out.own.kept fun j hj => setRow_other _ _ _ _ (by have := (HS9.out.own.block j hj).1; omega)).mono (by omega)⟩, hb.os, hb.tape, hb.output, by simpa [World.setRow] using hb.size, fun j hj => (setRow_other _ _ _ _ (by omega)).trans (hb.block j hj)⟩
theorem lawAs (q : CReq) (v : Value) (w : World) (h : ∃ a cap, v = .slice a q.ops.length cap ∧ IsRowOf COp.cells (fun _ => True) 5 w a q.ops) (hl : q.ops.length ≤ 100000000) : Calls Try.prog 11 #[.agg (q.cells v)] w (AsOk q w) := by
  obtain ⟨a, cap, rfl, hr⟩ := h
  exact lawAs0 _ _ _ _ _ _ _ _ _ _ _ _ _ _ _ _ a cap w hr hl
end Go.Proofs.Ytlngefhjoobmdaa
namespace Go.Proofs.Ytlngefhjoobmdaa
open Go.RowKit
set_option maxRecDepth 100000 in
set_option maxHeartbeats 4000000 in
theorem rSameL (tag : Int) (ad : Nat) (bu qk qb qg tb : Int) (tg ts tc n : Nat) (af : ByteArray) (fi : Bool) (co ri : Int) (se : Nat) (a1 a2 : Option Addr) (cap1 cap2 : Nat) (l m : List COp) (w : World) (h1 : IsRowOf COp.cells (fun _ => True) 5 w a1 l) (h2 : IsRowOf COp.cells (fun _ => True) 5 w a2 m) (hl : l.length = n) (hm : m.length = n) (hn : n ≤ 1000000000) :
    Calls Try.prog 10 #[.agg #[.int .i64 tag, .int .u64 (ad : Int), .int .i64 bu, .int .i64 qk, .int .i64 qb, .int .i64 qg, .int .i64 tb, .int .u32 (tg : Int), .int .u32 (ts : Int), .int .u64 (tc : Int), .slice a1 n cap1, .string af, .bool fi, .int .i64 co, .int .i64 ri, .int .u32 (se : Int)], .agg #[.int .i64 tag, .int .u64 (ad : Int), .int .i64 bu, .int .i64 qk, .int .i64 qb, .int .i64 qg, .int .i64 tb, .int .u32 (tg : Int), .int .u32 (ts : Int), .int .u64 (tc : Int), .slice a2 n cap2, .string af, .bool fi, .int .i64 co, .int .i64 ri, .int .u32 (se : Int)]] w (BoolIs (decide (l = m)) w) := by
  have H1 := Lib.hid h1
  have H2 := Lib.hid h2
  have HL := Lib.hid hl
  have HM := Lib.hid hm
  have HB0 := Lib.hid (((Below.refl w.heap.size w).alloc (Nat.le_refl _) (.cells #[.int .i64 tag, .int .u64 (ad : Int), .int .i64 bu, .int .i64 qk, .int .i64 qb, .int .i64 qg, .int .i64 tb, .int .u32 (tg : Int), .int .u32 (ts : Int), .int .u64 (tc : Int), .slice a1 n cap1, .string af, .bool fi, .int .i64 co, .int .i64 ri, .int .u32 (se : Int)] 39)).alloc (by simp) (.cells #[.int .i64 tag, .int .u64 (ad : Int), .int .i64 bu, .int .i64 qk, .int .i64 qb, .int .i64 qg, .int .i64 tb, .int .u32 (tg : Int), .int .u32 (ts : Int), .int .u64 (tc : Int), .slice a2 n cap2, .string af, .bool fi, .int .i64 co, .int .i64 ri, .int .u32 (se : Int)] 39))
  have HR1 := Lib.hid ((Below.heap_alloc (w.alloc (.cells #[.int .i64 tag, .int .u64 (ad : Int), .int .i64 bu, .int .i64 qk, .int .i64 qb, .int .i64 qg, .int .i64 tb, .int .u32 (tg : Int), .int .u32 (ts : Int), .int .u64 (tc : Int), .slice a1 n cap1, .string af, .bool fi, .int .i64 co, .int .i64 ri, .int .u32 (se : Int)] 39)) (.cells #[.int .i64 tag, .int .u64 (ad : Int), .int .i64 bu, .int .i64 qk, .int .i64 qb, .int .i64 qg, .int .i64 tb, .int .u32 (tg : Int), .int .u32 (ts : Int), .int .u64 (tc : Int), .slice a2 n cap2, .string af, .bool fi, .int .i64 co, .int .i64 ri, .int .u32 (se : Int)] 39) w.heap.size (by simp)).trans (heap_alloc_new w (.cells #[.int .i64 tag, .int .u64 (ad : Int), .int .i64 bu, .int .i64 qk, .int .i64 qb, .int .i64 qg, .int .i64 tb, .int .u32 (tg : Int), .int .u32 (ts : Int), .int .u64 (tc : Int), .slice a1 n cap1, .string af, .bool fi, .int .i64 co, .int .i64 ri, .int .u32 (se : Int)] 39)))
  have HR2 := Lib.hid (heap_alloc_new (w.alloc (.cells #[.int .i64 tag, .int .u64 (ad : Int), .int .i64 bu, .int .i64 qk, .int .i64 qb, .int .i64 qg, .int .i64 tb, .int .u32 (tg : Int), .int .u32 (ts : Int), .int .u64 (tc : Int), .slice a1 n cap1, .string af, .bool fi, .int .i64 co, .int .i64 ri, .int .u32 (se : Int)] 39)) (.cells #[.int .i64 tag, .int .u64 (ad : Int), .int .i64 bu, .int .i64 qk, .int .i64 qb, .int .i64 qg, .int .i64 tb, .int .u32 (tg : Int), .int .u32 (ts : Int), .int .u64 (tc : Int), .slice a2 n cap2, .string af, .bool fi, .int .i64 co, .int .i64 ri, .int .u32 (se : Int)] 39))
  rw [World.size_alloc] at HR2
  have HLT1 := Lib.hid (show w.heap.size < ((w.alloc (.cells #[.int .i64 tag, .int .u64 (ad : Int), .int .i64 bu, .int .i64 qk, .int .i64 qb, .int .i64 qg, .int .i64 tb, .int .u32 (tg : Int), .int .u32 (ts : Int), .int .u64 (tc : Int), .slice a1 n cap1, .string af, .bool fi, .int .i64 co, .int .i64 ri, .int .u32 (se : Int)] 39)).alloc (.cells #[.int .i64 tag, .int .u64 (ad : Int), .int .i64 bu, .int .i64 qk, .int .i64 qb, .int .i64 qg, .int .i64 tb, .int .u32 (tg : Int), .int .u32 (ts : Int), .int .u64 (tc : Int), .slice a2 n cap2, .string af, .bool fi, .int .i64 co, .int .i64 ri, .int .u32 (se : Int)] 39)).heap.size by simp; omega)
  have HLT2 := Lib.hid (show w.heap.size + 1 < ((w.alloc (.cells #[.int .i64 tag, .int .u64 (ad : Int), .int .i64 bu, .int .i64 qk, .int .i64 qb, .int .i64 qg, .int .i64 tb, .int .u32 (tg : Int), .int .u32 (ts : Int), .int .u64 (tc : Int), .slice a1 n cap1, .string af, .bool fi, .int .i64 co, .int .i64 ri, .int .u32 (se : Int)] 39)).alloc (.cells #[.int .i64 tag, .int .u64 (ad : Int), .int .i64 bu, .int .i64 qk, .int .i64 qb, .int .i64 qg, .int .i64 tb, .int .u32 (tg : Int), .int .u32 (ts : Int), .int .u64 (tc : Int), .slice a2 n cap2, .string af, .bool fi, .int .i64 co, .int .i64 ri, .int .u32 (se : Int)] 39)).heap.size by simp)
  clear h1 h2 hl hm
  go_enter Try.func10, Try.ntmps10
  go_wp2_with fail
  generalize ((w.alloc (.cells #[.int .i64 tag, .int .u64 (ad : Int), .int .i64 bu, .int .i64 qk, .int .i64 qb, .int .i64 qg, .int .i64 tb, .int .u32 (tg : Int), .int .u32 (ts : Int), .int .u64 (tc : Int), .slice a1 n cap1, .string af, .bool fi, .int .i64 co, .int .i64 ri, .int .u32 (se : Int)] 39)).alloc (.cells #[.int .i64 tag, .int .u64 (ad : Int), .int .i64 bu, .int .i64 qk, .int .i64 qb, .int .i64 qg, .int .i64 tb, .int .u32 (tg : Int), .int .u32 (ts : Int), .int .u64 (tc : Int), .slice a2 n cap2, .string af, .bool fi, .int .i64 co, .int .i64 ri, .int .u32 (se : Int)] 39)) = W0 at *
  go_loopw [5] (fun i wr => ∃ j : Nat, j ≤ n ∧ i = .int .i64 j ∧ Hid (l.take j = m.take j) ∧ Hid (Below W0.heap.size W0 wr)) (fun i _ => n - (intOf i).toNat)
  case atStart => exact ⟨0, Nat.zero_le _, rfl, rfl, Below.refl _ _⟩
  case round =>
    obtain ⟨j, hj, rfl, HT, HB⟩ := hrel
    have HS1 := Lib.hid ((HB.out.block _ HLT1.out).trans HR1.out)
    have HS2 := Lib.hid ((HB.out.block _ HLT2.out).trans HR2.out)
    have c1 := (cell_of_row wr w.heap.size 10 _ _ _ HS1.out).trans (show _ = some (.slice a1 n cap1) from rfl)
    have c2 := (cell_of_row wr (w.heap.size + 1) 10 _ _ _ HS2.out).trans (show _ = some (.slice a2 n cap2) from rfl)
    by_cases hlt : j < n
    · have hll : j < l.length := by have := HL.out; omega
      have hlm : j < m.length := by have := HM.out; omega
      have hji : (j : Int) < (n : Int) := by omega
      obtain ⟨b1, o1, rfl, hb1, hr1, _⟩ := H1.out j hll
      obtain ⟨b2, o2, rfl, hb2, hr2, _⟩ := H2.out j hlm
      have HLD1 := Lib.hid (fun (w2 : World) (hb : Below w.heap.size w w2) => run_load_range w2 b1 (o1 + j * 5) 90 _ _ (range_below (range_of hr1) hb hb1) Try.underlying90 rfl rop_size)
      have HLD2 := Lib.hid (fun (w2 : World) (hb : Below w.heap.size w w2) => run_load_range w2 b2 (o2 + j * 5) 90 _ _ (range_below (range_of hr2) hb hb2) Try.underlying90 rfl rop_size)
      have HTK := Lib.hid (fun (e : l[j] = m[j]) => show l.take (j + 1) = m.take (j + 1) from by rw [List.take_succ_eq_append_getElem hll, List.take_succ_eq_append_getElem hlm, HT.out, e])
      have HBAD := Lib.hid (fun (e : l[j] ≠ m[j]) => show decide (l = m) = false from decide_eq_false (lists_ne' hll hlm e))
      have HNQ := Lib.hid (fun w => rop_neq w l[j] m[j])
      clear hr1 hr2 hb1 hb2
      generalize l[j] = r at *
      generalize m[j] = s at *
      clear hlm hll
      unfold COp.v at HNQ
      generalize r.cells.toArray = C at *
      generalize s.cells.toArray = D at *
      go_wp2_with fail
      clear c1 c2
      have HBB := Lib.hid (fun (w2 : World) (hR : Reg.bel wr.drew w2) => show Below W0.heap.size W0 w2 from below_next HB.out (((Below.refl _ _).drew).trans hR))
      refine Reg.wp_region0 (by kernel_rfl) (by kernel_rfl) ?_
      refine Reg.seg0 1 (by kernel_rfl) rfl ?_
      apply Exists.intro
      refine ⟨fun e => ?_, ?_⟩
      · simp only [List.take_succ_cons, List.take_zero]
        repeat (go_big_quiet_step ((intro _; rfl)))
        refine wpQuiet_nil ?_
        exact rfl
      simp only [List.drop_succ_cons, List.drop_zero, Nat.reduceAdd]
      refine Reg.const0 (.slice (some ⟨b1, o1, none⟩) n cap1) (fun e w2 hR hf => ⟨by rfl, ?_⟩) ?_
      · have c1 := (cell_of_row w2 w.heap.size 10 _ _ _ (((HBB.out w2 hR).block _ HLT1.out).trans HR1.out)).trans (show _ = some (.slice (some ⟨b1, o1, none⟩) n cap1) from rfl)
        clear hf hR
        unfold Reg.gives
        go_simp
        exact Reg.bel_refl _
      simp only [Act.put, List.setIfInBounds_toArray, List.set_cons_zero, List.set_cons_succ, Nat.reduceAdd]
      refine Reg.seg0 2 (by kernel_rfl) rfl ?_
      apply Exists.intro
      refine ⟨fun e => ?_, ?_⟩
      · simp only [List.take_succ_cons, List.take_zero]
        repeat (go_big_quiet_step ((intro _; rfl)))
        refine wpQuiet_nil ?_
        exact rfl
      simp only [List.drop_succ_cons, List.drop_zero, Nat.reduceAdd]
      refine Reg.const0 (.agg C) (fun e w2 hR hf => ⟨by rfl, ?_⟩) ?_
      · refine Reg.gives_mono (fun v' w' h => ?_) (gives_load_op 90 (.tmp 93) rfl _ _ rfl (HLD1.out w2 (below_next HB0.out (HBB.out w2 hR))))
        obtain ⟨rfl, rfl⟩ := h
        exact ⟨Reg.bel_refl _, rfl⟩
      simp only [Act.put, List.setIfInBounds_toArray, List.set_cons_zero, List.set_cons_succ, Nat.reduceAdd]
      refine Reg.seg0 1 (by kernel_rfl) rfl ?_
      apply Exists.intro
      refine ⟨fun e => ?_, ?_⟩
      · simp only [List.take_succ_cons, List.take_zero]
        repeat (go_big_quiet_step ((intro _; rfl)))
        refine wpQuiet_nil ?_
        exact rfl
      simp only [List.drop_succ_cons, List.drop_zero, Nat.reduceAdd]
      refine Reg.const0 (.slice (some ⟨b2, o2, none⟩) n cap2) (fun e w2 hR hf => ⟨by rfl, ?_⟩) ?_
      · have c2 := (cell_of_row w2 (w.heap.size + 1) 10 _ _ _ (((HBB.out w2 hR).block _ HLT2.out).trans HR2.out)).trans (show _ = some (.slice (some ⟨b2, o2, none⟩) n cap2) from rfl)
        clear hf hR
        unfold Reg.gives
        go_simp
        exact Reg.bel_refl _
      simp only [Act.put, List.setIfInBounds_toArray, List.set_cons_zero, List.set_cons_succ, Nat.reduceAdd]
      refine Reg.seg0 2 (by kernel_rfl) rfl ?_
      apply Exists.intro
      refine ⟨fun e => ?_, ?_⟩
      · simp only [List.take_succ_cons, List.take_zero]
        repeat (go_big_quiet_step ((intro _; rfl)))
        refine wpQuiet_nil ?_
        exact rfl
      simp only [List.drop_succ_cons, List.drop_zero, Nat.reduceAdd]
      refine Reg.const0 (.agg D) (fun e w2 hR hf => ⟨by rfl, ?_⟩) ?_
      · refine Reg.gives_mono (fun v' w' h => ?_) (gives_load_op 90 (.tmp 98) rfl _ _ rfl (HLD2.out w2 (below_next HB0.out (HBB.out w2 hR))))
        obtain ⟨rfl, rfl⟩ := h
        exact ⟨Reg.bel_refl _, rfl⟩
      simp only [Act.put, List.setIfInBounds_toArray, List.set_cons_zero, List.set_cons_succ, Nat.reduceAdd]
      refine Reg.const0 (.bool (!decide (r = s))) (fun e w2 hR hf => ⟨by rfl, ?_⟩) ?_
      · refine Reg.gives_mono (fun v' w' h => ?_) (gives_structEq 90 rop_guard (.tmp 94) (.tmp 99) .neq rfl C D _ rfl rfl HNQ.out)
        obtain ⟨rfl, rfl⟩ := h
        exact ⟨Reg.bel_refl _, rfl⟩
      simp only [Act.put, List.setIfInBounds_toArray, List.set_cons_zero, List.set_cons_succ, Nat.reduceAdd]
      intro e W9 hR hJ hf
      have HB9 := Lib.hid (HBB.out W9 hR)
      clear hR hJ hf HBB
      by_cases hrs : r = s
      · have HK := Lib.hid (HTK.out hrs)
        rw [decide_eq_true hrs]
        clear hrs HTK HBAD HLD1 HLD2 HNQ HT HS1 HS2
        go_wp2
        go_roundw
        case rel => exact ⟨j + 1, by omega, by go_num, HK, HB9⟩
        case measure => simp [intOf]; omega
      · have HK := Lib.hid (HBAD.out hrs)
        rw [decide_eq_false hrs]
        clear hrs HTK HBAD HLD1 HLD2 HNQ HT HS1 HS2
        go_wp2
        go_ret
        exact ⟨by rw [HK.out]; rfl, below_next HB0.out HB9.out⟩
    · obtain rfl : j = n := by omega
      have HE : Hid (decide (l = m) = true) := decide_eq_true (by have := HT.out; rwa [List.take_of_length_le (by rw [HL.out]; exact Nat.le_refl _), List.take_of_length_le (by rw [HM.out]; exact Nat.le_refl _)] at this)
      clear HT
      go_wp2
      go_ret
      exact ⟨by rw [HE.out]; rfl, below_next HB0.out HB.out⟩
end Go.Proofs.Ytlngefhjoobmdaa
namespace Go.Proofs.Ytlngefhjoobmdaa
open Go.RowKit
theorem rSame (q r : CReq) (v u : Value) (w : World) (h1 : ∃ a cap, v = .slice a q.ops.length cap ∧ IsRowOf COp.cells (fun _ => True) 5 w a q.ops) (h2 : ∃ a cap, u = .slice a r.ops.length cap ∧ IsRowOf COp.cells (fun _ => True) 5 w a r.ops) (hl : q.ops.length ≤ 1000000000) : Calls Try.prog 10 #[.agg (q.cells v), .agg (r.cells u)] w (BoolIs (decide (q = r)) w) := by
  obtain ⟨tag1, ad1, bu1, qk1, qb1, qg1, tb1, tg1, ts1, tc1, ops1, af1, fi1, co1, ri1, se1⟩ := q
  obtain ⟨tag2, ad2, bu2, qk2, qb2, qg2, tb2, tg2, ts2, tc2, ops2, af2, fi2, co2, ri2, se2⟩ := r
  obtain ⟨a1, cap1, rfl, r1⟩ := h1
  obtain ⟨a2, cap2, rfl, r2⟩ := h2
  simp only at *
  by_cases h0 : tag1 = tag2
  rotate_left
  · rw [decide_eq_false (fun e => h0 (by injection e))]
    exact rSame0 tag1 tag2 ad1 ad2 bu1 bu2 qk1 qk2 qb1 qb2 qg1 qg2 tb1 tb2 tg1 tg2 ts1 ts2 tc1 tc2 ops1.length ops2.length af1 af2 fi1 fi2 co1 co2 ri1 ri2 se1 se2 a1 a2 cap1 cap2 w h0
  subst h0
  by_cases h1 : ad1 = ad2
  rotate_left
  · rw [decide_eq_false (fun e => h1 (by injection e))]
    exact rSame1 tag1 ad1 ad2 bu1 bu2 qk1 qk2 qb1 qb2 qg1 qg2 tb1 tb2 tg1 tg2 ts1 ts2 tc1 tc2 ops1.length ops2.length af1 af2 fi1 fi2 co1 co2 ri1 ri2 se1 se2 a1 a2 cap1 cap2 w h1
  subst h1
  by_cases h2 : bu1 = bu2
  rotate_left
  · rw [decide_eq_false (fun e => h2 (by injection e))]
    exact rSame2 tag1 ad1 bu1 bu2 qk1 qk2 qb1 qb2 qg1 qg2 tb1 tb2 tg1 tg2 ts1 ts2 tc1 tc2 ops1.length ops2.length af1 af2 fi1 fi2 co1 co2 ri1 ri2 se1 se2 a1 a2 cap1 cap2 w h2
  subst h2
  by_cases h3 : qk1 = qk2
  rotate_left
  · rw [decide_eq_false (fun e => h3 (by injection e))]
    exact rSame3 tag1 ad1 bu1 qk1 qk2 qb1 qb2 qg1 qg2 tb1 tb2 tg1 tg2 ts1 ts2 tc1 tc2 ops1.length ops2.length af1 af2 fi1 fi2 co1 co2 ri1 ri2 se1 se2 a1 a2 cap1 cap2 w h3
  subst h3
  by_cases h4 : qb1 = qb2
  rotate_left
  · rw [decide_eq_false (fun e => h4 (by injection e))]
    exact rSame4 tag1 ad1 bu1 qk1 qb1 qb2 qg1 qg2 tb1 tb2 tg1 tg2 ts1 ts2 tc1 tc2 ops1.length ops2.length af1 af2 fi1 fi2 co1 co2 ri1 ri2 se1 se2 a1 a2 cap1 cap2 w h4
  subst h4
  by_cases h5 : qg1 = qg2
  rotate_left
  · rw [decide_eq_false (fun e => h5 (by injection e))]
    exact rSame5 tag1 ad1 bu1 qk1 qb1 qg1 qg2 tb1 tb2 tg1 tg2 ts1 ts2 tc1 tc2 ops1.length ops2.length af1 af2 fi1 fi2 co1 co2 ri1 ri2 se1 se2 a1 a2 cap1 cap2 w h5
  subst h5
  by_cases h6 : tb1 = tb2
  rotate_left
  · rw [decide_eq_false (fun e => h6 (by injection e))]
    exact rSame6 tag1 ad1 bu1 qk1 qb1 qg1 tb1 tb2 tg1 tg2 ts1 ts2 tc1 tc2 ops1.length ops2.length af1 af2 fi1 fi2 co1 co2 ri1 ri2 se1 se2 a1 a2 cap1 cap2 w h6
  subst h6
  by_cases h7 : tg1 = tg2
  rotate_left
  · rw [decide_eq_false (fun e => h7 (by injection e))]
    exact rSame7 tag1 ad1 bu1 qk1 qb1 qg1 tb1 tg1 tg2 ts1 ts2 tc1 tc2 ops1.length ops2.length af1 af2 fi1 fi2 co1 co2 ri1 ri2 se1 se2 a1 a2 cap1 cap2 w h7
  subst h7
  by_cases h8 : ts1 = ts2
  rotate_left
  · rw [decide_eq_false (fun e => h8 (by injection e))]
    exact rSame8 tag1 ad1 bu1 qk1 qb1 qg1 tb1 tg1 ts1 ts2 tc1 tc2 ops1.length ops2.length af1 af2 fi1 fi2 co1 co2 ri1 ri2 se1 se2 a1 a2 cap1 cap2 w h8
  subst h8
  by_cases h9 : tc1 = tc2
  rotate_left
  · rw [decide_eq_false (fun e => h9 (by injection e))]
    exact rSame9 tag1 ad1 bu1 qk1 qb1 qg1 tb1 tg1 ts1 tc1 tc2 ops1.length ops2.length af1 af2 fi1 fi2 co1 co2 ri1 ri2 se1 se2 a1 a2 cap1 cap2 w h9
  subst h9
  by_cases hn : ops1.length = ops2.length
  rotate_left
  · rw [decide_eq_false (fun e => hn (by injection e; simp_all))]
    exact rSame10 tag1 ad1 bu1 qk1 qb1 qg1 tb1 tg1 ts1 tc1 ops1.length ops2.length af1 af2 fi1 fi2 co1 co2 ri1 ri2 se1 se2 a1 a2 cap1 cap2 w hn
  by_cases h11 : af1 = af2
  rotate_left
  · rw [decide_eq_false (fun e => h11 (by injection e))]
    rw [← hn]
    exact rSame11 tag1 ad1 bu1 qk1 qb1 qg1 tb1 tg1 ts1 tc1 ops1.length af1 af2 fi1 fi2 co1 co2 ri1 ri2 se1 se2 a1 a2 cap1 cap2 w h11
  subst h11
  by_cases h12 : fi1 = fi2
  rotate_left
  · rw [decide_eq_false (fun e => h12 (by injection e))]
    rw [← hn]
    exact rSame12 tag1 ad1 bu1 qk1 qb1 qg1 tb1 tg1 ts1 tc1 ops1.length af1 fi1 fi2 co1 co2 ri1 ri2 se1 se2 a1 a2 cap1 cap2 w h12
  subst h12
  by_cases h13 : co1 = co2
  rotate_left
  · rw [decide_eq_false (fun e => h13 (by injection e))]
    rw [← hn]
    exact rSame13 tag1 ad1 bu1 qk1 qb1 qg1 tb1 tg1 ts1 tc1 ops1.length af1 fi1 co1 co2 ri1 ri2 se1 se2 a1 a2 cap1 cap2 w h13
  subst h13
  by_cases h14 : ri1 = ri2
  rotate_left
  · rw [decide_eq_false (fun e => h14 (by injection e))]
    rw [← hn]
    exact rSame14 tag1 ad1 bu1 qk1 qb1 qg1 tb1 tg1 ts1 tc1 ops1.length af1 fi1 co1 ri1 ri2 se1 se2 a1 a2 cap1 cap2 w h14
  subst h14
  by_cases h15 : se1 = se2
  rotate_left
  · rw [decide_eq_false (fun e => h15 (by injection e))]
    rw [← hn]
    exact rSame15 tag1 ad1 bu1 qk1 qb1 qg1 tb1 tg1 ts1 tc1 ops1.length af1 fi1 co1 ri1 se1 se2 a1 a2 cap1 cap2 w h15
  subst h15
  have hfin := rSameL tag1 ad1 bu1 qk1 qb1 qg1 tb1 tg1 ts1 tc1 ops1.length af1 fi1 co1 ri1 se1 a1 a2 cap1 cap2 ops1 ops2 w r1 r2 rfl hn.symm hl
  rw [← hn]
  refine hfin.mono ?_
  rintro e W ⟨he, hb⟩
  refine ⟨he.trans ?_, hb⟩
  by_cases ho : ops1 = ops2
  · subst ho
    rw [decide_eq_true rfl, decide_eq_true rfl]
  · rw [decide_eq_false ho, decide_eq_false (fun e => ho (by injection e))]
end Go.Proofs.Ytlngefhjoobmdaa
namespace Go.Proofs.Ytlngefhjoobmdaa
open Go.RowKit
set_option maxRecDepth 100000 in
set_option maxHeartbeats 40000000 in
theorem prParseBad (a : Option Addr) (cap : Nat) (b : List UInt8) (w : World) (h : Reads w (.slice a b.length cap) b) (hl : b.length ≤ 100000000000) (t : Nat) (s1 : RS) (ht : t = rN 1 (b, false)) (hs1 : s1 = rN' 1 (b, false)) (hbad : t = 0 ∨ 13 < t) : Calls Try.prog 8 #[.slice a b.length cap] w (ParseOk 90 tupB (parseP b) w) := by
  have hb1 : (t : Int) ≤ 255 := by have := rN1 (b, false); omega
  have hw1 : IntKind.i64.wrap (t : Int) = (t : Int) := by rw [IntKind.wrap_i64]; omega
  have HRES := Lib.hid (show parseP b = none by have := bad_body t s1 hbad; rw [ht, hs1] at this; exact this)
  have HQ1 := Lib.hid (fun bq br W (hW : IsPR bq br W (b, false) false) => by have := prNum bq br (b, false) false 1 W hW; rw [← ht, ← hs1] at this; exact this)
  have HS := Lib.hid (show QS (w.heap.size + 1 + 1) (w.heap.size + 1) (w.heap.size + 1 + 1 + 1) (IsPR (w.heap.size + 1 + 1) (w.heap.size + 1)) (World.alloc (pr3 w a b.length cap) Z39) 39 (CReq.zero.cells nilS) (b, false) false (World.alloc (pr3 w a b.length cap) Z39) ∧ Below w.heap.size w (World.alloc (pr3 w a b.length cap) Z39) ∧ (World.alloc (pr3 w a b.length cap) Z39).heap[w.heap.size]? = some Z39 from rparse_qs h hl)
  clear ht hs1 h hl
  go_enter Try.func8, Try.ntmps8
  go_wp2_with fail
  refine (HQ1.out _ _ _ HS.out.1.rd).mono ?_
  rintro e W1 ⟨rfl, hr, hg⟩
  have HT := Lib.hid (HS.out.1.call hr hg)
  have HB2 := Lib.hid HS.out.2
  have HLO := Lib.hid (show w.heap.size < w.heap.size + 1 ∧ w.heap.size < w.heap.size + 1 + 1 ∧ w.heap.size < w.heap.size + 1 + 1 + 1 by omega)
  generalize World.alloc (pr3 w a b.length cap) Z39 = WS at HT HB2
  clear HS HQ1 hr hg
  generalize w.heap.size + 1 + 1 + 1 = qb at *
  generalize w.heap.size + 1 + 1 = bq at *
  generalize w.heap.size + 1 = br at *
  obtain ⟨V1, hV1⟩ : ∃ V, V = W1.setRow qb (CReq.cells { CReq.zero with tag := (t : Int) } nilS) := ⟨_, rfl⟩
  have HS1 := Lib.hid (run_storeOne W1 3 39 qb 0 _ (CReq.cells { CReq.zero with tag := (t : Int) } nilS) (.int .i64 (t : Int)) HT.out.c int_size (by show 0 < 16; omega) rfl rfl rfl)
  have HU := Lib.hid (HT.out.row (CReq.cells { CReq.zero with tag := (t : Int) } nilS))
  rw [← hV1] at HS1 HU
  clear HT hV1
  have t0 := HU.out.cell 0 (v := .int .i64 (t : Int)) rfl
  have HE := Lib.hid (show REnd bq br qb w WS ({ CReq.zero with tag := (t : Int) }, s1, false) nilS _ V1 from ⟨rfl, HU.out, OwnOf.nil _ _, HB2.out.1, HB2.out.2, by have := HLO.out; omega⟩)
  clear HU HB2
  have HFIN := Lib.hid (show ParseOk 90 tupB (parseP b) w (.returned (.tuple #[.agg (CReq.zero.cells nilS), .bool false])) (V1.setRow w.heap.size (CReq.zero.cells nilS)) from by rw [HRES.out]; exact ⟨⟨nilS, rfl, OwnOf.nil _ _⟩, HE.out.below _⟩)
  rcases hbad with h0 | h13
  · have d1 : decide ((t : Int) < 1) = true := by rw [decide_eq_true_iff]; omega
    clear h0
    go_wp2_with (first | ((with_reducible refine atStore ?_); refine wpList_store_by rfl 3 (.tmp 22) (.tmp 21) rfl (.pointer (some ⟨qb, 0, none⟩)) _ rfl rfl HS1.out ?_) | ((with_reducible refine atStore ?_); refine wpList_store_by rfl 39 (.tmp 2) (.tmp 31) rfl (.pointer (some ⟨w.heap.size, 0, none⟩)) _ rfl rfl HE.out.runZ ?_))
    refine bodyPost_ret (v := .tuple #[.agg (CReq.zero.cells nilS), .bool false]) (results_row_tmp rfl _ _ w.heap.size (CReq.zero.cells nilS) rfl (run_loadVar_row _ w.heap.size _ _ _ (0, 0) _ (setRow_heap _ _ _ _ _ _ HE.out.rbW) Try.underlying39 rfl rreq_size) _ rfl) rfl ?_
    exact HFIN.out
  · have d1 : decide ((t : Int) < 1) = false := by rw [decide_eq_false_iff_not]; omega
    have d2 : decide ((13 : Int) < (t : Int)) = true := by rw [decide_eq_true_iff]; omega
    clear h13
    go_wp2_with (first | ((with_reducible refine atStore ?_); refine wpList_store_by rfl 3 (.tmp 22) (.tmp 21) rfl (.pointer (some ⟨qb, 0, none⟩)) _ rfl rfl HS1.out ?_) | ((with_reducible refine atStore ?_); refine wpList_store_by rfl 39 (.tmp 2) (.tmp 31) rfl (.pointer (some ⟨w.heap.size, 0, none⟩)) _ rfl rfl HE.out.runZ ?_))
    refine bodyPost_ret (v := .tuple #[.agg (CReq.zero.cells nilS), .bool false]) (results_row_tmp rfl _ _ w.heap.size (CReq.zero.cells nilS) rfl (run_loadVar_row _ w.heap.size _ _ _ (0, 0) _ (setRow_heap _ _ _ _ _ _ HE.out.rbW) Try.underlying39 rfl rreq_size) _ rfl) rfl ?_
    exact HFIN.out
end Go.Proofs.Ytlngefhjoobmdaa
