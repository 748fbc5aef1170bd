/- Texts laid together: CmdParse CmdSame. -/
import Derived.Test.YtlngefhjoobmdaaZCmdP45
import Derived.Test.YtlngefhjoobmdaaZCmdP2
import Derived.Test.YtlngefhjoobmdaaZCmdP0
import Derived.Test.YtlngefhjoobmdaaZCmdPQ1
import Derived.Test.YtlngefhjoobmdaaZCmdPQ3
import Derived.Test.YtlngefhjoobmdaaZCmdPT
import Derived.Test.YtlngefhjoobmdaaMg4
import Derived.Test.YtlngefhjoobmdaaMg1
import Derived.BigQuiet
namespace Go.Proofs.Ytlngefhjoobmdaa
open Go.RowKit
theorem crParse (a : Option Addr) (cap : Nat) (b : List UInt8) (w : World) (h : Reads w (.slice a b.length cap) b) : Calls Try.prog 7 #[.slice a b.length cap] w (ParseOk 93 tupE (parseP b) w) := by
  obtain ⟨t, ht⟩ : ∃ x, x = rN 1 (b, false) := ⟨_, rfl⟩
  by_cases h6 : 5 < t
  · exact crParseT a cap b w h t _ ht rfl h6
  by_cases h4 : 4 ≤ t
  · exact crParse45 a cap b w h t _ ht rfl ⟨h4, by omega⟩
  by_cases h0 : t = 0
  · exact crParse0 a cap b w h t _ ht rfl h0
  by_cases h2 : t = 2
  · exact crParse2 a cap b w h t _ ht rfl h2
  by_cases h1 : t = 1
  · exact crParseQ1 a cap b w h t _ ht rfl h1
  exact crParseQ3 a cap b w h t _ ht rfl (by omega)
end Go.Proofs.Ytlngefhjoobmdaa
namespace Go.Proofs.Ytlngefhjoobmdaa
open Go.RowKit
/-- A bool; new blocks alone. -/
def BoolIs (b : Bool) (w : World) (e : Ending) (W : World) : Prop := e = .returned (.bool b) ∧ Below w.heap.size w W
theorem gives_load_op {o : Oper} {a : Act} {w : World} (ty : TypeId) (x : Operand) (ho : o.op = .load ty x) (p v : Value) (hx : a.eval x = p) (hr : (Instr.loadAt ty p).run Try.prog w = .ok v w) : Reg.gives Try.prog o a w (fun v' w' => v' = v ∧ w' = w) := by
  unfold Reg.gives execOp
  simp only [ho, hx, Sem.run_bind, hr, Result.andThen_ok, Sem.run_pure]
  exact ⟨trivial, trivial⟩
theorem run_load_range (w : World) (b o : Nat) (T : TypeId) (cs : List Value) (d : TypeDesc) (hc : w.rangeAt b o cs) (hu : Try.prog.underlying T = some d) (hd : d.isRow = true) (hi : (Try.prog.info? T).map (·.size) = some cs.length) : (Instr.loadAt T (.pointer (some ⟨b, o, none⟩))).run Try.prog w = .ok (.agg cs.toArray) w := by
  simp only [Instr.loadAt, Instr.sureAddr, Sem.run_bind, Sem.run_pure, Result.andThen_ok, run_loadVar_mid w b o T cs d hc hu hd hi]
theorem lists_ne' {α : Type} {l m : List α} {j : Nat} (h1 : j < l.length) (h2 : j < m.length) (h : l[j] ≠ m[j]) : l ≠ m := by
  intro e
  subst e
  exact h rfl
/-- A guarded load of a struct that lies in a row. -/
theorem wpList_load_midG {ops : Array Oper} {rest : List Oper} {o : Oper} {a : Act} {w : World} {Q : Exit → Act → World → Prop} (ty : TypeId) (x : Operand) (ho : o.op = .load ty x) (b off : Nat) (hx : a.eval x = .pointer (some ⟨b, off, none⟩)) (cs : List Value) (d : TypeDesc)
    (hc : w.rangeAt b off cs) (hu : Try.prog.underlying ty = some d) (hd : d.isRow = true) (hi : (Try.prog.info? ty).map (·.size) = some cs.length) (hw : Region.wanted o (yielded ops a.tmps) = true)
    (h : wpList Try.prog ops Q rest (a.put o.dst (.agg cs.toArray)) w) : wpList Try.prog ops Q (o :: rest) a w := by
  rw [wpList, if_pos hw]
  exact .inl (wp_load_mid ty x ho b off hx cs d hc hu hd hi h)
theorem range_below {w W : World} {b o : Nat} {cs : List Value} (h : w.rangeAt b o cs) (hb : Below w.heap.size w W) (hlt : b < w.heap.size) : W.rangeAt b o cs := fun j v hv => (hb.cell (p := ⟨b, o + j, none⟩) hlt).trans (h j v hv)
set_option maxRecDepth 100000 in
set_option maxHeartbeats 4000000 in
theorem cEqual (a1 : Option Addr) (c1 : Nat) (l : List COp) (a2 : Option Addr) (c2 : Nat) (m : List COp) (w : World) (hl : l.length ≤ 1000000000) (h1 : IsRowOf COp.cells (fun _ => True) 5 w a1 l) (h2 : IsRowOf COp.cells (fun _ => True) 5 w a2 m) :
    Calls Try.prog 55 #[.slice a1 l.length c1, .slice a2 m.length c2] w (BoolIs (decide (l = m)) w) := by
  have H1 := Lib.hid h1
  have H2 := Lib.hid h2
  clear h1 h2
  by_cases hne : l.length = m.length
  rotate_left
  · have d0 : ((l.length : Int) != (m.length : Int)) = true := by rw [bne_iff_ne]; omega
    have hd : decide (l = m) = false := decide_eq_false (fun e => hne (by rw [e]))
    have HD := Lib.hid hd
    clear hd hne
    go_enter Try.func55, Try.ntmps55
    go_wp2
    go_ret
    exact ⟨by rw [HD.out]; rfl, Below.refl _ _⟩
  have d0 : ((l.length : Int) != (m.length : Int)) = false := by rw [hne]; simp
  have HNE := Lib.hid hne
  clear hne
  go_enter Try.func55, Try.ntmps55
  go_wp2
  go_loopw [13] (fun i wr => ∃ j : Nat, j ≤ l.length ∧ i = .int .i64 j ∧ Hid (l.take j = m.take j) ∧ Hid (Below w.heap.size w wr)) (fun i _ => l.length - (intOf i).toNat)
  case atStart => exact ⟨0, Nat.zero_le _, rfl, rfl, Below.refl _ _⟩
  case round =>
    obtain ⟨j, hj, rfl, HT, HB⟩ := hrel
    by_cases hlt : j < l.length
    · have hlm : j < m.length := by have := HNE.out; omega
      have hji : (j : Int) < (l.length : Int) := by omega
      have hji2 : (j : Int) < (m.length : Int) := by omega
      obtain ⟨b1, o1, rfl, hb1, hr1, _⟩ := H1.out j hlt
      obtain ⟨b2, o2, rfl, hb2, hr2, _⟩ := H2.out j hlm
      have HLD1 := Lib.hid (fun (w2 : World) (hb : Below w.heap.size w w2) => run_load_range w2 b1 (o1 + j * 5) 93 _ _ (range_below (range_of hr1) hb hb1) Try.underlying93 rfl cop_size)
      have HLD2 := Lib.hid (fun (w2 : World) (hb : Below w.heap.size w w2) => run_load_range w2 b2 (o2 + j * 5) 93 _ _ (range_below (range_of hr2) hb hb2) Try.underlying93 rfl cop_size)
      have HTK := Lib.hid (fun (e : l[j] = m[j]) => show l.take (j + 1) = m.take (j + 1) from by rw [List.take_succ_eq_append_getElem hlt, List.take_succ_eq_append_getElem hlm, HT.out, e])
      have HBAD := Lib.hid (fun (e : l[j] ≠ m[j]) => show decide (l = m) = false from decide_eq_false (lists_ne' hlt hlm e))
      have HNQ := Lib.hid (fun w => op_neq w l[j] m[j])
      clear hr1 hr2 hb1 hb2
      generalize l[j] = r at *
      generalize m[j] = s at *
      clear hlm
      unfold COp.v at HNQ
      generalize r.cells.toArray = C at *
      generalize s.cells.toArray = D at *
      go_wp2
      refine Reg.wp_region0 (by kernel_rfl) (by kernel_rfl) ?_
      refine Reg.seg0 3 (by kernel_rfl) rfl ?_
      apply Exists.intro
      refine ⟨fun e => ?_, ?_⟩
      · simp only [List.take_succ_cons, List.take_zero]
        repeat (go_big_quiet_step ((intro _; rfl)))
        refine wpQuiet_nil ?_
        exact rfl
      simp only [List.drop_succ_cons, List.drop_zero, Nat.reduceAdd]
      refine Reg.const0 (.agg C) (fun e w2 hR hf => ⟨by rfl, ?_⟩) ?_
      · refine Reg.gives_mono (fun v' w' h => ?_) (gives_load_op 93 (.tmp 18) rfl _ _ rfl (HLD1.out w2 (below_next HB.out (((Below.refl _ _).drew).trans hR))))
        obtain ⟨rfl, rfl⟩ := h
        exact ⟨Reg.bel_refl _, rfl⟩
      simp only [Act.put, List.setIfInBounds_toArray, List.set_cons_zero, List.set_cons_succ, Nat.reduceAdd]
      refine Reg.seg0 3 (by kernel_rfl) rfl ?_
      apply Exists.intro
      refine ⟨fun e => ?_, ?_⟩
      · simp only [List.take_succ_cons, List.take_zero]
        repeat (go_big_quiet_step ((intro _; rfl)))
        refine wpQuiet_nil ?_
        exact rfl
      simp only [List.drop_succ_cons, List.drop_zero, Nat.reduceAdd]
      refine Reg.const0 (.agg D) (fun e w2 hR hf => ⟨by rfl, ?_⟩) ?_
      · refine Reg.gives_mono (fun v' w' h => ?_) (gives_load_op 93 (.tmp 22) rfl _ _ rfl (HLD2.out w2 (below_next HB.out (((Below.refl _ _).drew).trans hR))))
        obtain ⟨rfl, rfl⟩ := h
        exact ⟨Reg.bel_refl _, rfl⟩
      simp only [Act.put, List.setIfInBounds_toArray, List.set_cons_zero, List.set_cons_succ, Nat.reduceAdd]
      refine Reg.const0 (.bool (!decide (r = s))) (fun e w2 hR hf => ⟨by rfl, ?_⟩) ?_
      · refine Reg.gives_mono (fun v' w' h => ?_) (gives_structEq 93 op_guard (.tmp 19) (.tmp 23) .neq rfl C D _ rfl rfl HNQ.out)
        obtain ⟨rfl, rfl⟩ := h
        exact ⟨Reg.bel_refl _, rfl⟩
      simp only [Act.put, List.setIfInBounds_toArray, List.set_cons_zero, List.set_cons_succ, Nat.reduceAdd]
      intro e W9 hR hJ hf
      have HB9 := Lib.hid (below_next HB.out (((Below.refl _ _).drew).trans hR))
      clear hR hJ hf
      by_cases hrs : r = s
      · have HK := Lib.hid (HTK.out hrs)
        rw [decide_eq_true hrs]
        clear hrs HTK HBAD HLD1 HLD2 HNQ HT
        go_wp2
        go_roundw
        case rel => exact ⟨j + 1, by omega, by go_num, HK, HB9⟩
        case measure => simp [intOf]; omega
      · have HK := Lib.hid (HBAD.out hrs)
        rw [decide_eq_false hrs]
        clear hrs HTK HBAD HLD1 HLD2 HNQ HT
        go_wp2
        go_ret
        exact ⟨by rw [HK.out]; rfl, HB9.out⟩
    · obtain rfl : j = l.length := by omega
      have HE : Hid (decide (l = m) = true) := decide_eq_true (by have := HT.out; rw [List.take_length, HNE.out, List.take_length] at this; exact this)
      clear HT
      go_wp2
      go_ret
      exact ⟨by rw [HE.out]; rfl, HB.out⟩
/-- Equal requests: field by field. -/
theorem creq_ext {q r : CReq} (h0 : q.tag = r.tag) (h1 : q.admin = r.admin) (h2 : q.bucket = r.bucket) (h3 : (q.qk, q.qb, q.qg) = (r.qk, r.qb, r.qg)) (h4 : (q.tb, q.tg, q.ts, q.tc) = (r.tb, r.tg, r.ts, r.tc)) (h5 : q.ops = r.ops) (h6 : q.after = r.after) (h7 : q.first = r.first) (h8 : q.count = r.count) (h9 : q.rights = r.rights) (h10 : q.serial = r.serial) : q = r := by
  obtain ⟨⟩ := q
  obtain ⟨⟩ := r
  simp only [Prod.mk.injEq] at *
  simp only [CReq.mk.injEq]
  exact ⟨h0, h1, h2, h3.1, h3.2.1, h3.2.2, h4.1, h4.2.1, h4.2.2.1, h4.2.2.2, h5, h6, h7, h8, h9, h10⟩
end Go.Proofs.Ytlngefhjoobmdaa
