/- Texts laid together: CmdSam CmdPHead. -/
import Derived.Test.YtlngefhjoobmdaaZCmdSamA
import Derived.Test.YtlngefhjoobmdaaZCmdSamB
import Derived.Test.YtlngefhjoobmdaaZCmdSamC
import Derived.Test.YtlngefhjoobmdaaZCmdSamD
import Derived.Test.YtlngefhjoobmdaaMg3
import Derived.Laws.ResultCell
namespace Go.Proofs.Ytlngefhjoobmdaa
open Go.RowKit
theorem cSame (q r : CReq) (v u : Value) (w : World) (h1 : ∃ a cap, v = .slice a q.ops.length cap ∧ IsRowOf COp.cells (fun _ => True) 5 w a q.ops) (h2 : ∃ a cap, u = .slice a r.ops.length cap ∧ IsRowOf COp.cells (fun _ => True) 5 w a r.ops) (hl : q.ops.length ≤ 1000000000) : Calls Try.prog 36 #[.agg (q.cells v), .agg (r.cells u)] w (BoolIs (decide (q = r)) w) := by
  obtain ⟨tag1, ad1, bu1, qk1, qb1, qg1, tb1, tg1, ts1, tc1, ops1, af1, fi1, co1, ri1, se1⟩ := q
  obtain ⟨tag2, ad2, bu2, qk2, qb2, qg2, tb2, tg2, ts2, tc2, ops2, af2, fi2, co2, ri2, se2⟩ := r
  obtain ⟨a1, cap1, rfl, r1⟩ := h1
  obtain ⟨a2, cap2, rfl, r2⟩ := h2
  simp only at *
  by_cases h0 : tag1 = tag2
  rotate_left
  · rw [decide_eq_false (fun e => h0 (by injection e))]
    exact cSame0 tag1 tag2 ad1 ad2 bu1 bu2 qk1 qk2 qb1 qb2 qg1 qg2 tb1 tb2 tg1 tg2 ts1 ts2 tc1 tc2 ops1 ops2 af1 af2 fi1 fi2 co1 co2 ri1 ri2 se1 se2 a1 a2 cap1 cap2 w r1 r2 hl h0
  subst h0
  by_cases h1 : ad1 = ad2
  rotate_left
  · rw [decide_eq_false (fun e => h1 (by injection e))]
    exact cSame1 tag1 ad1 ad2 bu1 bu2 qk1 qk2 qb1 qb2 qg1 qg2 tb1 tb2 tg1 tg2 ts1 ts2 tc1 tc2 ops1 ops2 af1 af2 fi1 fi2 co1 co2 ri1 ri2 se1 se2 a1 a2 cap1 cap2 w r1 r2 hl h1
  subst h1
  by_cases h2 : bu1 = bu2
  rotate_left
  · rw [decide_eq_false (fun e => h2 (by injection e))]
    exact cSame2 tag1 ad1 bu1 bu2 qk1 qk2 qb1 qb2 qg1 qg2 tb1 tb2 tg1 tg2 ts1 ts2 tc1 tc2 ops1 ops2 af1 af2 fi1 fi2 co1 co2 ri1 ri2 se1 se2 a1 a2 cap1 cap2 w r1 r2 hl h2
  subst h2
  by_cases h3 : qk1 = qk2
  rotate_left
  · rw [decide_eq_false (fun e => h3 (by injection e))]
    exact cSame3 tag1 ad1 bu1 qk1 qk2 qb1 qb2 qg1 qg2 tb1 tb2 tg1 tg2 ts1 ts2 tc1 tc2 ops1 ops2 af1 af2 fi1 fi2 co1 co2 ri1 ri2 se1 se2 a1 a2 cap1 cap2 w r1 r2 hl h3
  subst h3
  by_cases h4 : qb1 = qb2
  rotate_left
  · rw [decide_eq_false (fun e => h4 (by injection e))]
    exact cSame4 tag1 ad1 bu1 qk1 qb1 qb2 qg1 qg2 tb1 tb2 tg1 tg2 ts1 ts2 tc1 tc2 ops1 ops2 af1 af2 fi1 fi2 co1 co2 ri1 ri2 se1 se2 a1 a2 cap1 cap2 w r1 r2 hl h4
  subst h4
  by_cases h5 : qg1 = qg2
  rotate_left
  · rw [decide_eq_false (fun e => h5 (by injection e))]
    exact cSame5 tag1 ad1 bu1 qk1 qb1 qg1 qg2 tb1 tb2 tg1 tg2 ts1 ts2 tc1 tc2 ops1 ops2 af1 af2 fi1 fi2 co1 co2 ri1 ri2 se1 se2 a1 a2 cap1 cap2 w r1 r2 hl h5
  subst h5
  by_cases h6 : tb1 = tb2
  rotate_left
  · rw [decide_eq_false (fun e => h6 (by injection e))]
    exact cSame6 tag1 ad1 bu1 qk1 qb1 qg1 tb1 tb2 tg1 tg2 ts1 ts2 tc1 tc2 ops1 ops2 af1 af2 fi1 fi2 co1 co2 ri1 ri2 se1 se2 a1 a2 cap1 cap2 w r1 r2 hl h6
  subst h6
  by_cases h7 : tg1 = tg2
  rotate_left
  · rw [decide_eq_false (fun e => h7 (by injection e))]
    exact cSame7 tag1 ad1 bu1 qk1 qb1 qg1 tb1 tg1 tg2 ts1 ts2 tc1 tc2 ops1 ops2 af1 af2 fi1 fi2 co1 co2 ri1 ri2 se1 se2 a1 a2 cap1 cap2 w r1 r2 hl h7
  subst h7
  by_cases h8 : ts1 = ts2
  rotate_left
  · rw [decide_eq_false (fun e => h8 (by injection e))]
    exact cSame8 tag1 ad1 bu1 qk1 qb1 qg1 tb1 tg1 ts1 ts2 tc1 tc2 ops1 ops2 af1 af2 fi1 fi2 co1 co2 ri1 ri2 se1 se2 a1 a2 cap1 cap2 w r1 r2 hl h8
  subst h8
  by_cases h9 : tc1 = tc2
  rotate_left
  · rw [decide_eq_false (fun e => h9 (by injection e))]
    exact cSame9 tag1 ad1 bu1 qk1 qb1 qg1 tb1 tg1 ts1 tc1 tc2 ops1 ops2 af1 af2 fi1 fi2 co1 co2 ri1 ri2 se1 se2 a1 a2 cap1 cap2 w r1 r2 hl h9
  subst h9
  by_cases h10 : ops1 = ops2
  rotate_left
  · rw [decide_eq_false (fun e => h10 (by injection e))]
    exact cSame10 tag1 ad1 bu1 qk1 qb1 qg1 tb1 tg1 ts1 tc1 ops1 ops2 af1 af2 fi1 fi2 co1 co2 ri1 ri2 se1 se2 a1 a2 cap1 cap2 w r1 r2 hl h10
  subst h10
  by_cases h11 : af1 = af2
  rotate_left
  · rw [decide_eq_false (fun e => h11 (by injection e))]
    exact cSame11 tag1 ad1 bu1 qk1 qb1 qg1 tb1 tg1 ts1 tc1 ops1 af1 af2 fi1 fi2 co1 co2 ri1 ri2 se1 se2 a1 a2 cap1 cap2 w r1 r2 hl h11
  subst h11
  by_cases h12 : fi1 = fi2
  rotate_left
  · rw [decide_eq_false (fun e => h12 (by injection e))]
    exact cSame12 tag1 ad1 bu1 qk1 qb1 qg1 tb1 tg1 ts1 tc1 ops1 af1 fi1 fi2 co1 co2 ri1 ri2 se1 se2 a1 a2 cap1 cap2 w r1 r2 hl h12
  subst h12
  by_cases h13 : co1 = co2
  rotate_left
  · rw [decide_eq_false (fun e => h13 (by injection e))]
    exact cSame13 tag1 ad1 bu1 qk1 qb1 qg1 tb1 tg1 ts1 tc1 ops1 af1 fi1 co1 co2 ri1 ri2 se1 se2 a1 a2 cap1 cap2 w r1 r2 hl h13
  subst h13
  by_cases h14 : ri1 = ri2
  rotate_left
  · rw [decide_eq_false (fun e => h14 (by injection e))]
    exact cSame14 tag1 ad1 bu1 qk1 qb1 qg1 tb1 tg1 ts1 tc1 ops1 af1 fi1 co1 ri1 ri2 se1 se2 a1 a2 cap1 cap2 w r1 r2 hl h14
  subst h14
  by_cases h15 : se1 = se2
  rotate_left
  · rw [decide_eq_false (fun e => h15 (by injection e))]
    exact cSame15 tag1 ad1 bu1 qk1 qb1 qg1 tb1 tg1 ts1 tc1 ops1 af1 fi1 co1 ri1 se1 se2 a1 a2 cap1 cap2 w r1 r2 hl h15
  subst h15
  rw [decide_eq_true rfl]
  exact cSame16 tag1 ad1 bu1 qk1 qb1 qg1 tb1 tg1 ts1 tc1 ops1 af1 fi1 co1 ri1 se1 a1 a2 cap1 cap2 w r1 r2 hl
end Go.Proofs.Ytlngefhjoobmdaa
namespace Go.Proofs.Ytlngefhjoobmdaa
open Go.RowKit
theorem crTen (bq br qb : Nat) (q : CReq) (s : RS) (bad : Bool) (w : World) (t : Nat) (h5 : 5 < t) (ht : q.tag = (t : Int)) (ho : q.ops = []) (h : QS bq br qb (IsCR bq br) w 32 (q.cells nilS) s bad w) : Calls Try.prog 24 #[.pointer (some ⟨bq, 0, none⟩), .pointer (some ⟨qb, 0, none⟩)] w (TenOk bq br qb q s bad w t) := by
  by_cases h6 : t = 6
  · subst h6; exact crTen6 bq br qb q s bad w h ht ho
  by_cases h7 : t = 7
  · subst h7; exact crTen7 bq br qb q s bad w h ht ho
  by_cases h8 : t = 8
  · subst h8; exact crTen8 bq br qb q s bad w h ht ho
  by_cases h9 : t = 9
  · subst h9; exact crTen9 bq br qb q s bad w h ht
  by_cases h10 : t = 10
  · subst h10; exact crTen10 bq br qb q s bad w h ht ho
  by_cases h12 : t = 12
  · subst h12; exact crTen12 bq br qb q s bad w h ht ho
  by_cases h13 : t = 13
  · subst h13; exact crTen13 bq br qb q s bad w h ht ho
  exact crTen0 bq br qb q s bad w t (by omega) h ht ho
/-- The results: a struct in a cell, and a value. -/
theorem results_row_tmp {fn : Func} {p u : Tmp} {ty : TypeId} (h : fn.results = #[.cell p ty, .tmp u]) (tmps : Array Value) (w : World) (g : Nat) (cs : Array Value)
    (hp : tmps.getD p undef = .pointer (some ⟨g, 0, none⟩)) (hr : (loadVar ty ⟨g, 0, none⟩).run Try.prog w = .ok (.agg cs) w) (x : Value) (hx : tmps.getD u undef = x) :
    (results fn tmps).run Try.prog w = .ok (.tuple #[.agg cs, x]) w := by
  rw [results_cell_tmp h, hp, hx]
  simp only [asAddr, Sem.run_pure, Result.andThen_ok, hr]
theorem cells_one (q : CReq) (a : Option Addr) (n cap : Nat) : (q.cells (.slice a n cap)).all (·.oneCell') = true := by
  unfold CReq.cells
  simp [Value.oneCell']
theorem Reads.bel' {w w' : World} {a : Option Addr} {n cap : Nat} {l : List UInt8} (h : Reads w (.slice a n cap) l) (hb : Below w.heap.size w w') : Reads w' (.slice a n cap) l := by
  obtain ⟨a', cap', h1, h2, h3, h4, h5, h6⟩ := h
  exact ⟨a', cap', h1, h2.bel hb, h3, h4, h5, fun x hx hc => ⟨(h6 x hx hc).1, Nat.lt_of_lt_of_le (h6 x hx hc).2 hb.size⟩⟩
def errN : Option CReq → Nat
  | none => 2
  | some _ => 0
/-- A request, and an error; a request, and whether it is one. -/
def tupE (r : Option CReq) (v : Value) : Value := .tuple #[.agg ((reqOf r).cells v), errV (errN r)]
def tupB (r : Option CReq) (v : Value) : Value := .tuple #[.agg ((reqOf r).cells v), .bool r.isSome]
/-- What Parse comes to. -/
structure ParseOk (E : TypeId) (f : Option CReq → Value → Value) (r : Option CReq) (w : World) (e : Ending) (W : World) : Prop where
  ret : ∃ v, e = .returned (f r v) ∧ OwnOf E COp.cells 5 w.heap.size W v (reqOf r).ops
  bel : Below w.heap.size w W
theorem endP_none {r : CReq × RS × Bool} (h : (r.2.2 || r.2.1.2 || decide (0 < rdLeft r.2.1.1 r.2.1.2)) = true) : endP r = none := if_pos h
theorem endP_some {r : CReq × RS × Bool} (h : (r.2.2 || r.2.1.2 || decide (0 < rdLeft r.2.1.1 r.2.1.2)) = false) : endP r = some r.1 := if_neg (by rw [h]; simp)
theorem QS.start {bq br : Nat} {I : RI} {W : World} {T : TypeId} {Z C : Array Value} {s : RS} {bad : Bool} (G : GoodK bq br I) (h : I W s bad) : QS bq br W.heap.size I ((W.alloc (.cells Z T)).setRow W.heap.size C) T C s bad ((W.alloc (.cells Z T)).setRow W.heap.size C) := by
  have h1 := G.lt h
  exact ⟨G, G.row _ _ (G.bel h ((Below.refl W.heap.size W).alloc (Nat.le_refl _) _)) (by omega) (by omega), setRow_heap _ _ Z _ _ _ (heap_alloc_new W _), T3.refl _ _ _ _, by omega⟩
theorem isReader_first {w : World} {Z : Obj} {a : Option Addr} {cap : Nat} {l : List UInt8} (h : Reads w (.slice a l.length cap) l) : IsReader ((w.alloc Z).alloc (.cells #[.slice a l.length cap, .bool false] 105)) (w.heap.size + 1) l false := by
  have := isReader_new (w := w.alloc Z) (h.bel' ((Below.refl _ _).alloc (Nat.le_refl _) _))
  rwa [World.size_alloc] at this
abbrev Z32 : Obj := .cells (CReq.zero.cells nilS) 32 (0, 0)
abbrev cr3 (w : World) (a : Option Addr) (n cap : Nat) : World := ((w.alloc Z32).alloc (.cells #[.slice a n cap, .bool false] 105)).alloc (.cells #[.pointer (some ⟨w.heap.size + 1, 0, none⟩), .bool false] 74)
theorem parse_start {w : World} {a : Option Addr} {cap : Nat} {l : List UInt8} (h : Reads w (.slice a l.length cap) l) : IsCR (w.heap.size + 2) (w.heap.size + 1) (cr3 w a l.length cap) (l, false) false ∧ Below w.heap.size w (cr3 w a l.length cap) ∧ (cr3 w a l.length cap).heap[w.heap.size]? = some Z32 := by
  have hr := isReader_first (Z := Z32) h
  obtain ⟨w2, hw2⟩ : ∃ w2, w2 = (w.alloc Z32).alloc (.cells #[.slice a l.length cap, .bool false] 105) := ⟨_, rfl⟩
  have hs : w2.heap.size = w.heap.size + 2 := by rw [hw2]; simp
  have hb2 : Below w.heap.size w w2 := by rw [hw2]; exact ((Below.refl _ _).alloc (Nat.le_refl _) _).alloc (by simp) _
  have h0 : w2.heap[w.heap.size]? = some Z32 := by rw [hw2]; exact (Below.heap_alloc _ _ _ (by simp)).trans (heap_alloc_new w _)
  unfold cr3
  rw [← hw2] at hr ⊢
  have hb3 := (Below.refl w2.heap.size w2).alloc (Nat.le_refl _) (.cells #[.pointer (some ⟨w.heap.size + 1, 0, none⟩), .bool false] 74)
  refine ⟨⟨?_, hr.bel hb3, by omega⟩, hb2.trans (hb3.mono (by omega)), (hb3.block _ (by omega)).trans h0⟩
  rw [← hs]
  exact heap_alloc_new w2 _
theorem parse_box {w w3 W1 : World} {bq br : Nat} {s : RS} {bad : Bool} (C : Array Value) (hb : Below w.heap.size w w3) (h0 : w3.heap[w.heap.size]? = some Z32) (h1 : w.heap.size < br) (h2 : w.heap.size < bq) (hr : IsCR bq br W1 s bad) (hg : TG bq br w3 W1) :
    QS bq br W1.heap.size (IsCR bq br) ((W1.alloc Z32).setRow W1.heap.size C) 32 C s bad ((W1.alloc Z32).setRow W1.heap.size C) ∧ Below w.heap.size w ((W1.alloc Z32).setRow W1.heap.size C) ∧ ((W1.alloc Z32).setRow W1.heap.size C).heap[w.heap.size]? = some Z32 ∧ (w.heap.size < br ∧ w.heap.size < bq ∧ w.heap.size < W1.heap.size) := by
  have hlt : w.heap.size < w3.heap.size := (Array.getElem?_eq_some_iff.1 h0).1
  have hlt1 : w.heap.size < W1.heap.size := Nat.lt_of_lt_of_le hlt hg.size
  have hbW : Below w.heap.size w W1 := hb.trans (hg.below hb.size (by omega) (by omega))
  have hbA := hbW.alloc hbW.size Z32
  refine ⟨QS.start (goodKCR bq br) hr, ⟨hbA.os, hbA.tape, hbA.output, by simpa [World.setRow] using hbA.size, fun k hk => (setRow_other _ _ _ _ (by omega)).trans (hbA.block k hk)⟩, ?_, h1, h2, hlt1⟩
  refine (setRow_other _ _ _ _ (by omega)).trans ((Below.heap_alloc _ _ _ hlt1).trans ((hg.block _ hlt (by omega) (by omega)).trans h0))
/-- The ending's facts. -/
structure ParseEnd (bq br qb : Nat) (w w1 : World) (r : CReq × RS × Bool) (v : Value) (C : Array Value) (W : World) : Prop where
  c : C = r.1.cells v
  st : QS bq br qb (IsCR bq br) w1 32 C r.2.1 r.2.2 W
  own : OwnOf 93 COp.cells 5 (qb + 1) W v r.1.ops
  bel : Below w.heap.size w w1
  rb : w1.heap[w.heap.size]? = some (.cells (CReq.zero.cells nilS) 32 (0, 0))
  lo : w.heap.size < br ∧ w.heap.size < bq ∧ w.heap.size < qb
section
variable {bq br qb : Nat} {w w1 W : World} {r : CReq × RS × Bool} {v : Value} {C : Array Value}
theorem ParseEnd.rbW (h : ParseEnd bq br qb w w1 r v C W) : W.heap[w.heap.size]? = some (.cells (CReq.zero.cells nilS) 32 (0, 0)) := by
  have h1 := h.lo
  exact (h.st.tg.block _ (Array.getElem?_eq_some_iff.1 h.rb).1 (by omega) (by omega) (by omega)).trans h.rb
theorem ParseEnd.below (h : ParseEnd bq br qb w w1 r v C W) (cs : Array Value) : Below w.heap.size w (W.setRow w.heap.size cs) := by
  have h1 := h.lo
  have h2 := h.bel.trans (h.st.tg.below h.bel.size (by omega) (by omega) (by omega))
  exact ⟨h2.os, h2.tape, h2.output, by simpa [World.setRow] using h2.size, fun k hk => (setRow_other W _ k cs (by omega)).trans (h2.block k hk)⟩
theorem ParseEnd.bad (h : ParseEnd bq br qb w w1 r v C W) (hb : (r.2.2 || r.2.1.2 || decide (0 < rdLeft r.2.1.1 r.2.1.2)) = true) : ParseOk 93 tupE (endP r) w (.returned (.tuple #[.agg (CReq.zero.cells nilS), errV 2])) (W.setRow w.heap.size (CReq.zero.cells nilS)) := by
  rw [endP_none hb]
  exact ⟨⟨nilS, rfl, OwnOf.nil _ _⟩, h.below _⟩
theorem ParseEnd.good (h : ParseEnd bq br qb w w1 r v C W) (hb : (r.2.2 || r.2.1.2 || decide (0 < rdLeft r.2.1.1 r.2.1.2)) = false) : ParseOk 93 tupE (endP r) w (.returned (.tuple #[.agg C, .nilIface])) (W.setRow w.heap.size C) := by
  rw [endP_some hb]
  have h1 := h.lo
  refine ⟨⟨v, by rw [h.c]; rfl, (h.own.kept fun k hk => ?_).mono (by omega)⟩, h.below _⟩
  have := (h.own.block k hk).1
  exact setRow_other W _ k C (by omega)
theorem ParseEnd.runZ (h : ParseEnd bq br qb w w1 r v C W) : (Instr.storeAt 32 (.pointer (some ⟨w.heap.size, 0, none⟩)) (.agg (CReq.zero.cells nilS))).run Try.prog W = .ok () (W.setRow w.heap.size (CReq.zero.cells nilS)) :=
  run_storeRow _ _ _ _ _ h.rbW req_size rfl (cells_one _ _ _ _)
theorem ParseEnd.runC (h : ParseEnd bq br qb w w1 r v C W) : (Instr.storeAt 32 (.pointer (some ⟨w.heap.size, 0, none⟩)) (.agg C)).run Try.prog W = .ok () (W.setRow w.heap.size C) := by
  obtain ⟨a, cap, hv⟩ := h.own.slice
  have hc := h.c
  subst hc
  exact run_storeRow _ _ _ _ _ h.rbW req_size rfl (by rw [hv]; exact cells_one _ _ _ _)
theorem ParseEnd.size (h : ParseEnd bq br qb w w1 r v C W) : (Try.prog.info? 32).map (·.size) = some C.size := by
  rw [h.c]
  exact req_size
end
end Go.Proofs.Ytlngefhjoobmdaa
