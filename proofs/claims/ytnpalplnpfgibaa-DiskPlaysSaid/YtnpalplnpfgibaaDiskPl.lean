/- DiskPlays: the state of its loop: both disks, apart from each other. -/
import Derived.Test.YtnpalplnpfgibaaDiskSame
import Derived.Test.YtnpalplnpfgibaaOne
namespace Go.Proofs.Ytnpalplnpfgibaa
open Go.RowKit
/-- The one writing call of a drawn region, of a known value. -/
theorem Reg.callK {P : Program} {ops : Array Oper} {R : World → World → Prop} {w0 : World} {Q : Exit → Act → World → Prop} {i : Nat} {P0 P1 : World → Prop} {o : Oper} {rest : List Oper} {A : Reg.Env → Act} {fs : List (Nat × (Reg.Env → World → Prop))} (c : Value)
    (h : ∀ e w, R w0 w → P0 w → Region.wanted o (yielded ops (A e).tmps) = true ∧ Reg.gives P o (A e) w (fun v w' => R w w' ∧ P1 w' ∧ v = c))
    (hs : Reg.Steps P ops R (Reg.oneJ i P0 P1) w0 Q rest (i + 1) (fun e => (A e).put o.dst c) fs) : Reg.Steps P ops R (Reg.oneJ i P0 P1) w0 Q (o :: rest) i A fs :=
  Reg.steps_const c (fun e w L hN hR hJ _ => ⟨(h e w hR (hJ.1 hN.1)).1, Reg.gives_mono (fun v w' hh => by
    refine ⟨hh.1, ⟨fun hf => ?_, fun _ => hh.2.1⟩, hh.2.2⟩
    simp [Reg.upd] at hf) (h e w hR (hJ.1 hN.1)).2⟩) hs
structure DP (w : World) (bm bx : Nat) (st : DSt) (D : DataW Unit) (L : List Ent) (st' : DSt) (v : Value) (l : List RF) (j : Nat) (W : World) : Prop where
  d : IsDisk W bm st D L
  r : IsRD W bx st' v l
  like : Like st st'
  perm : (fsOf L).Perm (rfsOf l)
  rise : Rise l
  len : l.length ≤ j
  used : usedR l ≤ 1000 * j
  eff : st.eff ≤ j
  capL : -9223372036854775808 ≤ st.cap
  capH : st.cap ≤ 9223372036854775807
  room : (usedR l : Int) ≤ max st.cap 0
  apart : ∀ k, Own bm L k → ¬ ROwn bx v l k
  bel : Below w.heap.size w W
  lo1 : w.heap.size ≤ bm
  lo2 : w.heap.size ≤ bx
section
variable {w : World} {bm bx : Nat} {st : DSt} {D : DataW Unit} {L : List Ent} {st' : DSt} {v : Value} {l : List RF} {j : Nat} {W : World}
theorem DP.both (h : DP w bm bx st D L st' v l j W) (hj : j ≤ 100) : Both W bm st D L bx st' v l := by
  have h1 := h.len
  have h2 := h.used
  have h3 := h.eff
  exact ⟨h.d, h.r, h.like, h.perm, h.rise, by omega, by omega, by omega, h.capL, h.capH, h.room⟩
theorem DP.bel' (h : DP w bm bx st D L st' v l j W) {W1 : World} (hb : Below W.heap.size W W1) : DP w bm bx st D L st' v l j W1 :=
  { h with d := h.d.bel hb, r := h.r.bel hb, bel := h.bel.trans (hb.mono h.bel.size) }
theorem DP.more (h : DP w bm bx st D L st' v l j W) : DP w bm bx st D L st' v l (j + 1) W :=
  { h with len := by have := h.len; omega, used := by have := h.used; omega, eff := by have := h.eff; omega }
/-- A row that lay ahead of both disks is none of theirs. -/
theorem DP.old (h : DP w bm bx st D L st' v l j W) {a : Option Addr} {b : List UInt8} (hb : IsBytes w a b) : IsBytes W a b ∧ (∀ k off, a = some ⟨k, off, none⟩ → 0 < b.length → ¬ Own bm L k) ∧ (∀ k off, a = some ⟨k, off, none⟩ → 0 < b.length → ¬ ROwn bx v l k) := by
  have hlt : ∀ k off, a = some ⟨k, off, none⟩ → 0 < b.length → k < w.heap.size := fun k off e h0 => by
    obtain ⟨b', off', h1, h2, _⟩ := hb 0 h0
    rw [e] at h1
    cases h1
    exact h2
  refine ⟨hb.below h.bel (Nat.le_refl _), fun k off e h0 ho => ?_, fun k off e h0 ho => ?_⟩
  · have h1 := hlt k off e h0
    have h2 := own_lo h.d.fs ho
    have := h.lo1
    omega
  · have h1 := hlt k off e h0
    have h2 := rown_lo h.r ho
    have := h.lo2
    omega
structure Mid (w : World) (bm bx : Nat) (r : Nat × DSt × Files) (D : DataW Unit) (L : List Ent) (st' : DSt) (v : Value) (l : List RF) (W : World) : Prop where
  d : IsDisk W bm r.2.1 D L
  p : (fsOf L).Perm r.2.2
  rd : IsRD W bx st' v l
  apart : ∀ k, Own bm L k → ¬ ROwn bx v l k
  bel : Below w.heap.size w W
theorem Mid.bel' {r : Nat × DSt × Files} (h : Mid w bm bx r D L st' v l W) {W1 : World} (hb : Below W.heap.size W W1) : Mid w bm bx r D L st' v l W1 :=
  { h with d := h.d.bel hb, rd := h.rd.bel hb, bel := h.bel.trans (hb.mono h.bel.size) }
theorem DP.mid0 (h : DP w bm bx st D L st' v l j W) {r : Nat × DSt × Files} {W4 : World} {D4 : DataW Unit} {L4 : List Ent} (h4 : IsDisk W4 bm r.2.1 D4 L4) (g4 : DGrew bm W W4 L L4) (p4 : (fsOf L4).Perm r.2.2) {nb : Nat} {c : Obj} (hb : W.heap[nb]? = some c) (hno : ¬ Own bm L nb) :
    Mid w bm bx r D4 L4 st' v l W4 ∧ W4.heap[nb]? = some c := by
  refine ⟨⟨h4, p4, h.r.kept g4.size fun k hk => g4.block k (rown_lt h.r hk) fun ho => h.apart k ho hk, fun k hk hr => ?_, h.bel.trans (g4.below h.d.fs h.lo1)⟩, (g4.block nb (Array.getElem?_eq_some_iff.1 hb).1 hno).trans hb⟩
  rcases g4.own k hk with h1 | h1
  · exact h.apart k h1 hr
  · have := rown_lt h.r hr
    omega
theorem DP.mid (h : DP w bm bx st D L st' v l j W) {r : Nat × DSt × Files} {e : Ending} {W4 : World} (ha : DAns r bm L W e W4) {nb : Nat} {c : Obj} (hb : W.heap[nb]? = some c) (hno : ¬ Own bm L nb) :
    ∃ D4 L4, Mid w bm bx r D4 L4 st' v l W4 ∧ W4.heap[nb]? = some c := by
  obtain ⟨D4, L4, h4, g4, p4⟩ := ha.st
  exact ⟨D4, L4, h.mid0 h4 g4 p4 hb hno⟩
theorem rg_below {W5 W6 : World} {v' : Value} {l' : List RF} (hr : IsRD W5 bx st' v l) (g : RGrew bx W5 W6 v v' l l') (hz : w.heap.size ≤ W5.heap.size) (hlo : w.heap.size ≤ bx) : Below w.heap.size W5 W6 :=
  ⟨g.os, g.tape, g.output, g.size, fun k hk => g.block k (Nat.lt_of_lt_of_le hk hz) (fun ho => by have := rown_lo hr ho; omega)⟩
theorem DP.done0 (h : DP w bm bx st D L st' v l j W) {r : Nat × DSt × Files} {D4 : DataW Unit} {L4 : List Ent} {W5 W6 : World} (m : Mid w bm bx r D4 L4 st' v l W5) {st'' : DSt} {v' : Value} {l' : List RF} (h6 : IsRD W6 bx st'' v' l') (g6 : RGrew bx W5 W6 v v' l l') (lk : Like r.2.1 st'') (hp : r.2.2.Perm (rfsOf l')) (hr : Rise l') (b : Bnd st' st'' l l') :
    DP w bm bx r.2.1 D4 L4 st'' v' l' (j + 1) W6 := by
  have e1 := lk.cap
  have e2 := b.cap
  have e3 := h.like.cap
  have e4 := lk.eff
  have e5 := b.eff
  have e6 := h.like.eff
  have e7 := h.eff
  have e8 := h.len
  have e9 := b.len
  have f1 := h.used
  have f2 := b.u1
  have f3 := b.u2
  have f4 := h.room
  have f5 := h.capL
  have f6 := h.capH
  refine ⟨m.d.kept fun k hk => g6.block k (own_lt m.d hk) fun ho => m.apart k hk ho, h6, lk, m.p.trans hp, hr, by omega, by omega, by omega, by omega, by omega, by omega, fun k hk hro => ?_, m.bel.trans (rg_below m.rd g6 m.bel.size h.lo2), h.lo1, h.lo2⟩
  rcases g6.own k hro with h1 | h1
  · exact m.apart k hk h1
  · have := own_lt m.d hk
    omega
theorem DP.done (h : DP w bm bx st D L st' v l j W) {r : Nat × DSt × Files} {D4 : DataW Unit} {L4 : List Ent} {W5 W6 : World} {e : Ending} (m : Mid w bm bx r D4 L4 st' v l W5) (ha : RAns r bx st' v l W5 e W6) :
    e = .returned (.int .i64 (r.1 : Int)) ∧ Below w.heap.size W5 W6 ∧ ∃ st'' v' l', DP w bm bx r.2.1 D4 L4 st'' v' l' (j + 1) W6 := by
  obtain ⟨v', l', st'', h6, g6, lk, hp, hr, b⟩ := ha.st
  exact ⟨ha.ret, rg_below m.rd g6 m.bel.size h.lo2, st'', v', l', h.done0 m h6 g6 lk hp hr b⟩
theorem DP.doneR (h : DP w bm bx st D L st' v l j W) {st2 st2' : DSt} {W5 W6 : World} {e : Ending} (m : Mid w bm bx (0, st2, fsOf L) D L st' v l W5) (ha : RDid st2' bx v l W5 e W6) (lk : Like st2 st2') (hc : st2'.cap = st'.cap) (he : st2'.eff = st'.eff) :
    DP w bm bx st2 D L st2' v l (j + 1) W6 :=
  h.done0 (r := (0, st2, fsOf L)) m ha.st.1 ha.st.2 lk h.perm h.rise ⟨by omega, by omega, by omega, by omega, hc⟩
end
theorem createS_c (st : DSt) (fs : Files) (n : ByteArray) : (createS st fs n).1 ≤ 15 := by
  unfold createS
  repeat' split
  all_goals simp
theorem appendS_c (st : DSt) (fs : Files) (n : ByteArray) (b : List UInt8) : (appendS st fs n b).1 ≤ 15 := by
  unfold appendS
  repeat' split
  all_goals simp
theorem syncS_c (st : DSt) (fs : Files) (n : ByteArray) : (syncS st fs n).1 ≤ 15 := by
  unfold syncS
  repeat' split
  all_goals simp
theorem cutS_c (st : DSt) (fs : Files) (n : ByteArray) (k : Int) : (cutS st fs n k).1 ≤ 15 := by
  unfold cutS
  repeat' split
  all_goals simp
theorem renS_c (st : DSt) (fs : Files) (n to : ByteArray) : (renS st fs n to).1 ≤ 15 := by
  unfold renS
  repeat' split
  all_goals simp
theorem delS_c (st : DSt) (fs : Files) (n : ByteArray) : (delS st fs n).1 ≤ 15 := by
  unfold delS
  repeat' split
  all_goals simp
theorem pickN (c : Int) (w : World) (hc : (Lit.int .i64 c).wf = true) : Calls Try.prog 50 #[.int .i64 c, .int .i64 10] w (fun e w' => (∃ p : Int, 0 ≤ p ∧ p < 10 ∧ e = .returned (.int .i64 p)) ∧ w' = w) := by
  obtain ⟨h1, h2⟩ := i64_of_wf hc
  by_cases h : c < 0
  · have d : decide (c < 0) = true := by simp; omega
    have hw1 : IntKind.i64.wrap (c + 1) = c + 1 := by rw [IntKind.wrap_i64]; omega
    have hw2 : IntKind.i64.wrap (-(c + 1)) = -(c + 1) := by rw [IntKind.wrap_i64]; omega
    have HH := Lib.hid h
    clear h h1 h2 hc
    go_enter Try.func50, Try.ntmps50
    go_wp2
    go_ret
    refine ⟨⟨-(c + 1).tmod 10, ?_, ?_, rfl⟩, rfl⟩ <;> rw [← Int.neg_tmod]
    · exact Int.tmod_nonneg _ (by have := HH.out; omega)
    · exact Int.tmod_lt_of_pos _ (by omega)
  · have d : decide (c < 0) = false := by simp; omega
    have HH := Lib.hid h
    clear h h1 h2 hc
    go_enter Try.func50, Try.ntmps50
    go_wp2
    go_ret
    refine ⟨⟨c.tmod 10, ?_, ?_, rfl⟩, rfl⟩
    · exact Int.tmod_nonneg _ (by have := HH.out; omega)
    · exact Int.tmod_lt_of_pos _ (by omega)
/-- A deed's box. -/
structure DBox (w : World) (b : Nat) (x : Dd) : Prop where
  q0 : w.cell? ⟨b, 0, none⟩ = some (.int .i64 x.what)
  q1 : w.cell? ⟨b, 1, none⟩ = some (.string x.name)
  q2 : w.cell? ⟨b, 2, none⟩ = some (.string x.to)
  q3 : w.cell? ⟨b, 3, none⟩ = some (.slice x.ba x.b.length x.bcap)
  q4 : w.cell? ⟨b, 4, none⟩ = some (.int .i64 x.n)
  q5 : w.cell? ⟨b, 5, none⟩ = some (.int .i64 x.m)
  lt : b < w.heap.size
def ddBox (x : Dd) : Obj := .cells #[.int .i64 x.what, .string x.name, .string x.to, .slice x.ba x.b.length x.bcap, .int .i64 x.n, .int .i64 x.m] 60 (0, 0)
theorem ddBox_at {w : World} {b : Nat} {x : Dd} (h : w.heap[b]? = some (ddBox x)) : DBox w b x := by
  have h0 := fun i => cell_of_row w b i _ _ _ h
  exact ⟨by simpa using h0 0, by simpa using h0 1, by simpa using h0 2, by simpa using h0 3, by simpa using h0 4, by simpa using h0 5, (Array.getElem?_eq_some_iff.1 h).1⟩
theorem sameNone {w : World} {bm : Nat} {st : DSt} {D : DataW Unit} {L : List Ent} {bx : Nat} {st' : DSt} {v : Value} {l : List RF} (h : Both w bm st D L bx st' v l) {n : ByteArray} (hi : rfIs l n = false) : ∀ e ∈ L, e.name ≠ n :=
  hasF_no ((has_look h.rise h.perm n).trans hi)
theorem sameBad {w : World} {bm : Nat} {st : DSt} {D : DataW Unit} {L : List Ent} {bx : Nat} {st' : DSt} {v : Value} {l : List RF} (h : Both w bm st D L bx st' v l) (hd : st.down = false) {q : RF} (hq : q ∈ l) {i j : Int} (hb : readBad q.b i j) {n : ByteArray} (hn : q.name = n) : Calls Try.prog 30 #[.pointer (some ⟨bm + 1, 0, none⟩), .string n, .int .i64 i, .int .i64 j] w (DRead 1 w) := by
  obtain ⟨e, he, h1, h2⟩ := h.ent hq
  have h3 := readBadArg bm st D L e i j w h.d h.wf hd he (by rw [h2]; exact hb)
  rw [h1, hn] at h3
  exact h3
theorem sameGood {w : World} {bm : Nat} {st : DSt} {D : DataW Unit} {L : List Ent} {bx : Nat} {st' : DSt} {v : Value} {l : List RF} (h : Both w bm st D L bx st' v l) (hd : st.down = false) {q : RF} (hq : q ∈ l) {i j : Nat} (hb : i + j ≤ q.b.length) {n : ByteArray} (hn : q.name = n) : Calls Try.prog 30 #[.pointer (some ⟨bm + 1, 0, none⟩), .string n, .int .i64 (i : Int), .int .i64 (j : Int)] w (ReadOk ((q.b.drop i).take j) w) := by
  obtain ⟨e, he, h1, h2⟩ := h.ent hq
  have h3 := readOk bm st D L e i j w h.d h.wf hd he (by rw [h2]; exact hb)
  rw [h1, hn, h2] at h3
  exact h3
/-- Where 'b[i:]' lies. -/
def subA (a : Option Addr) (cap i : Nat) : Option Addr := if cap = i then a else a.map (·.add i)
theorem IsBytes.sub' {w : World} {a : Option Addr} {l : List UInt8} (h : IsBytes w a l) {cap : Nat} (hc : l.length ≤ cap) (i j : Nat) : IsBytes w (subA a cap i) ((l.drop i).take j) := by
  by_cases h0 : ((l.drop i).take j).length = 0
  · rw [List.eq_nil_of_length_eq_zero h0]
    exact IsBytes.nil _ _
  · have hi : i < l.length := by
      simp only [List.length_take, List.length_drop] at h0
      omega
    obtain ⟨b, off, h1, h2, h3⟩ := h 0 (by omega)
    unfold subA
    rw [if_neg (by omega)]
    subst h1
    simp only [Option.map_some, add_none0]
    exact h.sub i j
end Go.Proofs.Ytnpalplnpfgibaa
