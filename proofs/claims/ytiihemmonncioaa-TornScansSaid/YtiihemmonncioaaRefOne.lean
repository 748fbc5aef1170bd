/- The contract of the reference's 'one'. -/
import Derived.Test.YtiihemmonncioaaRecGet
import Derived.Test.YtiihemmonncioaaOne
import Derived.Test.YtiihemmonncioaaRecMay
import Derived.Laws.ResultCell
import Derived.BigQuiet
namespace Go.Proofs.Ytiihemmonncioaa
open Go.RowKit
def OneOk (bm : Nat) (b : List UInt8) (q : Rec × List UInt8 × Bool) (w : World) (e : Ending) (w' : World) : Prop :=
  e = .returned (.tuple #[q.1.v, .bool (q.1.may && !q.2.2)]) ∧ ∃ p, q.2.1 = b.drop p ∧ IsRef w' bm b p q.2.2 ∧ w.grownBy w' (some bm)
theorem Reg.skipO {P : Program} {ops : Array Oper} {R : World → World → Prop} {w0 : World} {Q : Exit → Act → World → Prop} {i : Nat} {P0 P1 : World → Prop} {o : Oper} {rest : List Oper} {k : Nat} {A : Reg.Env → Act} {fs : List (Nat × (Reg.Env → World → Prop))} (hi : i ≠ k)
    (hw : ∀ e, Region.wanted o (yielded ops (A e).tmps) = false) (hs : Reg.Steps P ops R (Reg.oneJ i P0 P1) w0 Q rest (k + 1) (fun e => (A e).put o.dst undef) fs) : Reg.Steps P ops R (Reg.oneJ i P0 P1) w0 Q (o :: rest) k A fs :=
  ⟨fun _ => undef, fun _ _ => True, ⟨fun _ _ _ _ _ => trivial, .inl ⟨fun e => .inr ⟨hw e, rfl⟩, fun _ _ => trivial, fun _ _ _ hj => Reg.oneJ_other hi hj⟩⟩, Reg.steps_weaken _ _ _ fs _ (fun _ _ _ hf => hf.2) (fun _ _ hf => hf.2) hs⟩
theorem IsRef.lt {w : World} {bm : Nat} {b : List UInt8} {p : Nat} {sh : Bool} (h : IsRef w bm b p sh) : bm < w.heap.size := by
  obtain ⟨a, cap, hg, _⟩ := h
  exact (Array.getElem?_eq_some_iff.1 hg).1
theorem IsRef.above {w w' : World} {g bm : Nat} {b : List UInt8} {at_ : Nat} {sh : Bool} (h : IsRef w bm b at_ sh) (hg : w.grownBy w' (some g)) (hlt : bm < g) : IsRef w' bm b at_ sh := by
  obtain ⟨a, cap, hr, h0, h1, h2, h6, h3, h4, h5⟩ := h
  refine ⟨a, cap, ?_, h0.keep hg (fun b off e hl => ?_), h1, h2, h6, h3, h4, fun x hx hc => ⟨(h5 x hx hc).1, Nat.lt_of_lt_of_le (h5 x hx hc).2 hg.size⟩⟩
  · rw [hg.block bm (Array.getElem?_eq_some_iff.1 hr).1 (fun e => by cases e; omega)]; exact hr
  · have := h3 b off e (by omega)
    intro e'; cases e'; omega
/-- The state of the walk that reads a record, by the reference's reader. -/
def OneS (w : World) (bm : Nat) (b : List UInt8) (b2 b3 : Nat) (W : World) (r : Rec) (p : Nat) (sh : Bool) : Prop :=
  W.heap[b3]? = some (.cells r.cells 61 (0, 0)) ∧ W.heap[b2]? = some (.cells Rec.zero.cells 61 (0, 0)) ∧ IsRef W bm b p sh ∧ w.grownBy W (some bm) ∧ bm < b2 ∧ b2 < b3 ∧ w.heap.size ≤ b2
/-- .. behind what was read. -/
def OneF (w : World) (bm : Nat) (b : List UInt8) (b2 b3 : Nat) (C Z : Array Value) (p : Nat) (sh : Bool) (W : World) : Prop :=
  W.heap[b3]? = some (.cells C 61 (0, 0)) ∧ W.heap[b2]? = some (.cells Z 61 (0, 0)) ∧ IsRef W bm b p sh ∧ w.grownBy W (some bm) ∧ bm < b2 ∧ b2 < b3 ∧ w.heap.size ≤ b2
def OneD (w : World) (bm : Nat) (b : List UInt8) (b2 : Nat) (C : Array Value) (p : Nat) (sh : Bool) (W : World) : Prop :=
  W.heap[b2]? = some (.cells C 61 (0, 0)) ∧ IsRef W bm b p sh ∧ w.grownBy W (some bm)
section
variable {w : World} {bm b2 b3 : Nat} {b : List UInt8} {W W' : World} {r r' : Rec} {p p' : Nat} {sh sh' : Bool} {C Z : Array Value}
theorem OneS.call (h : OneS w bm b b2 b3 W r p sh) (hr : IsRef W' bm b p' sh') (hg : W.grownBy W' (some bm)) : OneS w bm b b2 b3 W' r p' sh' := by
  obtain ⟨h1, h2, _, h4, h5, h6, h7⟩ := h
  have k1 := (Array.getElem?_eq_some_iff.1 h1).1
  have k2 := (Array.getElem?_eq_some_iff.1 h2).1
  exact ⟨by rw [hg.block b3 k1 (fun e => by cases e; omega)]; exact h1, by rw [hg.block b2 k2 (fun e => by cases e; omega)]; exact h2, hr, grownBy_trans h4 hg, h5, h6, h7⟩
theorem OneS.cell (h : OneS w bm b b2 b3 W r p sh) (i : Nat) : W.cell? ⟨b3, i, none⟩ = r.cells[i]? := cell_of_row W b3 i _ _ _ h.1
theorem OneS.frozen (h : OneS w bm b b2 b3 W r p sh) (i : Nat) : W.frozen? ⟨b3, i, none⟩ = false := frozen_of_row W b3 i _ _ h.1
theorem OneS.store (h : OneS w bm b b2 b3 W r p sh) (i : Nat) (v : Value) (hv : r'.cells = r.cells.setIfInBounds i v) : OneS w bm b b2 b3 (W.setCell ⟨b3, i, none⟩ v) r' p sh := by
  obtain ⟨h1, h2, h3, h4, h5, h6, h7⟩ := h
  refine ⟨by rw [heap_setCell_same W b3 i _ _ _ h1, hv], by rw [heap_setCell_other W _ b2 v (show b2 ≠ b3 by omega)]; exact h2, h3.above (grownBy_setCell W ⟨b3, i, none⟩ v) (by show bm < b3; omega), grownBy_new h4 _ _ (by show _ ≤ b3; omega), h5, h6, h7⟩
theorem OneF.of (h : OneS w bm b b2 b3 W r p sh) (hb : Below W.heap.size W W') (hv : r.v = .agg C) : OneF w bm b b2 b3 C Rec.zero.cells p sh W' := by
  obtain ⟨h1, h2, h3, h4, h5, h6, h7⟩ := h
  have k1 := (Array.getElem?_eq_some_iff.1 h1).1
  have k2 := (Array.getElem?_eq_some_iff.1 h2).1
  have hc : r.cells = C := by unfold Rec.v at hv; exact Value.agg.inj hv
  exact ⟨by rw [hb.block b3 k1, ← hc]; exact h1, by rw [hb.block b2 k2]; exact h2, h3.bel hb, grownBy_trans h4 (grownBy_of_below hb), h5, h6, h7⟩
theorem OneF.drew (h : OneF w bm b b2 b3 C Z p sh W) : OneF w bm b b2 b3 C Z p sh W.drew := by
  obtain ⟨h1, h2, h3, h4, h5, h6, h7⟩ := h
  have hb : Below W.heap.size W W.drew := (Below.refl _ _).drew
  exact ⟨h1, h2, h3.bel hb, grownBy_trans h4 (grownBy_of_below hb), h5, h6, h7⟩
theorem OneF.short {W0 : World} (h : OneF w bm b b2 b3 C Z p sh W0) (hR : Below b2 W0.drew W) (_ : bm < b2) : W.cell? ⟨bm, 2, none⟩ = some (.bool sh) := by
  obtain ⟨_, _, ⟨a, cap, hg, _⟩, _, h5, _⟩ := h
  have hw : W.heap[bm]? = W0.heap[bm]? := hR.block bm h5
  have := cell_of_row W bm 2 _ _ _ (hw.trans hg)
  simpa using this
theorem OneF.store_below (h : OneF w bm b b2 b3 C Z p sh W) (D : Array Value) : Below b2 W (W.setRow b2 D) :=
  (Below.refl b2 W).grown (setRow_grown W b2 D) (Nat.le_of_lt (Array.getElem?_eq_some_iff.1 h.2.1).1) (fun k hk => by cases hk; exact Nat.le_refl _)
theorem OneF.store (h : OneF w bm b b2 b3 C Z p sh W) (D : Array Value) : OneD w bm b b2 D p sh (W.setRow b2 D) := by
  obtain ⟨h1, h2, h3, h4, h5, h6, h7⟩ := h
  exact ⟨setRow_heap W b2 Z D _ _ h2, h3.above (setRow_grown W b2 D) h5, ⟨h4.os, h4.tape, h4.output, by simpa [World.setRow] using h4.size, fun k hk hne => by rw [setRow_other W b2 k D (by omega)]; exact h4.block k hk hne⟩⟩
end
theorem gives_store_rec {o : Oper} {a : Act} {w : World} (x y : Operand) (ho : o.op = .store 61 x y) (g : Nat) (c c' : Array Value) (hx : a.eval x = .pointer (some ⟨g, 0, none⟩)) (hy : a.eval y = .agg c') (hg : w.heap[g]? = some (.cells c 61 (0, 0))) (hs : c.size = 14) (hs' : c'.size = 14) (h1 : c'.all (·.oneCell') = true) :
    Reg.gives Try.prog o a w (fun _ w' => w' = w.setRow g c') := by
  have hr := run_storeRec w g c c' hg hs hs' h1
  unfold Reg.gives execOp
  simp only [ho, hx, hy, Sem.run_bind, hr, Result.andThen_ok, Sem.run_pure]
theorem results_cell_bool {fn : Func} {t u : Tmp} (h : fn.results = #[.cell t 61, .tmp u]) (tmps : Array Value) (w : World) (g : Nat) (C : Array Value) (hg : w.heap[g]? = some (.cells C 61 (0, 0))) (hs : (Try.prog.info? 61).map (·.size) = some C.size) (hp : tmps.getD t undef = .pointer (some ⟨g, 0, none⟩)) :
    (results fn tmps).run Try.prog w = .ok (.tuple #[.agg C, tmps.getD u undef]) w := by
  rw [results_cell_tmp h, hp]
  simp only [asAddr, Sem.run_pure, Result.andThen_ok, run_loadVar_row w g 61 61 C (0, 0) _ hg Try.underlying61 rfl hs]
set_option maxRecDepth 100000 in
set_option maxHeartbeats 4000000 in
theorem refOne1 (bm : Nat) (b : List UInt8) (p0 : Nat) (s0 : Bool) (n1 : Nat) (p1 : Nat) (s1 : Bool) (n2 : Nat) (p2 : Nat) (s2 : Bool) (n3 : Nat) (p3 : Nat) (s3 : Bool) (n4 : Nat) (p4 : Nat) (s4 : Bool) (n5 : Nat) (p5 : Nat) (s5 : Bool) (n6 : Nat) (p6 : Nat) (s6 : Bool) (n7 : Nat) (p7 : Nat) (s7 : Bool) (n8 : Nat) (p8 : Nat) (s8 : Bool) (w : World) (h : IsRef w bm b p0 s0) (hbl : b.length ≤ 100000000000) (q1 : refNum 1 b p0 s0 = (n1, p1, s1)) (q2 : refNum 1 b p1 s1 = (n2, p2, s2)) (q3 : refNum 4 b p2 s2 = (n3, p3, s3)) (q4 : refNum 8 b p3 s3 = (n4, p4, s4)) (q5 : refNum 8 b p4 s4 = (n5, p5, s5)) (q6 : refNum 8 b p5 s5 = (n6, p6, s6)) (q7 : refNum 8 b p6 s6 = (n7, p7, s7)) (q8 : refNum 4 b p7 s7 = (n8, p8, s8)) (hk : n1 = 1) :
    Calls Try.prog 50 #[.pointer (some ⟨bm, 0, none⟩)] w (OneOk bm b (readRec (b.drop p0) s0) w) := by
  have hp0 : p0 ≤ b.length := by obtain ⟨_, _, _, _, _, _, hp, _⟩ := h; exact hp
  obtain ⟨r1, hp1⟩ := refNum_rdNum 1 b p0 s0 hp0
  rw [q1] at r1 hp1
  simp only at r1 hp1
  obtain ⟨r2, hp2⟩ := refNum_rdNum 1 b p1 s1 hp1
  rw [q2] at r2 hp2
  simp only at r2 hp2
  obtain ⟨r3, hp3⟩ := refNum_rdNum 4 b p2 s2 hp2
  rw [q3] at r3 hp3
  simp only at r3 hp3
  obtain ⟨r4, hp4⟩ := refNum_rdNum 8 b p3 s3 hp3
  rw [q4] at r4 hp4
  simp only at r4 hp4
  obtain ⟨r5, hp5⟩ := refNum_rdNum 8 b p4 s4 hp4
  rw [q5] at r5 hp5
  simp only at r5 hp5
  obtain ⟨r6, hp6⟩ := refNum_rdNum 8 b p5 s5 hp5
  rw [q6] at r6 hp6
  simp only at r6 hp6
  obtain ⟨r7, hp7⟩ := refNum_rdNum 8 b p6 s6 hp6
  rw [q7] at r7 hp7
  simp only at r7 hp7
  obtain ⟨r8, hp8⟩ := refNum_rdNum 4 b p7 s7 hp7
  rw [q8] at r8 hp8
  simp only at r8 hp8
  have HRR := Lib.hid (readRec_1 (b.drop p0) s0 n1 (b.drop p1) s1 n2 (b.drop p2) s2 n3 (b.drop p3) s3 n4 (b.drop p4) s4 n5 (b.drop p5) s5 n6 (b.drop p6) s6 n7 (b.drop p7) s7 n8 (b.drop p8) s8 r1 r2 r3 r4 r5 r6 r7 r8 hk)
  have b1 : n1 < 256 := by have := rdNum_lt1 (b.drop p0) s0; rw [r1] at this; exact this
  have hw1 : IntKind.i64.wrap (n1 : Int) = (n1 : Int) := by rw [IntKind.wrap_i64]; omega
  have b2 : n2 < 256 := by have := rdNum_lt1 (b.drop p1) s1; rw [r2] at this; exact this
  have hw2 : IntKind.i64.wrap (n2 : Int) = (n2 : Int) := by rw [IntKind.wrap_i64]; omega
  have b3 : n3 < 4294967296 := by have := rdNum_lt4 (b.drop p2) s2; rw [r3] at this; exact this
  have hw3 : IntKind.u32.wrap (n3 : Int) = (n3 : Int) := by rw [IntKind.wrap_u32]; omega
  obtain ⟨z4, hw4⟩ : ∃ z, IntKind.i64.wrap (n4 : Int) = z := ⟨_, rfl⟩
  obtain ⟨z5, hw5⟩ : ∃ z, IntKind.i64.wrap (n5 : Int) = z := ⟨_, rfl⟩
  obtain ⟨z6, hw6⟩ : ∃ z, IntKind.i64.wrap (n6 : Int) = z := ⟨_, rfl⟩
  have b8 : n8 < 4294967296 := by have := rdNum_lt4 (b.drop p7) s7; rw [r8] at this; exact this
  have hw8 : IntKind.u32.wrap (n8 : Int) = (n8 : Int) := by rw [IntKind.wrap_u32]; omega
  simp only [hw4, hw5, hw6] at HRR
  have e1 : ((n1 : Int) == 1) = true := by rw [hk]; rfl
  have HQ1 := Lib.hid (fun W (h : IsRef W bm b p0 s0) => by have := refNumber bm b p0 s0 1 W h hbl; rw [q1] at this; exact this)
  have HQ2 := Lib.hid (fun W (h : IsRef W bm b p1 s1) => by have := refNumber bm b p1 s1 1 W h hbl; rw [q2] at this; exact this)
  have HQ3 := Lib.hid (fun W (h : IsRef W bm b p2 s2) => by have := refNumber bm b p2 s2 4 W h hbl; rw [q3] at this; exact this)
  have HQ4 := Lib.hid (fun W (h : IsRef W bm b p3 s3) => by have := refNumber bm b p3 s3 8 W h hbl; rw [q4] at this; exact this)
  have HQ5 := Lib.hid (fun W (h : IsRef W bm b p4 s4) => by have := refNumber bm b p4 s4 8 W h hbl; rw [q5] at this; exact this)
  have HQ6 := Lib.hid (fun W (h : IsRef W bm b p5 s5) => by have := refNumber bm b p5 s5 8 W h hbl; rw [q6] at this; exact this)
  have HQ7 := Lib.hid (fun W (h : IsRef W bm b p6 s6) => by have := refNumber bm b p6 s6 8 W h hbl; rw [q7] at this; exact this)
  have HQ8 := Lib.hid (fun W (h : IsRef W bm b p7 s7) => by have := refNumber bm b p7 s7 4 W h hbl; rw [q8] at this; exact this)
  have HLT := Lib.hid h.lt
  have hb0 : Below w.heap.size w ((w.alloc (.cells Rec.zero.cells 61)).alloc (.cells Rec.zero.cells 61)) := ((Below.refl _ _).alloc (Nat.le_refl _) _).alloc (by simp) _
  have HSa : Hid (OneS w bm b w.heap.size (w.heap.size + 1) ((w.alloc (.cells Rec.zero.cells 61)).alloc (.cells Rec.zero.cells 61)) Rec.zero p0 s0) :=
    ⟨heap_alloc2_new w _ _, heap_alloc2_old w _ _, h.bel hb0, grownBy_of_below hb0, h.lt, Nat.lt_succ_self _, Nat.le_refl _⟩
  clear h hb0 hbl hp0 q1 r1 hp1 q2 r2 hp2 q3 r3 hp3 q4 r4 hp4 q5 r5 hp5 q6 r6 hp6 q7 r7 hp7 q8 r8 hp8 hk b1 b2 b3 b8
  unfold Rec.zero Rec.cells at HSa
  go_enter Try.func50, Try.ntmps50
  go_wp2_with fail
  generalize hWA : World.alloc (World.alloc w _) _ = WA
  have HS0 : Hid (OneS w bm b w.heap.size (w.heap.size + 1) WA Rec.zero p0 s0) := by rw [← hWA]; exact HSa
  clear hWA HSa
  have hb3 : Hid (w.heap.size + 1 = w.heap.size + 1) := rfl
  clear hb3
  refine (HQ1.out _ HS0.out.2.2.1).mono ?_
  rintro e W1 ⟨rfl, hr, hg⟩
  have HT := Lib.hid (HS0.out.call hr hg)
  clear hr hg HS0 HQ1
  have hc := HT.out.cell 0
  have hf := HT.out.frozen 0
  have HS1 := Lib.hid (HT.out.store (r' := (⟨n1, 0, 0, 0, 0, 0, 0, 0, 0, 0, ByteArray.empty, ByteArray.empty, 0, 0⟩ : Rec)) 0 (.int .i64 (n1 : Int)) (by rfl))
  clear HT
  simp [Rec.cells, Rec.zero] at hc
  go_wp2_with fail
  generalize World.setCell W1 _ _ = WA at HS1 ⊢
  clear hc hf hw1
  refine (HQ2.out _ HS1.out.2.2.1).mono ?_
  rintro e W2 ⟨rfl, hr, hg⟩
  have HT := Lib.hid (HS1.out.call hr hg)
  clear hr hg HS1 HQ2
  have hc := HT.out.cell 1
  have hf := HT.out.frozen 1
  have HS2 := Lib.hid (HT.out.store (r' := (⟨n1, n2, 0, 0, 0, 0, 0, 0, 0, 0, ByteArray.empty, ByteArray.empty, 0, 0⟩ : Rec)) 1 (.int .i64 (n2 : Int)) (by rfl))
  clear HT
  simp [Rec.cells] at hc
  go_wp2_with fail
  generalize World.setCell W2 _ _ = WA at HS2 ⊢
  clear hc hf hw2
  refine (HQ3.out _ HS2.out.2.2.1).mono ?_
  rintro e W3 ⟨rfl, hr, hg⟩
  have HT := Lib.hid (HS2.out.call hr hg)
  clear hr hg HS2 HQ3
  have hc := HT.out.cell 2
  have hf := HT.out.frozen 2
  have hck := HT.out.cell 0
  have HS3 := Lib.hid (HT.out.store (r' := (⟨n1, n2, n3, 0, 0, 0, 0, 0, 0, 0, ByteArray.empty, ByteArray.empty, 0, 0⟩ : Rec)) 2 (.int .u32 (n3 : Int)) (by rfl))
  clear HT
  simp [Rec.cells] at hc hck
  go_wp2_with fail
  generalize World.setCell W3 _ _ = WA at HS3 ⊢
  clear hc hf hw3 hck e1
  refine (HQ4.out _ HS3.out.2.2.1).mono ?_
  rintro e W4 ⟨rfl, hr, hg⟩
  have HT := Lib.hid (HS3.out.call hr hg)
  clear hr hg HS3 HQ4
  have hc := HT.out.cell 3
  have hf := HT.out.frozen 3
  have HS4 := Lib.hid (HT.out.store (r' := (⟨n1, n2, n3, z4, 0, 0, 0, 0, 0, 0, ByteArray.empty, ByteArray.empty, 0, 0⟩ : Rec)) 3 (.int .i64 z4) (by rfl))
  clear HT
  simp [Rec.cells] at hc
  go_wp2_with fail
  generalize World.setCell W4 _ _ = WA at HS4 ⊢
  clear hc hf hw4
  refine (HQ5.out _ HS4.out.2.2.1).mono ?_
  rintro e W5 ⟨rfl, hr, hg⟩
  have HT := Lib.hid (HS4.out.call hr hg)
  clear hr hg HS4 HQ5
  have hc := HT.out.cell 4
  have hf := HT.out.frozen 4
  have HS5 := Lib.hid (HT.out.store (r' := (⟨n1, n2, n3, z4, z5, 0, 0, 0, 0, 0, ByteArray.empty, ByteArray.empty, 0, 0⟩ : Rec)) 4 (.int .i64 z5) (by rfl))
  clear HT
  simp [Rec.cells] at hc
  go_wp2_with fail
  generalize World.setCell W5 _ _ = WA at HS5 ⊢
  clear hc hf hw5
  refine (HQ6.out _ HS5.out.2.2.1).mono ?_
  rintro e W6 ⟨rfl, hr, hg⟩
  have HT := Lib.hid (HS5.out.call hr hg)
  clear hr hg HS5 HQ6
  have hc := HT.out.cell 5
  have hf := HT.out.frozen 5
  have HS6 := Lib.hid (HT.out.store (r' := (⟨n1, n2, n3, z4, z5, z6, 0, 0, 0, 0, ByteArray.empty, ByteArray.empty, 0, 0⟩ : Rec)) 5 (.int .i64 z6) (by rfl))
  clear HT
  simp [Rec.cells] at hc
  go_wp2_with fail
  generalize World.setCell W6 _ _ = WA at HS6 ⊢
  clear hc hf hw6
  refine (HQ7.out _ HS6.out.2.2.1).mono ?_
  rintro e W7 ⟨rfl, hr, hg⟩
  have HT := Lib.hid (HS6.out.call hr hg)
  clear hr hg HS6 HQ7
  have hc := HT.out.cell 6
  have hf := HT.out.frozen 6
  have HS7 := Lib.hid (HT.out.store (r' := (⟨n1, n2, n3, z4, z5, z6, n7, 0, 0, 0, ByteArray.empty, ByteArray.empty, 0, 0⟩ : Rec)) 6 (.int .u64 (n7 : Int)) (by rfl))
  clear HT
  simp [Rec.cells] at hc
  go_wp2_with fail
  generalize World.setCell W7 _ _ = WA at HS7 ⊢
  clear hc hf
  refine (HQ8.out _ HS7.out.2.2.1).mono ?_
  rintro e W8 ⟨rfl, hr, hg⟩
  have HT := Lib.hid (HS7.out.call hr hg)
  clear hr hg HS7 HQ8
  have hc := HT.out.cell 7
  have hf := HT.out.frozen 7
  have HS8 := Lib.hid (HT.out.store (r' := (⟨n1, n2, n3, z4, z5, z6, n7, n8, 0, 0, ByteArray.empty, ByteArray.empty, 0, 0⟩ : Rec)) 7 (.int .u32 (n8 : Int)) (by rfl))
  clear HT
  simp [Rec.cells] at hc
  generalize hfr : ((⟨n1, n2, n3, z4, z5, z6, n7, n8, 0, 0, ByteArray.empty, ByteArray.empty, 0, 0⟩ : Rec) : Rec) = rr at HS8 HRR
  have HL := Lib.hid HS8.out.1
  have HM := Lib.hid (fun w => refMay rr w)
  have HSZ := Lib.hid (rec_sizeC rr)
  have HALL := Lib.hid (rec_all rr)
  have HV : Hid (rr.v = .agg rr.cells) := rfl
  unfold Rec.v at HM
  have HS14 : Hid (rr.cells.size = 14) := rfl
  generalize rr.cells = C at *
  go_wp2_with (refine wpList_load_row rfl 61 (.tmp 4) rfl (w.heap.size + 1) rfl 61 C (0, 0) _ HL.out Try.underlying61 rfl HSZ.out ?_)
  refine (HM.out _).mono ?_
  rintro e WB ⟨rfl, hbb⟩
  have HX := Lib.hid (OneF.of HS8.out hbb HV.out)
  clear hbb HS8 hc hf HL HM hfr
  generalize hmm : rr.may = m at *
  have HMM := Lib.hid hmm
  clear hmm
  go_wp2_with fail
  cases m with
  | true =>
    refine Reg.wp_regionO w.heap.size 9 (OneF w bm b w.heap.size (w.heap.size + 1) C Rec.zero.cells p8 s8) (OneD w bm b w.heap.size C p8 s8) (by kernel_rfl) (by kernel_rfl) HX.out.drew ?_
    refine Reg.readO (.agg C) (fun _ => Below.refl _ _) (by decide) (by kernel_rfl) (fun e W hR hP => ⟨by rfl, ?_⟩) ?_
    · refine Reg.gives_mono (fun v' w' h => ?_) (gives_load_rec (.tmp 4) rfl (w.heap.size + 1) rfl _ _ _ hP.1 HSZ.out)
      exact ⟨h.2, h.1⟩
    simp only [Act.put, List.setIfInBounds_toArray, List.set_cons_zero, List.set_cons_succ, Nat.reduceAdd]
    refine Reg.segO 3 (by kernel_rfl) rfl (by kernel_rfl) ?_
    apply Exists.intro
    refine ⟨fun e => ?_, ?_⟩
    · simp only [List.take_succ_cons, List.take_zero]
      repeat (go_big_quiet_step ((intro _; rfl)))
      refine wpQuiet_nil ?_
      exact rfl
    simp only [List.drop_succ_cons, List.drop_zero, Nat.reduceAdd]
    refine Reg.stillO (.pointer (some ⟨bm, 0, none⟩)) (fun _ => Below.refl _ _) (by decide) (fun e W hR => ⟨by rfl, ?_⟩) ?_
    · unfold Reg.gives
      go_simp
    simp only [Act.put, List.setIfInBounds_toArray, List.set_cons_zero, List.set_cons_succ, Nat.reduceAdd]
    refine Reg.segO 1 (by kernel_rfl) rfl (by kernel_rfl) ?_
    apply Exists.intro
    refine ⟨fun e => ?_, ?_⟩
    · simp only [List.take_succ_cons, List.take_zero]
      repeat (go_big_quiet_step ((intro _; rfl)))
      refine wpQuiet_nil ?_
      exact rfl
    simp only [List.drop_succ_cons, List.drop_zero, Nat.reduceAdd]
    refine Reg.stillO (.bool s8) (fun _ => Below.refl _ _) (by decide) (fun e W hR => ⟨by rfl, ?_⟩) ?_
    · have hcs := HX.out.short hR HLT.out
      unfold Reg.gives
      go_simp
    simp only [Act.put, List.setIfInBounds_toArray, List.set_cons_zero, List.set_cons_succ, Nat.reduceAdd]
    refine Reg.segO 2 (by kernel_rfl) rfl (by kernel_rfl) ?_
    apply Exists.intro
    refine ⟨fun e => ?_, ?_⟩
    · simp only [List.take_succ_cons, List.take_zero]
      repeat (go_big_quiet_step ((intro _; rfl)))
      refine wpQuiet_nil ?_
      exact rfl
    simp only [List.drop_succ_cons, List.drop_zero, Nat.reduceAdd]
    refine Reg.callO (fun e W hR hP => ⟨by rfl, ?_⟩) ?_
    · refine Reg.gives_mono (fun v' w' h => ?_) (gives_store_rec (.tmp 2) (.tmp 87) rfl w.heap.size Rec.zero.cells C rfl rfl hP.2.1 rfl HS14.out HALL.out)
      subst h
      exact ⟨hP.store_below C, hP.store C⟩
    simp only [Act.put]
    refine Reg.segO 1 (by kernel_rfl) rfl (by kernel_rfl) ?_
    apply Exists.intro
    refine ⟨fun e => ?_, ?_⟩
    · simp only [List.take_succ_cons, List.take_zero]
      repeat (go_big_quiet_step ((intro _; rfl)))
      refine wpQuiet_nil ?_
      exact rfl
    simp only [List.drop_succ_cons, List.drop_zero, Nat.reduceAdd]
    intro e W9 hR hJ hf
    have HD := Lib.hid (hJ.2 rfl)
    clear hR hJ hf
    go_wp2
    refine bodyPost_ret (results_cell_bool rfl _ _ w.heap.size C HD.out.1 HSZ.out rfl) rfl ?_
    exact ⟨by rw [HRR.out]; show _ = Ending.returned (.tuple #[rr.v, .bool (rr.may && !s8)]); rw [HV.out, HMM.out]; rfl, p8, by rw [HRR.out], by rw [HRR.out]; exact HD.out.2.1, HD.out.2.2⟩
  | false =>
    refine Reg.wp_regionO w.heap.size 9 (OneF w bm b w.heap.size (w.heap.size + 1) C Rec.zero.cells p8 s8) (OneD w bm b w.heap.size C p8 s8) (by kernel_rfl) (by kernel_rfl) HX.out.drew ?_
    refine Reg.readO (.agg C) (fun _ => Below.refl _ _) (by decide) (by kernel_rfl) (fun e W hR hP => ⟨by rfl, ?_⟩) ?_
    · refine Reg.gives_mono (fun v' w' h => ?_) (gives_load_rec (.tmp 4) rfl (w.heap.size + 1) rfl _ _ _ hP.1 HSZ.out)
      exact ⟨h.2, h.1⟩
    simp only [Act.put, List.setIfInBounds_toArray, List.set_cons_zero, List.set_cons_succ, Nat.reduceAdd]
    refine Reg.segO 3 (by kernel_rfl) rfl (by kernel_rfl) ?_
    apply Exists.intro
    refine ⟨fun e => ?_, ?_⟩
    · simp only [List.take_succ_cons, List.take_zero]
      repeat (go_big_quiet_step ((intro _; rfl)))
      refine wpQuiet_nil ?_
      exact rfl
    simp only [List.drop_succ_cons, List.drop_zero, Nat.reduceAdd]
    refine Reg.skipO (by decide) (fun e => by rfl) ?_
    simp only [Act.put, List.setIfInBounds_toArray, List.set_cons_zero, List.set_cons_succ, Nat.reduceAdd]
    refine Reg.segO 1 (by kernel_rfl) rfl (by kernel_rfl) ?_
    apply Exists.intro
    refine ⟨fun e => ?_, ?_⟩
    · simp only [List.take_succ_cons, List.take_zero]
      repeat (go_big_quiet_step ((intro _; rfl)))
      refine wpQuiet_nil ?_
      exact rfl
    simp only [List.drop_succ_cons, List.drop_zero, Nat.reduceAdd]
    refine Reg.skipO (by decide) (fun e => by rfl) ?_
    simp only [Act.put, List.setIfInBounds_toArray, List.set_cons_zero, List.set_cons_succ, Nat.reduceAdd]
    refine Reg.segO 2 (by kernel_rfl) rfl (by kernel_rfl) ?_
    apply Exists.intro
    refine ⟨fun e => ?_, ?_⟩
    · simp only [List.take_succ_cons, List.take_zero]
      repeat (go_big_quiet_step ((intro _; rfl)))
      refine wpQuiet_nil ?_
      exact rfl
    simp only [List.drop_succ_cons, List.drop_zero, Nat.reduceAdd]
    refine Reg.callO (fun e W hR hP => ⟨by rfl, ?_⟩) ?_
    · refine Reg.gives_mono (fun v' w' h => ?_) (gives_store_rec (.tmp 2) (.tmp 87) rfl w.heap.size Rec.zero.cells C rfl rfl hP.2.1 rfl HS14.out HALL.out)
      subst h
      exact ⟨hP.store_below C, hP.store C⟩
    simp only [Act.put]
    refine Reg.segO 1 (by kernel_rfl) rfl (by kernel_rfl) ?_
    apply Exists.intro
    refine ⟨fun e => ?_, ?_⟩
    · simp only [List.take_succ_cons, List.take_zero]
      repeat (go_big_quiet_step ((intro _; rfl)))
      refine wpQuiet_nil ?_
      exact rfl
    simp only [List.drop_succ_cons, List.drop_zero, Nat.reduceAdd]
    intro e W9 hR hJ hf
    have HD := Lib.hid (hJ.2 rfl)
    clear hR hJ hf
    go_wp2
    refine bodyPost_ret (results_cell_bool rfl _ _ w.heap.size C HD.out.1 HSZ.out rfl) rfl ?_
    exact ⟨by rw [HRR.out]; show _ = Ending.returned (.tuple #[rr.v, .bool (rr.may && !s8)]); rw [HV.out, HMM.out]; rfl, p8, by rw [HRR.out], by rw [HRR.out]; exact HD.out.2.1, HD.out.2.2⟩
set_option maxRecDepth 100000 in
set_option maxHeartbeats 4000000 in
theorem refOne3 (bm : Nat) (b : List UInt8) (p0 : Nat) (s0 : Bool) (n1 : Nat) (p1 : Nat) (s1 : Bool) (n2 : Nat) (p2 : Nat) (s2 : Bool) (n3 : Nat) (p3 : Nat) (s3 : Bool) (n4 : Nat) (p4 : Nat) (s4 : Bool) (n5 : Nat) (p5 : Nat) (s5 : Bool) (n6 : List UInt8) (p6 : Nat) (s6 : Bool) (n7 : List UInt8) (p7 : Nat) (s7 : Bool) (w : World) (h : IsRef w bm b p0 s0) (hbl : b.length ≤ 100000000000) (q1 : refNum 1 b p0 s0 = (n1, p1, s1)) (q2 : refNum 1 b p1 s1 = (n2, p2, s2)) (q3 : refNum 4 b p2 s2 = (n3, p3, s3)) (q4 : refNum 8 b p3 s3 = (n4, p4, s4)) (q5 : refNum 8 b p4 s4 = (n5, p5, s5)) (q6 : refTxt b p5 s5 = (n6, p6, s6)) (q7 : refTxt b p6 s6 = (n7, p7, s7)) (hk : n1 = 3) :
    Calls Try.prog 50 #[.pointer (some ⟨bm, 0, none⟩)] w (OneOk bm b (readRec (b.drop p0) s0) w) := by
  have hp0 : p0 ≤ b.length := by obtain ⟨_, _, _, _, _, _, hp, _⟩ := h; exact hp
  obtain ⟨r1, hp1⟩ := refNum_rdNum 1 b p0 s0 hp0
  rw [q1] at r1 hp1
  simp only at r1 hp1
  obtain ⟨r2, hp2⟩ := refNum_rdNum 1 b p1 s1 hp1
  rw [q2] at r2 hp2
  simp only at r2 hp2
  obtain ⟨r3, hp3⟩ := refNum_rdNum 4 b p2 s2 hp2
  rw [q3] at r3 hp3
  simp only at r3 hp3
  obtain ⟨r4, hp4⟩ := refNum_rdNum 8 b p3 s3 hp3
  rw [q4] at r4 hp4
  simp only at r4 hp4
  obtain ⟨r5, hp5⟩ := refNum_rdNum 8 b p4 s4 hp4
  rw [q5] at r5 hp5
  simp only at r5 hp5
  obtain ⟨r6, hp6⟩ := refTxt_rdText b p5 s5 hp5
  rw [q6] at r6 hp6
  simp only at r6 hp6
  obtain ⟨r7, hp7⟩ := refTxt_rdText b p6 s6 hp6
  rw [q7] at r7 hp7
  simp only at r7 hp7
  have HRR := Lib.hid (readRec_3 (b.drop p0) s0 n1 (b.drop p1) s1 n2 (b.drop p2) s2 n3 (b.drop p3) s3 n4 (b.drop p4) s4 n5 (b.drop p5) s5 n6 (b.drop p6) s6 n7 (b.drop p7) s7 r1 r2 r3 r4 r5 r6 r7 hk)
  have b1 : n1 < 256 := by have := rdNum_lt1 (b.drop p0) s0; rw [r1] at this; exact this
  have hw1 : IntKind.i64.wrap (n1 : Int) = (n1 : Int) := by rw [IntKind.wrap_i64]; omega
  have b2 : n2 < 256 := by have := rdNum_lt1 (b.drop p1) s1; rw [r2] at this; exact this
  have hw2 : IntKind.i64.wrap (n2 : Int) = (n2 : Int) := by rw [IntKind.wrap_i64]; omega
  have b3 : n3 < 4294967296 := by have := rdNum_lt4 (b.drop p2) s2; rw [r3] at this; exact this
  have hw3 : IntKind.u32.wrap (n3 : Int) = (n3 : Int) := by rw [IntKind.wrap_u32]; omega
  have e1 : ((n1 : Int) == 1) = false := by rw [hk]; rfl
  have e3 : ((n1 : Int) == 3) = true := by rw [hk]; rfl
  have HQ1 := Lib.hid (fun W (h : IsRef W bm b p0 s0) => by have := refNumber bm b p0 s0 1 W h hbl; rw [q1] at this; exact this)
  have HQ2 := Lib.hid (fun W (h : IsRef W bm b p1 s1) => by have := refNumber bm b p1 s1 1 W h hbl; rw [q2] at this; exact this)
  have HQ3 := Lib.hid (fun W (h : IsRef W bm b p2 s2) => by have := refNumber bm b p2 s2 4 W h hbl; rw [q3] at this; exact this)
  have HQ4 := Lib.hid (fun W (h : IsRef W bm b p3 s3) => by have := refNumber bm b p3 s3 8 W h hbl; rw [q4] at this; exact this)
  have HQ5 := Lib.hid (fun W (h : IsRef W bm b p4 s4) => by have := refNumber bm b p4 s4 8 W h hbl; rw [q5] at this; exact this)
  have HQ6 := Lib.hid (fun W (h : IsRef W bm b p5 s5) => by have := refReadText bm b p5 s5 W h hbl; rw [q6] at this; exact this)
  have HQ7 := Lib.hid (fun W (h : IsRef W bm b p6 s6) => by have := refReadText bm b p6 s6 W h hbl; rw [q7] at this; exact this)
  have HLT := Lib.hid h.lt
  have hb0 : Below w.heap.size w ((w.alloc (.cells Rec.zero.cells 61)).alloc (.cells Rec.zero.cells 61)) := ((Below.refl _ _).alloc (Nat.le_refl _) _).alloc (by simp) _
  have HSa : Hid (OneS w bm b w.heap.size (w.heap.size + 1) ((w.alloc (.cells Rec.zero.cells 61)).alloc (.cells Rec.zero.cells 61)) Rec.zero p0 s0) :=
    ⟨heap_alloc2_new w _ _, heap_alloc2_old w _ _, h.bel hb0, grownBy_of_below hb0, h.lt, Nat.lt_succ_self _, Nat.le_refl _⟩
  clear h hb0 hbl hp0 q1 r1 hp1 q2 r2 hp2 q3 r3 hp3 q4 r4 hp4 q5 r5 hp5 q6 r6 hp6 q7 r7 hp7 hk b1 b2 b3
  unfold Rec.zero Rec.cells at HSa
  go_enter Try.func50, Try.ntmps50
  go_wp2_with fail
  generalize hWA : World.alloc (World.alloc w _) _ = WA
  have HS0 : Hid (OneS w bm b w.heap.size (w.heap.size + 1) WA Rec.zero p0 s0) := by rw [← hWA]; exact HSa
  clear hWA HSa
  have hb3 : Hid (w.heap.size + 1 = w.heap.size + 1) := rfl
  clear hb3
  refine (HQ1.out _ HS0.out.2.2.1).mono ?_
  rintro e W1 ⟨rfl, hr, hg⟩
  have HT := Lib.hid (HS0.out.call hr hg)
  clear hr hg HS0 HQ1
  have hc := HT.out.cell 0
  have hf := HT.out.frozen 0
  have HS1 := Lib.hid (HT.out.store (r' := (⟨n1, 0, 0, 0, 0, 0, 0, 0, 0, 0, ByteArray.empty, ByteArray.empty, 0, 0⟩ : Rec)) 0 (.int .i64 (n1 : Int)) (by rfl))
  clear HT
  simp [Rec.cells, Rec.zero] at hc
  go_wp2_with fail
  generalize World.setCell W1 _ _ = WA at HS1 ⊢
  clear hc hf hw1
  refine (HQ2.out _ HS1.out.2.2.1).mono ?_
  rintro e W2 ⟨rfl, hr, hg⟩
  have HT := Lib.hid (HS1.out.call hr hg)
  clear hr hg HS1 HQ2
  have hc := HT.out.cell 1
  have hf := HT.out.frozen 1
  have HS2 := Lib.hid (HT.out.store (r' := (⟨n1, n2, 0, 0, 0, 0, 0, 0, 0, 0, ByteArray.empty, ByteArray.empty, 0, 0⟩ : Rec)) 1 (.int .i64 (n2 : Int)) (by rfl))
  clear HT
  simp [Rec.cells] at hc
  go_wp2_with fail
  generalize World.setCell W2 _ _ = WA at HS2 ⊢
  clear hc hf hw2
  refine (HQ3.out _ HS2.out.2.2.1).mono ?_
  rintro e W3 ⟨rfl, hr, hg⟩
  have HT := Lib.hid (HS2.out.call hr hg)
  clear hr hg HS2 HQ3
  have hc := HT.out.cell 2
  have hf := HT.out.frozen 2
  have hck := HT.out.cell 0
  have HS3 := Lib.hid (HT.out.store (r' := (⟨n1, n2, n3, 0, 0, 0, 0, 0, 0, 0, ByteArray.empty, ByteArray.empty, 0, 0⟩ : Rec)) 2 (.int .u32 (n3 : Int)) (by rfl))
  clear HT
  simp [Rec.cells] at hc hck
  go_wp2_with fail
  generalize World.setCell W3 _ _ = WA at HS3 ⊢
  clear hc hf hw3 hck e1 e3
  refine (HQ4.out _ HS3.out.2.2.1).mono ?_
  rintro e W4 ⟨rfl, hr, hg⟩
  have HT := Lib.hid (HS3.out.call hr hg)
  clear hr hg HS3 HQ4
  have hc := HT.out.cell 12
  have hf := HT.out.frozen 12
  have HS4 := Lib.hid (HT.out.store (r' := (⟨n1, n2, n3, 0, 0, 0, 0, 0, 0, 0, ByteArray.empty, ByteArray.empty, n4, 0⟩ : Rec)) 12 (.int .u64 (n4 : Int)) (by rfl))
  clear HT
  simp [Rec.cells] at hc
  go_wp2_with fail
  generalize World.setCell W4 _ _ = WA at HS4 ⊢
  clear hc hf
  refine (HQ5.out _ HS4.out.2.2.1).mono ?_
  rintro e W5 ⟨rfl, hr, hg⟩
  have HT := Lib.hid (HS4.out.call hr hg)
  clear hr hg HS4 HQ5
  have hc := HT.out.cell 13
  have hf := HT.out.frozen 13
  have HS5 := Lib.hid (HT.out.store (r' := (⟨n1, n2, n3, 0, 0, 0, 0, 0, 0, 0, ByteArray.empty, ByteArray.empty, n4, n5⟩ : Rec)) 13 (.int .u64 (n5 : Int)) (by rfl))
  clear HT
  simp [Rec.cells] at hc
  go_wp2_with fail
  generalize World.setCell W5 _ _ = WA at HS5 ⊢
  clear hc hf
  refine (HQ6.out _ HS5.out.2.2.1).mono ?_
  rintro e W6 ⟨rfl, hr, hg⟩
  have HT := Lib.hid (HS5.out.call hr hg)
  clear hr hg HS5 HQ6
  have hc := HT.out.cell 10
  have hf := HT.out.frozen 10
  have HS6 := Lib.hid (HT.out.store (r' := (⟨n1, n2, n3, 0, 0, 0, 0, 0, 0, 0, txt n6, ByteArray.empty, n4, n5⟩ : Rec)) 10 (.string ⟨n6.toArray⟩) (by with_unfolding_all rfl))
  clear HT
  simp [Rec.cells] at hc
  go_wp2_with fail
  generalize World.setCell W6 _ _ = WA at HS6 ⊢
  clear hc hf
  refine (HQ7.out _ HS6.out.2.2.1).mono ?_
  rintro e W7 ⟨rfl, hr, hg⟩
  have HT := Lib.hid (HS6.out.call hr hg)
  clear hr hg HS6 HQ7
  have hc := HT.out.cell 11
  have hf := HT.out.frozen 11
  have HS7 := Lib.hid (HT.out.store (r' := (⟨n1, n2, n3, 0, 0, 0, 0, 0, 0, 0, txt n6, txt n7, n4, n5⟩ : Rec)) 11 (.string ⟨n7.toArray⟩) (by with_unfolding_all rfl))
  clear HT
  simp [Rec.cells] at hc
  generalize hfr : ((⟨n1, n2, n3, 0, 0, 0, 0, 0, 0, 0, txt n6, txt n7, n4, n5⟩ : Rec) : Rec) = rr at HS7 HRR
  have HL := Lib.hid HS7.out.1
  have HM := Lib.hid (fun w => refMay rr w)
  have HSZ := Lib.hid (rec_sizeC rr)
  have HALL := Lib.hid (rec_all rr)
  have HV : Hid (rr.v = .agg rr.cells) := rfl
  unfold Rec.v at HM
  have HS14 : Hid (rr.cells.size = 14) := rfl
  generalize rr.cells = C at *
  go_wp2_with (refine wpList_load_row rfl 61 (.tmp 4) rfl (w.heap.size + 1) rfl 61 C (0, 0) _ HL.out Try.underlying61 rfl HSZ.out ?_)
  refine (HM.out _).mono ?_
  rintro e WB ⟨rfl, hbb⟩
  have HX := Lib.hid (OneF.of HS7.out hbb HV.out)
  clear hbb HS7 hc hf HL HM hfr
  generalize hmm : rr.may = m at *
  have HMM := Lib.hid hmm
  clear hmm
  go_wp2_with fail
  cases m with
  | true =>
    refine Reg.wp_regionO w.heap.size 9 (OneF w bm b w.heap.size (w.heap.size + 1) C Rec.zero.cells p7 s7) (OneD w bm b w.heap.size C p7 s7) (by kernel_rfl) (by kernel_rfl) HX.out.drew ?_
    refine Reg.readO (.agg C) (fun _ => Below.refl _ _) (by decide) (by kernel_rfl) (fun e W hR hP => ⟨by rfl, ?_⟩) ?_
    · refine Reg.gives_mono (fun v' w' h => ?_) (gives_load_rec (.tmp 4) rfl (w.heap.size + 1) rfl _ _ _ hP.1 HSZ.out)
      exact ⟨h.2, h.1⟩
    simp only [Act.put, List.setIfInBounds_toArray, List.set_cons_zero, List.set_cons_succ, Nat.reduceAdd]
    refine Reg.segO 3 (by kernel_rfl) rfl (by kernel_rfl) ?_
    apply Exists.intro
    refine ⟨fun e => ?_, ?_⟩
    · simp only [List.take_succ_cons, List.take_zero]
      repeat (go_big_quiet_step ((intro _; rfl)))
      refine wpQuiet_nil ?_
      exact rfl
    simp only [List.drop_succ_cons, List.drop_zero, Nat.reduceAdd]
    refine Reg.stillO (.pointer (some ⟨bm, 0, none⟩)) (fun _ => Below.refl _ _) (by decide) (fun e W hR => ⟨by rfl, ?_⟩) ?_
    · unfold Reg.gives
      go_simp
    simp only [Act.put, List.setIfInBounds_toArray, List.set_cons_zero, List.set_cons_succ, Nat.reduceAdd]
    refine Reg.segO 1 (by kernel_rfl) rfl (by kernel_rfl) ?_
    apply Exists.intro
    refine ⟨fun e => ?_, ?_⟩
    · simp only [List.take_succ_cons, List.take_zero]
      repeat (go_big_quiet_step ((intro _; rfl)))
      refine wpQuiet_nil ?_
      exact rfl
    simp only [List.drop_succ_cons, List.drop_zero, Nat.reduceAdd]
    refine Reg.stillO (.bool s7) (fun _ => Below.refl _ _) (by decide) (fun e W hR => ⟨by rfl, ?_⟩) ?_
    · have hcs := HX.out.short hR HLT.out
      unfold Reg.gives
      go_simp
    simp only [Act.put, List.setIfInBounds_toArray, List.set_cons_zero, List.set_cons_succ, Nat.reduceAdd]
    refine Reg.segO 2 (by kernel_rfl) rfl (by kernel_rfl) ?_
    apply Exists.intro
    refine ⟨fun e => ?_, ?_⟩
    · simp only [List.take_succ_cons, List.take_zero]
      repeat (go_big_quiet_step ((intro _; rfl)))
      refine wpQuiet_nil ?_
      exact rfl
    simp only [List.drop_succ_cons, List.drop_zero, Nat.reduceAdd]
    refine Reg.callO (fun e W hR hP => ⟨by rfl, ?_⟩) ?_
    · refine Reg.gives_mono (fun v' w' h => ?_) (gives_store_rec (.tmp 2) (.tmp 87) rfl w.heap.size Rec.zero.cells C rfl rfl hP.2.1 rfl HS14.out HALL.out)
      subst h
      exact ⟨hP.store_below C, hP.store C⟩
    simp only [Act.put]
    refine Reg.segO 1 (by kernel_rfl) rfl (by kernel_rfl) ?_
    apply Exists.intro
    refine ⟨fun e => ?_, ?_⟩
    · simp only [List.take_succ_cons, List.take_zero]
      repeat (go_big_quiet_step ((intro _; rfl)))
      refine wpQuiet_nil ?_
      exact rfl
    simp only [List.drop_succ_cons, List.drop_zero, Nat.reduceAdd]
    intro e W9 hR hJ hf
    have HD := Lib.hid (hJ.2 rfl)
    clear hR hJ hf
    go_wp2
    refine bodyPost_ret (results_cell_bool rfl _ _ w.heap.size C HD.out.1 HSZ.out rfl) rfl ?_
    exact ⟨by rw [HRR.out]; show _ = Ending.returned (.tuple #[rr.v, .bool (rr.may && !s7)]); rw [HV.out, HMM.out]; rfl, p7, by rw [HRR.out], by rw [HRR.out]; exact HD.out.2.1, HD.out.2.2⟩
  | false =>
    refine Reg.wp_regionO w.heap.size 9 (OneF w bm b w.heap.size (w.heap.size + 1) C Rec.zero.cells p7 s7) (OneD w bm b w.heap.size C p7 s7) (by kernel_rfl) (by kernel_rfl) HX.out.drew ?_
    refine Reg.readO (.agg C) (fun _ => Below.refl _ _) (by decide) (by kernel_rfl) (fun e W hR hP => ⟨by rfl, ?_⟩) ?_
    · refine Reg.gives_mono (fun v' w' h => ?_) (gives_load_rec (.tmp 4) rfl (w.heap.size + 1) rfl _ _ _ hP.1 HSZ.out)
      exact ⟨h.2, h.1⟩
    simp only [Act.put, List.setIfInBounds_toArray, List.set_cons_zero, List.set_cons_succ, Nat.reduceAdd]
    refine Reg.segO 3 (by kernel_rfl) rfl (by kernel_rfl) ?_
    apply Exists.intro
    refine ⟨fun e => ?_, ?_⟩
    · simp only [List.take_succ_cons, List.take_zero]
      repeat (go_big_quiet_step ((intro _; rfl)))
      refine wpQuiet_nil ?_
      exact rfl
    simp only [List.drop_succ_cons, List.drop_zero, Nat.reduceAdd]
    refine Reg.skipO (by decide) (fun e => by rfl) ?_
    simp only [Act.put, List.setIfInBounds_toArray, List.set_cons_zero, List.set_cons_succ, Nat.reduceAdd]
    refine Reg.segO 1 (by kernel_rfl) rfl (by kernel_rfl) ?_
    apply Exists.intro
    refine ⟨fun e => ?_, ?_⟩
    · simp only [List.take_succ_cons, List.take_zero]
      repeat (go_big_quiet_step ((intro _; rfl)))
      refine wpQuiet_nil ?_
      exact rfl
    simp only [List.drop_succ_cons, List.drop_zero, Nat.reduceAdd]
    refine Reg.skipO (by decide) (fun e => by rfl) ?_
    simp only [Act.put, List.setIfInBounds_toArray, List.set_cons_zero, List.set_cons_succ, Nat.reduceAdd]
    refine Reg.segO 2 (by kernel_rfl) rfl (by kernel_rfl) ?_
    apply Exists.intro
    refine ⟨fun e => ?_, ?_⟩
    · simp only [List.take_succ_cons, List.take_zero]
      repeat (go_big_quiet_step ((intro _; rfl)))
      refine wpQuiet_nil ?_
      exact rfl
    simp only [List.drop_succ_cons, List.drop_zero, Nat.reduceAdd]
    refine Reg.callO (fun e W hR hP => ⟨by rfl, ?_⟩) ?_
    · refine Reg.gives_mono (fun v' w' h => ?_) (gives_store_rec (.tmp 2) (.tmp 87) rfl w.heap.size Rec.zero.cells C rfl rfl hP.2.1 rfl HS14.out HALL.out)
      subst h
      exact ⟨hP.store_below C, hP.store C⟩
    simp only [Act.put]
    refine Reg.segO 1 (by kernel_rfl) rfl (by kernel_rfl) ?_
    apply Exists.intro
    refine ⟨fun e => ?_, ?_⟩
    · simp only [List.take_succ_cons, List.take_zero]
      repeat (go_big_quiet_step ((intro _; rfl)))
      refine wpQuiet_nil ?_
      exact rfl
    simp only [List.drop_succ_cons, List.drop_zero, Nat.reduceAdd]
    intro e W9 hR hJ hf
    have HD := Lib.hid (hJ.2 rfl)
    clear hR hJ hf
    go_wp2
    refine bodyPost_ret (results_cell_bool rfl _ _ w.heap.size C HD.out.1 HSZ.out rfl) rfl ?_
    exact ⟨by rw [HRR.out]; show _ = Ending.returned (.tuple #[rr.v, .bool (rr.may && !s7)]); rw [HV.out, HMM.out]; rfl, p7, by rw [HRR.out], by rw [HRR.out]; exact HD.out.2.1, HD.out.2.2⟩
set_option maxRecDepth 100000 in
set_option maxHeartbeats 4000000 in
theorem refOne4 (bm : Nat) (b : List UInt8) (p0 : Nat) (s0 : Bool) (n1 : Nat) (p1 : Nat) (s1 : Bool) (n2 : Nat) (p2 : Nat) (s2 : Bool) (n3 : Nat) (p3 : Nat) (s3 : Bool) (n4 : Nat) (p4 : Nat) (s4 : Bool) (n5 : List UInt8) (p5 : Nat) (s5 : Bool) (w : World) (h : IsRef w bm b p0 s0) (hbl : b.length ≤ 100000000000) (q1 : refNum 1 b p0 s0 = (n1, p1, s1)) (q2 : refNum 1 b p1 s1 = (n2, p2, s2)) (q3 : refNum 4 b p2 s2 = (n3, p3, s3)) (q4 : refNum 8 b p3 s3 = (n4, p4, s4)) (q5 : refTxt b p4 s4 = (n5, p5, s5)) (hk : n1 = 4) :
    Calls Try.prog 50 #[.pointer (some ⟨bm, 0, none⟩)] w (OneOk bm b (readRec (b.drop p0) s0) w) := by
  have hp0 : p0 ≤ b.length := by obtain ⟨_, _, _, _, _, _, hp, _⟩ := h; exact hp
  obtain ⟨r1, hp1⟩ := refNum_rdNum 1 b p0 s0 hp0
  rw [q1] at r1 hp1
  simp only at r1 hp1
  obtain ⟨r2, hp2⟩ := refNum_rdNum 1 b p1 s1 hp1
  rw [q2] at r2 hp2
  simp only at r2 hp2
  obtain ⟨r3, hp3⟩ := refNum_rdNum 4 b p2 s2 hp2
  rw [q3] at r3 hp3
  simp only at r3 hp3
  obtain ⟨r4, hp4⟩ := refNum_rdNum 8 b p3 s3 hp3
  rw [q4] at r4 hp4
  simp only at r4 hp4
  obtain ⟨r5, hp5⟩ := refTxt_rdText b p4 s4 hp4
  rw [q5] at r5 hp5
  simp only at r5 hp5
  have HRR := Lib.hid (readRec_4 (b.drop p0) s0 n1 (b.drop p1) s1 n2 (b.drop p2) s2 n3 (b.drop p3) s3 n4 (b.drop p4) s4 n5 (b.drop p5) s5 r1 r2 r3 r4 r5 hk)
  have b1 : n1 < 256 := by have := rdNum_lt1 (b.drop p0) s0; rw [r1] at this; exact this
  have hw1 : IntKind.i64.wrap (n1 : Int) = (n1 : Int) := by rw [IntKind.wrap_i64]; omega
  have b2 : n2 < 256 := by have := rdNum_lt1 (b.drop p1) s1; rw [r2] at this; exact this
  have hw2 : IntKind.i64.wrap (n2 : Int) = (n2 : Int) := by rw [IntKind.wrap_i64]; omega
  have b3 : n3 < 4294967296 := by have := rdNum_lt4 (b.drop p2) s2; rw [r3] at this; exact this
  have hw3 : IntKind.u32.wrap (n3 : Int) = (n3 : Int) := by rw [IntKind.wrap_u32]; omega
  have e1 : ((n1 : Int) == 1) = false := by rw [hk]; rfl
  have e3 : ((n1 : Int) == 3) = false := by rw [hk]; rfl
  have e4 : ((n1 : Int) == 4) = true := by rw [hk]; rfl
  have HQ1 := Lib.hid (fun W (h : IsRef W bm b p0 s0) => by have := refNumber bm b p0 s0 1 W h hbl; rw [q1] at this; exact this)
  have HQ2 := Lib.hid (fun W (h : IsRef W bm b p1 s1) => by have := refNumber bm b p1 s1 1 W h hbl; rw [q2] at this; exact this)
  have HQ3 := Lib.hid (fun W (h : IsRef W bm b p2 s2) => by have := refNumber bm b p2 s2 4 W h hbl; rw [q3] at this; exact this)
  have HQ4 := Lib.hid (fun W (h : IsRef W bm b p3 s3) => by have := refNumber bm b p3 s3 8 W h hbl; rw [q4] at this; exact this)
  have HQ5 := Lib.hid (fun W (h : IsRef W bm b p4 s4) => by have := refReadText bm b p4 s4 W h hbl; rw [q5] at this; exact this)
  have HLT := Lib.hid h.lt
  have hb0 : Below w.heap.size w ((w.alloc (.cells Rec.zero.cells 61)).alloc (.cells Rec.zero.cells 61)) := ((Below.refl _ _).alloc (Nat.le_refl _) _).alloc (by simp) _
  have HSa : Hid (OneS w bm b w.heap.size (w.heap.size + 1) ((w.alloc (.cells Rec.zero.cells 61)).alloc (.cells Rec.zero.cells 61)) Rec.zero p0 s0) :=
    ⟨heap_alloc2_new w _ _, heap_alloc2_old w _ _, h.bel hb0, grownBy_of_below hb0, h.lt, Nat.lt_succ_self _, Nat.le_refl _⟩
  clear h hb0 hbl hp0 q1 r1 hp1 q2 r2 hp2 q3 r3 hp3 q4 r4 hp4 q5 r5 hp5 hk b1 b2 b3
  unfold Rec.zero Rec.cells at HSa
  go_enter Try.func50, Try.ntmps50
  go_wp2_with fail
  generalize hWA : World.alloc (World.alloc w _) _ = WA
  have HS0 : Hid (OneS w bm b w.heap.size (w.heap.size + 1) WA Rec.zero p0 s0) := by rw [← hWA]; exact HSa
  clear hWA HSa
  have hb3 : Hid (w.heap.size + 1 = w.heap.size + 1) := rfl
  clear hb3
  refine (HQ1.out _ HS0.out.2.2.1).mono ?_
  rintro e W1 ⟨rfl, hr, hg⟩
  have HT := Lib.hid (HS0.out.call hr hg)
  clear hr hg HS0 HQ1
  have hc := HT.out.cell 0
  have hf := HT.out.frozen 0
  have HS1 := Lib.hid (HT.out.store (r' := (⟨n1, 0, 0, 0, 0, 0, 0, 0, 0, 0, ByteArray.empty, ByteArray.empty, 0, 0⟩ : Rec)) 0 (.int .i64 (n1 : Int)) (by rfl))
  clear HT
  simp [Rec.cells, Rec.zero] at hc
  go_wp2_with fail
  generalize World.setCell W1 _ _ = WA at HS1 ⊢
  clear hc hf hw1
  refine (HQ2.out _ HS1.out.2.2.1).mono ?_
  rintro e W2 ⟨rfl, hr, hg⟩
  have HT := Lib.hid (HS1.out.call hr hg)
  clear hr hg HS1 HQ2
  have hc := HT.out.cell 1
  have hf := HT.out.frozen 1
  have HS2 := Lib.hid (HT.out.store (r' := (⟨n1, n2, 0, 0, 0, 0, 0, 0, 0, 0, ByteArray.empty, ByteArray.empty, 0, 0⟩ : Rec)) 1 (.int .i64 (n2 : Int)) (by rfl))
  clear HT
  simp [Rec.cells] at hc
  go_wp2_with fail
  generalize World.setCell W2 _ _ = WA at HS2 ⊢
  clear hc hf hw2
  refine (HQ3.out _ HS2.out.2.2.1).mono ?_
  rintro e W3 ⟨rfl, hr, hg⟩
  have HT := Lib.hid (HS2.out.call hr hg)
  clear hr hg HS2 HQ3
  have hc := HT.out.cell 2
  have hf := HT.out.frozen 2
  have hck := HT.out.cell 0
  have HS3 := Lib.hid (HT.out.store (r' := (⟨n1, n2, n3, 0, 0, 0, 0, 0, 0, 0, ByteArray.empty, ByteArray.empty, 0, 0⟩ : Rec)) 2 (.int .u32 (n3 : Int)) (by rfl))
  clear HT
  simp [Rec.cells] at hc hck
  go_wp2_with fail
  generalize World.setCell W3 _ _ = WA at HS3 ⊢
  clear hc hf hw3 hck e1 e3 e4
  refine (HQ4.out _ HS3.out.2.2.1).mono ?_
  rintro e W4 ⟨rfl, hr, hg⟩
  have HT := Lib.hid (HS3.out.call hr hg)
  clear hr hg HS3 HQ4
  have hc := HT.out.cell 12
  have hf := HT.out.frozen 12
  have HS4 := Lib.hid (HT.out.store (r' := (⟨n1, n2, n3, 0, 0, 0, 0, 0, 0, 0, ByteArray.empty, ByteArray.empty, n4, 0⟩ : Rec)) 12 (.int .u64 (n4 : Int)) (by rfl))
  clear HT
  simp [Rec.cells] at hc
  go_wp2_with fail
  generalize World.setCell W4 _ _ = WA at HS4 ⊢
  clear hc hf
  refine (HQ5.out _ HS4.out.2.2.1).mono ?_
  rintro e W5 ⟨rfl, hr, hg⟩
  have HT := Lib.hid (HS4.out.call hr hg)
  clear hr hg HS4 HQ5
  have hc := HT.out.cell 10
  have hf := HT.out.frozen 10
  have HS5 := Lib.hid (HT.out.store (r' := (⟨n1, n2, n3, 0, 0, 0, 0, 0, 0, 0, txt n5, ByteArray.empty, n4, 0⟩ : Rec)) 10 (.string ⟨n5.toArray⟩) (by with_unfolding_all rfl))
  clear HT
  simp [Rec.cells] at hc
  generalize hfr : ((⟨n1, n2, n3, 0, 0, 0, 0, 0, 0, 0, txt n5, ByteArray.empty, n4, 0⟩ : Rec) : Rec) = rr at HS5 HRR
  have HL := Lib.hid HS5.out.1
  have HM := Lib.hid (fun w => refMay rr w)
  have HSZ := Lib.hid (rec_sizeC rr)
  have HALL := Lib.hid (rec_all rr)
  have HV : Hid (rr.v = .agg rr.cells) := rfl
  unfold Rec.v at HM
  have HS14 : Hid (rr.cells.size = 14) := rfl
  generalize rr.cells = C at *
  go_wp2_with (refine wpList_load_row rfl 61 (.tmp 4) rfl (w.heap.size + 1) rfl 61 C (0, 0) _ HL.out Try.underlying61 rfl HSZ.out ?_)
  refine (HM.out _).mono ?_
  rintro e WB ⟨rfl, hbb⟩
  have HX := Lib.hid (OneF.of HS5.out hbb HV.out)
  clear hbb HS5 hc hf HL HM hfr
  generalize hmm : rr.may = m at *
  have HMM := Lib.hid hmm
  clear hmm
  go_wp2_with fail
  cases m with
  | true =>
    refine Reg.wp_regionO w.heap.size 9 (OneF w bm b w.heap.size (w.heap.size + 1) C Rec.zero.cells p5 s5) (OneD w bm b w.heap.size C p5 s5) (by kernel_rfl) (by kernel_rfl) HX.out.drew ?_
    refine Reg.readO (.agg C) (fun _ => Below.refl _ _) (by decide) (by kernel_rfl) (fun e W hR hP => ⟨by rfl, ?_⟩) ?_
    · refine Reg.gives_mono (fun v' w' h => ?_) (gives_load_rec (.tmp 4) rfl (w.heap.size + 1) rfl _ _ _ hP.1 HSZ.out)
      exact ⟨h.2, h.1⟩
    simp only [Act.put, List.setIfInBounds_toArray, List.set_cons_zero, List.set_cons_succ, Nat.reduceAdd]
    refine Reg.segO 3 (by kernel_rfl) rfl (by kernel_rfl) ?_
    apply Exists.intro
    refine ⟨fun e => ?_, ?_⟩
    · simp only [List.take_succ_cons, List.take_zero]
      repeat (go_big_quiet_step ((intro _; rfl)))
      refine wpQuiet_nil ?_
      exact rfl
    simp only [List.drop_succ_cons, List.drop_zero, Nat.reduceAdd]
    refine Reg.stillO (.pointer (some ⟨bm, 0, none⟩)) (fun _ => Below.refl _ _) (by decide) (fun e W hR => ⟨by rfl, ?_⟩) ?_
    · unfold Reg.gives
      go_simp
    simp only [Act.put, List.setIfInBounds_toArray, List.set_cons_zero, List.set_cons_succ, Nat.reduceAdd]
    refine Reg.segO 1 (by kernel_rfl) rfl (by kernel_rfl) ?_
    apply Exists.intro
    refine ⟨fun e => ?_, ?_⟩
    · simp only [List.take_succ_cons, List.take_zero]
      repeat (go_big_quiet_step ((intro _; rfl)))
      refine wpQuiet_nil ?_
      exact rfl
    simp only [List.drop_succ_cons, List.drop_zero, Nat.reduceAdd]
    refine Reg.stillO (.bool s5) (fun _ => Below.refl _ _) (by decide) (fun e W hR => ⟨by rfl, ?_⟩) ?_
    · have hcs := HX.out.short hR HLT.out
      unfold Reg.gives
      go_simp
    simp only [Act.put, List.setIfInBounds_toArray, List.set_cons_zero, List.set_cons_succ, Nat.reduceAdd]
    refine Reg.segO 2 (by kernel_rfl) rfl (by kernel_rfl) ?_
    apply Exists.intro
    refine ⟨fun e => ?_, ?_⟩
    · simp only [List.take_succ_cons, List.take_zero]
      repeat (go_big_quiet_step ((intro _; rfl)))
      refine wpQuiet_nil ?_
      exact rfl
    simp only [List.drop_succ_cons, List.drop_zero, Nat.reduceAdd]
    refine Reg.callO (fun e W hR hP => ⟨by rfl, ?_⟩) ?_
    · refine Reg.gives_mono (fun v' w' h => ?_) (gives_store_rec (.tmp 2) (.tmp 87) rfl w.heap.size Rec.zero.cells C rfl rfl hP.2.1 rfl HS14.out HALL.out)
      subst h
      exact ⟨hP.store_below C, hP.store C⟩
    simp only [Act.put]
    refine Reg.segO 1 (by kernel_rfl) rfl (by kernel_rfl) ?_
    apply Exists.intro
    refine ⟨fun e => ?_, ?_⟩
    · simp only [List.take_succ_cons, List.take_zero]
      repeat (go_big_quiet_step ((intro _; rfl)))
      refine wpQuiet_nil ?_
      exact rfl
    simp only [List.drop_succ_cons, List.drop_zero, Nat.reduceAdd]
    intro e W9 hR hJ hf
    have HD := Lib.hid (hJ.2 rfl)
    clear hR hJ hf
    go_wp2
    refine bodyPost_ret (results_cell_bool rfl _ _ w.heap.size C HD.out.1 HSZ.out rfl) rfl ?_
    exact ⟨by rw [HRR.out]; show _ = Ending.returned (.tuple #[rr.v, .bool (rr.may && !s5)]); rw [HV.out, HMM.out]; rfl, p5, by rw [HRR.out], by rw [HRR.out]; exact HD.out.2.1, HD.out.2.2⟩
  | false =>
    refine Reg.wp_regionO w.heap.size 9 (OneF w bm b w.heap.size (w.heap.size + 1) C Rec.zero.cells p5 s5) (OneD w bm b w.heap.size C p5 s5) (by kernel_rfl) (by kernel_rfl) HX.out.drew ?_
    refine Reg.readO (.agg C) (fun _ => Below.refl _ _) (by decide) (by kernel_rfl) (fun e W hR hP => ⟨by rfl, ?_⟩) ?_
    · refine Reg.gives_mono (fun v' w' h => ?_) (gives_load_rec (.tmp 4) rfl (w.heap.size + 1) rfl _ _ _ hP.1 HSZ.out)
      exact ⟨h.2, h.1⟩
    simp only [Act.put, List.setIfInBounds_toArray, List.set_cons_zero, List.set_cons_succ, Nat.reduceAdd]
    refine Reg.segO 3 (by kernel_rfl) rfl (by kernel_rfl) ?_
    apply Exists.intro
    refine ⟨fun e => ?_, ?_⟩
    · simp only [List.take_succ_cons, List.take_zero]
      repeat (go_big_quiet_step ((intro _; rfl)))
      refine wpQuiet_nil ?_
      exact rfl
    simp only [List.drop_succ_cons, List.drop_zero, Nat.reduceAdd]
    refine Reg.skipO (by decide) (fun e => by rfl) ?_
    simp only [Act.put, List.setIfInBounds_toArray, List.set_cons_zero, List.set_cons_succ, Nat.reduceAdd]
    refine Reg.segO 1 (by kernel_rfl) rfl (by kernel_rfl) ?_
    apply Exists.intro
    refine ⟨fun e => ?_, ?_⟩
    · simp only [List.take_succ_cons, List.take_zero]
      repeat (go_big_quiet_step ((intro _; rfl)))
      refine wpQuiet_nil ?_
      exact rfl
    simp only [List.drop_succ_cons, List.drop_zero, Nat.reduceAdd]
    refine Reg.skipO (by decide) (fun e => by rfl) ?_
    simp only [Act.put, List.setIfInBounds_toArray, List.set_cons_zero, List.set_cons_succ, Nat.reduceAdd]
    refine Reg.segO 2 (by kernel_rfl) rfl (by kernel_rfl) ?_
    apply Exists.intro
    refine ⟨fun e => ?_, ?_⟩
    · simp only [List.take_succ_cons, List.take_zero]
      repeat (go_big_quiet_step ((intro _; rfl)))
      refine wpQuiet_nil ?_
      exact rfl
    simp only [List.drop_succ_cons, List.drop_zero, Nat.reduceAdd]
    refine Reg.callO (fun e W hR hP => ⟨by rfl, ?_⟩) ?_
    · refine Reg.gives_mono (fun v' w' h => ?_) (gives_store_rec (.tmp 2) (.tmp 87) rfl w.heap.size Rec.zero.cells C rfl rfl hP.2.1 rfl HS14.out HALL.out)
      subst h
      exact ⟨hP.store_below C, hP.store C⟩
    simp only [Act.put]
    refine Reg.segO 1 (by kernel_rfl) rfl (by kernel_rfl) ?_
    apply Exists.intro
    refine ⟨fun e => ?_, ?_⟩
    · simp only [List.take_succ_cons, List.take_zero]
      repeat (go_big_quiet_step ((intro _; rfl)))
      refine wpQuiet_nil ?_
      exact rfl
    simp only [List.drop_succ_cons, List.drop_zero, Nat.reduceAdd]
    intro e W9 hR hJ hf
    have HD := Lib.hid (hJ.2 rfl)
    clear hR hJ hf
    go_wp2
    refine bodyPost_ret (results_cell_bool rfl _ _ w.heap.size C HD.out.1 HSZ.out rfl) rfl ?_
    exact ⟨by rw [HRR.out]; show _ = Ending.returned (.tuple #[rr.v, .bool (rr.may && !s5)]); rw [HV.out, HMM.out]; rfl, p5, by rw [HRR.out], by rw [HRR.out]; exact HD.out.2.1, HD.out.2.2⟩
set_option maxRecDepth 100000 in
set_option maxHeartbeats 4000000 in
theorem refOne5 (bm : Nat) (b : List UInt8) (p0 : Nat) (s0 : Bool) (n1 : Nat) (p1 : Nat) (s1 : Bool) (n2 : Nat) (p2 : Nat) (s2 : Bool) (n3 : Nat) (p3 : Nat) (s3 : Bool) (n4 : Nat) (p4 : Nat) (s4 : Bool) (n5 : Nat) (p5 : Nat) (s5 : Bool) (n6 : Nat) (p6 : Nat) (s6 : Bool) (w : World) (h : IsRef w bm b p0 s0) (hbl : b.length ≤ 100000000000) (q1 : refNum 1 b p0 s0 = (n1, p1, s1)) (q2 : refNum 1 b p1 s1 = (n2, p2, s2)) (q3 : refNum 4 b p2 s2 = (n3, p3, s3)) (q4 : refNum 4 b p3 s3 = (n4, p4, s4)) (q5 : refNum 1 b p4 s4 = (n5, p5, s5)) (q6 : refNum 8 b p5 s5 = (n6, p6, s6)) (hk : n1 = 5) :
    Calls Try.prog 50 #[.pointer (some ⟨bm, 0, none⟩)] w (OneOk bm b (readRec (b.drop p0) s0) w) := by
  have hp0 : p0 ≤ b.length := by obtain ⟨_, _, _, _, _, _, hp, _⟩ := h; exact hp
  obtain ⟨r1, hp1⟩ := refNum_rdNum 1 b p0 s0 hp0
  rw [q1] at r1 hp1
  simp only at r1 hp1
  obtain ⟨r2, hp2⟩ := refNum_rdNum 1 b p1 s1 hp1
  rw [q2] at r2 hp2
  simp only at r2 hp2
  obtain ⟨r3, hp3⟩ := refNum_rdNum 4 b p2 s2 hp2
  rw [q3] at r3 hp3
  simp only at r3 hp3
  obtain ⟨r4, hp4⟩ := refNum_rdNum 4 b p3 s3 hp3
  rw [q4] at r4 hp4
  simp only at r4 hp4
  obtain ⟨r5, hp5⟩ := refNum_rdNum 1 b p4 s4 hp4
  rw [q5] at r5 hp5
  simp only at r5 hp5
  obtain ⟨r6, hp6⟩ := refNum_rdNum 8 b p5 s5 hp5
  rw [q6] at r6 hp6
  simp only at r6 hp6
  have HRR := Lib.hid (readRec_5 (b.drop p0) s0 n1 (b.drop p1) s1 n2 (b.drop p2) s2 n3 (b.drop p3) s3 n4 (b.drop p4) s4 n5 (b.drop p5) s5 n6 (b.drop p6) s6 r1 r2 r3 r4 r5 r6 hk)
  have b1 : n1 < 256 := by have := rdNum_lt1 (b.drop p0) s0; rw [r1] at this; exact this
  have hw1 : IntKind.i64.wrap (n1 : Int) = (n1 : Int) := by rw [IntKind.wrap_i64]; omega
  have b2 : n2 < 256 := by have := rdNum_lt1 (b.drop p1) s1; rw [r2] at this; exact this
  have hw2 : IntKind.i64.wrap (n2 : Int) = (n2 : Int) := by rw [IntKind.wrap_i64]; omega
  have b3 : n3 < 4294967296 := by have := rdNum_lt4 (b.drop p2) s2; rw [r3] at this; exact this
  have hw3 : IntKind.u32.wrap (n3 : Int) = (n3 : Int) := by rw [IntKind.wrap_u32]; omega
  have b4 : n4 < 4294967296 := by have := rdNum_lt4 (b.drop p3) s3; rw [r4] at this; exact this
  have hw4 : IntKind.u32.wrap (n4 : Int) = (n4 : Int) := by rw [IntKind.wrap_u32]; omega
  have b5 : n5 < 256 := by have := rdNum_lt1 (b.drop p4) s4; rw [r5] at this; exact this
  have hw5 : IntKind.i64.wrap (n5 : Int) = (n5 : Int) := by rw [IntKind.wrap_i64]; omega
  have e1 : ((n1 : Int) == 1) = false := by rw [hk]; rfl
  have e3 : ((n1 : Int) == 3) = false := by rw [hk]; rfl
  have e4 : ((n1 : Int) == 4) = false := by rw [hk]; rfl
  have e5 : ((n1 : Int) == 5) = true := by rw [hk]; rfl
  have HQ1 := Lib.hid (fun W (h : IsRef W bm b p0 s0) => by have := refNumber bm b p0 s0 1 W h hbl; rw [q1] at this; exact this)
  have HQ2 := Lib.hid (fun W (h : IsRef W bm b p1 s1) => by have := refNumber bm b p1 s1 1 W h hbl; rw [q2] at this; exact this)
  have HQ3 := Lib.hid (fun W (h : IsRef W bm b p2 s2) => by have := refNumber bm b p2 s2 4 W h hbl; rw [q3] at this; exact this)
  have HQ4 := Lib.hid (fun W (h : IsRef W bm b p3 s3) => by have := refNumber bm b p3 s3 4 W h hbl; rw [q4] at this; exact this)
  have HQ5 := Lib.hid (fun W (h : IsRef W bm b p4 s4) => by have := refNumber bm b p4 s4 1 W h hbl; rw [q5] at this; exact this)
  have HQ6 := Lib.hid (fun W (h : IsRef W bm b p5 s5) => by have := refNumber bm b p5 s5 8 W h hbl; rw [q6] at this; exact this)
  have HLT := Lib.hid h.lt
  have hb0 : Below w.heap.size w ((w.alloc (.cells Rec.zero.cells 61)).alloc (.cells Rec.zero.cells 61)) := ((Below.refl _ _).alloc (Nat.le_refl _) _).alloc (by simp) _
  have HSa : Hid (OneS w bm b w.heap.size (w.heap.size + 1) ((w.alloc (.cells Rec.zero.cells 61)).alloc (.cells Rec.zero.cells 61)) Rec.zero p0 s0) :=
    ⟨heap_alloc2_new w _ _, heap_alloc2_old w _ _, h.bel hb0, grownBy_of_below hb0, h.lt, Nat.lt_succ_self _, Nat.le_refl _⟩
  clear h hb0 hbl hp0 q1 r1 hp1 q2 r2 hp2 q3 r3 hp3 q4 r4 hp4 q5 r5 hp5 q6 r6 hp6 hk b1 b2 b3 b4 b5
  unfold Rec.zero Rec.cells at HSa
  go_enter Try.func50, Try.ntmps50
  go_wp2_with fail
  generalize hWA : World.alloc (World.alloc w _) _ = WA
  have HS0 : Hid (OneS w bm b w.heap.size (w.heap.size + 1) WA Rec.zero p0 s0) := by rw [← hWA]; exact HSa
  clear hWA HSa
  have hb3 : Hid (w.heap.size + 1 = w.heap.size + 1) := rfl
  clear hb3
  refine (HQ1.out _ HS0.out.2.2.1).mono ?_
  rintro e W1 ⟨rfl, hr, hg⟩
  have HT := Lib.hid (HS0.out.call hr hg)
  clear hr hg HS0 HQ1
  have hc := HT.out.cell 0
  have hf := HT.out.frozen 0
  have HS1 := Lib.hid (HT.out.store (r' := (⟨n1, 0, 0, 0, 0, 0, 0, 0, 0, 0, ByteArray.empty, ByteArray.empty, 0, 0⟩ : Rec)) 0 (.int .i64 (n1 : Int)) (by rfl))
  clear HT
  simp [Rec.cells, Rec.zero] at hc
  go_wp2_with fail
  generalize World.setCell W1 _ _ = WA at HS1 ⊢
  clear hc hf hw1
  refine (HQ2.out _ HS1.out.2.2.1).mono ?_
  rintro e W2 ⟨rfl, hr, hg⟩
  have HT := Lib.hid (HS1.out.call hr hg)
  clear hr hg HS1 HQ2
  have hc := HT.out.cell 1
  have hf := HT.out.frozen 1
  have HS2 := Lib.hid (HT.out.store (r' := (⟨n1, n2, 0, 0, 0, 0, 0, 0, 0, 0, ByteArray.empty, ByteArray.empty, 0, 0⟩ : Rec)) 1 (.int .i64 (n2 : Int)) (by rfl))
  clear HT
  simp [Rec.cells] at hc
  go_wp2_with fail
  generalize World.setCell W2 _ _ = WA at HS2 ⊢
  clear hc hf hw2
  refine (HQ3.out _ HS2.out.2.2.1).mono ?_
  rintro e W3 ⟨rfl, hr, hg⟩
  have HT := Lib.hid (HS2.out.call hr hg)
  clear hr hg HS2 HQ3
  have hc := HT.out.cell 2
  have hf := HT.out.frozen 2
  have hck := HT.out.cell 0
  have HS3 := Lib.hid (HT.out.store (r' := (⟨n1, n2, n3, 0, 0, 0, 0, 0, 0, 0, ByteArray.empty, ByteArray.empty, 0, 0⟩ : Rec)) 2 (.int .u32 (n3 : Int)) (by rfl))
  clear HT
  simp [Rec.cells] at hc hck
  go_wp2_with fail
  generalize World.setCell W3 _ _ = WA at HS3 ⊢
  clear hc hf hw3 hck e1 e3 e4 e5
  refine (HQ4.out _ HS3.out.2.2.1).mono ?_
  rintro e W4 ⟨rfl, hr, hg⟩
  have HT := Lib.hid (HS3.out.call hr hg)
  clear hr hg HS3 HQ4
  have hc := HT.out.cell 7
  have hf := HT.out.frozen 7
  have HS4 := Lib.hid (HT.out.store (r' := (⟨n1, n2, n3, 0, 0, 0, 0, n4, 0, 0, ByteArray.empty, ByteArray.empty, 0, 0⟩ : Rec)) 7 (.int .u32 (n4 : Int)) (by rfl))
  clear HT
  simp [Rec.cells] at hc
  go_wp2_with fail
  generalize World.setCell W4 _ _ = WA at HS4 ⊢
  clear hc hf hw4
  refine (HQ5.out _ HS4.out.2.2.1).mono ?_
  rintro e W5 ⟨rfl, hr, hg⟩
  have HT := Lib.hid (HS4.out.call hr hg)
  clear hr hg HS4 HQ5
  have hc := HT.out.cell 8
  have hf := HT.out.frozen 8
  have HS5 := Lib.hid (HT.out.store (r' := (⟨n1, n2, n3, 0, 0, 0, 0, n4, n5, 0, ByteArray.empty, ByteArray.empty, 0, 0⟩ : Rec)) 8 (.int .i64 (n5 : Int)) (by rfl))
  clear HT
  simp [Rec.cells] at hc
  go_wp2_with fail
  generalize World.setCell W5 _ _ = WA at HS5 ⊢
  clear hc hf hw5
  refine (HQ6.out _ HS5.out.2.2.1).mono ?_
  rintro e W6 ⟨rfl, hr, hg⟩
  have HT := Lib.hid (HS5.out.call hr hg)
  clear hr hg HS5 HQ6
  have hc := HT.out.cell 9
  have hf := HT.out.frozen 9
  have HS6 := Lib.hid (HT.out.store (r' := (⟨n1, n2, n3, 0, 0, 0, 0, n4, n5, n6, ByteArray.empty, ByteArray.empty, 0, 0⟩ : Rec)) 9 (.int .u64 (n6 : Int)) (by rfl))
  clear HT
  simp [Rec.cells] at hc
  generalize hfr : ((⟨n1, n2, n3, 0, 0, 0, 0, n4, n5, n6, ByteArray.empty, ByteArray.empty, 0, 0⟩ : Rec) : Rec) = rr at HS6 HRR
  have HL := Lib.hid HS6.out.1
  have HM := Lib.hid (fun w => refMay rr w)
  have HSZ := Lib.hid (rec_sizeC rr)
  have HALL := Lib.hid (rec_all rr)
  have HV : Hid (rr.v = .agg rr.cells) := rfl
  unfold Rec.v at HM
  have HS14 : Hid (rr.cells.size = 14) := rfl
  generalize rr.cells = C at *
  go_wp2_with (refine wpList_load_row rfl 61 (.tmp 4) rfl (w.heap.size + 1) rfl 61 C (0, 0) _ HL.out Try.underlying61 rfl HSZ.out ?_)
  refine (HM.out _).mono ?_
  rintro e WB ⟨rfl, hbb⟩
  have HX := Lib.hid (OneF.of HS6.out hbb HV.out)
  clear hbb HS6 hc hf HL HM hfr
  generalize hmm : rr.may = m at *
  have HMM := Lib.hid hmm
  clear hmm
  go_wp2_with fail
  cases m with
  | true =>
    refine Reg.wp_regionO w.heap.size 9 (OneF w bm b w.heap.size (w.heap.size + 1) C Rec.zero.cells p6 s6) (OneD w bm b w.heap.size C p6 s6) (by kernel_rfl) (by kernel_rfl) HX.out.drew ?_
    refine Reg.readO (.agg C) (fun _ => Below.refl _ _) (by decide) (by kernel_rfl) (fun e W hR hP => ⟨by rfl, ?_⟩) ?_
    · refine Reg.gives_mono (fun v' w' h => ?_) (gives_load_rec (.tmp 4) rfl (w.heap.size + 1) rfl _ _ _ hP.1 HSZ.out)
      exact ⟨h.2, h.1⟩
    simp only [Act.put, List.setIfInBounds_toArray, List.set_cons_zero, List.set_cons_succ, Nat.reduceAdd]
    refine Reg.segO 3 (by kernel_rfl) rfl (by kernel_rfl) ?_
    apply Exists.intro
    refine ⟨fun e => ?_, ?_⟩
    · simp only [List.take_succ_cons, List.take_zero]
      repeat (go_big_quiet_step ((intro _; rfl)))
      refine wpQuiet_nil ?_
      exact rfl
    simp only [List.drop_succ_cons, List.drop_zero, Nat.reduceAdd]
    refine Reg.stillO (.pointer (some ⟨bm, 0, none⟩)) (fun _ => Below.refl _ _) (by decide) (fun e W hR => ⟨by rfl, ?_⟩) ?_
    · unfold Reg.gives
      go_simp
    simp only [Act.put, List.setIfInBounds_toArray, List.set_cons_zero, List.set_cons_succ, Nat.reduceAdd]
    refine Reg.segO 1 (by kernel_rfl) rfl (by kernel_rfl) ?_
    apply Exists.intro
    refine ⟨fun e => ?_, ?_⟩
    · simp only [List.take_succ_cons, List.take_zero]
      repeat (go_big_quiet_step ((intro _; rfl)))
      refine wpQuiet_nil ?_
      exact rfl
    simp only [List.drop_succ_cons, List.drop_zero, Nat.reduceAdd]
    refine Reg.stillO (.bool s6) (fun _ => Below.refl _ _) (by decide) (fun e W hR => ⟨by rfl, ?_⟩) ?_
    · have hcs := HX.out.short hR HLT.out
      unfold Reg.gives
      go_simp
    simp only [Act.put, List.setIfInBounds_toArray, List.set_cons_zero, List.set_cons_succ, Nat.reduceAdd]
    refine Reg.segO 2 (by kernel_rfl) rfl (by kernel_rfl) ?_
    apply Exists.intro
    refine ⟨fun e => ?_, ?_⟩
    · simp only [List.take_succ_cons, List.take_zero]
      repeat (go_big_quiet_step ((intro _; rfl)))
      refine wpQuiet_nil ?_
      exact rfl
    simp only [List.drop_succ_cons, List.drop_zero, Nat.reduceAdd]
    refine Reg.callO (fun e W hR hP => ⟨by rfl, ?_⟩) ?_
    · refine Reg.gives_mono (fun v' w' h => ?_) (gives_store_rec (.tmp 2) (.tmp 87) rfl w.heap.size Rec.zero.cells C rfl rfl hP.2.1 rfl HS14.out HALL.out)
      subst h
      exact ⟨hP.store_below C, hP.store C⟩
    simp only [Act.put]
    refine Reg.segO 1 (by kernel_rfl) rfl (by kernel_rfl) ?_
    apply Exists.intro
    refine ⟨fun e => ?_, ?_⟩
    · simp only [List.take_succ_cons, List.take_zero]
      repeat (go_big_quiet_step ((intro _; rfl)))
      refine wpQuiet_nil ?_
      exact rfl
    simp only [List.drop_succ_cons, List.drop_zero, Nat.reduceAdd]
    intro e W9 hR hJ hf
    have HD := Lib.hid (hJ.2 rfl)
    clear hR hJ hf
    go_wp2
    refine bodyPost_ret (results_cell_bool rfl _ _ w.heap.size C HD.out.1 HSZ.out rfl) rfl ?_
    exact ⟨by rw [HRR.out]; show _ = Ending.returned (.tuple #[rr.v, .bool (rr.may && !s6)]); rw [HV.out, HMM.out]; rfl, p6, by rw [HRR.out], by rw [HRR.out]; exact HD.out.2.1, HD.out.2.2⟩
  | false =>
    refine Reg.wp_regionO w.heap.size 9 (OneF w bm b w.heap.size (w.heap.size + 1) C Rec.zero.cells p6 s6) (OneD w bm b w.heap.size C p6 s6) (by kernel_rfl) (by kernel_rfl) HX.out.drew ?_
    refine Reg.readO (.agg C) (fun _ => Below.refl _ _) (by decide) (by kernel_rfl) (fun e W hR hP => ⟨by rfl, ?_⟩) ?_
    · refine Reg.gives_mono (fun v' w' h => ?_) (gives_load_rec (.tmp 4) rfl (w.heap.size + 1) rfl _ _ _ hP.1 HSZ.out)
      exact ⟨h.2, h.1⟩
    simp only [Act.put, List.setIfInBounds_toArray, List.set_cons_zero, List.set_cons_succ, Nat.reduceAdd]
    refine Reg.segO 3 (by kernel_rfl) rfl (by kernel_rfl) ?_
    apply Exists.intro
    refine ⟨fun e => ?_, ?_⟩
    · simp only [List.take_succ_cons, List.take_zero]
      repeat (go_big_quiet_step ((intro _; rfl)))
      refine wpQuiet_nil ?_
      exact rfl
    simp only [List.drop_succ_cons, List.drop_zero, Nat.reduceAdd]
    refine Reg.skipO (by decide) (fun e => by rfl) ?_
    simp only [Act.put, List.setIfInBounds_toArray, List.set_cons_zero, List.set_cons_succ, Nat.reduceAdd]
    refine Reg.segO 1 (by kernel_rfl) rfl (by kernel_rfl) ?_
    apply Exists.intro
    refine ⟨fun e => ?_, ?_⟩
    · simp only [List.take_succ_cons, List.take_zero]
      repeat (go_big_quiet_step ((intro _; rfl)))
      refine wpQuiet_nil ?_
      exact rfl
    simp only [List.drop_succ_cons, List.drop_zero, Nat.reduceAdd]
    refine Reg.skipO (by decide) (fun e => by rfl) ?_
    simp only [Act.put, List.setIfInBounds_toArray, List.set_cons_zero, List.set_cons_succ, Nat.reduceAdd]
    refine Reg.segO 2 (by kernel_rfl) rfl (by kernel_rfl) ?_
    apply Exists.intro
    refine ⟨fun e => ?_, ?_⟩
    · simp only [List.take_succ_cons, List.take_zero]
      repeat (go_big_quiet_step ((intro _; rfl)))
      refine wpQuiet_nil ?_
      exact rfl
    simp only [List.drop_succ_cons, List.drop_zero, Nat.reduceAdd]
    refine Reg.callO (fun e W hR hP => ⟨by rfl, ?_⟩) ?_
    · refine Reg.gives_mono (fun v' w' h => ?_) (gives_store_rec (.tmp 2) (.tmp 87) rfl w.heap.size Rec.zero.cells C rfl rfl hP.2.1 rfl HS14.out HALL.out)
      subst h
      exact ⟨hP.store_below C, hP.store C⟩
    simp only [Act.put]
    refine Reg.segO 1 (by kernel_rfl) rfl (by kernel_rfl) ?_
    apply Exists.intro
    refine ⟨fun e => ?_, ?_⟩
    · simp only [List.take_succ_cons, List.take_zero]
      repeat (go_big_quiet_step ((intro _; rfl)))
      refine wpQuiet_nil ?_
      exact rfl
    simp only [List.drop_succ_cons, List.drop_zero, Nat.reduceAdd]
    intro e W9 hR hJ hf
    have HD := Lib.hid (hJ.2 rfl)
    clear hR hJ hf
    go_wp2
    refine bodyPost_ret (results_cell_bool rfl _ _ w.heap.size C HD.out.1 HSZ.out rfl) rfl ?_
    exact ⟨by rw [HRR.out]; show _ = Ending.returned (.tuple #[rr.v, .bool (rr.may && !s6)]); rw [HV.out, HMM.out]; rfl, p6, by rw [HRR.out], by rw [HRR.out]; exact HD.out.2.1, HD.out.2.2⟩
set_option maxRecDepth 100000 in
set_option maxHeartbeats 4000000 in
theorem refOne6 (bm : Nat) (b : List UInt8) (p0 : Nat) (s0 : Bool) (n1 : Nat) (p1 : Nat) (s1 : Bool) (n2 : Nat) (p2 : Nat) (s2 : Bool) (n3 : Nat) (p3 : Nat) (s3 : Bool) (n4 : Nat) (p4 : Nat) (s4 : Bool) (w : World) (h : IsRef w bm b p0 s0) (hbl : b.length ≤ 100000000000) (q1 : refNum 1 b p0 s0 = (n1, p1, s1)) (q2 : refNum 1 b p1 s1 = (n2, p2, s2)) (q3 : refNum 4 b p2 s2 = (n3, p3, s3)) (q4 : refNum 4 b p3 s3 = (n4, p4, s4)) (hk : n1 = 6) :
    Calls Try.prog 50 #[.pointer (some ⟨bm, 0, none⟩)] w (OneOk bm b (readRec (b.drop p0) s0) w) := by
  have hp0 : p0 ≤ b.length := by obtain ⟨_, _, _, _, _, _, hp, _⟩ := h; exact hp
  obtain ⟨r1, hp1⟩ := refNum_rdNum 1 b p0 s0 hp0
  rw [q1] at r1 hp1
  simp only at r1 hp1
  obtain ⟨r2, hp2⟩ := refNum_rdNum 1 b p1 s1 hp1
  rw [q2] at r2 hp2
  simp only at r2 hp2
  obtain ⟨r3, hp3⟩ := refNum_rdNum 4 b p2 s2 hp2
  rw [q3] at r3 hp3
  simp only at r3 hp3
  obtain ⟨r4, hp4⟩ := refNum_rdNum 4 b p3 s3 hp3
  rw [q4] at r4 hp4
  simp only at r4 hp4
  have HRR := Lib.hid (readRec_6 (b.drop p0) s0 n1 (b.drop p1) s1 n2 (b.drop p2) s2 n3 (b.drop p3) s3 n4 (b.drop p4) s4 r1 r2 r3 r4 hk)
  have b1 : n1 < 256 := by have := rdNum_lt1 (b.drop p0) s0; rw [r1] at this; exact this
  have hw1 : IntKind.i64.wrap (n1 : Int) = (n1 : Int) := by rw [IntKind.wrap_i64]; omega
  have b2 : n2 < 256 := by have := rdNum_lt1 (b.drop p1) s1; rw [r2] at this; exact this
  have hw2 : IntKind.i64.wrap (n2 : Int) = (n2 : Int) := by rw [IntKind.wrap_i64]; omega
  have b3 : n3 < 4294967296 := by have := rdNum_lt4 (b.drop p2) s2; rw [r3] at this; exact this
  have hw3 : IntKind.u32.wrap (n3 : Int) = (n3 : Int) := by rw [IntKind.wrap_u32]; omega
  have b4 : n4 < 4294967296 := by have := rdNum_lt4 (b.drop p3) s3; rw [r4] at this; exact this
  have hw4 : IntKind.u32.wrap (n4 : Int) = (n4 : Int) := by rw [IntKind.wrap_u32]; omega
  have e1 : ((n1 : Int) == 1) = false := by rw [hk]; rfl
  have e3 : ((n1 : Int) == 3) = false := by rw [hk]; rfl
  have e4 : ((n1 : Int) == 4) = false := by rw [hk]; rfl
  have e5 : ((n1 : Int) == 5) = false := by rw [hk]; rfl
  have e6 : ((n1 : Int) == 6) = true := by rw [hk]; rfl
  have HQ1 := Lib.hid (fun W (h : IsRef W bm b p0 s0) => by have := refNumber bm b p0 s0 1 W h hbl; rw [q1] at this; exact this)
  have HQ2 := Lib.hid (fun W (h : IsRef W bm b p1 s1) => by have := refNumber bm b p1 s1 1 W h hbl; rw [q2] at this; exact this)
  have HQ3 := Lib.hid (fun W (h : IsRef W bm b p2 s2) => by have := refNumber bm b p2 s2 4 W h hbl; rw [q3] at this; exact this)
  have HQ4 := Lib.hid (fun W (h : IsRef W bm b p3 s3) => by have := refNumber bm b p3 s3 4 W h hbl; rw [q4] at this; exact this)
  have HLT := Lib.hid h.lt
  have hb0 : Below w.heap.size w ((w.alloc (.cells Rec.zero.cells 61)).alloc (.cells Rec.zero.cells 61)) := ((Below.refl _ _).alloc (Nat.le_refl _) _).alloc (by simp) _
  have HSa : Hid (OneS w bm b w.heap.size (w.heap.size + 1) ((w.alloc (.cells Rec.zero.cells 61)).alloc (.cells Rec.zero.cells 61)) Rec.zero p0 s0) :=
    ⟨heap_alloc2_new w _ _, heap_alloc2_old w _ _, h.bel hb0, grownBy_of_below hb0, h.lt, Nat.lt_succ_self _, Nat.le_refl _⟩
  clear h hb0 hbl hp0 q1 r1 hp1 q2 r2 hp2 q3 r3 hp3 q4 r4 hp4 hk b1 b2 b3 b4
  unfold Rec.zero Rec.cells at HSa
  go_enter Try.func50, Try.ntmps50
  go_wp2_with fail
  generalize hWA : World.alloc (World.alloc w _) _ = WA
  have HS0 : Hid (OneS w bm b w.heap.size (w.heap.size + 1) WA Rec.zero p0 s0) := by rw [← hWA]; exact HSa
  clear hWA HSa
  have hb3 : Hid (w.heap.size + 1 = w.heap.size + 1) := rfl
  clear hb3
  refine (HQ1.out _ HS0.out.2.2.1).mono ?_
  rintro e W1 ⟨rfl, hr, hg⟩
  have HT := Lib.hid (HS0.out.call hr hg)
  clear hr hg HS0 HQ1
  have hc := HT.out.cell 0
  have hf := HT.out.frozen 0
  have HS1 := Lib.hid (HT.out.store (r' := (⟨n1, 0, 0, 0, 0, 0, 0, 0, 0, 0, ByteArray.empty, ByteArray.empty, 0, 0⟩ : Rec)) 0 (.int .i64 (n1 : Int)) (by rfl))
  clear HT
  simp [Rec.cells, Rec.zero] at hc
  go_wp2_with fail
  generalize World.setCell W1 _ _ = WA at HS1 ⊢
  clear hc hf hw1
  refine (HQ2.out _ HS1.out.2.2.1).mono ?_
  rintro e W2 ⟨rfl, hr, hg⟩
  have HT := Lib.hid (HS1.out.call hr hg)
  clear hr hg HS1 HQ2
  have hc := HT.out.cell 1
  have hf := HT.out.frozen 1
  have HS2 := Lib.hid (HT.out.store (r' := (⟨n1, n2, 0, 0, 0, 0, 0, 0, 0, 0, ByteArray.empty, ByteArray.empty, 0, 0⟩ : Rec)) 1 (.int .i64 (n2 : Int)) (by rfl))
  clear HT
  simp [Rec.cells] at hc
  go_wp2_with fail
  generalize World.setCell W2 _ _ = WA at HS2 ⊢
  clear hc hf hw2
  refine (HQ3.out _ HS2.out.2.2.1).mono ?_
  rintro e W3 ⟨rfl, hr, hg⟩
  have HT := Lib.hid (HS2.out.call hr hg)
  clear hr hg HS2 HQ3
  have hc := HT.out.cell 2
  have hf := HT.out.frozen 2
  have hck := HT.out.cell 0
  have HS3 := Lib.hid (HT.out.store (r' := (⟨n1, n2, n3, 0, 0, 0, 0, 0, 0, 0, ByteArray.empty, ByteArray.empty, 0, 0⟩ : Rec)) 2 (.int .u32 (n3 : Int)) (by rfl))
  clear HT
  simp [Rec.cells] at hc hck
  go_wp2_with fail
  generalize World.setCell W3 _ _ = WA at HS3 ⊢
  clear hc hf hw3 hck e1 e3 e4 e5 e6
  refine (HQ4.out _ HS3.out.2.2.1).mono ?_
  rintro e W4 ⟨rfl, hr, hg⟩
  have HT := Lib.hid (HS3.out.call hr hg)
  clear hr hg HS3 HQ4
  have hc := HT.out.cell 7
  have hf := HT.out.frozen 7
  have HS4 := Lib.hid (HT.out.store (r' := (⟨n1, n2, n3, 0, 0, 0, 0, n4, 0, 0, ByteArray.empty, ByteArray.empty, 0, 0⟩ : Rec)) 7 (.int .u32 (n4 : Int)) (by rfl))
  clear HT
  simp [Rec.cells] at hc
  generalize hfr : ((⟨n1, n2, n3, 0, 0, 0, 0, n4, 0, 0, ByteArray.empty, ByteArray.empty, 0, 0⟩ : Rec) : Rec) = rr at HS4 HRR
  have HL := Lib.hid HS4.out.1
  have HM := Lib.hid (fun w => refMay rr w)
  have HSZ := Lib.hid (rec_sizeC rr)
  have HALL := Lib.hid (rec_all rr)
  have HV : Hid (rr.v = .agg rr.cells) := rfl
  unfold Rec.v at HM
  have HS14 : Hid (rr.cells.size = 14) := rfl
  generalize rr.cells = C at *
  go_wp2_with (refine wpList_load_row rfl 61 (.tmp 4) rfl (w.heap.size + 1) rfl 61 C (0, 0) _ HL.out Try.underlying61 rfl HSZ.out ?_)
  refine (HM.out _).mono ?_
  rintro e WB ⟨rfl, hbb⟩
  have HX := Lib.hid (OneF.of HS4.out hbb HV.out)
  clear hbb HS4 hc hf HL HM hfr
  generalize hmm : rr.may = m at *
  have HMM := Lib.hid hmm
  clear hmm
  go_wp2_with fail
  cases m with
  | true =>
    refine Reg.wp_regionO w.heap.size 9 (OneF w bm b w.heap.size (w.heap.size + 1) C Rec.zero.cells p4 s4) (OneD w bm b w.heap.size C p4 s4) (by kernel_rfl) (by kernel_rfl) HX.out.drew ?_
    refine Reg.readO (.agg C) (fun _ => Below.refl _ _) (by decide) (by kernel_rfl) (fun e W hR hP => ⟨by rfl, ?_⟩) ?_
    · refine Reg.gives_mono (fun v' w' h => ?_) (gives_load_rec (.tmp 4) rfl (w.heap.size + 1) rfl _ _ _ hP.1 HSZ.out)
      exact ⟨h.2, h.1⟩
    simp only [Act.put, List.setIfInBounds_toArray, List.set_cons_zero, List.set_cons_succ, Nat.reduceAdd]
    refine Reg.segO 3 (by kernel_rfl) rfl (by kernel_rfl) ?_
    apply Exists.intro
    refine ⟨fun e => ?_, ?_⟩
    · simp only [List.take_succ_cons, List.take_zero]
      repeat (go_big_quiet_step ((intro _; rfl)))
      refine wpQuiet_nil ?_
      exact rfl
    simp only [List.drop_succ_cons, List.drop_zero, Nat.reduceAdd]
    refine Reg.stillO (.pointer (some ⟨bm, 0, none⟩)) (fun _ => Below.refl _ _) (by decide) (fun e W hR => ⟨by rfl, ?_⟩) ?_
    · unfold Reg.gives
      go_simp
    simp only [Act.put, List.setIfInBounds_toArray, List.set_cons_zero, List.set_cons_succ, Nat.reduceAdd]
    refine Reg.segO 1 (by kernel_rfl) rfl (by kernel_rfl) ?_
    apply Exists.intro
    refine ⟨fun e => ?_, ?_⟩
    · simp only [List.take_succ_cons, List.take_zero]
      repeat (go_big_quiet_step ((intro _; rfl)))
      refine wpQuiet_nil ?_
      exact rfl
    simp only [List.drop_succ_cons, List.drop_zero, Nat.reduceAdd]
    refine Reg.stillO (.bool s4) (fun _ => Below.refl _ _) (by decide) (fun e W hR => ⟨by rfl, ?_⟩) ?_
    · have hcs := HX.out.short hR HLT.out
      unfold Reg.gives
      go_simp
    simp only [Act.put, List.setIfInBounds_toArray, List.set_cons_zero, List.set_cons_succ, Nat.reduceAdd]
    refine Reg.segO 2 (by kernel_rfl) rfl (by kernel_rfl) ?_
    apply Exists.intro
    refine ⟨fun e => ?_, ?_⟩
    · simp only [List.take_succ_cons, List.take_zero]
      repeat (go_big_quiet_step ((intro _; rfl)))
      refine wpQuiet_nil ?_
      exact rfl
    simp only [List.drop_succ_cons, List.drop_zero, Nat.reduceAdd]
    refine Reg.callO (fun e W hR hP => ⟨by rfl, ?_⟩) ?_
    · refine Reg.gives_mono (fun v' w' h => ?_) (gives_store_rec (.tmp 2) (.tmp 87) rfl w.heap.size Rec.zero.cells C rfl rfl hP.2.1 rfl HS14.out HALL.out)
      subst h
      exact ⟨hP.store_below C, hP.store C⟩
    simp only [Act.put]
    refine Reg.segO 1 (by kernel_rfl) rfl (by kernel_rfl) ?_
    apply Exists.intro
    refine ⟨fun e => ?_, ?_⟩
    · simp only [List.take_succ_cons, List.take_zero]
      repeat (go_big_quiet_step ((intro _; rfl)))
      refine wpQuiet_nil ?_
      exact rfl
    simp only [List.drop_succ_cons, List.drop_zero, Nat.reduceAdd]
    intro e W9 hR hJ hf
    have HD := Lib.hid (hJ.2 rfl)
    clear hR hJ hf
    go_wp2
    refine bodyPost_ret (results_cell_bool rfl _ _ w.heap.size C HD.out.1 HSZ.out rfl) rfl ?_
    exact ⟨by rw [HRR.out]; show _ = Ending.returned (.tuple #[rr.v, .bool (rr.may && !s4)]); rw [HV.out, HMM.out]; rfl, p4, by rw [HRR.out], by rw [HRR.out]; exact HD.out.2.1, HD.out.2.2⟩
  | false =>
    refine Reg.wp_regionO w.heap.size 9 (OneF w bm b w.heap.size (w.heap.size + 1) C Rec.zero.cells p4 s4) (OneD w bm b w.heap.size C p4 s4) (by kernel_rfl) (by kernel_rfl) HX.out.drew ?_
    refine Reg.readO (.agg C) (fun _ => Below.refl _ _) (by decide) (by kernel_rfl) (fun e W hR hP => ⟨by rfl, ?_⟩) ?_
    · refine Reg.gives_mono (fun v' w' h => ?_) (gives_load_rec (.tmp 4) rfl (w.heap.size + 1) rfl _ _ _ hP.1 HSZ.out)
      exact ⟨h.2, h.1⟩
    simp only [Act.put, List.setIfInBounds_toArray, List.set_cons_zero, List.set_cons_succ, Nat.reduceAdd]
    refine Reg.segO 3 (by kernel_rfl) rfl (by kernel_rfl) ?_
    apply Exists.intro
    refine ⟨fun e => ?_, ?_⟩
    · simp only [List.take_succ_cons, List.take_zero]
      repeat (go_big_quiet_step ((intro _; rfl)))
      refine wpQuiet_nil ?_
      exact rfl
    simp only [List.drop_succ_cons, List.drop_zero, Nat.reduceAdd]
    refine Reg.skipO (by decide) (fun e => by rfl) ?_
    simp only [Act.put, List.setIfInBounds_toArray, List.set_cons_zero, List.set_cons_succ, Nat.reduceAdd]
    refine Reg.segO 1 (by kernel_rfl) rfl (by kernel_rfl) ?_
    apply Exists.intro
    refine ⟨fun e => ?_, ?_⟩
    · simp only [List.take_succ_cons, List.take_zero]
      repeat (go_big_quiet_step ((intro _; rfl)))
      refine wpQuiet_nil ?_
      exact rfl
    simp only [List.drop_succ_cons, List.drop_zero, Nat.reduceAdd]
    refine Reg.skipO (by decide) (fun e => by rfl) ?_
    simp only [Act.put, List.setIfInBounds_toArray, List.set_cons_zero, List.set_cons_succ, Nat.reduceAdd]
    refine Reg.segO 2 (by kernel_rfl) rfl (by kernel_rfl) ?_
    apply Exists.intro
    refine ⟨fun e => ?_, ?_⟩
    · simp only [List.take_succ_cons, List.take_zero]
      repeat (go_big_quiet_step ((intro _; rfl)))
      refine wpQuiet_nil ?_
      exact rfl
    simp only [List.drop_succ_cons, List.drop_zero, Nat.reduceAdd]
    refine Reg.callO (fun e W hR hP => ⟨by rfl, ?_⟩) ?_
    · refine Reg.gives_mono (fun v' w' h => ?_) (gives_store_rec (.tmp 2) (.tmp 87) rfl w.heap.size Rec.zero.cells C rfl rfl hP.2.1 rfl HS14.out HALL.out)
      subst h
      exact ⟨hP.store_below C, hP.store C⟩
    simp only [Act.put]
    refine Reg.segO 1 (by kernel_rfl) rfl (by kernel_rfl) ?_
    apply Exists.intro
    refine ⟨fun e => ?_, ?_⟩
    · simp only [List.take_succ_cons, List.take_zero]
      repeat (go_big_quiet_step ((intro _; rfl)))
      refine wpQuiet_nil ?_
      exact rfl
    simp only [List.drop_succ_cons, List.drop_zero, Nat.reduceAdd]
    intro e W9 hR hJ hf
    have HD := Lib.hid (hJ.2 rfl)
    clear hR hJ hf
    go_wp2
    refine bodyPost_ret (results_cell_bool rfl _ _ w.heap.size C HD.out.1 HSZ.out rfl) rfl ?_
    exact ⟨by rw [HRR.out]; show _ = Ending.returned (.tuple #[rr.v, .bool (rr.may && !s4)]); rw [HV.out, HMM.out]; rfl, p4, by rw [HRR.out], by rw [HRR.out]; exact HD.out.2.1, HD.out.2.2⟩
set_option maxRecDepth 100000 in
set_option maxHeartbeats 4000000 in
theorem refOne0 (bm : Nat) (b : List UInt8) (p0 : Nat) (s0 : Bool) (n1 : Nat) (p1 : Nat) (s1 : Bool) (n2 : Nat) (p2 : Nat) (s2 : Bool) (n3 : Nat) (p3 : Nat) (s3 : Bool) (w : World) (h : IsRef w bm b p0 s0) (hbl : b.length ≤ 100000000000) (q1 : refNum 1 b p0 s0 = (n1, p1, s1)) (q2 : refNum 1 b p1 s1 = (n2, p2, s2)) (q3 : refNum 4 b p2 s2 = (n3, p3, s3)) (g1 : n1 ≠ 1) (g3 : n1 ≠ 3) (g4 : n1 ≠ 4) (g5 : n1 ≠ 5) (g6 : n1 ≠ 6) :
    Calls Try.prog 50 #[.pointer (some ⟨bm, 0, none⟩)] w (OneOk bm b (readRec (b.drop p0) s0) w) := by
  have hp0 : p0 ≤ b.length := by obtain ⟨_, _, _, _, _, _, hp, _⟩ := h; exact hp
  obtain ⟨r1, hp1⟩ := refNum_rdNum 1 b p0 s0 hp0
  rw [q1] at r1 hp1
  simp only at r1 hp1
  obtain ⟨r2, hp2⟩ := refNum_rdNum 1 b p1 s1 hp1
  rw [q2] at r2 hp2
  simp only at r2 hp2
  obtain ⟨r3, hp3⟩ := refNum_rdNum 4 b p2 s2 hp2
  rw [q3] at r3 hp3
  simp only at r3 hp3
  have HRR := Lib.hid (readRec_0 (b.drop p0) s0 n1 (b.drop p1) s1 n2 (b.drop p2) s2 n3 (b.drop p3) s3 r1 r2 r3 g1 g3 g4 g5 g6)
  have b1 : n1 < 256 := by have := rdNum_lt1 (b.drop p0) s0; rw [r1] at this; exact this
  have hw1 : IntKind.i64.wrap (n1 : Int) = (n1 : Int) := by rw [IntKind.wrap_i64]; omega
  have b2 : n2 < 256 := by have := rdNum_lt1 (b.drop p1) s1; rw [r2] at this; exact this
  have hw2 : IntKind.i64.wrap (n2 : Int) = (n2 : Int) := by rw [IntKind.wrap_i64]; omega
  have b3 : n3 < 4294967296 := by have := rdNum_lt4 (b.drop p2) s2; rw [r3] at this; exact this
  have hw3 : IntKind.u32.wrap (n3 : Int) = (n3 : Int) := by rw [IntKind.wrap_u32]; omega
  have e1 : ((n1 : Int) == 1) = false := by rw [beq_eq_false_iff_ne]; omega
  have e3 : ((n1 : Int) == 3) = false := by rw [beq_eq_false_iff_ne]; omega
  have e4 : ((n1 : Int) == 4) = false := by rw [beq_eq_false_iff_ne]; omega
  have e5 : ((n1 : Int) == 5) = false := by rw [beq_eq_false_iff_ne]; omega
  have e6 : ((n1 : Int) == 6) = false := by rw [beq_eq_false_iff_ne]; omega
  have HQ1 := Lib.hid (fun W (h : IsRef W bm b p0 s0) => by have := refNumber bm b p0 s0 1 W h hbl; rw [q1] at this; exact this)
  have HQ2 := Lib.hid (fun W (h : IsRef W bm b p1 s1) => by have := refNumber bm b p1 s1 1 W h hbl; rw [q2] at this; exact this)
  have HQ3 := Lib.hid (fun W (h : IsRef W bm b p2 s2) => by have := refNumber bm b p2 s2 4 W h hbl; rw [q3] at this; exact this)
  have HLT := Lib.hid h.lt
  have hb0 : Below w.heap.size w ((w.alloc (.cells Rec.zero.cells 61)).alloc (.cells Rec.zero.cells 61)) := ((Below.refl _ _).alloc (Nat.le_refl _) _).alloc (by simp) _
  have HSa : Hid (OneS w bm b w.heap.size (w.heap.size + 1) ((w.alloc (.cells Rec.zero.cells 61)).alloc (.cells Rec.zero.cells 61)) Rec.zero p0 s0) :=
    ⟨heap_alloc2_new w _ _, heap_alloc2_old w _ _, h.bel hb0, grownBy_of_below hb0, h.lt, Nat.lt_succ_self _, Nat.le_refl _⟩
  clear h hb0 hbl hp0 q1 r1 hp1 q2 r2 hp2 q3 r3 hp3 g1 g3 g4 g5 g6 b1 b2 b3
  unfold Rec.zero Rec.cells at HSa
  go_enter Try.func50, Try.ntmps50
  go_wp2_with fail
  generalize hWA : World.alloc (World.alloc w _) _ = WA
  have HS0 : Hid (OneS w bm b w.heap.size (w.heap.size + 1) WA Rec.zero p0 s0) := by rw [← hWA]; exact HSa
  clear hWA HSa
  have hb3 : Hid (w.heap.size + 1 = w.heap.size + 1) := rfl
  clear hb3
  refine (HQ1.out _ HS0.out.2.2.1).mono ?_
  rintro e W1 ⟨rfl, hr, hg⟩
  have HT := Lib.hid (HS0.out.call hr hg)
  clear hr hg HS0 HQ1
  have hc := HT.out.cell 0
  have hf := HT.out.frozen 0
  have HS1 := Lib.hid (HT.out.store (r' := (⟨n1, 0, 0, 0, 0, 0, 0, 0, 0, 0, ByteArray.empty, ByteArray.empty, 0, 0⟩ : Rec)) 0 (.int .i64 (n1 : Int)) (by rfl))
  clear HT
  simp [Rec.cells, Rec.zero] at hc
  go_wp2_with fail
  generalize World.setCell W1 _ _ = WA at HS1 ⊢
  clear hc hf hw1
  refine (HQ2.out _ HS1.out.2.2.1).mono ?_
  rintro e W2 ⟨rfl, hr, hg⟩
  have HT := Lib.hid (HS1.out.call hr hg)
  clear hr hg HS1 HQ2
  have hc := HT.out.cell 1
  have hf := HT.out.frozen 1
  have HS2 := Lib.hid (HT.out.store (r' := (⟨n1, n2, 0, 0, 0, 0, 0, 0, 0, 0, ByteArray.empty, ByteArray.empty, 0, 0⟩ : Rec)) 1 (.int .i64 (n2 : Int)) (by rfl))
  clear HT
  simp [Rec.cells] at hc
  go_wp2_with fail
  generalize World.setCell W2 _ _ = WA at HS2 ⊢
  clear hc hf hw2
  refine (HQ3.out _ HS2.out.2.2.1).mono ?_
  rintro e W3 ⟨rfl, hr, hg⟩
  have HT := Lib.hid (HS2.out.call hr hg)
  clear hr hg HS2 HQ3
  have hc := HT.out.cell 2
  have hf := HT.out.frozen 2
  have hck := HT.out.cell 0
  have HS3 := Lib.hid (HT.out.store (r' := (⟨n1, n2, n3, 0, 0, 0, 0, 0, 0, 0, ByteArray.empty, ByteArray.empty, 0, 0⟩ : Rec)) 2 (.int .u32 (n3 : Int)) (by rfl))
  clear HT
  simp [Rec.cells] at hc hck
  generalize hfr : ((⟨n1, n2, n3, 0, 0, 0, 0, 0, 0, 0, ByteArray.empty, ByteArray.empty, 0, 0⟩ : Rec) : Rec) = rr at HS3 HRR
  have HL := Lib.hid HS3.out.1
  have HM := Lib.hid (fun w => refMay rr w)
  have HSZ := Lib.hid (rec_sizeC rr)
  have HALL := Lib.hid (rec_all rr)
  have HV : Hid (rr.v = .agg rr.cells) := rfl
  unfold Rec.v at HM
  have HS14 : Hid (rr.cells.size = 14) := rfl
  generalize rr.cells = C at *
  go_wp2_with (refine wpList_load_row rfl 61 (.tmp 4) rfl (w.heap.size + 1) rfl 61 C (0, 0) _ HL.out Try.underlying61 rfl HSZ.out ?_)
  refine (HM.out _).mono ?_
  rintro e WB ⟨rfl, hbb⟩
  have HX := Lib.hid (OneF.of HS3.out hbb HV.out)
  clear hbb HS3 hc hf HL HM hfr
  generalize hmm : rr.may = m at *
  have HMM := Lib.hid hmm
  clear hmm
  go_wp2_with fail
  cases m with
  | true =>
    refine Reg.wp_regionO w.heap.size 9 (OneF w bm b w.heap.size (w.heap.size + 1) C Rec.zero.cells p3 s3) (OneD w bm b w.heap.size C p3 s3) (by kernel_rfl) (by kernel_rfl) HX.out.drew ?_
    refine Reg.readO (.agg C) (fun _ => Below.refl _ _) (by decide) (by kernel_rfl) (fun e W hR hP => ⟨by rfl, ?_⟩) ?_
    · refine Reg.gives_mono (fun v' w' h => ?_) (gives_load_rec (.tmp 4) rfl (w.heap.size + 1) rfl _ _ _ hP.1 HSZ.out)
      exact ⟨h.2, h.1⟩
    simp only [Act.put, List.setIfInBounds_toArray, List.set_cons_zero, List.set_cons_succ, Nat.reduceAdd]
    refine Reg.segO 3 (by kernel_rfl) rfl (by kernel_rfl) ?_
    apply Exists.intro
    refine ⟨fun e => ?_, ?_⟩
    · simp only [List.take_succ_cons, List.take_zero]
      repeat (go_big_quiet_step ((intro _; rfl)))
      refine wpQuiet_nil ?_
      exact rfl
    simp only [List.drop_succ_cons, List.drop_zero, Nat.reduceAdd]
    refine Reg.stillO (.pointer (some ⟨bm, 0, none⟩)) (fun _ => Below.refl _ _) (by decide) (fun e W hR => ⟨by rfl, ?_⟩) ?_
    · unfold Reg.gives
      go_simp
    simp only [Act.put, List.setIfInBounds_toArray, List.set_cons_zero, List.set_cons_succ, Nat.reduceAdd]
    refine Reg.segO 1 (by kernel_rfl) rfl (by kernel_rfl) ?_
    apply Exists.intro
    refine ⟨fun e => ?_, ?_⟩
    · simp only [List.take_succ_cons, List.take_zero]
      repeat (go_big_quiet_step ((intro _; rfl)))
      refine wpQuiet_nil ?_
      exact rfl
    simp only [List.drop_succ_cons, List.drop_zero, Nat.reduceAdd]
    refine Reg.stillO (.bool s3) (fun _ => Below.refl _ _) (by decide) (fun e W hR => ⟨by rfl, ?_⟩) ?_
    · have hcs := HX.out.short hR HLT.out
      unfold Reg.gives
      go_simp
    simp only [Act.put, List.setIfInBounds_toArray, List.set_cons_zero, List.set_cons_succ, Nat.reduceAdd]
    refine Reg.segO 2 (by kernel_rfl) rfl (by kernel_rfl) ?_
    apply Exists.intro
    refine ⟨fun e => ?_, ?_⟩
    · simp only [List.take_succ_cons, List.take_zero]
      repeat (go_big_quiet_step ((intro _; rfl)))
      refine wpQuiet_nil ?_
      exact rfl
    simp only [List.drop_succ_cons, List.drop_zero, Nat.reduceAdd]
    refine Reg.callO (fun e W hR hP => ⟨by rfl, ?_⟩) ?_
    · refine Reg.gives_mono (fun v' w' h => ?_) (gives_store_rec (.tmp 2) (.tmp 87) rfl w.heap.size Rec.zero.cells C rfl rfl hP.2.1 rfl HS14.out HALL.out)
      subst h
      exact ⟨hP.store_below C, hP.store C⟩
    simp only [Act.put]
    refine Reg.segO 1 (by kernel_rfl) rfl (by kernel_rfl) ?_
    apply Exists.intro
    refine ⟨fun e => ?_, ?_⟩
    · simp only [List.take_succ_cons, List.take_zero]
      repeat (go_big_quiet_step ((intro _; rfl)))
      refine wpQuiet_nil ?_
      exact rfl
    simp only [List.drop_succ_cons, List.drop_zero, Nat.reduceAdd]
    intro e W9 hR hJ hf
    have HD := Lib.hid (hJ.2 rfl)
    clear hR hJ hf
    go_wp2
    refine bodyPost_ret (results_cell_bool rfl _ _ w.heap.size C HD.out.1 HSZ.out rfl) rfl ?_
    exact ⟨by rw [HRR.out]; show _ = Ending.returned (.tuple #[rr.v, .bool (rr.may && !s3)]); rw [HV.out, HMM.out]; rfl, p3, by rw [HRR.out], by rw [HRR.out]; exact HD.out.2.1, HD.out.2.2⟩
  | false =>
    refine Reg.wp_regionO w.heap.size 9 (OneF w bm b w.heap.size (w.heap.size + 1) C Rec.zero.cells p3 s3) (OneD w bm b w.heap.size C p3 s3) (by kernel_rfl) (by kernel_rfl) HX.out.drew ?_
    refine Reg.readO (.agg C) (fun _ => Below.refl _ _) (by decide) (by kernel_rfl) (fun e W hR hP => ⟨by rfl, ?_⟩) ?_
    · refine Reg.gives_mono (fun v' w' h => ?_) (gives_load_rec (.tmp 4) rfl (w.heap.size + 1) rfl _ _ _ hP.1 HSZ.out)
      exact ⟨h.2, h.1⟩
    simp only [Act.put, List.setIfInBounds_toArray, List.set_cons_zero, List.set_cons_succ, Nat.reduceAdd]
    refine Reg.segO 3 (by kernel_rfl) rfl (by kernel_rfl) ?_
    apply Exists.intro
    refine ⟨fun e => ?_, ?_⟩
    · simp only [List.take_succ_cons, List.take_zero]
      repeat (go_big_quiet_step ((intro _; rfl)))
      refine wpQuiet_nil ?_
      exact rfl
    simp only [List.drop_succ_cons, List.drop_zero, Nat.reduceAdd]
    refine Reg.skipO (by decide) (fun e => by rfl) ?_
    simp only [Act.put, List.setIfInBounds_toArray, List.set_cons_zero, List.set_cons_succ, Nat.reduceAdd]
    refine Reg.segO 1 (by kernel_rfl) rfl (by kernel_rfl) ?_
    apply Exists.intro
    refine ⟨fun e => ?_, ?_⟩
    · simp only [List.take_succ_cons, List.take_zero]
      repeat (go_big_quiet_step ((intro _; rfl)))
      refine wpQuiet_nil ?_
      exact rfl
    simp only [List.drop_succ_cons, List.drop_zero, Nat.reduceAdd]
    refine Reg.skipO (by decide) (fun e => by rfl) ?_
    simp only [Act.put, List.setIfInBounds_toArray, List.set_cons_zero, List.set_cons_succ, Nat.reduceAdd]
    refine Reg.segO 2 (by kernel_rfl) rfl (by kernel_rfl) ?_
    apply Exists.intro
    refine ⟨fun e => ?_, ?_⟩
    · simp only [List.take_succ_cons, List.take_zero]
      repeat (go_big_quiet_step ((intro _; rfl)))
      refine wpQuiet_nil ?_
      exact rfl
    simp only [List.drop_succ_cons, List.drop_zero, Nat.reduceAdd]
    refine Reg.callO (fun e W hR hP => ⟨by rfl, ?_⟩) ?_
    · refine Reg.gives_mono (fun v' w' h => ?_) (gives_store_rec (.tmp 2) (.tmp 87) rfl w.heap.size Rec.zero.cells C rfl rfl hP.2.1 rfl HS14.out HALL.out)
      subst h
      exact ⟨hP.store_below C, hP.store C⟩
    simp only [Act.put]
    refine Reg.segO 1 (by kernel_rfl) rfl (by kernel_rfl) ?_
    apply Exists.intro
    refine ⟨fun e => ?_, ?_⟩
    · simp only [List.take_succ_cons, List.take_zero]
      repeat (go_big_quiet_step ((intro _; rfl)))
      refine wpQuiet_nil ?_
      exact rfl
    simp only [List.drop_succ_cons, List.drop_zero, Nat.reduceAdd]
    intro e W9 hR hJ hf
    have HD := Lib.hid (hJ.2 rfl)
    clear hR hJ hf
    go_wp2
    refine bodyPost_ret (results_cell_bool rfl _ _ w.heap.size C HD.out.1 HSZ.out rfl) rfl ?_
    exact ⟨by rw [HRR.out]; show _ = Ending.returned (.tuple #[rr.v, .bool (rr.may && !s3)]); rw [HV.out, HMM.out]; rfl, p3, by rw [HRR.out], by rw [HRR.out]; exact HD.out.2.1, HD.out.2.2⟩
theorem refOne (bm : Nat) (b : List UInt8) (p : Nat) (sh : Bool) (w : World) (h : IsRef w bm b p sh) (hbl : b.length ≤ 100000000000) : Calls Try.prog 50 #[.pointer (some ⟨bm, 0, none⟩)] w (OneOk bm b (readRec (b.drop p) sh) w) := by
  obtain ⟨n1, p1, s1, q1⟩ : ∃ x y z, refNum 1 b p sh = (x, y, z) := ⟨_, _, _, rfl⟩
  obtain ⟨n2, p2, s2, q2⟩ : ∃ x y z, refNum 1 b p1 s1 = (x, y, z) := ⟨_, _, _, rfl⟩
  obtain ⟨n3, p3, s3, q3⟩ : ∃ x y z, refNum 4 b p2 s2 = (x, y, z) := ⟨_, _, _, rfl⟩
  by_cases k1 : n1 = 1
  · obtain ⟨n4, p4, s4, q4⟩ : ∃ x y z, refNum 8 b p3 s3 = (x, y, z) := ⟨_, _, _, rfl⟩
    obtain ⟨n5, p5, s5, q5⟩ : ∃ x y z, refNum 8 b p4 s4 = (x, y, z) := ⟨_, _, _, rfl⟩
    obtain ⟨n6, p6, s6, q6⟩ : ∃ x y z, refNum 8 b p5 s5 = (x, y, z) := ⟨_, _, _, rfl⟩
    obtain ⟨n7, p7, s7, q7⟩ : ∃ x y z, refNum 8 b p6 s6 = (x, y, z) := ⟨_, _, _, rfl⟩
    obtain ⟨n8, p8, s8, q8⟩ : ∃ x y z, refNum 4 b p7 s7 = (x, y, z) := ⟨_, _, _, rfl⟩
    exact refOne1 bm b p sh n1 p1 s1 n2 p2 s2 n3 p3 s3 n4 p4 s4 n5 p5 s5 n6 p6 s6 n7 p7 s7 n8 p8 s8 w h hbl q1 q2 q3 q4 q5 q6 q7 q8 k1
  by_cases k3 : n1 = 3
  · obtain ⟨n4, p4, s4, q4⟩ : ∃ x y z, refNum 8 b p3 s3 = (x, y, z) := ⟨_, _, _, rfl⟩
    obtain ⟨n5, p5, s5, q5⟩ : ∃ x y z, refNum 8 b p4 s4 = (x, y, z) := ⟨_, _, _, rfl⟩
    obtain ⟨n6, p6, s6, q6⟩ : ∃ x y z, refTxt b p5 s5 = (x, y, z) := ⟨_, _, _, rfl⟩
    obtain ⟨n7, p7, s7, q7⟩ : ∃ x y z, refTxt b p6 s6 = (x, y, z) := ⟨_, _, _, rfl⟩
    exact refOne3 bm b p sh n1 p1 s1 n2 p2 s2 n3 p3 s3 n4 p4 s4 n5 p5 s5 n6 p6 s6 n7 p7 s7 w h hbl q1 q2 q3 q4 q5 q6 q7 k3
  by_cases k4 : n1 = 4
  · obtain ⟨n4, p4, s4, q4⟩ : ∃ x y z, refNum 8 b p3 s3 = (x, y, z) := ⟨_, _, _, rfl⟩
    obtain ⟨n5, p5, s5, q5⟩ : ∃ x y z, refTxt b p4 s4 = (x, y, z) := ⟨_, _, _, rfl⟩
    exact refOne4 bm b p sh n1 p1 s1 n2 p2 s2 n3 p3 s3 n4 p4 s4 n5 p5 s5 w h hbl q1 q2 q3 q4 q5 k4
  by_cases k5 : n1 = 5
  · obtain ⟨n4, p4, s4, q4⟩ : ∃ x y z, refNum 4 b p3 s3 = (x, y, z) := ⟨_, _, _, rfl⟩
    obtain ⟨n5, p5, s5, q5⟩ : ∃ x y z, refNum 1 b p4 s4 = (x, y, z) := ⟨_, _, _, rfl⟩
    obtain ⟨n6, p6, s6, q6⟩ : ∃ x y z, refNum 8 b p5 s5 = (x, y, z) := ⟨_, _, _, rfl⟩
    exact refOne5 bm b p sh n1 p1 s1 n2 p2 s2 n3 p3 s3 n4 p4 s4 n5 p5 s5 n6 p6 s6 w h hbl q1 q2 q3 q4 q5 q6 k5
  by_cases k6 : n1 = 6
  · obtain ⟨n4, p4, s4, q4⟩ : ∃ x y z, refNum 4 b p3 s3 = (x, y, z) := ⟨_, _, _, rfl⟩
    exact refOne6 bm b p sh n1 p1 s1 n2 p2 s2 n3 p3 s3 n4 p4 s4 w h hbl q1 q2 q3 q4 k6
  exact refOne0 bm b p sh n1 p1 s1 n2 p2 s2 n3 p3 s3 w h hbl q1 q2 q3 k1 k3 k4 k5 k6
end Go.Proofs.Ytiihemmonncioaa
