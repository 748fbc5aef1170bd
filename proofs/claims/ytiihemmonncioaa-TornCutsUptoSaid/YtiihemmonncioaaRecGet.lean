/- The contract of record.get. -/
import Derived.Test.YtiihemmonncioaaReadPure
namespace Go.Proofs.Ytiihemmonncioaa
open Go.RowKit
def GetOk (br : Nat) (q : Rec × List UInt8 × Bool) (w : World) (e : Ending) (w' : World) : Prop := e = .returned q.1.v ∧ IsReader w' br q.2.1 q.2.2 ∧ w.grownBy w' (some br)
theorem rec_all (r : Rec) : r.cells.all (·.oneCell') = true := by simp [Rec.cells, Value.oneCell']
theorem run_storeRec (w : World) (g : Nat) (c c' : Array Value) (hg : w.heap[g]? = some (.cells c 61 (0, 0))) (hs : c.size = 14) (hs' : c'.size = 14) (h1 : c'.all (·.oneCell') = true) :
    (Instr.storeAt 61 (.pointer (some ⟨g, 0, none⟩)) (.agg c')).run Try.prog w = .ok () (w.setRow g c') := by
  simp only [Instr.storeAt, Instr.sureAddr, Sem.run_bind, Sem.run_pure, Result.andThen]
  rw [run_storeVar_row _ g 61 61 c c' hg (by rw [hs']; exact rec_size) (by rw [hs, hs']) h1]
theorem setRow_grown (W : World) (g : Nat) (cs : Array Value) : W.grownBy (W.setRow g cs) (some g) :=
  ⟨rfl, rfl, rfl, by simp [World.setRow], fun k _ hk => setRow_other W g k cs (fun e => hk (by rw [e]))⟩
section
variable {w : World} {br b2 b3 : Nat} {W W' : World} {r r' : Rec} {l l' : List UInt8} {sh sh' : Bool}
theorem GetS.start (hr : IsReader W br l sh) (h2 : W.heap[b2]? = some (.cells Rec.zero.cells 61 (0, 0))) (hg : w.grownBy W (some br)) (hb : br < b2) (hwb : w.heap.size ≤ b2 := by exact Nat.le_refl _) : GetS w br b2 W.heap.size (W.alloc (.cells r.cells 61)) r l sh := by
  have k2 := (Array.getElem?_eq_some_iff.1 h2).1
  exact ⟨heap_alloc_new W _, by rw [Below.heap_alloc W _ b2 k2]; exact h2, hr.bel ((Below.refl _ _).alloc (Nat.le_refl _) _), grownBy_trans hg (grownBy_of_below ((Below.refl _ _).alloc (Nat.le_refl _) _)), hb, k2, hwb⟩
theorem GetS.setRow_reader (h : GetS w br b2 b3 W r l sh) (C : Array Value) : IsReader (W.setRow b2 C) br l sh := h.2.2.1.keep (setRow_grown W b2 C) h.2.2.2.2.1
theorem GetS.setRow_grown (h : GetS w br b2 b3 W r l sh) (C : Array Value) : w.grownBy (W.setRow b2 C) (some br) := by
  obtain ⟨_, _, _, h4, h5, h6, h7⟩ := h
  exact ⟨h4.os, h4.tape, h4.output, by simpa [World.setRow] using h4.size, fun k hk hne => by rw [setRow_other W b2 k C (by omega)]; exact h4.block k hk hne⟩
end
theorem readRec_1 (l0 : List UInt8) (s0 : Bool) (n1 : Nat) (l1 : List UInt8) (s1 : Bool) (n2 : Nat) (l2 : List UInt8) (s2 : Bool) (n3 : Nat) (l3 : List UInt8) (s3 : Bool) (n4 : Nat) (l4 : List UInt8) (s4 : Bool) (n5 : Nat) (l5 : List UInt8) (s5 : Bool) (n6 : Nat) (l6 : List UInt8) (s6 : Bool) (n7 : Nat) (l7 : List UInt8) (s7 : Bool) (n8 : Nat) (l8 : List UInt8) (s8 : Bool) (q1 : rdNum 1 l0 s0 = (n1, l1, s1)) (q2 : rdNum 1 l1 s1 = (n2, l2, s2)) (q3 : rdNum 4 l2 s2 = (n3, l3, s3)) (q4 : rdNum 8 l3 s3 = (n4, l4, s4)) (q5 : rdNum 8 l4 s4 = (n5, l5, s5)) (q6 : rdNum 8 l5 s5 = (n6, l6, s6)) (q7 : rdNum 8 l6 s6 = (n7, l7, s7)) (q8 : rdNum 4 l7 s7 = (n8, l8, s8)) (hk : n1 = 1) : readRec l0 s0 = ((⟨n1, n2, n3, (IntKind.i64.wrap (n4 : Int)), (IntKind.i64.wrap (n5 : Int)), (IntKind.i64.wrap (n6 : Int)), n7, n8, 0, 0, ByteArray.empty, ByteArray.empty, 0, 0⟩ : Rec), l8, s8) := by
  unfold readRec
  simp only [q1, q2, q3]
  unfold readTail
  simp only
  rw [if_pos (by rw [hk]; rfl)]
  simp only [q4, q5, q6, q7, q8]
  rfl
set_option maxRecDepth 100000 in
set_option maxHeartbeats 4000000 in
theorem recGet1 (br : Nat) (l0 : List UInt8) (s0 : Bool) (n1 : Nat) (l1 : List UInt8) (s1 : Bool) (n2 : Nat) (l2 : List UInt8) (s2 : Bool) (n3 : Nat) (l3 : List UInt8) (s3 : Bool) (n4 : Nat) (l4 : List UInt8) (s4 : Bool) (n5 : Nat) (l5 : List UInt8) (s5 : Bool) (n6 : Nat) (l6 : List UInt8) (s6 : Bool) (n7 : Nat) (l7 : List UInt8) (s7 : Bool) (n8 : Nat) (l8 : List UInt8) (s8 : Bool) (w : World) (h : IsReader w br l0 s0) (q1 : rdNum 1 l0 s0 = (n1, l1, s1)) (q2 : rdNum 1 l1 s1 = (n2, l2, s2)) (q3 : rdNum 4 l2 s2 = (n3, l3, s3)) (q4 : rdNum 8 l3 s3 = (n4, l4, s4)) (q5 : rdNum 8 l4 s4 = (n5, l5, s5)) (q6 : rdNum 8 l5 s5 = (n6, l6, s6)) (q7 : rdNum 8 l6 s6 = (n7, l7, s7)) (q8 : rdNum 4 l7 s7 = (n8, l8, s8)) (hk : n1 = 1) :
    Calls Try.prog 49 #[.pointer (some ⟨br, 0, none⟩)] w (GetOk br (readRec l0 s0) w) := by
  have HRR := Lib.hid (readRec_1 l0 s0 n1 l1 s1 n2 l2 s2 n3 l3 s3 n4 l4 s4 n5 l5 s5 n6 l6 s6 n7 l7 s7 n8 l8 s8 q1 q2 q3 q4 q5 q6 q7 q8 hk)
  have b1 : n1 < 256 := by have := rdNum_lt1 l0 s0; rw [q1] at this; exact this
  have hw1 : IntKind.i64.wrap (n1 : Int) = (n1 : Int) := by rw [IntKind.wrap_i64]; omega
  have b2 : n2 < 256 := by have := rdNum_lt1 l1 s1; rw [q2] at this; exact this
  have hw2 : IntKind.i64.wrap (n2 : Int) = (n2 : Int) := by rw [IntKind.wrap_i64]; omega
  have b3 : n3 < 4294967296 := by have := rdNum_lt4 l2 s2; rw [q3] at this; exact this
  have hw3 : IntKind.u32.wrap (n3 : Int) = (n3 : Int) := by rw [IntKind.wrap_u32]; omega
  obtain ⟨z4, hw4⟩ : ∃ z, IntKind.i64.wrap (n4 : Int) = z := ⟨_, rfl⟩
  obtain ⟨z5, hw5⟩ : ∃ z, IntKind.i64.wrap (n5 : Int) = z := ⟨_, rfl⟩
  obtain ⟨z6, hw6⟩ : ∃ z, IntKind.i64.wrap (n6 : Int) = z := ⟨_, rfl⟩
  have b8 : n8 < 4294967296 := by have := rdNum_lt4 l7 s7; rw [q8] at this; exact this
  have hw8 : IntKind.u32.wrap (n8 : Int) = (n8 : Int) := by rw [IntKind.wrap_u32]; omega
  simp only [hw4, hw5, hw6] at HRR
  have e1 : ((n1 : Int) == 1) = true := by rw [hk]; rfl
  have HQ1 := Lib.hid (fun W (h : IsReader W br l0 s0) => by have := packNumber br l0 s0 1 W h; rw [q1] at this; exact this)
  have HQ2 := Lib.hid (fun W (h : IsReader W br l1 s1) => by have := packNumber br l1 s1 1 W h; rw [q2] at this; exact this)
  have HQ3 := Lib.hid (fun W (h : IsReader W br l2 s2) => by have := packNumber br l2 s2 4 W h; rw [q3] at this; exact this)
  have HQ4 := Lib.hid (fun W (h : IsReader W br l3 s3) => by have := packNumber br l3 s3 8 W h; rw [q4] at this; exact this)
  have HQ5 := Lib.hid (fun W (h : IsReader W br l4 s4) => by have := packNumber br l4 s4 8 W h; rw [q5] at this; exact this)
  have HQ6 := Lib.hid (fun W (h : IsReader W br l5 s5) => by have := packNumber br l5 s5 8 W h; rw [q6] at this; exact this)
  have HQ7 := Lib.hid (fun W (h : IsReader W br l6 s6) => by have := packNumber br l6 s6 8 W h; rw [q7] at this; exact this)
  have HQ8 := Lib.hid (fun W (h : IsReader W br l7 s7) => by have := packNumber br l7 s7 4 W h; rw [q8] at this; exact this)
  have HLT := Lib.hid h.lt
  have hb0 : Below w.heap.size w (w.alloc (.cells Rec.zero.cells 61)) := (Below.refl _ _).alloc (Nat.le_refl _) _
  have HZa := Lib.hid (heap_alloc_new w (.cells Rec.zero.cells 61))
  have HRa := Lib.hid (h.bel hb0)
  have HGa := Lib.hid (grownBy_of_below (r := some br) hb0)
  have HSZ := Lib.hid (fun r : Rec => rec_sizeC r)
  clear h hb0 q1 q2 q3 q4 q5 q6 q7 q8 hk b1 b2 b3 b8
  unfold Rec.zero Rec.cells at HZa HRa HGa
  go_enter Try.func49, Try.ntmps49
  go_wp2_with fail
  generalize hW0 : World.alloc w _ = W0
  have HZ0 : Hid (W0.heap[w.heap.size]? = some (.cells Rec.zero.cells 61 (0, 0))) := by rw [← hW0]; exact HZa
  have HR0 : Hid (IsReader W0 br l0 s0) := by rw [← hW0]; exact HRa
  have HG0 : Hid (w.grownBy W0 (some br)) := by rw [← hW0]; exact HGa
  clear hW0 HZa HRa HGa
  refine (HQ1.out W0 HR0.out).mono ?_
  rintro e W1 ⟨rfl, hr, hg⟩
  simp only at hr ⊢
  have HSa := Lib.hid (GetS.start (r := (⟨n1, 0, 0, 0, 0, 0, 0, 0, 0, 0, ByteArray.empty, ByteArray.empty, 0, 0⟩ : Rec)) hr (by rw [hg.block _ (Array.getElem?_eq_some_iff.1 HZ0.out).1 (fun e => by cases e; have := HLT.out; omega)]; exact HZ0.out) (grownBy_trans HG0.out hg) HLT.out)
  clear hr hg HZ0 HR0 HG0 HQ1
  unfold Rec.cells at HSa
  go_wp2_with fail
  generalize hW1' : World.alloc W1 _ = WA
  have HS1 : Hid (GetS w br w.heap.size W1.heap.size WA (⟨n1, 0, 0, 0, 0, 0, 0, 0, 0, 0, ByteArray.empty, ByteArray.empty, 0, 0⟩ : Rec) l1 s1) := by rw [← hW1']; exact HSa
  clear hW1' hw1 HSa
  generalize W1.heap.size = b3 at *
  clear W1
  refine (HQ2.out _ HS1.out.2.2.1).mono ?_
  rintro e W2 ⟨rfl, hr, hg⟩
  simp only at hr ⊢
  have HT := Lib.hid (HS1.out.call hr hg)
  clear hr hg HS1 HQ2
  have hc := HT.out.cell 1
  have hf := HT.out.frozen 1
  have HS2 := Lib.hid (HT.out.store (r' := (⟨n1, n2, 0, 0, 0, 0, 0, 0, 0, 0, ByteArray.empty, ByteArray.empty, 0, 0⟩ : Rec)) 1 (.int .i64 (n2 : Int)) (by rfl))
  clear HT
  simp [Rec.cells] at hc
  go_wp2_with fail
  generalize World.setCell W2 _ _ = WA at HS2 ⊢
  clear hc hf hw2
  refine (HQ3.out _ HS2.out.2.2.1).mono ?_
  rintro e W3 ⟨rfl, hr, hg⟩
  simp only at hr ⊢
  have HT := Lib.hid (HS2.out.call hr hg)
  clear hr hg HS2 HQ3
  have hc := HT.out.cell 2
  have hf := HT.out.frozen 2
  have hck := HT.out.cell 0
  have HS3 := Lib.hid (HT.out.store (r' := (⟨n1, n2, n3, 0, 0, 0, 0, 0, 0, 0, ByteArray.empty, ByteArray.empty, 0, 0⟩ : Rec)) 2 (.int .u32 (n3 : Int)) (by rfl))
  clear HT
  simp [Rec.cells] at hc hck
  go_wp2_with fail
  generalize World.setCell W3 _ _ = WA at HS3 ⊢
  clear hc hf hw3 hck e1
  refine (HQ4.out _ HS3.out.2.2.1).mono ?_
  rintro e W4 ⟨rfl, hr, hg⟩
  simp only at hr ⊢
  have HT := Lib.hid (HS3.out.call hr hg)
  clear hr hg HS3 HQ4
  have hc := HT.out.cell 3
  have hf := HT.out.frozen 3
  have HS4 := Lib.hid (HT.out.store (r' := (⟨n1, n2, n3, z4, 0, 0, 0, 0, 0, 0, ByteArray.empty, ByteArray.empty, 0, 0⟩ : Rec)) 3 (.int .i64 z4) (by rfl))
  clear HT
  simp [Rec.cells] at hc
  go_wp2_with fail
  generalize World.setCell W4 _ _ = WA at HS4 ⊢
  clear hc hf hw4
  refine (HQ5.out _ HS4.out.2.2.1).mono ?_
  rintro e W5 ⟨rfl, hr, hg⟩
  simp only at hr ⊢
  have HT := Lib.hid (HS4.out.call hr hg)
  clear hr hg HS4 HQ5
  have hc := HT.out.cell 4
  have hf := HT.out.frozen 4
  have HS5 := Lib.hid (HT.out.store (r' := (⟨n1, n2, n3, z4, z5, 0, 0, 0, 0, 0, ByteArray.empty, ByteArray.empty, 0, 0⟩ : Rec)) 4 (.int .i64 z5) (by rfl))
  clear HT
  simp [Rec.cells] at hc
  go_wp2_with fail
  generalize World.setCell W5 _ _ = WA at HS5 ⊢
  clear hc hf hw5
  refine (HQ6.out _ HS5.out.2.2.1).mono ?_
  rintro e W6 ⟨rfl, hr, hg⟩
  simp only at hr ⊢
  have HT := Lib.hid (HS5.out.call hr hg)
  clear hr hg HS5 HQ6
  have hc := HT.out.cell 5
  have hf := HT.out.frozen 5
  have HS6 := Lib.hid (HT.out.store (r' := (⟨n1, n2, n3, z4, z5, z6, 0, 0, 0, 0, ByteArray.empty, ByteArray.empty, 0, 0⟩ : Rec)) 5 (.int .i64 z6) (by rfl))
  clear HT
  simp [Rec.cells] at hc
  go_wp2_with fail
  generalize World.setCell W6 _ _ = WA at HS6 ⊢
  clear hc hf hw6
  refine (HQ7.out _ HS6.out.2.2.1).mono ?_
  rintro e W7 ⟨rfl, hr, hg⟩
  simp only at hr ⊢
  have HT := Lib.hid (HS6.out.call hr hg)
  clear hr hg HS6 HQ7
  have hc := HT.out.cell 6
  have hf := HT.out.frozen 6
  have HS7 := Lib.hid (HT.out.store (r' := (⟨n1, n2, n3, z4, z5, z6, n7, 0, 0, 0, ByteArray.empty, ByteArray.empty, 0, 0⟩ : Rec)) 6 (.int .u64 (n7 : Int)) (by rfl))
  clear HT
  simp [Rec.cells] at hc
  go_wp2_with fail
  generalize World.setCell W7 _ _ = WA at HS7 ⊢
  clear hc hf
  refine (HQ8.out _ HS7.out.2.2.1).mono ?_
  rintro e W8 ⟨rfl, hr, hg⟩
  simp only at hr ⊢
  have HT := Lib.hid (HS7.out.call hr hg)
  clear hr hg HS7 HQ8
  have hc := HT.out.cell 7
  have hf := HT.out.frozen 7
  have HS8 := Lib.hid (HT.out.store (r' := (⟨n1, n2, n3, z4, z5, z6, n7, n8, 0, 0, ByteArray.empty, ByteArray.empty, 0, 0⟩ : Rec)) 7 (.int .u32 (n8 : Int)) (by rfl))
  clear HT
  simp [Rec.cells] at hc
  generalize hfr : ((⟨n1, n2, n3, z4, z5, z6, n7, n8, 0, 0, ByteArray.empty, ByteArray.empty, 0, 0⟩ : Rec) : Rec) = rr at HS8 HRR
  have HC := Lib.hid hfr
  have HL := Lib.hid HS8.out.1
  have HST := Lib.hid (run_storeRec _ w.heap.size Rec.zero.cells rr.cells HS8.out.2.1 rfl rfl (rec_all rr))
  generalize hcc : rr.cells = C at *
  go_wp2_with (first | (refine wpList_load_row rfl 61 (.tmp 3) rfl b3 rfl 61 C (0, 0) _ HL.out Try.underlying61 rfl (by rw [← hcc]; exact rec_sizeC rr) ?_) | (refine wpList_store_by rfl 61 (.tmp 2) (.tmp 83) rfl (.pointer (some ⟨w.heap.size, 0, none⟩)) _ rfl rfl HST.out ?_))
  refine bodyPost_ret (v := .agg C) (results_cell_row rfl _ _ w.heap.size 61 C (0, 0) _ rfl (setRow_heap _ _ _ _ _ _ HS8.out.2.1) Try.underlying61 rfl (by rw [← hcc]; exact rec_sizeC rr)) rfl ⟨?_, ?_, ?_⟩
  · rw [HRR.out, ← hcc]; rfl
  · rw [HRR.out]; exact HS8.out.setRow_reader C
  · exact HS8.out.setRow_grown C
theorem readRec_3 (l0 : List UInt8) (s0 : Bool) (n1 : Nat) (l1 : List UInt8) (s1 : Bool) (n2 : Nat) (l2 : List UInt8) (s2 : Bool) (n3 : Nat) (l3 : List UInt8) (s3 : Bool) (n4 : Nat) (l4 : List UInt8) (s4 : Bool) (n5 : Nat) (l5 : List UInt8) (s5 : Bool) (n6 : List UInt8) (l6 : List UInt8) (s6 : Bool) (n7 : List UInt8) (l7 : List UInt8) (s7 : Bool) (q1 : rdNum 1 l0 s0 = (n1, l1, s1)) (q2 : rdNum 1 l1 s1 = (n2, l2, s2)) (q3 : rdNum 4 l2 s2 = (n3, l3, s3)) (q4 : rdNum 8 l3 s3 = (n4, l4, s4)) (q5 : rdNum 8 l4 s4 = (n5, l5, s5)) (q6 : rdText l5 s5 = (n6, l6, s6)) (q7 : rdText l6 s6 = (n7, l7, s7)) (hk : n1 = 3) : readRec l0 s0 = ((⟨n1, n2, n3, 0, 0, 0, 0, 0, 0, 0, (txt n6), (txt n7), n4, n5⟩ : Rec), l7, s7) := by
  unfold readRec
  simp only [q1, q2, q3]
  unfold readTail
  simp only
  rw [if_neg (by rw [hk]; decide), if_pos (by rw [hk]; rfl)]
  simp only [q4, q5, q6, q7]
  rfl
set_option maxRecDepth 100000 in
set_option maxHeartbeats 4000000 in
theorem recGet3 (br : Nat) (l0 : List UInt8) (s0 : Bool) (n1 : Nat) (l1 : List UInt8) (s1 : Bool) (n2 : Nat) (l2 : List UInt8) (s2 : Bool) (n3 : Nat) (l3 : List UInt8) (s3 : Bool) (n4 : Nat) (l4 : List UInt8) (s4 : Bool) (n5 : Nat) (l5 : List UInt8) (s5 : Bool) (n6 : List UInt8) (l6 : List UInt8) (s6 : Bool) (n7 : List UInt8) (l7 : List UInt8) (s7 : Bool) (w : World) (h : IsReader w br l0 s0) (q1 : rdNum 1 l0 s0 = (n1, l1, s1)) (q2 : rdNum 1 l1 s1 = (n2, l2, s2)) (q3 : rdNum 4 l2 s2 = (n3, l3, s3)) (q4 : rdNum 8 l3 s3 = (n4, l4, s4)) (q5 : rdNum 8 l4 s4 = (n5, l5, s5)) (q6 : rdText l5 s5 = (n6, l6, s6)) (q7 : rdText l6 s6 = (n7, l7, s7)) (hk : n1 = 3) :
    Calls Try.prog 49 #[.pointer (some ⟨br, 0, none⟩)] w (GetOk br (readRec l0 s0) w) := by
  have HRR := Lib.hid (readRec_3 l0 s0 n1 l1 s1 n2 l2 s2 n3 l3 s3 n4 l4 s4 n5 l5 s5 n6 l6 s6 n7 l7 s7 q1 q2 q3 q4 q5 q6 q7 hk)
  have b1 : n1 < 256 := by have := rdNum_lt1 l0 s0; rw [q1] at this; exact this
  have hw1 : IntKind.i64.wrap (n1 : Int) = (n1 : Int) := by rw [IntKind.wrap_i64]; omega
  have b2 : n2 < 256 := by have := rdNum_lt1 l1 s1; rw [q2] at this; exact this
  have hw2 : IntKind.i64.wrap (n2 : Int) = (n2 : Int) := by rw [IntKind.wrap_i64]; omega
  have b3 : n3 < 4294967296 := by have := rdNum_lt4 l2 s2; rw [q3] at this; exact this
  have hw3 : IntKind.u32.wrap (n3 : Int) = (n3 : Int) := by rw [IntKind.wrap_u32]; omega
  have e1 : ((n1 : Int) == 1) = false := by rw [hk]; rfl
  have e3 : ((n1 : Int) == 3) = true := by rw [hk]; rfl
  have HQ1 := Lib.hid (fun W (h : IsReader W br l0 s0) => by have := packNumber br l0 s0 1 W h; rw [q1] at this; exact this)
  have HQ2 := Lib.hid (fun W (h : IsReader W br l1 s1) => by have := packNumber br l1 s1 1 W h; rw [q2] at this; exact this)
  have HQ3 := Lib.hid (fun W (h : IsReader W br l2 s2) => by have := packNumber br l2 s2 4 W h; rw [q3] at this; exact this)
  have HQ4 := Lib.hid (fun W (h : IsReader W br l3 s3) => by have := packNumber br l3 s3 8 W h; rw [q4] at this; exact this)
  have HQ5 := Lib.hid (fun W (h : IsReader W br l4 s4) => by have := packNumber br l4 s4 8 W h; rw [q5] at this; exact this)
  have HQ6 := Lib.hid (fun W (h : IsReader W br l5 s5) => by have := packText br l5 s5 W h; rw [q6] at this; exact this)
  have HQ7 := Lib.hid (fun W (h : IsReader W br l6 s6) => by have := packText br l6 s6 W h; rw [q7] at this; exact this)
  have HLT := Lib.hid h.lt
  have hb0 : Below w.heap.size w (w.alloc (.cells Rec.zero.cells 61)) := (Below.refl _ _).alloc (Nat.le_refl _) _
  have HZa := Lib.hid (heap_alloc_new w (.cells Rec.zero.cells 61))
  have HRa := Lib.hid (h.bel hb0)
  have HGa := Lib.hid (grownBy_of_below (r := some br) hb0)
  have HSZ := Lib.hid (fun r : Rec => rec_sizeC r)
  clear h hb0 q1 q2 q3 q4 q5 q6 q7 hk b1 b2 b3
  unfold Rec.zero Rec.cells at HZa HRa HGa
  go_enter Try.func49, Try.ntmps49
  go_wp2_with fail
  generalize hW0 : World.alloc w _ = W0
  have HZ0 : Hid (W0.heap[w.heap.size]? = some (.cells Rec.zero.cells 61 (0, 0))) := by rw [← hW0]; exact HZa
  have HR0 : Hid (IsReader W0 br l0 s0) := by rw [← hW0]; exact HRa
  have HG0 : Hid (w.grownBy W0 (some br)) := by rw [← hW0]; exact HGa
  clear hW0 HZa HRa HGa
  refine (HQ1.out W0 HR0.out).mono ?_
  rintro e W1 ⟨rfl, hr, hg⟩
  simp only at hr ⊢
  have HSa := Lib.hid (GetS.start (r := (⟨n1, 0, 0, 0, 0, 0, 0, 0, 0, 0, ByteArray.empty, ByteArray.empty, 0, 0⟩ : Rec)) hr (by rw [hg.block _ (Array.getElem?_eq_some_iff.1 HZ0.out).1 (fun e => by cases e; have := HLT.out; omega)]; exact HZ0.out) (grownBy_trans HG0.out hg) HLT.out)
  clear hr hg HZ0 HR0 HG0 HQ1
  unfold Rec.cells at HSa
  go_wp2_with fail
  generalize hW1' : World.alloc W1 _ = WA
  have HS1 : Hid (GetS w br w.heap.size W1.heap.size WA (⟨n1, 0, 0, 0, 0, 0, 0, 0, 0, 0, ByteArray.empty, ByteArray.empty, 0, 0⟩ : Rec) l1 s1) := by rw [← hW1']; exact HSa
  clear hW1' hw1 HSa
  generalize W1.heap.size = b3 at *
  clear W1
  refine (HQ2.out _ HS1.out.2.2.1).mono ?_
  rintro e W2 ⟨rfl, hr, hg⟩
  simp only at hr ⊢
  have HT := Lib.hid (HS1.out.call hr hg)
  clear hr hg HS1 HQ2
  have hc := HT.out.cell 1
  have hf := HT.out.frozen 1
  have HS2 := Lib.hid (HT.out.store (r' := (⟨n1, n2, 0, 0, 0, 0, 0, 0, 0, 0, ByteArray.empty, ByteArray.empty, 0, 0⟩ : Rec)) 1 (.int .i64 (n2 : Int)) (by rfl))
  clear HT
  simp [Rec.cells] at hc
  go_wp2_with fail
  generalize World.setCell W2 _ _ = WA at HS2 ⊢
  clear hc hf hw2
  refine (HQ3.out _ HS2.out.2.2.1).mono ?_
  rintro e W3 ⟨rfl, hr, hg⟩
  simp only at hr ⊢
  have HT := Lib.hid (HS2.out.call hr hg)
  clear hr hg HS2 HQ3
  have hc := HT.out.cell 2
  have hf := HT.out.frozen 2
  have hck := HT.out.cell 0
  have HS3 := Lib.hid (HT.out.store (r' := (⟨n1, n2, n3, 0, 0, 0, 0, 0, 0, 0, ByteArray.empty, ByteArray.empty, 0, 0⟩ : Rec)) 2 (.int .u32 (n3 : Int)) (by rfl))
  clear HT
  simp [Rec.cells] at hc hck
  go_wp2_with fail
  generalize World.setCell W3 _ _ = WA at HS3 ⊢
  clear hc hf hw3 hck e1 e3
  refine (HQ4.out _ HS3.out.2.2.1).mono ?_
  rintro e W4 ⟨rfl, hr, hg⟩
  simp only at hr ⊢
  have HT := Lib.hid (HS3.out.call hr hg)
  clear hr hg HS3 HQ4
  have hc := HT.out.cell 12
  have hf := HT.out.frozen 12
  have HS4 := Lib.hid (HT.out.store (r' := (⟨n1, n2, n3, 0, 0, 0, 0, 0, 0, 0, ByteArray.empty, ByteArray.empty, n4, 0⟩ : Rec)) 12 (.int .u64 (n4 : Int)) (by rfl))
  clear HT
  simp [Rec.cells] at hc
  go_wp2_with fail
  generalize World.setCell W4 _ _ = WA at HS4 ⊢
  clear hc hf
  refine (HQ5.out _ HS4.out.2.2.1).mono ?_
  rintro e W5 ⟨rfl, hr, hg⟩
  simp only at hr ⊢
  have HT := Lib.hid (HS4.out.call hr hg)
  clear hr hg HS4 HQ5
  have hc := HT.out.cell 13
  have hf := HT.out.frozen 13
  have HS5 := Lib.hid (HT.out.store (r' := (⟨n1, n2, n3, 0, 0, 0, 0, 0, 0, 0, ByteArray.empty, ByteArray.empty, n4, n5⟩ : Rec)) 13 (.int .u64 (n5 : Int)) (by rfl))
  clear HT
  simp [Rec.cells] at hc
  go_wp2_with fail
  generalize World.setCell W5 _ _ = WA at HS5 ⊢
  clear hc hf
  refine (HQ6.out _ HS5.out.2.2.1).mono ?_
  rintro e W6 ⟨rfl, hr, hg⟩
  simp only at hr ⊢
  have HT := Lib.hid (HS5.out.call hr hg)
  clear hr hg HS5 HQ6
  have hc := HT.out.cell 10
  have hf := HT.out.frozen 10
  have HS6 := Lib.hid (HT.out.store (r' := (⟨n1, n2, n3, 0, 0, 0, 0, 0, 0, 0, txt n6, ByteArray.empty, n4, n5⟩ : Rec)) 10 (.string ⟨n6.toArray⟩) (by with_unfolding_all rfl))
  clear HT
  simp [Rec.cells] at hc
  go_wp2_with fail
  generalize World.setCell W6 _ _ = WA at HS6 ⊢
  clear hc hf
  refine (HQ7.out _ HS6.out.2.2.1).mono ?_
  rintro e W7 ⟨rfl, hr, hg⟩
  simp only at hr ⊢
  have HT := Lib.hid (HS6.out.call hr hg)
  clear hr hg HS6 HQ7
  have hc := HT.out.cell 11
  have hf := HT.out.frozen 11
  have HS7 := Lib.hid (HT.out.store (r' := (⟨n1, n2, n3, 0, 0, 0, 0, 0, 0, 0, txt n6, txt n7, n4, n5⟩ : Rec)) 11 (.string ⟨n7.toArray⟩) (by with_unfolding_all rfl))
  clear HT
  simp [Rec.cells] at hc
  generalize hfr : ((⟨n1, n2, n3, 0, 0, 0, 0, 0, 0, 0, txt n6, txt n7, n4, n5⟩ : Rec) : Rec) = rr at HS7 HRR
  have HC := Lib.hid hfr
  have HL := Lib.hid HS7.out.1
  have HST := Lib.hid (run_storeRec _ w.heap.size Rec.zero.cells rr.cells HS7.out.2.1 rfl rfl (rec_all rr))
  generalize hcc : rr.cells = C at *
  go_wp2_with (first | (refine wpList_load_row rfl 61 (.tmp 3) rfl b3 rfl 61 C (0, 0) _ HL.out Try.underlying61 rfl (by rw [← hcc]; exact rec_sizeC rr) ?_) | (refine wpList_store_by rfl 61 (.tmp 2) (.tmp 83) rfl (.pointer (some ⟨w.heap.size, 0, none⟩)) _ rfl rfl HST.out ?_))
  refine bodyPost_ret (v := .agg C) (results_cell_row rfl _ _ w.heap.size 61 C (0, 0) _ rfl (setRow_heap _ _ _ _ _ _ HS7.out.2.1) Try.underlying61 rfl (by rw [← hcc]; exact rec_sizeC rr)) rfl ⟨?_, ?_, ?_⟩
  · rw [HRR.out, ← hcc]; rfl
  · rw [HRR.out]; exact HS7.out.setRow_reader C
  · exact HS7.out.setRow_grown C
theorem readRec_4 (l0 : List UInt8) (s0 : Bool) (n1 : Nat) (l1 : List UInt8) (s1 : Bool) (n2 : Nat) (l2 : List UInt8) (s2 : Bool) (n3 : Nat) (l3 : List UInt8) (s3 : Bool) (n4 : Nat) (l4 : List UInt8) (s4 : Bool) (n5 : List UInt8) (l5 : List UInt8) (s5 : Bool) (q1 : rdNum 1 l0 s0 = (n1, l1, s1)) (q2 : rdNum 1 l1 s1 = (n2, l2, s2)) (q3 : rdNum 4 l2 s2 = (n3, l3, s3)) (q4 : rdNum 8 l3 s3 = (n4, l4, s4)) (q5 : rdText l4 s4 = (n5, l5, s5)) (hk : n1 = 4) : readRec l0 s0 = ((⟨n1, n2, n3, 0, 0, 0, 0, 0, 0, 0, (txt n5), ByteArray.empty, n4, 0⟩ : Rec), l5, s5) := by
  unfold readRec
  simp only [q1, q2, q3]
  unfold readTail
  simp only
  rw [if_neg (by rw [hk]; decide), if_neg (by rw [hk]; decide), if_pos (by rw [hk]; rfl)]
  simp only [q4, q5]
  rfl
set_option maxRecDepth 100000 in
set_option maxHeartbeats 4000000 in
theorem recGet4 (br : Nat) (l0 : List UInt8) (s0 : Bool) (n1 : Nat) (l1 : List UInt8) (s1 : Bool) (n2 : Nat) (l2 : List UInt8) (s2 : Bool) (n3 : Nat) (l3 : List UInt8) (s3 : Bool) (n4 : Nat) (l4 : List UInt8) (s4 : Bool) (n5 : List UInt8) (l5 : List UInt8) (s5 : Bool) (w : World) (h : IsReader w br l0 s0) (q1 : rdNum 1 l0 s0 = (n1, l1, s1)) (q2 : rdNum 1 l1 s1 = (n2, l2, s2)) (q3 : rdNum 4 l2 s2 = (n3, l3, s3)) (q4 : rdNum 8 l3 s3 = (n4, l4, s4)) (q5 : rdText l4 s4 = (n5, l5, s5)) (hk : n1 = 4) :
    Calls Try.prog 49 #[.pointer (some ⟨br, 0, none⟩)] w (GetOk br (readRec l0 s0) w) := by
  have HRR := Lib.hid (readRec_4 l0 s0 n1 l1 s1 n2 l2 s2 n3 l3 s3 n4 l4 s4 n5 l5 s5 q1 q2 q3 q4 q5 hk)
  have b1 : n1 < 256 := by have := rdNum_lt1 l0 s0; rw [q1] at this; exact this
  have hw1 : IntKind.i64.wrap (n1 : Int) = (n1 : Int) := by rw [IntKind.wrap_i64]; omega
  have b2 : n2 < 256 := by have := rdNum_lt1 l1 s1; rw [q2] at this; exact this
  have hw2 : IntKind.i64.wrap (n2 : Int) = (n2 : Int) := by rw [IntKind.wrap_i64]; omega
  have b3 : n3 < 4294967296 := by have := rdNum_lt4 l2 s2; rw [q3] at this; exact this
  have hw3 : IntKind.u32.wrap (n3 : Int) = (n3 : Int) := by rw [IntKind.wrap_u32]; omega
  have e1 : ((n1 : Int) == 1) = false := by rw [hk]; rfl
  have e3 : ((n1 : Int) == 3) = false := by rw [hk]; rfl
  have e4 : ((n1 : Int) == 4) = true := by rw [hk]; rfl
  have HQ1 := Lib.hid (fun W (h : IsReader W br l0 s0) => by have := packNumber br l0 s0 1 W h; rw [q1] at this; exact this)
  have HQ2 := Lib.hid (fun W (h : IsReader W br l1 s1) => by have := packNumber br l1 s1 1 W h; rw [q2] at this; exact this)
  have HQ3 := Lib.hid (fun W (h : IsReader W br l2 s2) => by have := packNumber br l2 s2 4 W h; rw [q3] at this; exact this)
  have HQ4 := Lib.hid (fun W (h : IsReader W br l3 s3) => by have := packNumber br l3 s3 8 W h; rw [q4] at this; exact this)
  have HQ5 := Lib.hid (fun W (h : IsReader W br l4 s4) => by have := packText br l4 s4 W h; rw [q5] at this; exact this)
  have HLT := Lib.hid h.lt
  have hb0 : Below w.heap.size w (w.alloc (.cells Rec.zero.cells 61)) := (Below.refl _ _).alloc (Nat.le_refl _) _
  have HZa := Lib.hid (heap_alloc_new w (.cells Rec.zero.cells 61))
  have HRa := Lib.hid (h.bel hb0)
  have HGa := Lib.hid (grownBy_of_below (r := some br) hb0)
  have HSZ := Lib.hid (fun r : Rec => rec_sizeC r)
  clear h hb0 q1 q2 q3 q4 q5 hk b1 b2 b3
  unfold Rec.zero Rec.cells at HZa HRa HGa
  go_enter Try.func49, Try.ntmps49
  go_wp2_with fail
  generalize hW0 : World.alloc w _ = W0
  have HZ0 : Hid (W0.heap[w.heap.size]? = some (.cells Rec.zero.cells 61 (0, 0))) := by rw [← hW0]; exact HZa
  have HR0 : Hid (IsReader W0 br l0 s0) := by rw [← hW0]; exact HRa
  have HG0 : Hid (w.grownBy W0 (some br)) := by rw [← hW0]; exact HGa
  clear hW0 HZa HRa HGa
  refine (HQ1.out W0 HR0.out).mono ?_
  rintro e W1 ⟨rfl, hr, hg⟩
  simp only at hr ⊢
  have HSa := Lib.hid (GetS.start (r := (⟨n1, 0, 0, 0, 0, 0, 0, 0, 0, 0, ByteArray.empty, ByteArray.empty, 0, 0⟩ : Rec)) hr (by rw [hg.block _ (Array.getElem?_eq_some_iff.1 HZ0.out).1 (fun e => by cases e; have := HLT.out; omega)]; exact HZ0.out) (grownBy_trans HG0.out hg) HLT.out)
  clear hr hg HZ0 HR0 HG0 HQ1
  unfold Rec.cells at HSa
  go_wp2_with fail
  generalize hW1' : World.alloc W1 _ = WA
  have HS1 : Hid (GetS w br w.heap.size W1.heap.size WA (⟨n1, 0, 0, 0, 0, 0, 0, 0, 0, 0, ByteArray.empty, ByteArray.empty, 0, 0⟩ : Rec) l1 s1) := by rw [← hW1']; exact HSa
  clear hW1' hw1 HSa
  generalize W1.heap.size = b3 at *
  clear W1
  refine (HQ2.out _ HS1.out.2.2.1).mono ?_
  rintro e W2 ⟨rfl, hr, hg⟩
  simp only at hr ⊢
  have HT := Lib.hid (HS1.out.call hr hg)
  clear hr hg HS1 HQ2
  have hc := HT.out.cell 1
  have hf := HT.out.frozen 1
  have HS2 := Lib.hid (HT.out.store (r' := (⟨n1, n2, 0, 0, 0, 0, 0, 0, 0, 0, ByteArray.empty, ByteArray.empty, 0, 0⟩ : Rec)) 1 (.int .i64 (n2 : Int)) (by rfl))
  clear HT
  simp [Rec.cells] at hc
  go_wp2_with fail
  generalize World.setCell W2 _ _ = WA at HS2 ⊢
  clear hc hf hw2
  refine (HQ3.out _ HS2.out.2.2.1).mono ?_
  rintro e W3 ⟨rfl, hr, hg⟩
  simp only at hr ⊢
  have HT := Lib.hid (HS2.out.call hr hg)
  clear hr hg HS2 HQ3
  have hc := HT.out.cell 2
  have hf := HT.out.frozen 2
  have hck := HT.out.cell 0
  have HS3 := Lib.hid (HT.out.store (r' := (⟨n1, n2, n3, 0, 0, 0, 0, 0, 0, 0, ByteArray.empty, ByteArray.empty, 0, 0⟩ : Rec)) 2 (.int .u32 (n3 : Int)) (by rfl))
  clear HT
  simp [Rec.cells] at hc hck
  go_wp2_with fail
  generalize World.setCell W3 _ _ = WA at HS3 ⊢
  clear hc hf hw3 hck e1 e3 e4
  refine (HQ4.out _ HS3.out.2.2.1).mono ?_
  rintro e W4 ⟨rfl, hr, hg⟩
  simp only at hr ⊢
  have HT := Lib.hid (HS3.out.call hr hg)
  clear hr hg HS3 HQ4
  have hc := HT.out.cell 12
  have hf := HT.out.frozen 12
  have HS4 := Lib.hid (HT.out.store (r' := (⟨n1, n2, n3, 0, 0, 0, 0, 0, 0, 0, ByteArray.empty, ByteArray.empty, n4, 0⟩ : Rec)) 12 (.int .u64 (n4 : Int)) (by rfl))
  clear HT
  simp [Rec.cells] at hc
  go_wp2_with fail
  generalize World.setCell W4 _ _ = WA at HS4 ⊢
  clear hc hf
  refine (HQ5.out _ HS4.out.2.2.1).mono ?_
  rintro e W5 ⟨rfl, hr, hg⟩
  simp only at hr ⊢
  have HT := Lib.hid (HS4.out.call hr hg)
  clear hr hg HS4 HQ5
  have hc := HT.out.cell 10
  have hf := HT.out.frozen 10
  have HS5 := Lib.hid (HT.out.store (r' := (⟨n1, n2, n3, 0, 0, 0, 0, 0, 0, 0, txt n5, ByteArray.empty, n4, 0⟩ : Rec)) 10 (.string ⟨n5.toArray⟩) (by with_unfolding_all rfl))
  clear HT
  simp [Rec.cells] at hc
  generalize hfr : ((⟨n1, n2, n3, 0, 0, 0, 0, 0, 0, 0, txt n5, ByteArray.empty, n4, 0⟩ : Rec) : Rec) = rr at HS5 HRR
  have HC := Lib.hid hfr
  have HL := Lib.hid HS5.out.1
  have HST := Lib.hid (run_storeRec _ w.heap.size Rec.zero.cells rr.cells HS5.out.2.1 rfl rfl (rec_all rr))
  generalize hcc : rr.cells = C at *
  go_wp2_with (first | (refine wpList_load_row rfl 61 (.tmp 3) rfl b3 rfl 61 C (0, 0) _ HL.out Try.underlying61 rfl (by rw [← hcc]; exact rec_sizeC rr) ?_) | (refine wpList_store_by rfl 61 (.tmp 2) (.tmp 83) rfl (.pointer (some ⟨w.heap.size, 0, none⟩)) _ rfl rfl HST.out ?_))
  refine bodyPost_ret (v := .agg C) (results_cell_row rfl _ _ w.heap.size 61 C (0, 0) _ rfl (setRow_heap _ _ _ _ _ _ HS5.out.2.1) Try.underlying61 rfl (by rw [← hcc]; exact rec_sizeC rr)) rfl ⟨?_, ?_, ?_⟩
  · rw [HRR.out, ← hcc]; rfl
  · rw [HRR.out]; exact HS5.out.setRow_reader C
  · exact HS5.out.setRow_grown C
theorem readRec_5 (l0 : List UInt8) (s0 : Bool) (n1 : Nat) (l1 : List UInt8) (s1 : Bool) (n2 : Nat) (l2 : List UInt8) (s2 : Bool) (n3 : Nat) (l3 : List UInt8) (s3 : Bool) (n4 : Nat) (l4 : List UInt8) (s4 : Bool) (n5 : Nat) (l5 : List UInt8) (s5 : Bool) (n6 : Nat) (l6 : List UInt8) (s6 : Bool) (q1 : rdNum 1 l0 s0 = (n1, l1, s1)) (q2 : rdNum 1 l1 s1 = (n2, l2, s2)) (q3 : rdNum 4 l2 s2 = (n3, l3, s3)) (q4 : rdNum 4 l3 s3 = (n4, l4, s4)) (q5 : rdNum 1 l4 s4 = (n5, l5, s5)) (q6 : rdNum 8 l5 s5 = (n6, l6, s6)) (hk : n1 = 5) : readRec l0 s0 = ((⟨n1, n2, n3, 0, 0, 0, 0, n4, n5, n6, ByteArray.empty, ByteArray.empty, 0, 0⟩ : Rec), l6, s6) := by
  unfold readRec
  simp only [q1, q2, q3]
  unfold readTail
  simp only
  rw [if_neg (by rw [hk]; decide), if_neg (by rw [hk]; decide), if_neg (by rw [hk]; decide), if_pos (by rw [hk]; rfl)]
  simp only [q4, q5, q6]
  rfl
set_option maxRecDepth 100000 in
set_option maxHeartbeats 4000000 in
theorem recGet5 (br : Nat) (l0 : List UInt8) (s0 : Bool) (n1 : Nat) (l1 : List UInt8) (s1 : Bool) (n2 : Nat) (l2 : List UInt8) (s2 : Bool) (n3 : Nat) (l3 : List UInt8) (s3 : Bool) (n4 : Nat) (l4 : List UInt8) (s4 : Bool) (n5 : Nat) (l5 : List UInt8) (s5 : Bool) (n6 : Nat) (l6 : List UInt8) (s6 : Bool) (w : World) (h : IsReader w br l0 s0) (q1 : rdNum 1 l0 s0 = (n1, l1, s1)) (q2 : rdNum 1 l1 s1 = (n2, l2, s2)) (q3 : rdNum 4 l2 s2 = (n3, l3, s3)) (q4 : rdNum 4 l3 s3 = (n4, l4, s4)) (q5 : rdNum 1 l4 s4 = (n5, l5, s5)) (q6 : rdNum 8 l5 s5 = (n6, l6, s6)) (hk : n1 = 5) :
    Calls Try.prog 49 #[.pointer (some ⟨br, 0, none⟩)] w (GetOk br (readRec l0 s0) w) := by
  have HRR := Lib.hid (readRec_5 l0 s0 n1 l1 s1 n2 l2 s2 n3 l3 s3 n4 l4 s4 n5 l5 s5 n6 l6 s6 q1 q2 q3 q4 q5 q6 hk)
  have b1 : n1 < 256 := by have := rdNum_lt1 l0 s0; rw [q1] at this; exact this
  have hw1 : IntKind.i64.wrap (n1 : Int) = (n1 : Int) := by rw [IntKind.wrap_i64]; omega
  have b2 : n2 < 256 := by have := rdNum_lt1 l1 s1; rw [q2] at this; exact this
  have hw2 : IntKind.i64.wrap (n2 : Int) = (n2 : Int) := by rw [IntKind.wrap_i64]; omega
  have b3 : n3 < 4294967296 := by have := rdNum_lt4 l2 s2; rw [q3] at this; exact this
  have hw3 : IntKind.u32.wrap (n3 : Int) = (n3 : Int) := by rw [IntKind.wrap_u32]; omega
  have b4 : n4 < 4294967296 := by have := rdNum_lt4 l3 s3; rw [q4] at this; exact this
  have hw4 : IntKind.u32.wrap (n4 : Int) = (n4 : Int) := by rw [IntKind.wrap_u32]; omega
  have b5 : n5 < 256 := by have := rdNum_lt1 l4 s4; rw [q5] at this; exact this
  have hw5 : IntKind.i64.wrap (n5 : Int) = (n5 : Int) := by rw [IntKind.wrap_i64]; omega
  have e1 : ((n1 : Int) == 1) = false := by rw [hk]; rfl
  have e3 : ((n1 : Int) == 3) = false := by rw [hk]; rfl
  have e4 : ((n1 : Int) == 4) = false := by rw [hk]; rfl
  have e5 : ((n1 : Int) == 5) = true := by rw [hk]; rfl
  have HQ1 := Lib.hid (fun W (h : IsReader W br l0 s0) => by have := packNumber br l0 s0 1 W h; rw [q1] at this; exact this)
  have HQ2 := Lib.hid (fun W (h : IsReader W br l1 s1) => by have := packNumber br l1 s1 1 W h; rw [q2] at this; exact this)
  have HQ3 := Lib.hid (fun W (h : IsReader W br l2 s2) => by have := packNumber br l2 s2 4 W h; rw [q3] at this; exact this)
  have HQ4 := Lib.hid (fun W (h : IsReader W br l3 s3) => by have := packNumber br l3 s3 4 W h; rw [q4] at this; exact this)
  have HQ5 := Lib.hid (fun W (h : IsReader W br l4 s4) => by have := packNumber br l4 s4 1 W h; rw [q5] at this; exact this)
  have HQ6 := Lib.hid (fun W (h : IsReader W br l5 s5) => by have := packNumber br l5 s5 8 W h; rw [q6] at this; exact this)
  have HLT := Lib.hid h.lt
  have hb0 : Below w.heap.size w (w.alloc (.cells Rec.zero.cells 61)) := (Below.refl _ _).alloc (Nat.le_refl _) _
  have HZa := Lib.hid (heap_alloc_new w (.cells Rec.zero.cells 61))
  have HRa := Lib.hid (h.bel hb0)
  have HGa := Lib.hid (grownBy_of_below (r := some br) hb0)
  have HSZ := Lib.hid (fun r : Rec => rec_sizeC r)
  clear h hb0 q1 q2 q3 q4 q5 q6 hk b1 b2 b3 b4 b5
  unfold Rec.zero Rec.cells at HZa HRa HGa
  go_enter Try.func49, Try.ntmps49
  go_wp2_with fail
  generalize hW0 : World.alloc w _ = W0
  have HZ0 : Hid (W0.heap[w.heap.size]? = some (.cells Rec.zero.cells 61 (0, 0))) := by rw [← hW0]; exact HZa
  have HR0 : Hid (IsReader W0 br l0 s0) := by rw [← hW0]; exact HRa
  have HG0 : Hid (w.grownBy W0 (some br)) := by rw [← hW0]; exact HGa
  clear hW0 HZa HRa HGa
  refine (HQ1.out W0 HR0.out).mono ?_
  rintro e W1 ⟨rfl, hr, hg⟩
  simp only at hr ⊢
  have HSa := Lib.hid (GetS.start (r := (⟨n1, 0, 0, 0, 0, 0, 0, 0, 0, 0, ByteArray.empty, ByteArray.empty, 0, 0⟩ : Rec)) hr (by rw [hg.block _ (Array.getElem?_eq_some_iff.1 HZ0.out).1 (fun e => by cases e; have := HLT.out; omega)]; exact HZ0.out) (grownBy_trans HG0.out hg) HLT.out)
  clear hr hg HZ0 HR0 HG0 HQ1
  unfold Rec.cells at HSa
  go_wp2_with fail
  generalize hW1' : World.alloc W1 _ = WA
  have HS1 : Hid (GetS w br w.heap.size W1.heap.size WA (⟨n1, 0, 0, 0, 0, 0, 0, 0, 0, 0, ByteArray.empty, ByteArray.empty, 0, 0⟩ : Rec) l1 s1) := by rw [← hW1']; exact HSa
  clear hW1' hw1 HSa
  generalize W1.heap.size = b3 at *
  clear W1
  refine (HQ2.out _ HS1.out.2.2.1).mono ?_
  rintro e W2 ⟨rfl, hr, hg⟩
  simp only at hr ⊢
  have HT := Lib.hid (HS1.out.call hr hg)
  clear hr hg HS1 HQ2
  have hc := HT.out.cell 1
  have hf := HT.out.frozen 1
  have HS2 := Lib.hid (HT.out.store (r' := (⟨n1, n2, 0, 0, 0, 0, 0, 0, 0, 0, ByteArray.empty, ByteArray.empty, 0, 0⟩ : Rec)) 1 (.int .i64 (n2 : Int)) (by rfl))
  clear HT
  simp [Rec.cells] at hc
  go_wp2_with fail
  generalize World.setCell W2 _ _ = WA at HS2 ⊢
  clear hc hf hw2
  refine (HQ3.out _ HS2.out.2.2.1).mono ?_
  rintro e W3 ⟨rfl, hr, hg⟩
  simp only at hr ⊢
  have HT := Lib.hid (HS2.out.call hr hg)
  clear hr hg HS2 HQ3
  have hc := HT.out.cell 2
  have hf := HT.out.frozen 2
  have hck := HT.out.cell 0
  have HS3 := Lib.hid (HT.out.store (r' := (⟨n1, n2, n3, 0, 0, 0, 0, 0, 0, 0, ByteArray.empty, ByteArray.empty, 0, 0⟩ : Rec)) 2 (.int .u32 (n3 : Int)) (by rfl))
  clear HT
  simp [Rec.cells] at hc hck
  go_wp2_with fail
  generalize World.setCell W3 _ _ = WA at HS3 ⊢
  clear hc hf hw3 hck e1 e3 e4 e5
  refine (HQ4.out _ HS3.out.2.2.1).mono ?_
  rintro e W4 ⟨rfl, hr, hg⟩
  simp only at hr ⊢
  have HT := Lib.hid (HS3.out.call hr hg)
  clear hr hg HS3 HQ4
  have hc := HT.out.cell 7
  have hf := HT.out.frozen 7
  have HS4 := Lib.hid (HT.out.store (r' := (⟨n1, n2, n3, 0, 0, 0, 0, n4, 0, 0, ByteArray.empty, ByteArray.empty, 0, 0⟩ : Rec)) 7 (.int .u32 (n4 : Int)) (by rfl))
  clear HT
  simp [Rec.cells] at hc
  go_wp2_with fail
  generalize World.setCell W4 _ _ = WA at HS4 ⊢
  clear hc hf hw4
  refine (HQ5.out _ HS4.out.2.2.1).mono ?_
  rintro e W5 ⟨rfl, hr, hg⟩
  simp only at hr ⊢
  have HT := Lib.hid (HS4.out.call hr hg)
  clear hr hg HS4 HQ5
  have hc := HT.out.cell 8
  have hf := HT.out.frozen 8
  have HS5 := Lib.hid (HT.out.store (r' := (⟨n1, n2, n3, 0, 0, 0, 0, n4, n5, 0, ByteArray.empty, ByteArray.empty, 0, 0⟩ : Rec)) 8 (.int .i64 (n5 : Int)) (by rfl))
  clear HT
  simp [Rec.cells] at hc
  go_wp2_with fail
  generalize World.setCell W5 _ _ = WA at HS5 ⊢
  clear hc hf hw5
  refine (HQ6.out _ HS5.out.2.2.1).mono ?_
  rintro e W6 ⟨rfl, hr, hg⟩
  simp only at hr ⊢
  have HT := Lib.hid (HS5.out.call hr hg)
  clear hr hg HS5 HQ6
  have hc := HT.out.cell 9
  have hf := HT.out.frozen 9
  have HS6 := Lib.hid (HT.out.store (r' := (⟨n1, n2, n3, 0, 0, 0, 0, n4, n5, n6, ByteArray.empty, ByteArray.empty, 0, 0⟩ : Rec)) 9 (.int .u64 (n6 : Int)) (by rfl))
  clear HT
  simp [Rec.cells] at hc
  generalize hfr : ((⟨n1, n2, n3, 0, 0, 0, 0, n4, n5, n6, ByteArray.empty, ByteArray.empty, 0, 0⟩ : Rec) : Rec) = rr at HS6 HRR
  have HC := Lib.hid hfr
  have HL := Lib.hid HS6.out.1
  have HST := Lib.hid (run_storeRec _ w.heap.size Rec.zero.cells rr.cells HS6.out.2.1 rfl rfl (rec_all rr))
  generalize hcc : rr.cells = C at *
  go_wp2_with (first | (refine wpList_load_row rfl 61 (.tmp 3) rfl b3 rfl 61 C (0, 0) _ HL.out Try.underlying61 rfl (by rw [← hcc]; exact rec_sizeC rr) ?_) | (refine wpList_store_by rfl 61 (.tmp 2) (.tmp 83) rfl (.pointer (some ⟨w.heap.size, 0, none⟩)) _ rfl rfl HST.out ?_))
  refine bodyPost_ret (v := .agg C) (results_cell_row rfl _ _ w.heap.size 61 C (0, 0) _ rfl (setRow_heap _ _ _ _ _ _ HS6.out.2.1) Try.underlying61 rfl (by rw [← hcc]; exact rec_sizeC rr)) rfl ⟨?_, ?_, ?_⟩
  · rw [HRR.out, ← hcc]; rfl
  · rw [HRR.out]; exact HS6.out.setRow_reader C
  · exact HS6.out.setRow_grown C
theorem readRec_6 (l0 : List UInt8) (s0 : Bool) (n1 : Nat) (l1 : List UInt8) (s1 : Bool) (n2 : Nat) (l2 : List UInt8) (s2 : Bool) (n3 : Nat) (l3 : List UInt8) (s3 : Bool) (n4 : Nat) (l4 : List UInt8) (s4 : Bool) (q1 : rdNum 1 l0 s0 = (n1, l1, s1)) (q2 : rdNum 1 l1 s1 = (n2, l2, s2)) (q3 : rdNum 4 l2 s2 = (n3, l3, s3)) (q4 : rdNum 4 l3 s3 = (n4, l4, s4)) (hk : n1 = 6) : readRec l0 s0 = ((⟨n1, n2, n3, 0, 0, 0, 0, n4, 0, 0, ByteArray.empty, ByteArray.empty, 0, 0⟩ : Rec), l4, s4) := by
  unfold readRec
  simp only [q1, q2, q3]
  unfold readTail
  simp only
  rw [if_neg (by rw [hk]; decide), if_neg (by rw [hk]; decide), if_neg (by rw [hk]; decide), if_neg (by rw [hk]; decide), if_pos (by rw [hk]; rfl)]
  simp only [q4]
  rfl
set_option maxRecDepth 100000 in
set_option maxHeartbeats 4000000 in
theorem recGet6 (br : Nat) (l0 : List UInt8) (s0 : Bool) (n1 : Nat) (l1 : List UInt8) (s1 : Bool) (n2 : Nat) (l2 : List UInt8) (s2 : Bool) (n3 : Nat) (l3 : List UInt8) (s3 : Bool) (n4 : Nat) (l4 : List UInt8) (s4 : Bool) (w : World) (h : IsReader w br l0 s0) (q1 : rdNum 1 l0 s0 = (n1, l1, s1)) (q2 : rdNum 1 l1 s1 = (n2, l2, s2)) (q3 : rdNum 4 l2 s2 = (n3, l3, s3)) (q4 : rdNum 4 l3 s3 = (n4, l4, s4)) (hk : n1 = 6) :
    Calls Try.prog 49 #[.pointer (some ⟨br, 0, none⟩)] w (GetOk br (readRec l0 s0) w) := by
  have HRR := Lib.hid (readRec_6 l0 s0 n1 l1 s1 n2 l2 s2 n3 l3 s3 n4 l4 s4 q1 q2 q3 q4 hk)
  have b1 : n1 < 256 := by have := rdNum_lt1 l0 s0; rw [q1] at this; exact this
  have hw1 : IntKind.i64.wrap (n1 : Int) = (n1 : Int) := by rw [IntKind.wrap_i64]; omega
  have b2 : n2 < 256 := by have := rdNum_lt1 l1 s1; rw [q2] at this; exact this
  have hw2 : IntKind.i64.wrap (n2 : Int) = (n2 : Int) := by rw [IntKind.wrap_i64]; omega
  have b3 : n3 < 4294967296 := by have := rdNum_lt4 l2 s2; rw [q3] at this; exact this
  have hw3 : IntKind.u32.wrap (n3 : Int) = (n3 : Int) := by rw [IntKind.wrap_u32]; omega
  have b4 : n4 < 4294967296 := by have := rdNum_lt4 l3 s3; rw [q4] at this; exact this
  have hw4 : IntKind.u32.wrap (n4 : Int) = (n4 : Int) := by rw [IntKind.wrap_u32]; omega
  have e1 : ((n1 : Int) == 1) = false := by rw [hk]; rfl
  have e3 : ((n1 : Int) == 3) = false := by rw [hk]; rfl
  have e4 : ((n1 : Int) == 4) = false := by rw [hk]; rfl
  have e5 : ((n1 : Int) == 5) = false := by rw [hk]; rfl
  have e6 : ((n1 : Int) == 6) = true := by rw [hk]; rfl
  have HQ1 := Lib.hid (fun W (h : IsReader W br l0 s0) => by have := packNumber br l0 s0 1 W h; rw [q1] at this; exact this)
  have HQ2 := Lib.hid (fun W (h : IsReader W br l1 s1) => by have := packNumber br l1 s1 1 W h; rw [q2] at this; exact this)
  have HQ3 := Lib.hid (fun W (h : IsReader W br l2 s2) => by have := packNumber br l2 s2 4 W h; rw [q3] at this; exact this)
  have HQ4 := Lib.hid (fun W (h : IsReader W br l3 s3) => by have := packNumber br l3 s3 4 W h; rw [q4] at this; exact this)
  have HLT := Lib.hid h.lt
  have hb0 : Below w.heap.size w (w.alloc (.cells Rec.zero.cells 61)) := (Below.refl _ _).alloc (Nat.le_refl _) _
  have HZa := Lib.hid (heap_alloc_new w (.cells Rec.zero.cells 61))
  have HRa := Lib.hid (h.bel hb0)
  have HGa := Lib.hid (grownBy_of_below (r := some br) hb0)
  have HSZ := Lib.hid (fun r : Rec => rec_sizeC r)
  clear h hb0 q1 q2 q3 q4 hk b1 b2 b3 b4
  unfold Rec.zero Rec.cells at HZa HRa HGa
  go_enter Try.func49, Try.ntmps49
  go_wp2_with fail
  generalize hW0 : World.alloc w _ = W0
  have HZ0 : Hid (W0.heap[w.heap.size]? = some (.cells Rec.zero.cells 61 (0, 0))) := by rw [← hW0]; exact HZa
  have HR0 : Hid (IsReader W0 br l0 s0) := by rw [← hW0]; exact HRa
  have HG0 : Hid (w.grownBy W0 (some br)) := by rw [← hW0]; exact HGa
  clear hW0 HZa HRa HGa
  refine (HQ1.out W0 HR0.out).mono ?_
  rintro e W1 ⟨rfl, hr, hg⟩
  simp only at hr ⊢
  have HSa := Lib.hid (GetS.start (r := (⟨n1, 0, 0, 0, 0, 0, 0, 0, 0, 0, ByteArray.empty, ByteArray.empty, 0, 0⟩ : Rec)) hr (by rw [hg.block _ (Array.getElem?_eq_some_iff.1 HZ0.out).1 (fun e => by cases e; have := HLT.out; omega)]; exact HZ0.out) (grownBy_trans HG0.out hg) HLT.out)
  clear hr hg HZ0 HR0 HG0 HQ1
  unfold Rec.cells at HSa
  go_wp2_with fail
  generalize hW1' : World.alloc W1 _ = WA
  have HS1 : Hid (GetS w br w.heap.size W1.heap.size WA (⟨n1, 0, 0, 0, 0, 0, 0, 0, 0, 0, ByteArray.empty, ByteArray.empty, 0, 0⟩ : Rec) l1 s1) := by rw [← hW1']; exact HSa
  clear hW1' hw1 HSa
  generalize W1.heap.size = b3 at *
  clear W1
  refine (HQ2.out _ HS1.out.2.2.1).mono ?_
  rintro e W2 ⟨rfl, hr, hg⟩
  simp only at hr ⊢
  have HT := Lib.hid (HS1.out.call hr hg)
  clear hr hg HS1 HQ2
  have hc := HT.out.cell 1
  have hf := HT.out.frozen 1
  have HS2 := Lib.hid (HT.out.store (r' := (⟨n1, n2, 0, 0, 0, 0, 0, 0, 0, 0, ByteArray.empty, ByteArray.empty, 0, 0⟩ : Rec)) 1 (.int .i64 (n2 : Int)) (by rfl))
  clear HT
  simp [Rec.cells] at hc
  go_wp2_with fail
  generalize World.setCell W2 _ _ = WA at HS2 ⊢
  clear hc hf hw2
  refine (HQ3.out _ HS2.out.2.2.1).mono ?_
  rintro e W3 ⟨rfl, hr, hg⟩
  simp only at hr ⊢
  have HT := Lib.hid (HS2.out.call hr hg)
  clear hr hg HS2 HQ3
  have hc := HT.out.cell 2
  have hf := HT.out.frozen 2
  have hck := HT.out.cell 0
  have HS3 := Lib.hid (HT.out.store (r' := (⟨n1, n2, n3, 0, 0, 0, 0, 0, 0, 0, ByteArray.empty, ByteArray.empty, 0, 0⟩ : Rec)) 2 (.int .u32 (n3 : Int)) (by rfl))
  clear HT
  simp [Rec.cells] at hc hck
  go_wp2_with fail
  generalize World.setCell W3 _ _ = WA at HS3 ⊢
  clear hc hf hw3 hck e1 e3 e4 e5 e6
  refine (HQ4.out _ HS3.out.2.2.1).mono ?_
  rintro e W4 ⟨rfl, hr, hg⟩
  simp only at hr ⊢
  have HT := Lib.hid (HS3.out.call hr hg)
  clear hr hg HS3 HQ4
  have hc := HT.out.cell 7
  have hf := HT.out.frozen 7
  have HS4 := Lib.hid (HT.out.store (r' := (⟨n1, n2, n3, 0, 0, 0, 0, n4, 0, 0, ByteArray.empty, ByteArray.empty, 0, 0⟩ : Rec)) 7 (.int .u32 (n4 : Int)) (by rfl))
  clear HT
  simp [Rec.cells] at hc
  generalize hfr : ((⟨n1, n2, n3, 0, 0, 0, 0, n4, 0, 0, ByteArray.empty, ByteArray.empty, 0, 0⟩ : Rec) : Rec) = rr at HS4 HRR
  have HC := Lib.hid hfr
  have HL := Lib.hid HS4.out.1
  have HST := Lib.hid (run_storeRec _ w.heap.size Rec.zero.cells rr.cells HS4.out.2.1 rfl rfl (rec_all rr))
  generalize hcc : rr.cells = C at *
  go_wp2_with (first | (refine wpList_load_row rfl 61 (.tmp 3) rfl b3 rfl 61 C (0, 0) _ HL.out Try.underlying61 rfl (by rw [← hcc]; exact rec_sizeC rr) ?_) | (refine wpList_store_by rfl 61 (.tmp 2) (.tmp 83) rfl (.pointer (some ⟨w.heap.size, 0, none⟩)) _ rfl rfl HST.out ?_))
  refine bodyPost_ret (v := .agg C) (results_cell_row rfl _ _ w.heap.size 61 C (0, 0) _ rfl (setRow_heap _ _ _ _ _ _ HS4.out.2.1) Try.underlying61 rfl (by rw [← hcc]; exact rec_sizeC rr)) rfl ⟨?_, ?_, ?_⟩
  · rw [HRR.out, ← hcc]; rfl
  · rw [HRR.out]; exact HS4.out.setRow_reader C
  · exact HS4.out.setRow_grown C
theorem readRec_0 (l0 : List UInt8) (s0 : Bool) (n1 : Nat) (l1 : List UInt8) (s1 : Bool) (n2 : Nat) (l2 : List UInt8) (s2 : Bool) (n3 : Nat) (l3 : List UInt8) (s3 : Bool) (q1 : rdNum 1 l0 s0 = (n1, l1, s1)) (q2 : rdNum 1 l1 s1 = (n2, l2, s2)) (q3 : rdNum 4 l2 s2 = (n3, l3, s3)) (g1 : n1 ≠ 1) (g3 : n1 ≠ 3) (g4 : n1 ≠ 4) (g5 : n1 ≠ 5) (g6 : n1 ≠ 6) : readRec l0 s0 = ((⟨n1, n2, n3, 0, 0, 0, 0, 0, 0, 0, ByteArray.empty, ByteArray.empty, 0, 0⟩ : Rec), l3, s3) := by
  unfold readRec
  simp only [q1, q2, q3]
  unfold readTail
  simp only
  rw [if_neg (by omega), if_neg (by omega), if_neg (by omega), if_neg (by omega), if_neg (by omega)]
  rfl
set_option maxRecDepth 100000 in
set_option maxHeartbeats 4000000 in
theorem recGet0 (br : Nat) (l0 : List UInt8) (s0 : Bool) (n1 : Nat) (l1 : List UInt8) (s1 : Bool) (n2 : Nat) (l2 : List UInt8) (s2 : Bool) (n3 : Nat) (l3 : List UInt8) (s3 : Bool) (w : World) (h : IsReader w br l0 s0) (q1 : rdNum 1 l0 s0 = (n1, l1, s1)) (q2 : rdNum 1 l1 s1 = (n2, l2, s2)) (q3 : rdNum 4 l2 s2 = (n3, l3, s3)) (g1 : n1 ≠ 1) (g3 : n1 ≠ 3) (g4 : n1 ≠ 4) (g5 : n1 ≠ 5) (g6 : n1 ≠ 6) :
    Calls Try.prog 49 #[.pointer (some ⟨br, 0, none⟩)] w (GetOk br (readRec l0 s0) w) := by
  have HRR := Lib.hid (readRec_0 l0 s0 n1 l1 s1 n2 l2 s2 n3 l3 s3 q1 q2 q3 g1 g3 g4 g5 g6)
  have b1 : n1 < 256 := by have := rdNum_lt1 l0 s0; rw [q1] at this; exact this
  have hw1 : IntKind.i64.wrap (n1 : Int) = (n1 : Int) := by rw [IntKind.wrap_i64]; omega
  have b2 : n2 < 256 := by have := rdNum_lt1 l1 s1; rw [q2] at this; exact this
  have hw2 : IntKind.i64.wrap (n2 : Int) = (n2 : Int) := by rw [IntKind.wrap_i64]; omega
  have b3 : n3 < 4294967296 := by have := rdNum_lt4 l2 s2; rw [q3] at this; exact this
  have hw3 : IntKind.u32.wrap (n3 : Int) = (n3 : Int) := by rw [IntKind.wrap_u32]; omega
  have e1 : ((n1 : Int) == 1) = false := by rw [beq_eq_false_iff_ne]; omega
  have e3 : ((n1 : Int) == 3) = false := by rw [beq_eq_false_iff_ne]; omega
  have e4 : ((n1 : Int) == 4) = false := by rw [beq_eq_false_iff_ne]; omega
  have e5 : ((n1 : Int) == 5) = false := by rw [beq_eq_false_iff_ne]; omega
  have e6 : ((n1 : Int) == 6) = false := by rw [beq_eq_false_iff_ne]; omega
  have HQ1 := Lib.hid (fun W (h : IsReader W br l0 s0) => by have := packNumber br l0 s0 1 W h; rw [q1] at this; exact this)
  have HQ2 := Lib.hid (fun W (h : IsReader W br l1 s1) => by have := packNumber br l1 s1 1 W h; rw [q2] at this; exact this)
  have HQ3 := Lib.hid (fun W (h : IsReader W br l2 s2) => by have := packNumber br l2 s2 4 W h; rw [q3] at this; exact this)
  have HLT := Lib.hid h.lt
  have hb0 : Below w.heap.size w (w.alloc (.cells Rec.zero.cells 61)) := (Below.refl _ _).alloc (Nat.le_refl _) _
  have HZa := Lib.hid (heap_alloc_new w (.cells Rec.zero.cells 61))
  have HRa := Lib.hid (h.bel hb0)
  have HGa := Lib.hid (grownBy_of_below (r := some br) hb0)
  have HSZ := Lib.hid (fun r : Rec => rec_sizeC r)
  clear h hb0 q1 q2 q3 g1 g3 g4 g5 g6 b1 b2 b3
  unfold Rec.zero Rec.cells at HZa HRa HGa
  go_enter Try.func49, Try.ntmps49
  go_wp2_with fail
  generalize hW0 : World.alloc w _ = W0
  have HZ0 : Hid (W0.heap[w.heap.size]? = some (.cells Rec.zero.cells 61 (0, 0))) := by rw [← hW0]; exact HZa
  have HR0 : Hid (IsReader W0 br l0 s0) := by rw [← hW0]; exact HRa
  have HG0 : Hid (w.grownBy W0 (some br)) := by rw [← hW0]; exact HGa
  clear hW0 HZa HRa HGa
  refine (HQ1.out W0 HR0.out).mono ?_
  rintro e W1 ⟨rfl, hr, hg⟩
  simp only at hr ⊢
  have HSa := Lib.hid (GetS.start (r := (⟨n1, 0, 0, 0, 0, 0, 0, 0, 0, 0, ByteArray.empty, ByteArray.empty, 0, 0⟩ : Rec)) hr (by rw [hg.block _ (Array.getElem?_eq_some_iff.1 HZ0.out).1 (fun e => by cases e; have := HLT.out; omega)]; exact HZ0.out) (grownBy_trans HG0.out hg) HLT.out)
  clear hr hg HZ0 HR0 HG0 HQ1
  unfold Rec.cells at HSa
  go_wp2_with fail
  generalize hW1' : World.alloc W1 _ = WA
  have HS1 : Hid (GetS w br w.heap.size W1.heap.size WA (⟨n1, 0, 0, 0, 0, 0, 0, 0, 0, 0, ByteArray.empty, ByteArray.empty, 0, 0⟩ : Rec) l1 s1) := by rw [← hW1']; exact HSa
  clear hW1' hw1 HSa
  generalize W1.heap.size = b3 at *
  clear W1
  refine (HQ2.out _ HS1.out.2.2.1).mono ?_
  rintro e W2 ⟨rfl, hr, hg⟩
  simp only at hr ⊢
  have HT := Lib.hid (HS1.out.call hr hg)
  clear hr hg HS1 HQ2
  have hc := HT.out.cell 1
  have hf := HT.out.frozen 1
  have HS2 := Lib.hid (HT.out.store (r' := (⟨n1, n2, 0, 0, 0, 0, 0, 0, 0, 0, ByteArray.empty, ByteArray.empty, 0, 0⟩ : Rec)) 1 (.int .i64 (n2 : Int)) (by rfl))
  clear HT
  simp [Rec.cells] at hc
  go_wp2_with fail
  generalize World.setCell W2 _ _ = WA at HS2 ⊢
  clear hc hf hw2
  refine (HQ3.out _ HS2.out.2.2.1).mono ?_
  rintro e W3 ⟨rfl, hr, hg⟩
  simp only at hr ⊢
  have HT := Lib.hid (HS2.out.call hr hg)
  clear hr hg HS2 HQ3
  have hc := HT.out.cell 2
  have hf := HT.out.frozen 2
  have hck := HT.out.cell 0
  have HS3 := Lib.hid (HT.out.store (r' := (⟨n1, n2, n3, 0, 0, 0, 0, 0, 0, 0, ByteArray.empty, ByteArray.empty, 0, 0⟩ : Rec)) 2 (.int .u32 (n3 : Int)) (by rfl))
  clear HT
  simp [Rec.cells] at hc hck
  generalize hfr : ((⟨n1, n2, n3, 0, 0, 0, 0, 0, 0, 0, ByteArray.empty, ByteArray.empty, 0, 0⟩ : Rec) : Rec) = rr at HS3 HRR
  have HC := Lib.hid hfr
  have HL := Lib.hid HS3.out.1
  have HST := Lib.hid (run_storeRec _ w.heap.size Rec.zero.cells rr.cells HS3.out.2.1 rfl rfl (rec_all rr))
  generalize hcc : rr.cells = C at *
  go_wp2_with (first | (refine wpList_load_row rfl 61 (.tmp 3) rfl b3 rfl 61 C (0, 0) _ HL.out Try.underlying61 rfl (by rw [← hcc]; exact rec_sizeC rr) ?_) | (refine wpList_store_by rfl 61 (.tmp 2) (.tmp 83) rfl (.pointer (some ⟨w.heap.size, 0, none⟩)) _ rfl rfl HST.out ?_))
  refine bodyPost_ret (v := .agg C) (results_cell_row rfl _ _ w.heap.size 61 C (0, 0) _ rfl (setRow_heap _ _ _ _ _ _ HS3.out.2.1) Try.underlying61 rfl (by rw [← hcc]; exact rec_sizeC rr)) rfl ⟨?_, ?_, ?_⟩
  · rw [HRR.out, ← hcc]; rfl
  · rw [HRR.out]; exact HS3.out.setRow_reader C
  · exact HS3.out.setRow_grown C
theorem recGet (br : Nat) (l : List UInt8) (sh : Bool) (w : World) (h : IsReader w br l sh) : Calls Try.prog 49 #[.pointer (some ⟨br, 0, none⟩)] w (GetOk br (readRec l sh) w) := by
  obtain ⟨n1, l1, s1, q1⟩ : ∃ a b c, rdNum 1 l sh = (a, b, c) := ⟨_, _, _, rfl⟩
  obtain ⟨n2, l2, s2, q2⟩ : ∃ a b c, rdNum 1 l1 s1 = (a, b, c) := ⟨_, _, _, rfl⟩
  obtain ⟨n3, l3, s3, q3⟩ : ∃ a b c, rdNum 4 l2 s2 = (a, b, c) := ⟨_, _, _, rfl⟩
  by_cases k1 : n1 = 1
  · obtain ⟨n4, l4, s4, q4⟩ : ∃ a b c, rdNum 8 l3 s3 = (a, b, c) := ⟨_, _, _, rfl⟩
    obtain ⟨n5, l5, s5, q5⟩ : ∃ a b c, rdNum 8 l4 s4 = (a, b, c) := ⟨_, _, _, rfl⟩
    obtain ⟨n6, l6, s6, q6⟩ : ∃ a b c, rdNum 8 l5 s5 = (a, b, c) := ⟨_, _, _, rfl⟩
    obtain ⟨n7, l7, s7, q7⟩ : ∃ a b c, rdNum 8 l6 s6 = (a, b, c) := ⟨_, _, _, rfl⟩
    obtain ⟨n8, l8, s8, q8⟩ : ∃ a b c, rdNum 4 l7 s7 = (a, b, c) := ⟨_, _, _, rfl⟩
    exact recGet1 br l sh n1 l1 s1 n2 l2 s2 n3 l3 s3 n4 l4 s4 n5 l5 s5 n6 l6 s6 n7 l7 s7 n8 l8 s8 w h q1 q2 q3 q4 q5 q6 q7 q8 k1
  by_cases k3 : n1 = 3
  · obtain ⟨n4, l4, s4, q4⟩ : ∃ a b c, rdNum 8 l3 s3 = (a, b, c) := ⟨_, _, _, rfl⟩
    obtain ⟨n5, l5, s5, q5⟩ : ∃ a b c, rdNum 8 l4 s4 = (a, b, c) := ⟨_, _, _, rfl⟩
    obtain ⟨n6, l6, s6, q6⟩ : ∃ a b c, rdText l5 s5 = (a, b, c) := ⟨_, _, _, rfl⟩
    obtain ⟨n7, l7, s7, q7⟩ : ∃ a b c, rdText l6 s6 = (a, b, c) := ⟨_, _, _, rfl⟩
    exact recGet3 br l sh n1 l1 s1 n2 l2 s2 n3 l3 s3 n4 l4 s4 n5 l5 s5 n6 l6 s6 n7 l7 s7 w h q1 q2 q3 q4 q5 q6 q7 k3
  by_cases k4 : n1 = 4
  · obtain ⟨n4, l4, s4, q4⟩ : ∃ a b c, rdNum 8 l3 s3 = (a, b, c) := ⟨_, _, _, rfl⟩
    obtain ⟨n5, l5, s5, q5⟩ : ∃ a b c, rdText l4 s4 = (a, b, c) := ⟨_, _, _, rfl⟩
    exact recGet4 br l sh n1 l1 s1 n2 l2 s2 n3 l3 s3 n4 l4 s4 n5 l5 s5 w h q1 q2 q3 q4 q5 k4
  by_cases k5 : n1 = 5
  · obtain ⟨n4, l4, s4, q4⟩ : ∃ a b c, rdNum 4 l3 s3 = (a, b, c) := ⟨_, _, _, rfl⟩
    obtain ⟨n5, l5, s5, q5⟩ : ∃ a b c, rdNum 1 l4 s4 = (a, b, c) := ⟨_, _, _, rfl⟩
    obtain ⟨n6, l6, s6, q6⟩ : ∃ a b c, rdNum 8 l5 s5 = (a, b, c) := ⟨_, _, _, rfl⟩
    exact recGet5 br l sh n1 l1 s1 n2 l2 s2 n3 l3 s3 n4 l4 s4 n5 l5 s5 n6 l6 s6 w h q1 q2 q3 q4 q5 q6 k5
  by_cases k6 : n1 = 6
  · obtain ⟨n4, l4, s4, q4⟩ : ∃ a b c, rdNum 4 l3 s3 = (a, b, c) := ⟨_, _, _, rfl⟩
    exact recGet6 br l sh n1 l1 s1 n2 l2 s2 n3 l3 s3 n4 l4 s4 w h q1 q2 q3 q4 k6
  exact recGet0 br l sh n1 l1 s1 n2 l2 s2 n3 l3 s3 w h q1 q2 q3 k1 k3 k4 k5 k6
end Go.Proofs.Ytiihemmonncioaa
