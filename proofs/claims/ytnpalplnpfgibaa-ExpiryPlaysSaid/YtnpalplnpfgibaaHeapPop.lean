/- Contracts of expiry's Pop and Len. -/
import Derived.Test.YtnpalplnpfgibaaHeapSink
namespace Go.Proofs.Ytnpalplnpfgibaa
open Go.RowKit
def HPopNo (bh : Nat) (v : Value) (w : World) (e : Ending) (w' : World) : Prop := e = .returned (.tuple #[.agg #[.int .u64 0, .string ByteArray.empty], .bool false]) ∧ IsHeap w' bh v [] ∧ Below w.heap.size w w'
def HPopYes (bh : Nat) (v : Value) (l : List It) (h0 : 0 < l.length) (w : World) (e : Ending) (w' : World) : Prop := e = .returned (.tuple #[.agg #[.int .u64 l[0].t, .string l[0].k], .bool true]) ∧ ∃ v' l', IsHeap w' bh v' l' ∧ HGrew bh w w' v v' ∧ HeapL l' ∧ l'.Perm (popL l h0)
def HLen (n : Nat) (w : World) (e : Ending) (w' : World) : Prop := e = .returned (.int .i64 n) ∧ w = w'
theorem heapLen (bh : Nat) (v : Value) (l : List It) (w : World) (h : IsHeap w bh v l) : Calls Try.prog 20 #[.pointer (some ⟨bh, 0, none⟩)] w (HLen l.length w) := by
  obtain ⟨a, cap, rfl⟩ := h.own.slice
  have hc := h.cell
  clear h
  go_enter Try.func20, Try.ntmps20
  go_wp2
  go_ret
  exact ⟨rfl, rfl⟩
set_option maxRecDepth 100000 in
set_option maxHeartbeats 2000000 in
theorem heapPopNo (bh : Nat) (v : Value) (w : World) (h : IsHeap w bh v []) : Calls Try.prog 15 #[.pointer (some ⟨bh, 0, none⟩)] w (HPopNo bh v w) := by
  obtain ⟨a, cap, rfl⟩ := h.own.slice
  have hc := h.cell
  have H := Lib.hid h
  simp only [List.length_nil] at hc
  have hlt := h.lt
  clear h
  go_enter Try.func15, Try.ntmps15
  go_wp2
  go_returns
  have hb : Below w.heap.size w (w.alloc (.cells #[.int .u64 0, .string ByteArray.empty] 30)) := (Below.refl _ _).alloc (Nat.le_refl _) _
  exact ⟨rfl, H.out.bel hb, hb⟩
theorem popKeep (bh : Nat) (l : List It) (g cap m : Nat) (w : World) (h : IsHeap w bh (.slice (some ⟨g, 0, none⟩) l.length cap) l) (hm : m ≤ l.length) :
    IsHeap (w.setCell ⟨bh, 0, none⟩ (.slice (some ⟨g, 0, none⟩) m cap)) bh (.slice (some ⟨g, 0, none⟩) (l.take m).length cap) (l.take m) ∧ HGrew bh w (w.setCell ⟨bh, 0, none⟩ (.slice (some ⟨g, 0, none⟩) m cap)) (.slice (some ⟨g, 0, none⟩) l.length cap) (.slice (some ⟨g, 0, none⟩) m cap) := by
  have hl : (l.take m).length = m := by rw [List.length_take]; omega
  refine ⟨⟨?_, ?_, fun a ha => h.wf a (List.mem_of_mem_take ha)⟩, ⟨rfl, rfl, rfl, by simp [World.setCell], fun k _ h1 _ => Below.heap_setCell _ _ _ _ h1, fun k hk => .inl hk⟩⟩
  · have := heap_setCell_same w bh 0 _ _ (.slice (some ⟨g, 0, none⟩) m cap) h.box
    rw [hl]
    simpa using this
  · rw [hl]
    refine (h.own.take m hm).kept fun k hk => Below.heap_setCell _ _ _ _ ?_
    have := (h.own.block k hk).1
    simp; omega
set_option maxRecDepth 100000 in
set_option maxHeartbeats 4000000 in
theorem heapPopYes (bh : Nat) (v : Value) (l : List It) (w : World) (h : IsHeap w bh v l) (hh : HeapL l) (h0 : 0 < l.length) (hsz : l.length ≤ 1000000001) : Calls Try.prog 15 #[.pointer (some ⟨bh, 0, none⟩)] w (HPopYes bh v l h0 w) := by
  obtain ⟨m, hm⟩ : ∃ m, l.length = m + 1 := ⟨l.length - 1, by omega⟩
  obtain ⟨g, cap, rfl, hg1, hg2, hlc, hcm, _, _⟩ := h.own.get h0
  have hc := h.cell
  rw [hm] at hc
  have bm : (m : Int) ≤ 1000000000 := by omega
  have b0 : (0 : Int) ≤ (m : Int) := by omega
  have H := Lib.hid h
  have HM := Lib.hid hm
  have HH := Lib.hid hh
  have HSZ := Lib.hid hsz
  have hlt := h.lt
  have H0 := Lib.hid (show 0 < l.length ∧ m < l.length by omega)
  have hlc2 : m + 1 ≤ cap := by omega
  unfold maxLen at hcm
  clear h hm hh hsz hlc
  have HB0 := Lib.hid ((Below.refl w.heap.size w).alloc (Nat.le_refl _) (.cells #[.int .u64 0, .string ByteArray.empty] 30))
  go_enter Try.func15, Try.ntmps15
  go_wp2_with fail
  refine (heapSwap bh l g cap 0 m _ (H.out.bel HB0.out) H0.out.1 H0.out.2).mono ?_
  rintro e1 W1 ⟨rfl, hi1, hg1⟩
  have hs := sw_len (l := l) H0.out.1 H0.out.2
  obtain ⟨g', cap', hv, _, hg3, _, _, hcl, _⟩ := hi1.own.get (by rw [hs]; exact H0.out.1)
  simp only [Value.slice.injEq, Option.some.injEq, Addr.mk.injEq] at hv
  obtain ⟨⟨rfl, _, _⟩, hle, rfl⟩ := hv
  clear hle
  obtain ⟨hx0, hx1⟩ := hcl m (by rw [hs]; exact H0.out.2)
  simp only [sw_at, if_true] at hx0 hx1
  have hc1 := hi1.cell
  have hf1 := hi1.free
  rw [HM.out] at hc1
  have hik : IsHeap W1 bh (.slice (some ⟨g, 0, none⟩) (sw l 0 m H0.out.1 H0.out.2).length cap) (sw l 0 m H0.out.1 H0.out.2) := by rw [hs]; exact hi1
  have hpk := popKeep bh (sw l 0 m H0.out.1 H0.out.2) g cap m W1 hik (by rw [hs]; exact Nat.le_of_lt H0.out.2)
  rw [hs] at hpk
  have HPK := Lib.hid hpk
  clear hik hpk
  have hrb : W1.heap[w.heap.size]? = some (.cells #[.int .u64 0, .string ByteArray.empty] 30 (0, 0)) := by
    rw [hg1.block w.heap.size (by simp) (by omega) (fun e => by simp [Value.ownBlock] at e; omega)]
    exact heap_alloc_new w _
  have HRB := Lib.hid hrb
  clear hrb
  have HG1 := Lib.hid ((HGrew.of_below (bh := bh) (.slice (some ⟨g, 0, none⟩) l.length cap) HB0.out).trans hg1)
  have HP1 := Lib.hid (show popL l h0 = (sw l 0 m H0.out.1 H0.out.2).take m by unfold popL; simp only [HM.out]; rfl)
  have HPL := Lib.hid (popL_down HH.out h0)
  have hlw : bh < W1.heap.size := by omega
  have hw1 : w.heap.size < W1.heap.size := by have := hg1.size; simp at this; omega
  clear hcl hi1 hg1 hs hc
  generalize hxx : l[0] = x at *
  have HXX := Lib.hid hxx
  clear hxx
  go_wp2_with fail
  have hb3 := (Below.refl _ (W1.setCell ⟨bh, 0, none⟩ (.slice (some ⟨g, 0, none⟩) m cap))).alloc (Nat.le_refl _) (.cells #[.int .u64 x.t, .string x.k] 30)
  have hi3 := HPK.out.1.bel hb3
  have HL3 := Lib.hid (show ((sw l 0 m H0.out.1 H0.out.2).take m).length = m by rw [List.length_take, sw_len]; have := H0.out; omega)
  have HG3 := Lib.hid (HG1.out.trans (HPK.out.2.trans (HGrew.of_below _ hb3)))
  have HX3 := Lib.hid (show ((W1.setCell ⟨bh, 0, none⟩ (.slice (some ⟨g, 0, none⟩) m cap)).alloc (.cells #[.int .u64 x.t, .string x.k] 30)).heap[W1.heap.size]? = some (.cells #[.int .u64 x.t, .string x.k] 30 (0, 0)) from by
    have h1 := heap_alloc_new (W1.setCell ⟨bh, 0, none⟩ (.slice (some ⟨g, 0, none⟩) m cap)) (.cells #[.int .u64 x.t, .string x.k] 30)
    have h2 : (W1.setCell ⟨bh, 0, none⟩ (.slice (some ⟨g, 0, none⟩) m cap)).heap.size = W1.heap.size := by simp [World.setCell]
    rw [h2] at h1
    exact h1)
  have HR3 := Lib.hid (show ((W1.setCell ⟨bh, 0, none⟩ (.slice (some ⟨g, 0, none⟩) m cap)).alloc (.cells #[.int .u64 x.t, .string x.k] 30)).heap[w.heap.size]? = some (.cells #[.int .u64 0, .string ByteArray.empty] 30 (0, 0)) from by
    rw [Below.heap_alloc _ _ _ (by simpa using hw1), Below.heap_setCell _ _ _ _ (by simp; omega)]
    exact HRB.out)
  have HS3 := Lib.hid (show ((W1.setCell ⟨bh, 0, none⟩ (.slice (some ⟨g, 0, none⟩) m cap)).alloc (.cells #[.int .u64 x.t, .string x.k] 30)).heap.size = W1.heap.size + 1 by simp)
  have HI3 := Lib.hid hi3
  clear hi3 hb3 HPK HRB hx0 hx1 hc1 hf1
  have hsink := heapSink bh _ g cap _ HI3.out (by rw [← HP1.out]; exact HPL.out) (by rw [HL3.out]; omega)
  rw [HL3.out] at hsink
  refine hsink.mono ?_
  clear hsink
  rintro e3 W4 ⟨rfl, l4, hl4, hi4, hg4, hh4, hp4⟩
  have HZ4 := Lib.hid hg4.size
  have hgg : (Value.slice (some ⟨g, 0, none⟩) m cap).ownBlock = some g := rfl
  have hr4 := (hg4.block w.heap.size (by rw [HS3.out]; omega) (by omega) (by rw [hgg]; simp; omega)).trans HR3.out
  have hx4 := (hg4.block W1.heap.size (by rw [HS3.out]; omega) (by omega) (by rw [hgg]; simp; omega)).trans HX3.out
  have HI4 := Lib.hid hi4
  have HG4 := Lib.hid (HG3.out.trans hg4)
  have HP4 := Lib.hid (And.intro hh4 (show l4.Perm (popL l h0) by rw [HP1.out]; exact hp4))
  have r0 := cell_of_row W4 w.heap.size 0 _ _ _ hr4
  have r1 := cell_of_row W4 w.heap.size 1 _ _ _ hr4
  have f0 := frozen_of_row W4 w.heap.size 0 _ _ hr4
  have f1 := frozen_of_row W4 w.heap.size 1 _ _ hr4
  have x0 := cell_of_row W4 W1.heap.size 0 _ _ _ hx4
  have x1 := cell_of_row W4 W1.heap.size 1 _ _ _ hx4
  simp at r0 r1 x0 x1
  have h4w : w.heap.size < W4.heap.size ∧ bh < W4.heap.size := by have := HZ4.out; rw [HS3.out] at this; omega
  have H4W := Lib.hid h4w
  clear hr4 hx4 hl4 hi4 hg4 hh4 hp4 hgg h4w HS3
  have q0 := World.cell?_setCell_same W4 ⟨w.heap.size, 0, none⟩ (.int .u64 x.t) r0
  have q2 : (W4.setCell ⟨w.heap.size, 0, none⟩ (.int .u64 x.t)).cell? ⟨w.heap.size, 1, none⟩ = some (.string ByteArray.empty) := by rw [World.cell?_setCell_other _ _ _ _ (by simp)]; exact r1
  have q1 := World.cell?_setCell_same (W4.setCell ⟨w.heap.size, 0, none⟩ (.int .u64 x.t)) ⟨w.heap.size, 1, none⟩ (.string x.k) q2
  clear q2
  go_wp2
  refine bodyPost_ret (v := .tuple #[.agg #[.int .u64 x.t, .string x.k], .bool true]) (by simp [results, Try.results15, go_sem, q0, q1]) rfl ?_
  have hfin : Below w.heap.size W4 ((W4.setCell ⟨w.heap.size, 0, none⟩ (.int .u64 x.t)).setCell ⟨w.heap.size, 1, none⟩ (.string x.k)) := ((Below.refl _ _).setCell (by simp) _).setCell (by simp) _
  have hbh : bh < w.heap.size := hlt
  refine ⟨by rw [HXX.out], .slice (some ⟨g, 0, none⟩) m cap, l4, ⟨?_, ?_, HI4.out.wf⟩, ?_, HP4.out.1, HP4.out.2⟩
  · rw [hfin.block bh hbh]; exact HI4.out.box
  · exact HI4.out.own.kept fun k hk => hfin.block k (by cases hk; exact hg2)
  · refine HG4.out.trans' hfin hbh fun k hk => by cases hk; exact hg2
end Go.Proofs.Ytnpalplnpfgibaa
