/- The reference's Do: Rename (layer 4). -/
import Derived.Test.YtnpalplnpfgibaaRefDo
namespace Go.Proofs.Ytnpalplnpfgibaa
open Go.RowKit
theorem refDrop (S : Nat → Prop) (w0 : World) (bx : Nat) (st : DSt) (v : Value) (l : List RF) (n : ByteArray) (w : World) (h : RIn S w0 w bx st v l) (hl : l.length ≤ 1000000) : Calls Try.prog 87 #[.pointer (some ⟨bx, 0, none⟩), .string n] w (RPutAns S w0 bx st (rfDrop l n) w) := by
  unfold rfDrop
  cases hi : rfIs l n with
  | false => exact refDropNo S w0 bx st v l n w h hl hi
  | true => exact refDropYes S w0 bx st v l n w h hl hi
theorem rfDrop_len (l : List RF) (n : ByteArray) : (rfDrop l n).length ≤ l.length := by
  unfold rfDrop
  split
  · rw [List.length_append, List.length_take, List.length_drop]; omega
  · exact Nat.le_refl _
def rfRen (l : List RF) (q : RF) (n to : ByteArray) : List RF := (rfDrop (rfDrop l n) to).take (rfAt (rfDrop (rfDrop l n) to) to) ++ { q with name := to } :: (rfDrop (rfDrop l n) to).drop (rfAt (rfDrop (rfDrop l n) to) to)
set_option maxRecDepth 100000 in
set_option maxHeartbeats 8000000 in
theorem doRename (bx : Nat) (st : DSt) (g cap : Nat) (l : List RF) (n to : ByteArray) (ba : Option Addr) (bn bc : Nat) (x : Int) (w : World) (h : IsRD w bx st (.slice (some ⟨g, 0, none⟩) l.length cap) l) (hl : l.length ≤ 1000000) (hd : st.down = false) (hi : rfIs l n = true) (hlt : rfAt l n < l.length) (hf : st.falls = false) (hl2 : st.left ≤ 9223372036854775807) (he : st.eff ≤ 1000000000) (hts : to.size ≤ maxLen) : Calls Try.prog 57 #[.pointer (some ⟨bx, 0, none⟩), .int .i64 4, .string n, .string to, .slice ba bn bc, .int .i64 x] w (RDoAns 0 (ROwn bx (.slice (some ⟨g, 0, none⟩) l.length cap) l) w bx (rdNext st) (rfRen l l[rfAt l n] n to)) := by
  have c6 := h.cells.c6
  rw [hd] at c6
  have H := Lib.hid h
  clear h hd
  have HF := Lib.hid hf
  have HL2 := Lib.hid hl2
  have HEF := Lib.hid he
  have HTS := Lib.hid hts
  clear hf hl2 he hts
  go_enter Try.func57, Try.ntmps57
  go_wp2_with fail
  refine (refFind bx st _ l n w H.out hl).mono ?_
  rintro e W1 ⟨rfl, hb1⟩
  have HB1 := Lib.hid hb1
  have HD1 := Lib.hid (H.out.bel hb1)
  clear hb1
  rw [hi]
  go_wp2_with fail
  refine Reg.wp_region0 (by kernel_rfl) (by kernel_rfl) ?_
  refine Reg.seg0 4 (by kernel_rfl) rfl ?_
  apply Exists.intro
  refine ⟨fun e => ?_, ?_⟩
  · simp only [List.take_succ_cons, List.take_zero]
    repeat (go_big_quiet_step ((intro _; rfl)))
    refine wpQuiet_nil ?_
    exact rfl
  simp only [List.drop_succ_cons, List.drop_zero, Nat.reduceAdd]
  refine Reg.skip0 (fun e => by rfl) ?_
  simp only [Act.put, List.setIfInBounds_toArray, List.set_cons_zero, List.set_cons_succ, Nat.reduceAdd]
  refine Reg.seg0 10 (by kernel_rfl) rfl ?_
  apply Exists.intro
  refine ⟨fun e => ?_, ?_⟩
  · simp only [List.take_succ_cons, List.take_zero]
    repeat (go_big_quiet_step ((intro _; rfl)))
    refine wpQuiet_nil ?_
    exact rfl
  simp only [List.drop_succ_cons, List.drop_zero, Nat.reduceAdd]
  refine Reg.skip0 (fun e => by rfl) ?_
  simp only [Act.put, List.setIfInBounds_toArray, List.set_cons_zero, List.set_cons_succ, Nat.reduceAdd]
  refine Reg.seg0 4 (by kernel_rfl) rfl ?_
  apply Exists.intro
  refine ⟨fun e => ?_, ?_⟩
  · simp only [List.take_succ_cons, List.take_zero]
    repeat (go_big_quiet_step ((intro _; rfl)))
    refine wpQuiet_nil ?_
    exact rfl
  simp only [List.drop_succ_cons, List.drop_zero, Nat.reduceAdd]
  refine Reg.skip0 (fun e => by rfl) ?_
  simp only [Act.put, List.setIfInBounds_toArray, List.set_cons_zero, List.set_cons_succ, Nat.reduceAdd]
  refine Reg.seg0 5 (by kernel_rfl) rfl ?_
  apply Exists.intro
  refine ⟨fun e => ?_, ?_⟩
  · simp only [List.take_succ_cons, List.take_zero]
    repeat (go_big_quiet_step ((intro _; rfl)))
    refine wpQuiet_nil ?_
    exact rfl
  simp only [List.drop_succ_cons, List.drop_zero, Nat.reduceAdd]
  intro eX W2 hR hJ hf
  have hb2 := (Below.refl W1.heap.size W1).drew.trans hR
  have HB2 := Lib.hid (HB1.out.trans (hb2.mono HB1.out.size))
  have HD2 := Lib.hid (HD1.out.bel hb2)
  clear hR hJ hf hb2
  go_wp2_with fail
  refine (refEffOk bx st _ l W2 HD2.out HF.out HL2.out HEF.out).mono ?_
  rintro e W3 ⟨rfl, hd3, hg3⟩
  have HR3 := Lib.hid (show RIn (ROwn bx (.slice (some ⟨g, 0, none⟩) l.length cap) l) w W3 bx (rdNext st) (.slice (some ⟨g, 0, none⟩) l.length cap) l from RIn.of hd3 ((RGrew.of_below _ _ HB2.out).trans hg3))
  clear hd3 hg3
  obtain ⟨k, hk⟩ : ∃ k, k = rfAt l n := ⟨_, rfl⟩
  have HKE := Lib.hid hk
  have HKL := Lib.hid (show k < l.length by rw [hk]; exact hlt)
  obtain ⟨q, hq⟩ : ∃ q, q = l[k]'HKL.out := ⟨_, rfl⟩
  have HQ := Lib.hid hq
  have bk0 : (0 : Int) ≤ (k : Int) := by omega
  have bkl : (k : Int) < (l.length : Int) := by have := HKL.out; omega
  have c1 := HR3.out.is.cells.c1
  have r0 := HR3.out.is.own.at_ (C := rfCells) (sz := 3) (fun _ => rfl) k HKL.out 0 (by omega)
  have r1 := HR3.out.is.own.at_ (C := rfCells) (sz := 3) (fun _ => rfl) k HKL.out 1 (by omega)
  have r2 := HR3.out.is.own.at_ (C := rfCells) (sz := 3) (fun _ => rfl) k HKL.out 2 (by omega)
  rw [← hq] at r0 r1 r2
  simp only [rfCells, List.getElem?_cons_zero, List.getElem?_cons_succ, Nat.add_zero] at r0 r1 r2
  have hend : ∀ e w', RDoAns 0 (ROwn bx (.slice (some ⟨g, 0, none⟩) l.length cap) l) w bx (rdNext st) (rfRen l q n to) e w' → RDoAns 0 (ROwn bx (.slice (some ⟨g, 0, none⟩) l.length cap) l) w bx (rdNext st) (rfRen l l[rfAt l n] n to) e w' := by
    intro e w' h
    subst hq
    subst hk
    exact h
  have HEND := Lib.hid hend
  rw [← hk]
  clear hk hq hend
  go_wp2_with fail
  obtain ⟨nb, hnb⟩ : ∃ nb, nb = W3.heap.size := ⟨_, rfl⟩
  have HNB := Lib.hid hnb
  rw [← hnb]
  obtain ⟨W4, hW4⟩ : ∃ W, W = W3.alloc (.cells #[.string to, .slice q.ba q.b.length q.bcap, .int .i64 (q.s : Int)] 97) := ⟨_, rfl⟩
  have hb4 : Below W3.heap.size W3 W4 := by rw [hW4]; exact (Below.refl _ _).alloc (Nat.le_refl _) _
  have HB4 := Lib.hid hb4
  have HX4 := Lib.hid (show W4.heap[nb]? = some (.cells #[.string to, .slice q.ba q.b.length q.bcap, .int .i64 (q.s : Int)] 97 (0, 0)) by rw [hW4, hnb]; exact heap_alloc_new W3 _)
  have HR4 := Lib.hid (HR3.out.step (HR3.out.is.bel hb4) (RGrew.of_below _ _ hb4))
  rw [← hW4]
  clear hW4 hnb hb4 c1 r0 r1 r2
  refine (refDrop _ w bx (rdNext st) _ l n W4 HR4.out hl).mono ?_
  rintro e W5 ⟨rfl, v5, h5, f5⟩
  have HR5 := Lib.hid h5
  have HF5 := Lib.hid f5
  clear h5 f5
  go_wp2_with fail
  refine (refDrop _ w bx (rdNext st) _ _ to W5 HR5.out (Nat.le_trans (rfDrop_len _ _) hl)).mono ?_
  rintro e W6 ⟨rfl, v6, h6, f6⟩
  have HR6 := Lib.hid h6
  have HF6 := Lib.hid (HF5.out.trans f6)
  clear h6 f6
  have hne : nb ≠ bx := by have := rown_lt HR3.out.is (.inl rfl); have := HNB.out; omega
  have hx6 := (HF6.out.2 nb (Array.getElem?_eq_some_iff.1 HX4.out).1 hne).trans HX4.out
  have x0 := cell_of_row W6 nb 0 _ _ _ hx6
  have x1 := cell_of_row W6 nb 1 _ _ _ hx6
  have x2 := cell_of_row W6 nb 2 _ _ _ hx6
  simp at x0 x1 x2
  clear hne hx6
  go_wp2_with fail
  have hqm : q ∈ l := by rw [HQ.out]; exact List.getElem_mem _
  have hqf := HR4.out.is.file q hqm
  refine (refPut _ w bx (rdNext st) _ _ { q with name := to } W6 HR6.out (Nat.le_trans (rfDrop_len _ _) (Nat.le_trans (rfDrop_len _ _) hl)) ⟨hqf.bytes.kept HF6.out.1 (fun b off e h0 => HF6.out.2 b (rown_lt HR4.out.is (.inr (.inr ⟨q, hqm, h0, off, e⟩))) (by have := (hqf.lo b off e h0).1; omega)), hqf.cap, hqf.capm, HTS.out, fun b off e h0 => ⟨(hqf.lo b off e h0).1, HR4.out.own b (.inr (.inr ⟨q, hqm, h0, off, e⟩))⟩⟩).mono ?_
  rintro e W7 ⟨rfl, v7, h7, _⟩
  have H7 := Lib.hid h7
  clear h7
  go_wp2_with fail
  go_ret
  exact HEND.out _ _ ⟨rfl, v7, H7.out⟩
end Go.Proofs.Ytnpalplnpfgibaa
