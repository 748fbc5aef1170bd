/- The reference's Do: Cut (layer 4): the ways that do not come to it. -/
import Derived.Test.YtnpalplnpfgibaaRefDo
namespace Go.Proofs.Ytnpalplnpfgibaa
open Go.RowKit
set_option maxRecDepth 100000 in
set_option maxHeartbeats 8000000 in
theorem doCutLow (bx : Nat) (st : DSt) (g cap : Nat) (l : List RF) (n to : ByteArray) (ba : Option Addr) (bn bc : Nat) (x : Int) (w : World) (h : IsRD w bx st (.slice (some ⟨g, 0, none⟩) l.length cap) l) (hl : l.length ≤ 1000000) (hd : st.down = false) (hi : rfIs l n = true) (hlt : rfAt l n < l.length) (hx : x < 0) : Calls Try.prog 57 #[.pointer (some ⟨bx, 0, none⟩), .int .i64 3, .string n, .string to, .slice ba bn bc, .int .i64 x] w (RDoAns 1 (ROwn bx (.slice (some ⟨g, 0, none⟩) l.length cap) l) w bx st l) := by
  have c6 := h.cells.c6
  rw [hd] at c6
  have H := Lib.hid h
  clear h hd
  go_enter Try.func57, Try.ntmps57
  go_wp2_with fail
  refine (refFind bx st _ l n w H.out hl).mono ?_
  rintro e W1 ⟨rfl, hb1⟩
  have HB1 := Lib.hid hb1
  have HD1 := Lib.hid (H.out.bel hb1)
  clear hb1
  rw [hi]
  go_wp2_with fail
  refine Reg.wp_region0 (by kernel_rfl) (by kernel_rfl) ?_
  refine Reg.seg0 4 (by kernel_rfl) rfl ?_
  apply Exists.intro
  refine ⟨fun e => ?_, ?_⟩
  · simp only [List.take_succ_cons, List.take_zero]
    repeat (go_big_quiet_step ((intro _; rfl)))
    refine wpQuiet_nil ?_
    exact rfl
  simp only [List.drop_succ_cons, List.drop_zero, Nat.reduceAdd]
  refine Reg.skip0 (fun e => by rfl) ?_
  simp only [Act.put, List.setIfInBounds_toArray, List.set_cons_zero, List.set_cons_succ, Nat.reduceAdd]
  refine Reg.seg0 10 (by kernel_rfl) rfl ?_
  apply Exists.intro
  refine ⟨fun e => ?_, ?_⟩
  · simp only [List.take_succ_cons, List.take_zero]
    repeat (go_big_quiet_step ((intro _; rfl)))
    refine wpQuiet_nil ?_
    exact rfl
  simp only [List.drop_succ_cons, List.drop_zero, Nat.reduceAdd]
  refine Reg.skip0 (fun e => by rfl) ?_
  simp only [Act.put, List.setIfInBounds_toArray, List.set_cons_zero, List.set_cons_succ, Nat.reduceAdd]
  refine Reg.seg0 4 (by kernel_rfl) rfl ?_
  apply Exists.intro
  refine ⟨fun e => ?_, ?_⟩
  · simp only [List.take_succ_cons, List.take_zero]
    repeat (go_big_quiet_step ((intro _; rfl)))
    refine wpQuiet_nil ?_
    exact rfl
  simp only [List.drop_succ_cons, List.drop_zero, Nat.reduceAdd]
  refine Reg.skip0 (fun e => by rfl) ?_
  simp only [Act.put, List.setIfInBounds_toArray, List.set_cons_zero, List.set_cons_succ, Nat.reduceAdd]
  refine Reg.seg0 5 (by kernel_rfl) rfl ?_
  apply Exists.intro
  refine ⟨fun e => ?_, ?_⟩
  · simp only [List.take_succ_cons, List.take_zero]
    repeat (go_big_quiet_step ((intro _; rfl)))
    refine wpQuiet_nil ?_
    exact rfl
  simp only [List.drop_succ_cons, List.drop_zero, Nat.reduceAdd]
  intro eX W2 hR hJ hf
  have hb2 := (Below.refl W1.heap.size W1).drew.trans hR
  have HB2 := Lib.hid (HB1.out.trans (hb2.mono HB1.out.size))
  have HD2 := Lib.hid (HD1.out.bel hb2)
  clear hR hJ hf hb2
  obtain ⟨k, hk⟩ : ∃ k, k = rfAt l n := ⟨_, rfl⟩
  have HKL := Lib.hid (show k < l.length by rw [hk]; exact hlt)
  have bk0 : (0 : Int) ≤ (k : Int) := by omega
  have bkl : (k : Int) < (l.length : Int) := by have := HKL.out; omega
  have c1 := HD2.out.cells.c1
  have r1 := HD2.out.own.at_ (C := rfCells) (sz := 3) (fun _ => rfl) k HKL.out 1 (by omega)
  obtain ⟨q, hq⟩ : ∃ q, q = l[k]'HKL.out := ⟨_, rfl⟩
  rw [← hq] at r1
  simp only [rfCells, List.getElem?_cons_zero, List.getElem?_cons_succ] at r1
  have hqq : l[rfAt l n] = q := by subst hk; exact hq.symm
  have d1 : decide (x < 0) = true := by simp; omega
  rw [← hk]
  clear hk hq hqq
  go_wp2_with fail
  go_ret
  exact ⟨rfl, _, RIn.of HD2.out (RGrew.of_below _ _ HB2.out)⟩
set_option maxRecDepth 100000 in
set_option maxHeartbeats 8000000 in
theorem doCutHigh (bx : Nat) (st : DSt) (g cap : Nat) (l : List RF) (n to : ByteArray) (ba : Option Addr) (bn bc : Nat) (x : Int) (w : World) (h : IsRD w bx st (.slice (some ⟨g, 0, none⟩) l.length cap) l) (hl : l.length ≤ 1000000) (hd : st.down = false) (hi : rfIs l n = true) (hlt : rfAt l n < l.length) (hx0 : 0 ≤ x) (hx : (l[rfAt l n].b.length : Int) < x) : Calls Try.prog 57 #[.pointer (some ⟨bx, 0, none⟩), .int .i64 3, .string n, .string to, .slice ba bn bc, .int .i64 x] w (RDoAns 1 (ROwn bx (.slice (some ⟨g, 0, none⟩) l.length cap) l) w bx st l) := by
  have c6 := h.cells.c6
  rw [hd] at c6
  have H := Lib.hid h
  clear h hd
  go_enter Try.func57, Try.ntmps57
  go_wp2_with fail
  refine (refFind bx st _ l n w H.out hl).mono ?_
  rintro e W1 ⟨rfl, hb1⟩
  have HB1 := Lib.hid hb1
  have HD1 := Lib.hid (H.out.bel hb1)
  clear hb1
  rw [hi]
  go_wp2_with fail
  refine Reg.wp_region0 (by kernel_rfl) (by kernel_rfl) ?_
  refine Reg.seg0 4 (by kernel_rfl) rfl ?_
  apply Exists.intro
  refine ⟨fun e => ?_, ?_⟩
  · simp only [List.take_succ_cons, List.take_zero]
    repeat (go_big_quiet_step ((intro _; rfl)))
    refine wpQuiet_nil ?_
    exact rfl
  simp only [List.drop_succ_cons, List.drop_zero, Nat.reduceAdd]
  refine Reg.skip0 (fun e => by rfl) ?_
  simp only [Act.put, List.setIfInBounds_toArray, List.set_cons_zero, List.set_cons_succ, Nat.reduceAdd]
  refine Reg.seg0 10 (by kernel_rfl) rfl ?_
  apply Exists.intro
  refine ⟨fun e => ?_, ?_⟩
  · simp only [List.take_succ_cons, List.take_zero]
    repeat (go_big_quiet_step ((intro _; rfl)))
    refine wpQuiet_nil ?_
    exact rfl
  simp only [List.drop_succ_cons, List.drop_zero, Nat.reduceAdd]
  refine Reg.skip0 (fun e => by rfl) ?_
  simp only [Act.put, List.setIfInBounds_toArray, List.set_cons_zero, List.set_cons_succ, Nat.reduceAdd]
  refine Reg.seg0 4 (by kernel_rfl) rfl ?_
  apply Exists.intro
  refine ⟨fun e => ?_, ?_⟩
  · simp only [List.take_succ_cons, List.take_zero]
    repeat (go_big_quiet_step ((intro _; rfl)))
    refine wpQuiet_nil ?_
    exact rfl
  simp only [List.drop_succ_cons, List.drop_zero, Nat.reduceAdd]
  refine Reg.skip0 (fun e => by rfl) ?_
  simp only [Act.put, List.setIfInBounds_toArray, List.set_cons_zero, List.set_cons_succ, Nat.reduceAdd]
  refine Reg.seg0 5 (by kernel_rfl) rfl ?_
  apply Exists.intro
  refine ⟨fun e => ?_, ?_⟩
  · simp only [List.take_succ_cons, List.take_zero]
    repeat (go_big_quiet_step ((intro _; rfl)))
    refine wpQuiet_nil ?_
    exact rfl
  simp only [List.drop_succ_cons, List.drop_zero, Nat.reduceAdd]
  intro eX W2 hR hJ hf
  have hb2 := (Below.refl W1.heap.size W1).drew.trans hR
  have HB2 := Lib.hid (HB1.out.trans (hb2.mono HB1.out.size))
  have HD2 := Lib.hid (HD1.out.bel hb2)
  clear hR hJ hf hb2
  obtain ⟨k, hk⟩ : ∃ k, k = rfAt l n := ⟨_, rfl⟩
  have HKL := Lib.hid (show k < l.length by rw [hk]; exact hlt)
  have bk0 : (0 : Int) ≤ (k : Int) := by omega
  have bkl : (k : Int) < (l.length : Int) := by have := HKL.out; omega
  have c1 := HD2.out.cells.c1
  have r1 := HD2.out.own.at_ (C := rfCells) (sz := 3) (fun _ => rfl) k HKL.out 1 (by omega)
  obtain ⟨q, hq⟩ : ∃ q, q = l[k]'HKL.out := ⟨_, rfl⟩
  rw [← hq] at r1
  simp only [rfCells, List.getElem?_cons_zero, List.getElem?_cons_succ] at r1
  have hqq : l[rfAt l n] = q := by subst hk; exact hq.symm
  have d1 : decide (x < 0) = false := by simp; omega
  have d2 : decide ((q.b.length : Int) < x) = true := by rw [← hqq]; simp; omega
  rw [← hk]
  clear hk hq hqq
  go_wp2_with fail
  go_ret
  exact ⟨rfl, _, RIn.of HD2.out (RGrew.of_below _ _ HB2.out)⟩
set_option maxRecDepth 100000 in
set_option maxHeartbeats 8000000 in
theorem doFallCut (bx : Nat) (st : DSt) (g cap : Nat) (l : List RF) (n to : ByteArray) (ba : Option Addr) (bn bc : Nat) (x : Int) (w : World) (h : IsRD w bx st (.slice (some ⟨g, 0, none⟩) l.length cap) l) (hl : l.length ≤ 1000000) (hd : st.down = false) (hi : rfIs l n = true) (hlt : rfAt l n < l.length) (hx0 : 0 ≤ x) (hx : x ≤ (l[rfAt l n].b.length : Int)) (hf : st.falls = true) (hk : st.keep ≤ 9223372036854775807) (hle : ∀ q ∈ l, q.s ≤ q.b.length ∧ q.b.length ≤ 1000000000) : Calls Try.prog 57 #[.pointer (some ⟨bx, 0, none⟩), .int .i64 3, .string n, .string to, .slice ba bn bc, .int .i64 x] w (RDoFall bx st (.slice (some ⟨g, 0, none⟩) l.length cap) l w) := by
  have c6 := h.cells.c6
  rw [hd] at c6
  have H := Lib.hid h
  clear h hd
  have HF := Lib.hid hf
  have HKP := Lib.hid hk
  have HLE := Lib.hid hle
  clear hf hk hle
  go_enter Try.func57, Try.ntmps57
  go_wp2_with fail
  refine (refFind bx st _ l n w H.out hl).mono ?_
  rintro e W1 ⟨rfl, hb1⟩
  have HB1 := Lib.hid hb1
  have HD1 := Lib.hid (H.out.bel hb1)
  clear hb1
  rw [hi]
  go_wp2_with fail
  refine Reg.wp_region0 (by kernel_rfl) (by kernel_rfl) ?_
  refine Reg.seg0 4 (by kernel_rfl) rfl ?_
  apply Exists.intro
  refine ⟨fun e => ?_, ?_⟩
  · simp only [List.take_succ_cons, List.take_zero]
    repeat (go_big_quiet_step ((intro _; rfl)))
    refine wpQuiet_nil ?_
    exact rfl
  simp only [List.drop_succ_cons, List.drop_zero, Nat.reduceAdd]
  refine Reg.skip0 (fun e => by rfl) ?_
  simp only [Act.put, List.setIfInBounds_toArray, List.set_cons_zero, List.set_cons_succ, Nat.reduceAdd]
  refine Reg.seg0 10 (by kernel_rfl) rfl ?_
  apply Exists.intro
  refine ⟨fun e => ?_, ?_⟩
  · simp only [List.take_succ_cons, List.take_zero]
    repeat (go_big_quiet_step ((intro _; rfl)))
    refine wpQuiet_nil ?_
    exact rfl
  simp only [List.drop_succ_cons, List.drop_zero, Nat.reduceAdd]
  refine Reg.skip0 (fun e => by rfl) ?_
  simp only [Act.put, List.setIfInBounds_toArray, List.set_cons_zero, List.set_cons_succ, Nat.reduceAdd]
  refine Reg.seg0 4 (by kernel_rfl) rfl ?_
  apply Exists.intro
  refine ⟨fun e => ?_, ?_⟩
  · simp only [List.take_succ_cons, List.take_zero]
    repeat (go_big_quiet_step ((intro _; rfl)))
    refine wpQuiet_nil ?_
    exact rfl
  simp only [List.drop_succ_cons, List.drop_zero, Nat.reduceAdd]
  refine Reg.skip0 (fun e => by rfl) ?_
  simp only [Act.put, List.setIfInBounds_toArray, List.set_cons_zero, List.set_cons_succ, Nat.reduceAdd]
  refine Reg.seg0 5 (by kernel_rfl) rfl ?_
  apply Exists.intro
  refine ⟨fun e => ?_, ?_⟩
  · simp only [List.take_succ_cons, List.take_zero]
    repeat (go_big_quiet_step ((intro _; rfl)))
    refine wpQuiet_nil ?_
    exact rfl
  simp only [List.drop_succ_cons, List.drop_zero, Nat.reduceAdd]
  intro eX W2 hR hJ hf
  have hb2 := (Below.refl W1.heap.size W1).drew.trans hR
  have HB2 := Lib.hid (HB1.out.trans (hb2.mono HB1.out.size))
  have HD2 := Lib.hid (HD1.out.bel hb2)
  clear hR hJ hf hb2
  obtain ⟨k, hk⟩ : ∃ k, k = rfAt l n := ⟨_, rfl⟩
  have HKL := Lib.hid (show k < l.length by rw [hk]; exact hlt)
  have bk0 : (0 : Int) ≤ (k : Int) := by omega
  have bkl : (k : Int) < (l.length : Int) := by have := HKL.out; omega
  have c1 := HD2.out.cells.c1
  have r1 := HD2.out.own.at_ (C := rfCells) (sz := 3) (fun _ => rfl) k HKL.out 1 (by omega)
  obtain ⟨q, hq⟩ : ∃ q, q = l[k]'HKL.out := ⟨_, rfl⟩
  rw [← hq] at r1
  simp only [rfCells, List.getElem?_cons_zero, List.getElem?_cons_succ] at r1
  have hqq : l[rfAt l n] = q := by subst hk; exact hq.symm
  have d1 : decide (x < 0) = false := by simp; omega
  have d2 : decide ((q.b.length : Int) < x) = false := by rw [← hqq]; simp; omega
  rw [← hk]
  clear hk hq hqq
  go_wp2_with fail
  refine (refEffFall bx st _ l W2 HD2.out HF.out HKP.out hl HLE.out).mono ?_
  rintro e W3 ⟨rfl, l3, h3, hd3, hg3⟩
  have HR3 := Lib.hid (show RDoFall bx st (.slice (some ⟨g, 0, none⟩) l.length cap) l w (.returned (.int .i64 15)) W3 from ⟨rfl, l3, h3, hd3, (RGrew.of_below _ _ HB2.out).trans hg3⟩)
  clear hd3 hg3 h3
  go_wp2_with fail
  go_ret
  exact HR3.out
end Go.Proofs.Ytnpalplnpfgibaa
