/- The reference's Do: Append (layer 4): full, falls. -/
import Derived.Test.YtnpalplnpfgibaaRefDo
namespace Go.Proofs.Ytnpalplnpfgibaa
open Go.RowKit
set_option maxRecDepth 100000 in
set_option maxHeartbeats 8000000 in
theorem doAppendFull (bx : Nat) (st : DSt) (v : Value) (l : List RF) (n to : ByteArray) (ba : Option Addr) (bn bc : Nat) (x : Int) (w : World) (h : IsRD w bx st v l) (hl : l.length ≤ 1000000) (hd : st.down = false) (hi : rfIs l n = true) (hu : usedR l ≤ 1000000000) (hbn : bn ≤ 1000000000) (hx : st.cap < (usedR l : Int) + bn) : Calls Try.prog 57 #[.pointer (some ⟨bx, 0, none⟩), .int .i64 1, .string n, .string to, .slice ba bn bc, .int .i64 x] w (RDoAns 12 (ROwn bx v l) w bx st l) := by
  obtain ⟨u, hu1⟩ : ∃ u, u = usedR l := ⟨_, rfl⟩
  have HU := Lib.hid hu1
  have HUB := Lib.hid (show u ≤ 1000000000 by omega)
  have bu0 : (0 : Int) ≤ (u : Int) := by omega
  have bu1 : (u : Int) + (bn : Int) ≤ 2000000000 := by omega
  have bu2 : (0 : Int) ≤ (u : Int) + (bn : Int) := by omega
  have dx : decide (st.cap < (u : Int) + (bn : Int)) = true := by simp; omega
  have c6 := h.cells.c6
  rw [hd] at c6
  have H := Lib.hid h
  clear h hd
  clear hx hu hu1 hbn
  go_enter Try.func57, Try.ntmps57
  go_wp2_with fail
  refine (refFind bx st v l n w H.out hl).mono ?_
  rintro e W1 ⟨rfl, hb1⟩
  have HB1 := Lib.hid hb1
  have HD1 := Lib.hid (H.out.bel hb1)
  clear hb1
  rw [hi]
  go_wp2_with fail
  have c1 := HD1.out.cells.c0
  have HBX1 := Lib.hid (rown_lt HD1.out (.inl rfl))
  refine Reg.wp_region0 (by kernel_rfl) (by kernel_rfl) ?_
  refine Reg.seg0 4 (by kernel_rfl) rfl ?_
  apply Exists.intro
  refine ⟨fun e => ?_, ?_⟩
  · simp only [List.take_succ_cons, List.take_zero]
    repeat (go_big_quiet_step ((intro _; rfl)))
    refine wpQuiet_nil ?_
    exact rfl
  simp only [List.drop_succ_cons, List.drop_zero, Nat.reduceAdd]
  refine Reg.skip0 (fun e => by rfl) ?_
  simp only [Act.put, List.setIfInBounds_toArray, List.set_cons_zero, List.set_cons_succ, Nat.reduceAdd]
  refine Reg.seg0 10 (by kernel_rfl) rfl ?_
  apply Exists.intro
  refine ⟨fun e => ?_, ?_⟩
  · simp only [List.take_succ_cons, List.take_zero]
    repeat (go_big_quiet_step ((intro _; rfl)))
    refine wpQuiet_nil ?_
    exact rfl
  simp only [List.drop_succ_cons, List.drop_zero, Nat.reduceAdd]
  refine Reg.const0 (.int .i64 (u : Int)) (fun e w1 hR hf => ⟨by rfl, ?_⟩) ?_
  · unfold Reg.gives
    clear hf
    go_simp
    refine (refUsed bx st v l _ ((HD1.out.bel (Below.refl _ _).drew).bel hR) hl (by rw [← HU.out]; have := HUB.out; omega)).mono ?_
    rintro e2 w2 ⟨rfl, rfl⟩
    exact ⟨by rw [HU.out], Reg.bel_refl _⟩
  simp only [Act.put, List.setIfInBounds_toArray, List.set_cons_zero, List.set_cons_succ, Nat.reduceAdd]
  refine Reg.seg0 4 (by kernel_rfl) rfl ?_
  apply Exists.intro
  refine ⟨fun e => ?_, ?_⟩
  · simp only [List.take_succ_cons, List.take_zero]
    repeat (go_big_quiet_step ((intro _; rfl)))
    refine wpQuiet_nil ?_
    exact rfl
  simp only [List.drop_succ_cons, List.drop_zero, Nat.reduceAdd]
  refine Reg.const0 (.pointer (some ⟨bx, 0, none⟩)) (fun e w1 hR hf => ⟨by rfl, ?_⟩) ?_
  · unfold Reg.gives
    clear hf
    go_simp
    exact Reg.bel_refl _
  simp only [Act.put, List.setIfInBounds_toArray, List.set_cons_zero, List.set_cons_succ, Nat.reduceAdd]
  refine Reg.seg0 1 (by kernel_rfl) rfl ?_
  apply Exists.intro
  refine ⟨fun e => ?_, ?_⟩
  · simp only [List.take_succ_cons, List.take_zero]
    repeat (go_big_quiet_step ((intro _; rfl)))
    refine wpQuiet_nil ?_
    exact rfl
  simp only [List.drop_succ_cons, List.drop_zero, Nat.reduceAdd]
  refine Reg.const0 (.int .i64 st.cap) (fun e w1 hR hf => ⟨by rfl, ?_⟩) ?_
  · have c1' := (Below.cell hR (p := ⟨bx, 0, none⟩) HBX1.out).trans c1
    unfold Reg.gives
    clear hf
    go_simp
    exact Reg.bel_refl _
  simp only [Act.put, List.setIfInBounds_toArray, List.set_cons_zero, List.set_cons_succ, Nat.reduceAdd]
  refine Reg.seg0 3 (by kernel_rfl) rfl ?_
  apply Exists.intro
  refine ⟨fun e => ?_, ?_⟩
  · simp only [List.take_succ_cons, List.take_zero]
    repeat (go_big_quiet_step ((intro _; rfl)))
    refine wpQuiet_nil ?_
    exact rfl
  simp only [List.drop_succ_cons, List.drop_zero, Nat.reduceAdd]
  intro eX W2 hR hJ hf8
  have hb2 := (Below.refl W1.heap.size W1).drew.trans hR
  have HB2 := Lib.hid (HB1.out.trans (hb2.mono HB1.out.size))
  have HD2 := Lib.hid (HD1.out.bel hb2)
  clear hR hJ hf8 hb2 c1
  go_wp2_with fail
  go_ret
  exact ⟨rfl, _, RIn.of HD2.out (RGrew.of_below _ _ HB2.out)⟩
set_option maxRecDepth 100000 in
set_option maxHeartbeats 8000000 in
theorem doFallAppend (bx : Nat) (st : DSt) (v : Value) (l : List RF) (n to : ByteArray) (ba : Option Addr) (bn bc : Nat) (x : Int) (w : World) (h : IsRD w bx st v l) (hl : l.length ≤ 1000000) (hd : st.down = false) (hi : rfIs l n = true) (hu : usedR l ≤ 1000000000) (hbn : bn ≤ 1000000000) (hx : ¬ st.cap < (usedR l : Int) + bn) (hf : st.falls = true) (hk : st.keep ≤ 9223372036854775807) (hle : ∀ q ∈ l, q.s ≤ q.b.length ∧ q.b.length ≤ 1000000000) : Calls Try.prog 57 #[.pointer (some ⟨bx, 0, none⟩), .int .i64 1, .string n, .string to, .slice ba bn bc, .int .i64 x] w (RDoFall bx st v l w) := by
  obtain ⟨u, hu1⟩ : ∃ u, u = usedR l := ⟨_, rfl⟩
  have HU := Lib.hid hu1
  have HUB := Lib.hid (show u ≤ 1000000000 by omega)
  have bu0 : (0 : Int) ≤ (u : Int) := by omega
  have bu1 : (u : Int) + (bn : Int) ≤ 2000000000 := by omega
  have bu2 : (0 : Int) ≤ (u : Int) + (bn : Int) := by omega
  have dx : decide (st.cap < (u : Int) + (bn : Int)) = false := by simp; omega
  have c6 := h.cells.c6
  rw [hd] at c6
  have H := Lib.hid h
  clear h hd
  have HF := Lib.hid hf
  have HKP := Lib.hid hk
  have HLE := Lib.hid hle
  clear hf hk hle
  clear hx hu hu1 hbn
  go_enter Try.func57, Try.ntmps57
  go_wp2_with fail
  refine (refFind bx st v l n w H.out hl).mono ?_
  rintro e W1 ⟨rfl, hb1⟩
  have HB1 := Lib.hid hb1
  have HD1 := Lib.hid (H.out.bel hb1)
  clear hb1
  rw [hi]
  go_wp2_with fail
  have c1 := HD1.out.cells.c0
  have HBX1 := Lib.hid (rown_lt HD1.out (.inl rfl))
  refine Reg.wp_region0 (by kernel_rfl) (by kernel_rfl) ?_
  refine Reg.seg0 4 (by kernel_rfl) rfl ?_
  apply Exists.intro
  refine ⟨fun e => ?_, ?_⟩
  · simp only [List.take_succ_cons, List.take_zero]
    repeat (go_big_quiet_step ((intro _; rfl)))
    refine wpQuiet_nil ?_
    exact rfl
  simp only [List.drop_succ_cons, List.drop_zero, Nat.reduceAdd]
  refine Reg.skip0 (fun e => by rfl) ?_
  simp only [Act.put, List.setIfInBounds_toArray, List.set_cons_zero, List.set_cons_succ, Nat.reduceAdd]
  refine Reg.seg0 10 (by kernel_rfl) rfl ?_
  apply Exists.intro
  refine ⟨fun e => ?_, ?_⟩
  · simp only [List.take_succ_cons, List.take_zero]
    repeat (go_big_quiet_step ((intro _; rfl)))
    refine wpQuiet_nil ?_
    exact rfl
  simp only [List.drop_succ_cons, List.drop_zero, Nat.reduceAdd]
  refine Reg.const0 (.int .i64 (u : Int)) (fun e w1 hR hf => ⟨by rfl, ?_⟩) ?_
  · unfold Reg.gives
    clear hf
    go_simp
    refine (refUsed bx st v l _ ((HD1.out.bel (Below.refl _ _).drew).bel hR) hl (by rw [← HU.out]; have := HUB.out; omega)).mono ?_
    rintro e2 w2 ⟨rfl, rfl⟩
    exact ⟨by rw [HU.out], Reg.bel_refl _⟩
  simp only [Act.put, List.setIfInBounds_toArray, List.set_cons_zero, List.set_cons_succ, Nat.reduceAdd]
  refine Reg.seg0 4 (by kernel_rfl) rfl ?_
  apply Exists.intro
  refine ⟨fun e => ?_, ?_⟩
  · simp only [List.take_succ_cons, List.take_zero]
    repeat (go_big_quiet_step ((intro _; rfl)))
    refine wpQuiet_nil ?_
    exact rfl
  simp only [List.drop_succ_cons, List.drop_zero, Nat.reduceAdd]
  refine Reg.const0 (.pointer (some ⟨bx, 0, none⟩)) (fun e w1 hR hf => ⟨by rfl, ?_⟩) ?_
  · unfold Reg.gives
    clear hf
    go_simp
    exact Reg.bel_refl _
  simp only [Act.put, List.setIfInBounds_toArray, List.set_cons_zero, List.set_cons_succ, Nat.reduceAdd]
  refine Reg.seg0 1 (by kernel_rfl) rfl ?_
  apply Exists.intro
  refine ⟨fun e => ?_, ?_⟩
  · simp only [List.take_succ_cons, List.take_zero]
    repeat (go_big_quiet_step ((intro _; rfl)))
    refine wpQuiet_nil ?_
    exact rfl
  simp only [List.drop_succ_cons, List.drop_zero, Nat.reduceAdd]
  refine Reg.const0 (.int .i64 st.cap) (fun e w1 hR hf => ⟨by rfl, ?_⟩) ?_
  · have c1' := (Below.cell hR (p := ⟨bx, 0, none⟩) HBX1.out).trans c1
    unfold Reg.gives
    clear hf
    go_simp
    exact Reg.bel_refl _
  simp only [Act.put, List.setIfInBounds_toArray, List.set_cons_zero, List.set_cons_succ, Nat.reduceAdd]
  refine Reg.seg0 3 (by kernel_rfl) rfl ?_
  apply Exists.intro
  refine ⟨fun e => ?_, ?_⟩
  · simp only [List.take_succ_cons, List.take_zero]
    repeat (go_big_quiet_step ((intro _; rfl)))
    refine wpQuiet_nil ?_
    exact rfl
  simp only [List.drop_succ_cons, List.drop_zero, Nat.reduceAdd]
  intro eX W2 hR hJ hf8
  have hb2 := (Below.refl W1.heap.size W1).drew.trans hR
  have HB2 := Lib.hid (HB1.out.trans (hb2.mono HB1.out.size))
  have HD2 := Lib.hid (HD1.out.bel hb2)
  clear hR hJ hf8 hb2 c1
  go_wp2_with fail
  refine (refEffFall bx st v l W2 HD2.out HF.out HKP.out hl HLE.out).mono ?_
  rintro e W3 ⟨rfl, l3, h3, hd3, hg3⟩
  have HR3 := Lib.hid (show RDoFall bx st v l w (.returned (.int .i64 15)) W3 from ⟨rfl, l3, h3, hd3, (RGrew.of_below _ _ HB2.out).trans hg3⟩)
  clear hd3 hg3 h3
  go_wp2_with fail
  go_ret
  exact HR3.out
end Go.Proofs.Ytnpalplnpfgibaa
