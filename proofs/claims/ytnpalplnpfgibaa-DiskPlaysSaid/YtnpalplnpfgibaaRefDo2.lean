/- The reference's Do: Sync (layer 4). -/
import Derived.Test.YtnpalplnpfgibaaRefDo
namespace Go.Proofs.Ytnpalplnpfgibaa
open Go.RowKit
set_option maxRecDepth 100000 in
set_option maxHeartbeats 8000000 in
theorem doSync (bx : Nat) (st : DSt) (g cap : Nat) (l : List RF) (n to : ByteArray) (ba : Option Addr) (bn bc : Nat) (x : Int) (w : World) (h : IsRD w bx st (.slice (some ⟨g, 0, none⟩) l.length cap) l) (hl : l.length ≤ 1000000) (hd : st.down = false) (hi : rfIs l n = true) (hlt : rfAt l n < l.length) (hf : st.falls = false) (hl2 : st.left ≤ 9223372036854775807) (he : st.eff ≤ 1000000000) : Calls Try.prog 57 #[.pointer (some ⟨bx, 0, none⟩), .int .i64 2, .string n, .string to, .slice ba bn bc, .int .i64 x] w (RDoAns 0 (ROwn bx (.slice (some ⟨g, 0, none⟩) l.length cap) l) w bx (rdNext st) (l.set (rfAt l n) { l[rfAt l n] with s := l[rfAt l n].b.length })) := by
  have c6 := h.cells.c6
  rw [hd] at c6
  have H := Lib.hid h
  clear h hd
  have HF := Lib.hid hf
  have HL2 := Lib.hid hl2
  have HEF := Lib.hid he
  clear hf hl2 he
  go_enter Try.func57, Try.ntmps57
  go_wp2_with fail
  refine (refFind bx st _ l n w H.out hl).mono ?_
  rintro e W1 ⟨rfl, hb1⟩
  have HB1 := Lib.hid hb1
  have HD1 := Lib.hid (H.out.bel hb1)
  clear hb1
  rw [hi]
  go_wp2_with fail
  refine Reg.wp_region0 (by kernel_rfl) (by kernel_rfl) ?_
  refine Reg.seg0 4 (by kernel_rfl) rfl ?_
  apply Exists.intro
  refine ⟨fun e => ?_, ?_⟩
  · simp only [List.take_succ_cons, List.take_zero]
    repeat (go_big_quiet_step ((intro _; rfl)))
    refine wpQuiet_nil ?_
    exact rfl
  simp only [List.drop_succ_cons, List.drop_zero, Nat.reduceAdd]
  refine Reg.skip0 (fun e => by rfl) ?_
  simp only [Act.put, List.setIfInBounds_toArray, List.set_cons_zero, List.set_cons_succ, Nat.reduceAdd]
  refine Reg.seg0 10 (by kernel_rfl) rfl ?_
  apply Exists.intro
  refine ⟨fun e => ?_, ?_⟩
  · simp only [List.take_succ_cons, List.take_zero]
    repeat (go_big_quiet_step ((intro _; rfl)))
    refine wpQuiet_nil ?_
    exact rfl
  simp only [List.drop_succ_cons, List.drop_zero, Nat.reduceAdd]
  refine Reg.skip0 (fun e => by rfl) ?_
  simp only [Act.put, List.setIfInBounds_toArray, List.set_cons_zero, List.set_cons_succ, Nat.reduceAdd]
  refine Reg.seg0 4 (by kernel_rfl) rfl ?_
  apply Exists.intro
  refine ⟨fun e => ?_, ?_⟩
  · simp only [List.take_succ_cons, List.take_zero]
    repeat (go_big_quiet_step ((intro _; rfl)))
    refine wpQuiet_nil ?_
    exact rfl
  simp only [List.drop_succ_cons, List.drop_zero, Nat.reduceAdd]
  refine Reg.skip0 (fun e => by rfl) ?_
  simp only [Act.put, List.setIfInBounds_toArray, List.set_cons_zero, List.set_cons_succ, Nat.reduceAdd]
  refine Reg.seg0 5 (by kernel_rfl) rfl ?_
  apply Exists.intro
  refine ⟨fun e => ?_, ?_⟩
  · simp only [List.take_succ_cons, List.take_zero]
    repeat (go_big_quiet_step ((intro _; rfl)))
    refine wpQuiet_nil ?_
    exact rfl
  simp only [List.drop_succ_cons, List.drop_zero, Nat.reduceAdd]
  intro eX W2 hR hJ hf
  have hb2 := (Below.refl W1.heap.size W1).drew.trans hR
  have HB2 := Lib.hid (HB1.out.trans (hb2.mono HB1.out.size))
  have HD2 := Lib.hid (HD1.out.bel hb2)
  clear hR hJ hf hb2
  go_wp2_with fail
  refine (refEffOk bx st _ l W2 HD2.out HF.out HL2.out HEF.out).mono ?_
  rintro e W3 ⟨rfl, hd3, hg3⟩
  have HR3 := Lib.hid (show RIn (ROwn bx (.slice (some ⟨g, 0, none⟩) l.length cap) l) w W3 bx (rdNext st) (.slice (some ⟨g, 0, none⟩) l.length cap) l from RIn.of hd3 ((RGrew.of_below _ _ HB2.out).trans hg3))
  clear hd3 hg3
  obtain ⟨k, hk⟩ : ∃ k, k = rfAt l n := ⟨_, rfl⟩
  have HKL := Lib.hid (show k < l.length by rw [hk]; exact hlt)
  obtain ⟨q, hq⟩ : ∃ q, q = l[k]'HKL.out := ⟨_, rfl⟩
  have HQ := Lib.hid hq
  have bk0 : (0 : Int) ≤ (k : Int) := by omega
  have bkl : (k : Int) < (l.length : Int) := by have := HKL.out; omega
  have hend : ∀ e w', RDoAns 0 (ROwn bx (.slice (some ⟨g, 0, none⟩) l.length cap) l) w bx (rdNext st) (l.set k { l[k]'HKL.out with s := q.b.length }) e w' → RDoAns 0 (ROwn bx (.slice (some ⟨g, 0, none⟩) l.length cap) l) w bx (rdNext st) (l.set (rfAt l n) { l[rfAt l n] with s := l[rfAt l n].b.length }) e w' := by
    intro e w' h
    subst hq
    subst hk
    exact h
  have HEND := Lib.hid hend
  rw [← hk]
  clear hk hq hend
  go_wp2_with fail
  obtain ⟨W4, hW4⟩ : ∃ W, W = W3.drew := ⟨_, rfl⟩
  have HR4 := Lib.hid (show RIn (ROwn bx (.slice (some ⟨g, 0, none⟩) l.length cap) l) w W4 bx (rdNext st) (.slice (some ⟨g, 0, none⟩) l.length cap) l by rw [hW4]; exact HR3.out.step (HR3.out.is.bel (Below.refl _ _).drew) (RGrew.of_below _ _ (Below.refl _ _).drew))
  have HX3 := Lib.hid (show bx < W4.heap.size ∧ g < W4.heap.size ∧ W4.cell? ⟨bx, 1, none⟩ = some (.slice (some ⟨g, 0, none⟩) l.length cap) ∧ W4.cell? ⟨g, k * 3 + 1, none⟩ = some (.slice q.ba q.b.length q.bcap) by
    have e1 := HR4.out.is.own.at_ (C := rfCells) (sz := 3) (fun _ => rfl) k HKL.out 1 (by omega)
    rw [← HQ.out] at e1
    exact ⟨rown_lt HR4.out.is (.inl rfl), rown_lt HR4.out.is (.inr (.inl rfl)), HR4.out.is.cells.c1, e1⟩)
  refine Reg.wp_regionP (RStep g W4.heap.size) (RStep.refl g _) (fun a b c => RStep.trans) 16 (Below W4.heap.size W4) (fun W => RIn (ROwn bx (.slice (some ⟨g, 0, none⟩) l.length cap) l) w W bx (rdNext st) (.slice (some ⟨g, 0, none⟩) l.length cap) (l.set k { l[k]'HKL.out with s := q.b.length })) [] (by kernel_rfl) (by kernel_rfl) (by rw [hW4]; exact Below.refl _ _) ?_
  rw [← hW4]
  clear hW4
  refine Reg.segP 1 (by kernel_rfl) rfl (by kernel_rfl) ?_
  apply Exists.intro
  refine ⟨fun e => ?_, ?_⟩
  · simp only [List.take_succ_cons, List.take_zero]
    repeat (go_big_quiet_step ((intro _; rfl)))
    refine wpQuiet_nil ?_
    exact rfl
  simp only [List.drop_succ_cons, List.drop_zero, Nat.reduceAdd]
  refine Reg.stillP (.pointer (some ⟨bx, 0, none⟩)) (RStep.refl g _) (by kernel_rfl) (fun e w1 hR => ⟨by rfl, ?_⟩) ?_
  · unfold Reg.gives
    go_simp
  simp only [Act.put, List.setIfInBounds_toArray, List.set_cons_zero, List.set_cons_succ, Nat.reduceAdd]
  refine Reg.segP 1 (by kernel_rfl) rfl (by kernel_rfl) ?_
  apply Exists.intro
  refine ⟨fun e => ?_, ?_⟩
  · simp only [List.take_succ_cons, List.take_zero]
    repeat (go_big_quiet_step ((intro _; rfl)))
    refine wpQuiet_nil ?_
    exact rfl
  simp only [List.drop_succ_cons, List.drop_zero, Nat.reduceAdd]
  refine Reg.readP (.slice (some ⟨g, 0, none⟩) l.length cap) (RStep.refl g _) (by kernel_rfl) (by kernel_rfl) (fun e w1 hR hC => ⟨by rfl, ?_⟩) ?_
  · have hx := (hC.cell (p := ⟨bx, 1, none⟩) HX3.out.1).trans HX3.out.2.2.1
    unfold Reg.gives
    go_simp
  simp only [Act.put, List.setIfInBounds_toArray, List.set_cons_zero, List.set_cons_succ, Nat.reduceAdd]
  refine Reg.segP 2 (by kernel_rfl) rfl (by kernel_rfl) ?_
  apply Exists.intro
  refine ⟨fun e => ?_, ?_⟩
  · simp only [List.take_succ_cons, List.take_zero]
    repeat (go_big_quiet_step ((intro _; rfl)))
    refine wpQuiet_nil ?_
    exact rfl
  simp only [List.drop_succ_cons, List.drop_zero, Nat.reduceAdd]
  refine Reg.stillP (.pointer (some ⟨bx, 0, none⟩)) (RStep.refl g _) (by kernel_rfl) (fun e w1 hR => ⟨by rfl, ?_⟩) ?_
  · unfold Reg.gives
    go_simp
  simp only [Act.put, List.setIfInBounds_toArray, List.set_cons_zero, List.set_cons_succ, Nat.reduceAdd]
  refine Reg.segP 1 (by kernel_rfl) rfl (by kernel_rfl) ?_
  apply Exists.intro
  refine ⟨fun e => ?_, ?_⟩
  · simp only [List.take_succ_cons, List.take_zero]
    repeat (go_big_quiet_step ((intro _; rfl)))
    refine wpQuiet_nil ?_
    exact rfl
  simp only [List.drop_succ_cons, List.drop_zero, Nat.reduceAdd]
  refine Reg.readP (.slice (some ⟨g, 0, none⟩) l.length cap) (RStep.refl g _) (by kernel_rfl) (by kernel_rfl) (fun e w1 hR hC => ⟨by rfl, ?_⟩) ?_
  · have hx := (hC.cell (p := ⟨bx, 1, none⟩) HX3.out.1).trans HX3.out.2.2.1
    unfold Reg.gives
    go_simp
  simp only [Act.put, List.setIfInBounds_toArray, List.set_cons_zero, List.set_cons_succ, Nat.reduceAdd]
  refine Reg.segP 3 (by kernel_rfl) rfl (by kernel_rfl) ?_
  apply Exists.intro
  refine ⟨fun e => ?_, ?_⟩
  · simp only [List.take_succ_cons, List.take_zero]
    repeat (go_big_quiet_step ((intro _; rfl)))
    refine wpQuiet_nil ?_
    exact rfl
  simp only [List.drop_succ_cons, List.drop_zero, Nat.reduceAdd]
  refine Reg.readP (.slice q.ba q.b.length q.bcap) (RStep.refl g _) (by kernel_rfl) (by kernel_rfl) (fun e w1 hR hC => ⟨by rfl, ?_⟩) ?_
  · have hx := (hC.cell (p := ⟨g, k * 3 + 1, none⟩) HX3.out.2.1).trans HX3.out.2.2.2
    unfold Reg.gives
    go_simp
  simp only [Act.put, List.setIfInBounds_toArray, List.set_cons_zero, List.set_cons_succ, Nat.reduceAdd]
  refine Reg.segP 3 (by kernel_rfl) rfl (by kernel_rfl) ?_
  apply Exists.intro
  refine ⟨fun e => ?_, ?_⟩
  · simp only [List.take_succ_cons, List.take_zero]
    repeat (go_big_quiet_step ((intro _; rfl)))
    refine wpQuiet_nil ?_
    exact rfl
  simp only [List.drop_succ_cons, List.drop_zero, Nat.reduceAdd]
  refine Reg.storeP (by kernel_rfl) (fun e w1 L hN hR hC hl => ⟨by rfl, ?_⟩) ?_
  · have h1 := HR4.out.is.bel hC
    have fr1 := h1.own.fr
    have cx := h1.own.at_ (C := rfCells) (sz := 3) (fun _ => rfl) k HKL.out 2 (by omega)
    simp only [rfCells, List.getElem?_cons_zero, List.getElem?_cons_succ] at cx
    have hps := putS h1 k HKL.out q.b.length (q.b.length : Int) rfl
    have HF := Lib.hid (HR4.out.step hps.1 ((RGrew.of_below _ _ hC).trans hps.2))
    have HRS := Lib.hid (show RStep g W4.heap.size w1 (w1.setCell ⟨g, k * 3 + 2, none⟩ (.int .i64 (q.b.length : Int))) from ⟨rfl, rfl, rfl, by simp [World.setCell], fun j _ hj => Below.heap_setCell _ _ _ _ hj⟩)
    clear hl hN hR hC h1 hps
    unfold Reg.gives
    go_simp
    exact ⟨HRS.out, HF.out, trivial⟩
  simp only [Act.put, Nat.reduceAdd]
  intro eY W5 hR5 hJ5 hf5
  have H5 := Lib.hid (hJ5.2.1 rfl)
  clear hR5 hJ5 hf5
  go_wp2_with fail
  go_ret
  exact HEND.out _ _ ⟨rfl, _, H5.out⟩
end Go.Proofs.Ytnpalplnpfgibaa
