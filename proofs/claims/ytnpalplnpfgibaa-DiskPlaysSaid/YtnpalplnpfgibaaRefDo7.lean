/- The reference's Do: Append (layer 4). -/
import Derived.Test.YtnpalplnpfgibaaRefDo5
import Derived.Test.YtnpalplnpfgibaaRefDo6
namespace Go.Proofs.Ytnpalplnpfgibaa
open Go.RowKit
theorem appEnd {w W : World} {bx k : Nat} {st : DSt} {v : Value} {l : List RF} {hk : k < l.length} {q : RF} {tb bb : List UInt8} {a5 : Option Addr} {k5 : Nat} (hq : q = l[k]) (htb : tb = q.b ++ bb)
    (h1 : IsRD W bx st v (l.set k { l[k] with ba := a5, bcap := k5, b := tb })) (h2 : RGrew bx w W v v l (l.set k { l[k] with ba := a5, bcap := k5, b := tb })) : RIn (ROwn bx v l) w W bx st v (l.set k { l[k] with ba := a5, bcap := k5, b := q.b ++ bb }) := by
  rw [← htb]
  subst hq
  exact RIn.of h1 h2
set_option maxRecDepth 100000 in
set_option maxHeartbeats 8000000 in
theorem doAppend (bx : Nat) (st : DSt) (g cap : Nat) (l : List RF) (n to : ByteArray) (ba : Option Addr) (bn bc : Nat) (x : Int) (w : World) (h : IsRD w bx st (.slice (some ⟨g, 0, none⟩) l.length cap) l) (hl : l.length ≤ 1000000) (bb : List UInt8) (hsrc : IsBytes w ba bb) (hfar : ∀ b off, ba = some ⟨b, off, none⟩ → 0 < bb.length → ¬ ROwn bx (.slice (some ⟨g, 0, none⟩) l.length cap) l b) (hbl : bb.length = bn) (hd : st.down = false) (hi : rfIs l n = true) (hlt : rfAt l n < l.length) (hu : usedR l ≤ 1000000000) (hbn : bn ≤ 1000000000) (hx : ¬ st.cap < (usedR l : Int) + bn) (hbb : l[rfAt l n].b.length ≤ 1000000000) (hf : st.falls = false) (hl2 : st.left ≤ 9223372036854775807) (he : st.eff ≤ 1000000000) : Calls Try.prog 57 #[.pointer (some ⟨bx, 0, none⟩), .int .i64 1, .string n, .string to, .slice ba bn bc, .int .i64 x] w (fun e w' => ∃ a5 k5, RDoAns 0 (ROwn bx (.slice (some ⟨g, 0, none⟩) l.length cap) l) w bx (rdNext st) (l.set (rfAt l n) { l[rfAt l n] with ba := a5, bcap := k5, b := l[rfAt l n].b ++ bb }) e w') := by
  obtain ⟨u, hu1⟩ : ∃ u, u = usedR l := ⟨_, rfl⟩
  have HU := Lib.hid hu1
  have HUB := Lib.hid (show u ≤ 1000000000 by omega)
  have bu0 : (0 : Int) ≤ (u : Int) := by omega
  have bu1 : (u : Int) + (bn : Int) ≤ 2000000000 := by omega
  have bu2 : (0 : Int) ≤ (u : Int) + (bn : Int) := by omega
  have dx : decide (st.cap < (u : Int) + (bn : Int)) = false := by simp; omega
  have c6 := h.cells.c6
  rw [hd] at c6
  have H := Lib.hid h
  clear h hd
  have HF := Lib.hid hf
  have HL2 := Lib.hid hl2
  have HEF := Lib.hid he
  have HSRC := Lib.hid hsrc
  have HFAR := Lib.hid hfar
  have HBN := Lib.hid hbl
  have HBM := Lib.hid hbn
  clear hf hl2 he hsrc hfar hbl
  clear hx hu hu1 hbn
  go_enter Try.func57, Try.ntmps57
  go_wp2_with fail
  refine (refFind bx st _ l n w H.out hl).mono ?_
  rintro e W1 ⟨rfl, hb1⟩
  have HB1 := Lib.hid hb1
  have HD1 := Lib.hid (H.out.bel hb1)
  clear hb1
  rw [hi]
  go_wp2_with fail
  have c1 := HD1.out.cells.c0
  have HBX1 := Lib.hid (rown_lt HD1.out (.inl rfl))
  refine Reg.wp_region0 (by kernel_rfl) (by kernel_rfl) ?_
  refine Reg.seg0 4 (by kernel_rfl) rfl ?_
  apply Exists.intro
  refine ⟨fun e => ?_, ?_⟩
  · simp only [List.take_succ_cons, List.take_zero]
    repeat (go_big_quiet_step ((intro _; rfl)))
    refine wpQuiet_nil ?_
    exact rfl
  simp only [List.drop_succ_cons, List.drop_zero, Nat.reduceAdd]
  refine Reg.skip0 (fun e => by rfl) ?_
  simp only [Act.put, List.setIfInBounds_toArray, List.set_cons_zero, List.set_cons_succ, Nat.reduceAdd]
  refine Reg.seg0 10 (by kernel_rfl) rfl ?_
  apply Exists.intro
  refine ⟨fun e => ?_, ?_⟩
  · simp only [List.take_succ_cons, List.take_zero]
    repeat (go_big_quiet_step ((intro _; rfl)))
    refine wpQuiet_nil ?_
    exact rfl
  simp only [List.drop_succ_cons, List.drop_zero, Nat.reduceAdd]
  refine Reg.const0 (.int .i64 (u : Int)) (fun e w1 hR hf => ⟨by rfl, ?_⟩) ?_
  · unfold Reg.gives
    clear hf
    go_simp
    refine (refUsed bx st _ l _ ((HD1.out.bel (Below.refl _ _).drew).bel hR) hl (by rw [← HU.out]; have := HUB.out; omega)).mono ?_
    rintro e2 w2 ⟨rfl, rfl⟩
    exact ⟨by rw [HU.out], Reg.bel_refl _⟩
  simp only [Act.put, List.setIfInBounds_toArray, List.set_cons_zero, List.set_cons_succ, Nat.reduceAdd]
  refine Reg.seg0 4 (by kernel_rfl) rfl ?_
  apply Exists.intro
  refine ⟨fun e => ?_, ?_⟩
  · simp only [List.take_succ_cons, List.take_zero]
    repeat (go_big_quiet_step ((intro _; rfl)))
    refine wpQuiet_nil ?_
    exact rfl
  simp only [List.drop_succ_cons, List.drop_zero, Nat.reduceAdd]
  refine Reg.const0 (.pointer (some ⟨bx, 0, none⟩)) (fun e w1 hR hf => ⟨by rfl, ?_⟩) ?_
  · unfold Reg.gives
    clear hf
    go_simp
    exact Reg.bel_refl _
  simp only [Act.put, List.setIfInBounds_toArray, List.set_cons_zero, List.set_cons_succ, Nat.reduceAdd]
  refine Reg.seg0 1 (by kernel_rfl) rfl ?_
  apply Exists.intro
  refine ⟨fun e => ?_, ?_⟩
  · simp only [List.take_succ_cons, List.take_zero]
    repeat (go_big_quiet_step ((intro _; rfl)))
    refine wpQuiet_nil ?_
    exact rfl
  simp only [List.drop_succ_cons, List.drop_zero, Nat.reduceAdd]
  refine Reg.const0 (.int .i64 st.cap) (fun e w1 hR hf => ⟨by rfl, ?_⟩) ?_
  · have c1' := (Below.cell hR (p := ⟨bx, 0, none⟩) HBX1.out).trans c1
    unfold Reg.gives
    clear hf
    go_simp
    exact Reg.bel_refl _
  simp only [Act.put, List.setIfInBounds_toArray, List.set_cons_zero, List.set_cons_succ, Nat.reduceAdd]
  refine Reg.seg0 3 (by kernel_rfl) rfl ?_
  apply Exists.intro
  refine ⟨fun e => ?_, ?_⟩
  · simp only [List.take_succ_cons, List.take_zero]
    repeat (go_big_quiet_step ((intro _; rfl)))
    refine wpQuiet_nil ?_
    exact rfl
  simp only [List.drop_succ_cons, List.drop_zero, Nat.reduceAdd]
  intro eX W2 hR hJ hf8
  have hb2 := (Below.refl W1.heap.size W1).drew.trans hR
  have HB2 := Lib.hid (HB1.out.trans (hb2.mono HB1.out.size))
  have HD2 := Lib.hid (HD1.out.bel hb2)
  clear hR hJ hf8 hb2 c1
  obtain ⟨k, hk⟩ : ∃ k, k = rfAt l n := ⟨_, rfl⟩
  have HKL := Lib.hid (show k < l.length by rw [hk]; exact hlt)
  have bk0 : (0 : Int) ≤ (k : Int) := by omega
  have bkl : (k : Int) < (l.length : Int) := by have := HKL.out; omega
  have c1 := HD2.out.cells.c1
  have r1 := HD2.out.own.at_ (C := rfCells) (sz := 3) (fun _ => rfl) k HKL.out 1 (by omega)
  obtain ⟨q, hq⟩ : ∃ q, q = l[k]'HKL.out := ⟨_, rfl⟩
  rw [← hq] at r1
  simp only [rfCells, List.getElem?_cons_zero, List.getElem?_cons_succ] at r1
  have hqq : l[rfAt l n] = q := by subst hk; exact hq.symm
  have HBB := Lib.hid (show q.b.length ≤ 1000000000 by rw [← hqq]; exact hbb)
  have HQ := Lib.hid hq
  have hend : ∀ e w', (∃ a5 k5, RDoAns 0 (ROwn bx (.slice (some ⟨g, 0, none⟩) l.length cap) l) w bx (rdNext st) (l.set k { l[k]'HKL.out with ba := a5, bcap := k5, b := q.b ++ bb }) e w') → ∃ a5 k5, RDoAns 0 (ROwn bx (.slice (some ⟨g, 0, none⟩) l.length cap) l) w bx (rdNext st) (l.set (rfAt l n) { l[rfAt l n] with ba := a5, bcap := k5, b := l[rfAt l n].b ++ bb }) e w' := by
    intro e w' h
    subst hq
    subst hk
    exact h
  have HEND := Lib.hid hend
  clear hend hbb
  rw [← hk]
  clear hk hq hqq
  go_wp2_with fail
  refine (refEffOk bx st _ l W2 HD2.out HF.out HL2.out HEF.out).mono ?_
  rintro e W1e ⟨rfl, hd3, hg3⟩
  have HD1e := Lib.hid hd3
  have HG1e := Lib.hid ((RGrew.of_below (.slice (some ⟨g, 0, none⟩) l.length cap) l HB2.out).trans hg3)
  clear hd3 hg3 c1 r1
  go_wp2_with fail
  obtain ⟨W3, hW3⟩ : ∃ W, W = W1e.drew := ⟨_, rfl⟩
  have HD4 := Lib.hid (show IsRD W3 bx (rdNext st) (.slice (some ⟨g, 0, none⟩) l.length cap) l by rw [hW3]; exact HD1e.out.bel (Below.refl _ _).drew)
  have HG4 := Lib.hid (show RGrew bx w W3 (.slice (some ⟨g, 0, none⟩) l.length cap) (.slice (some ⟨g, 0, none⟩) l.length cap) l l by rw [hW3]; exact HG1e.out.trans (RGrew.of_below _ _ (Below.refl _ _).drew))
  have HX3 := Lib.hid (show bx < W3.heap.size ∧ g < W3.heap.size ∧ W3.cell? ⟨bx, 1, none⟩ = some (.slice (some ⟨g, 0, none⟩) l.length cap) ∧ W3.cell? ⟨g, k * 3 + 1, none⟩ = some (.slice q.ba q.b.length q.bcap) by
    have e1 := HD4.out.own.at_ (C := rfCells) (sz := 3) (fun _ => rfl) k HKL.out 1 (by omega)
    rw [← HQ.out] at e1
    exact ⟨rown_lt HD4.out (.inl rfl), rown_lt HD4.out (.inr (.inl rfl)), HD4.out.cells.c1, e1⟩)
  have hqf := HD4.out.file q (by rw [HQ.out]; exact List.getElem_mem _)
  have HB0 := Lib.hid hqf.bytes
  obtain ⟨tb, htb⟩ : ∃ tb, tb = q.b ++ bb := ⟨_, rfl⟩
  have HTB := Lib.hid htb
  have HBY := Lib.hid (show IsBytes W3 ba bb from HSRC.out.kept HG4.out.size fun b off e h0 => by
    obtain ⟨b', off', e2, h2, _⟩ := HSRC.out 0 h0
    rw [e] at e2
    cases e2
    exact HG4.out.block b h2 (HFAR.out b off e h0))
  clear htb hqf
  refine Reg.wp_regionP (RStep g W3.heap.size) (RStep.refl g _) (fun a b c => RStep.trans) 19 (Below W3.heap.size W3) (RPut bx (rdNext st) (.slice (some ⟨g, 0, none⟩) l.length cap) l k HKL.out tb W3) [(5, 14, fun v w => OwnB W3.heap.size w v []), (14, 16, fun v w => OwnB W3.heap.size w v q.b), (16, 19, fun v w => OwnB W3.heap.size w v tb)] (by kernel_rfl) (by kernel_rfl) (by rw [hW3]; exact Below.refl _ _) ?_
  rw [← hW3]
  clear hW3
  refine Reg.segP 1 (by kernel_rfl) rfl (by kernel_rfl) ?_
  apply Exists.intro
  refine ⟨fun e => ?_, ?_⟩
  · simp only [List.take_succ_cons, List.take_zero]
    repeat (go_big_quiet_step ((intro _; rfl)))
    refine wpQuiet_nil ?_
    exact rfl
  simp only [List.drop_succ_cons, List.drop_zero, Nat.reduceAdd]
  refine Reg.stillP (.pointer (some ⟨bx, 0, none⟩)) (RStep.refl g _) (by kernel_rfl) (fun e w1 hR => ⟨by rfl, ?_⟩) ?_
  · unfold Reg.gives
    go_simp
  simp only [Act.put, List.setIfInBounds_toArray, List.set_cons_zero, List.set_cons_succ, Nat.reduceAdd]
  refine Reg.segP 1 (by kernel_rfl) rfl (by kernel_rfl) ?_
  apply Exists.intro
  refine ⟨fun e => ?_, ?_⟩
  · simp only [List.take_succ_cons, List.take_zero]
    repeat (go_big_quiet_step ((intro _; rfl)))
    refine wpQuiet_nil ?_
    exact rfl
  simp only [List.drop_succ_cons, List.drop_zero, Nat.reduceAdd]
  refine Reg.readP (.slice (some ⟨g, 0, none⟩) l.length cap) (RStep.refl g _) (by kernel_rfl) (by kernel_rfl) (fun e w1 hR hC => ⟨by rfl, ?_⟩) ?_
  · have hx := (hC.cell (p := ⟨bx, 1, none⟩) HX3.out.1).trans HX3.out.2.2.1
    unfold Reg.gives
    go_simp
  simp only [Act.put, List.setIfInBounds_toArray, List.set_cons_zero, List.set_cons_succ, Nat.reduceAdd]
  refine Reg.segP 1 (by kernel_rfl) rfl (by kernel_rfl) ?_
  apply Exists.intro
  refine ⟨fun e => ?_, ?_⟩
  · simp only [List.take_succ_cons, List.take_zero]
    repeat (go_big_quiet_step ((intro _; rfl)))
    refine wpQuiet_nil ?_
    exact rfl
  simp only [List.drop_succ_cons, List.drop_zero, Nat.reduceAdd]
  refine Reg.makeP (by kernel_rfl) (by kernel_rfl) (fun e w1 L hN hR hC hl => ⟨by rfl, ?_⟩) ?_
  · refine Reg.gives_mono ?_ (gives_empty rfl)
    rintro v2 w2 ⟨rfl, rfl⟩
    have hz : W3.heap.size ≤ w1.heap.size := hC.size
    have ha := (Below.refl W3.heap.size w1).alloc hz (.cells #[] 5)
    exact ⟨RStep.of_below ha, hC.trans ha, fun _ => OwnB.empty _ _ hz, fun h => absurd h (by decide), fun h => absurd h (by decide), trivial⟩
  simp only [Act.put, List.setIfInBounds_toArray, List.set_cons_zero, List.set_cons_succ, Nat.reduceAdd]
  refine Reg.segP 1 (by kernel_rfl) rfl (by kernel_rfl) ?_
  apply Exists.intro
  refine ⟨fun e => ?_, ?_⟩
  · simp only [List.take_succ_cons, List.take_zero]
    repeat (go_big_quiet_step ((intro _; rfl)))
    refine wpQuiet_nil ?_
    exact rfl
  simp only [List.drop_succ_cons, List.drop_zero, Nat.reduceAdd]
  refine Reg.stillP (.pointer (some ⟨bx, 0, none⟩)) (RStep.refl g _) (by kernel_rfl) (fun e w1 hR => ⟨by rfl, ?_⟩) ?_
  · unfold Reg.gives
    go_simp
  simp only [Act.put, List.setIfInBounds_toArray, List.set_cons_zero, List.set_cons_succ, Nat.reduceAdd]
  refine Reg.segP 1 (by kernel_rfl) rfl (by kernel_rfl) ?_
  apply Exists.intro
  refine ⟨fun e => ?_, ?_⟩
  · simp only [List.take_succ_cons, List.take_zero]
    repeat (go_big_quiet_step ((intro _; rfl)))
    refine wpQuiet_nil ?_
    exact rfl
  simp only [List.drop_succ_cons, List.drop_zero, Nat.reduceAdd]
  refine Reg.readP (.slice (some ⟨g, 0, none⟩) l.length cap) (RStep.refl g _) (by kernel_rfl) (by kernel_rfl) (fun e w1 hR hC => ⟨by rfl, ?_⟩) ?_
  · have hx := (hC.cell (p := ⟨bx, 1, none⟩) HX3.out.1).trans HX3.out.2.2.1
    unfold Reg.gives
    go_simp
  simp only [Act.put, List.setIfInBounds_toArray, List.set_cons_zero, List.set_cons_succ, Nat.reduceAdd]
  refine Reg.segP 3 (by kernel_rfl) rfl (by kernel_rfl) ?_
  apply Exists.intro
  refine ⟨fun e => ?_, ?_⟩
  · simp only [List.take_succ_cons, List.take_zero]
    repeat (go_big_quiet_step ((intro _; rfl)))
    refine wpQuiet_nil ?_
    exact rfl
  simp only [List.drop_succ_cons, List.drop_zero, Nat.reduceAdd]
  refine Reg.readP (.slice q.ba q.b.length q.bcap) (RStep.refl g _) (by kernel_rfl) (by kernel_rfl) (fun e w1 hR hC => ⟨by rfl, ?_⟩) ?_
  · have hx := (hC.cell (p := ⟨g, k * 3 + 1, none⟩) HX3.out.2.1).trans HX3.out.2.2.2
    unfold Reg.gives
    go_simp
  simp only [Act.put, List.setIfInBounds_toArray, List.set_cons_zero, List.set_cons_succ, Nat.reduceAdd]
  refine Reg.makeP (by kernel_rfl) (by kernel_rfl) (fun e w1 L hN hR hC hl => ⟨by rfl, ?_⟩) ?_
  · have h5 := hl.1 (hN.2.1 5 (by kernel_rfl)) hN.1
    refine Reg.gives_mono ?_ (gives_append (.tmp 104) (.tmp 112) rfl W3.heap.size _ [] rfl h5 (.slice q.ba q.b.length q.bcap) q.b rfl (SrcB.ofBytes q.bcap (HB0.out.bel hC)) hC.size (by have := HBB.out; simp; omega))
    rintro v2 w2 ⟨ho, hg⟩
    have hb := hg.below hC.size (fun k hk => (h5.block k hk).1)
    exact ⟨RStep.of_below hb, hC.trans hb, fun h => absurd h (by decide), fun _ => by simpa using ho, fun h => absurd h (by decide), trivial⟩
  simp only [Act.put, List.setIfInBounds_toArray, List.set_cons_zero, List.set_cons_succ, Nat.reduceAdd]
  refine Reg.segP 1 (by kernel_rfl) rfl (by kernel_rfl) ?_
  apply Exists.intro
  refine ⟨fun e => ?_, ?_⟩
  · simp only [List.take_succ_cons, List.take_zero]
    repeat (go_big_quiet_step ((intro _; rfl)))
    refine wpQuiet_nil ?_
    exact rfl
  simp only [List.drop_succ_cons, List.drop_zero, Nat.reduceAdd]
  refine Reg.makeP (by kernel_rfl) (by kernel_rfl) (fun e w1 L hN hR hC hl => ⟨by rfl, ?_⟩) ?_
  · have h14 := hl.2.1 (hN.2.1 14 (by kernel_rfl)) hN.1
    refine Reg.gives_mono ?_ (gives_append (.tmp 113) (.tmp 114) rfl W3.heap.size _ q.b rfl h14 (.slice ba bn bc) bb rfl (by have h6 := SrcB.ofBytes bc (HBY.out.bel hC); rw [HBN.out] at h6; exact h6) hC.size (by have := HBB.out; have := HBN.out; have := HBM.out; omega))
    rintro v2 w2 ⟨ho, hg⟩
    have hb := hg.below hC.size (fun k hk => (h14.block k hk).1)
    exact ⟨RStep.of_below hb, hC.trans hb, fun h => absurd h (by decide), fun h => absurd h (by decide), fun _ => by rw [HTB.out]; exact ho, trivial⟩
  simp only [Act.put, List.setIfInBounds_toArray, List.set_cons_zero, List.set_cons_succ, Nat.reduceAdd]
  refine Reg.segP 2 (by kernel_rfl) rfl (by kernel_rfl) ?_
  apply Exists.intro
  refine ⟨fun e => ?_, ?_⟩
  · simp only [List.take_succ_cons, List.take_zero]
    repeat (go_big_quiet_step ((intro _; rfl)))
    refine wpQuiet_nil ?_
    exact rfl
  simp only [List.drop_succ_cons, List.drop_zero, Nat.reduceAdd]
  refine Reg.storeP (by kernel_rfl) (fun e w1 L hN hR hC hl => ⟨by rfl, ?_⟩) ?_
  · have h16 := hl.2.2.1 (hN.2.1 16 (by kernel_rfl)) hN.1
    obtain ⟨va, vc, hev, hby, hlc2, hcm2⟩ := h16.out
    have fr1 := (HD4.out.bel hC).own.fr
    have cx := (HD4.out.bel hC).own.at_ (C := rfCells) (sz := 3) (fun _ => rfl) k HKL.out 1 (by omega)
    simp only [rfCells, List.getElem?_cons_zero, List.getElem?_cons_succ] at cx
    have HFF := Lib.hid (putB HD4.out hC k HKL.out va vc tb hby hlc2 hcm2 (fun b off e1 _ => (h16.block b (by rw [hev, e1]; rfl)).1))
    have HRS := Lib.hid (show RStep g W3.heap.size w1 (w1.setCell ⟨g, k * 3 + 1, none⟩ (.slice va tb.length vc)) from ⟨rfl, rfl, rfl, by simp [World.setCell], fun j _ hj => Below.heap_setCell _ _ _ _ hj⟩)
    rw [hev]
    clear hl hN hR hC h16 hev hby hlc2 hcm2
    unfold Reg.gives
    go_simp
    exact ⟨HRS.out, ⟨va, vc, HFF.out⟩, fun h => absurd h (by decide), fun h => absurd h (by decide), fun h => absurd h (by decide), trivial⟩
  simp only [Act.put, Nat.reduceAdd]
  intro eY W5 hR5 hJ5 hf5
  obtain ⟨a5, k5, hd5, hg5⟩ := hJ5.2.1 rfl
  have HE := Lib.hid (appEnd HQ.out HTB.out hd5 (HG4.out.trans hg5))
  clear hR5 hJ5 hf5 hd5 hg5
  go_wp2_with fail
  go_ret
  exact HEND.out _ _ ⟨a5, k5, rfl, _, HE.out⟩
end Go.Proofs.Ytnpalplnpfgibaa
