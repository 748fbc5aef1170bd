/- Contracts of disk's Append, Len. -/
import Derived.Test.YtnpalplnpfgibaaDiskOps
namespace Go.Proofs.Ytnpalplnpfgibaa
open Go.RowKit
set_option maxRecDepth 100000 in
set_option maxHeartbeats 2000000 in
theorem appendDown (bm : Nat) (st : DSt) (D : DataW Unit) (L : List Ent) (n : ByteArray) (a : Option Addr) (m cap : Nat) (w : World) (h : IsDisk w bm st D L) (hd : st.down = true) : Calls Try.prog 25 #[.pointer (some ⟨bm + 1, 0, none⟩), .string n, .slice a m cap] w (DErr 15 w) := by
  have k1 := code_neq_nil
  go_enter Try.func25, Try.ntmps25
  go_wp2_with fail
  refine (findDown bm st D L n _ h hd).mono ?_
  rintro e w1 ⟨rfl, rfl⟩
  rw [errV_succ]
  go_wp2_with fail
  go_ret
  exact ⟨rfl, rfl⟩
set_option maxRecDepth 100000 in
set_option maxHeartbeats 2000000 in
theorem appendNo (bm : Nat) (st : DSt) (D : DataW Unit) (L : List Ent) (n : ByteArray) (a : Option Addr) (m cap : Nat) (w : World) (h : IsDisk w bm st D L) (hd : st.down = false) (hn : ∀ e ∈ L, e.name ≠ n) (hs : n.size ≤ maxLen) : Calls Try.prog 25 #[.pointer (some ⟨bm + 1, 0, none⟩), .string n, .slice a m cap] w (DErr 5 w) := by
  have k1 := code_neq_nil
  have H := Lib.hid hn
  clear hn
  go_enter Try.func25, Try.ntmps25
  go_wp2_with fail
  refine (findNo bm st D L n _ h hd H.out hs).mono ?_
  rintro e w1 ⟨rfl, rfl⟩
  rw [errV_succ]
  go_wp2_with fail
  go_ret
  exact ⟨rfl, rfl⟩
theorem appSet {w w1 : World} {bm : Nat} {st : DSt} {D : DataW Unit} {e : Ent} {R : List Ent} {v' : Value} {news : List UInt8} (h : IsDisk w bm st D (e :: R)) (ho : OwnB (bm + 2) w1 v' (e.f.b ++ news)) (hg : Grew w w1 e.v v') :
    IsDisk (w1.setCell ⟨e.bf, 0, none⟩ v') bm st D ({ e with f := ⟨e.f.b ++ news, e.f.s⟩, v := v' } :: R) ∧ DGrew bm w (w1.setCell ⟨e.bf, 0, none⟩ v') (e :: R) ({ e with f := ⟨e.f.b ++ news, e.f.s⟩, v := v' } :: R) := by
  have hf := h.fs.file e (by simp)
  have hlt := (Array.getElem?_eq_some_iff.1 hf.box).1
  have hbx : w1.heap[e.bf]? = some (.cells #[e.v, .int .i64 (e.f.s : Int)] 131 (0, 0)) := (hg.1.block e.bf hlt (fun e' => hf.ne e'.symm)).trans hf.box
  have s1 := heap_setCell_same w1 e.bf 0 _ _ v' hbx
  have hne : v'.ownBlock ≠ some e.bf := fun e' => by
    rcases hg.2 _ e' with h1 | h1
    · exact hf.ne h1
    · omega
  refine h.one (e' := { e with f := ⟨e.f.b ++ news, e.f.s⟩, v := v' }) ⟨s1, ho.kept fun k hk => Below.heap_setCell _ _ _ _ (fun e' => hne (by rw [hk, e'])), hf.lo, hne, by have := hf.le; simp; omega, hf.nm⟩ rfl rfl hg.2 hg.1.os hg.1.tape hg.1.output (by have := hg.1.size; simp [World.setCell]; exact this) (fun k hk h1 h2 => ?_)
  rw [Below.heap_setCell _ _ _ _ h1]
  exact hg.1.block k hk (fun e' => h2 e'.symm)
set_option maxRecDepth 100000 in
set_option maxHeartbeats 4000000 in
theorem appendFull (bm : Nat) (st : DSt) (D : DataW Unit) (e : Ent) (R : List Ent) (a : Option Addr) (cap : Nat) (news : List UInt8) (w : World) (h : IsDisk w bm st D (e :: R)) (hw : DWf st (e :: R)) (hd : st.down = false) (hn : IsBytes w a news) (hl : news.length ≤ 1000000000) (hr : st.cap - (usedL (e :: R) : Int) < news.length) : Calls Try.prog 25 #[.pointer (some ⟨bm + 1, 0, none⟩), .string e.name, .slice a news.length cap] w (DEff 12 bm st D (e :: R) (e :: R) w) := by
  have k1 := code_neq_nil
  have k2 := code_nil_neq_nil
  have H := Lib.hid h
  have HN := Lib.hid hn
  have HW := Lib.hid hw
  have hu := hw.room
  have hc1 := hw.capL
  have hc2 := hw.capH
  have hus := hw.used
  obtain ⟨u, hu0⟩ : ∃ u, u = usedL (e :: R) := ⟨_, rfl⟩
  have HU := Lib.hid hu0
  rw [← hu0] at hu hus
  have bu0 : (0 : Int) ≤ (u : Int) := by omega
  have bu1 : (u : Int) ≤ 1000000000000 := by omega
  have bs1 : -9223372036854775808 ≤ st.cap - (u : Int) := by omega
  have bs2 : st.cap - (u : Int) ≤ 9223372036854775807 := by omega
  have bl : (news.length : Int) ≤ 1000000000 := by omega
  rw [← hu0] at hr
  have dc : decide (st.cap - (u : Int) < (news.length : Int)) = true := by simp; omega
  clear hr
  clear h hn hw hu0 hu hus
  go_enter Try.func25, Try.ntmps25
  go_wp2_with fail
  refine (findYes bm st D (e :: R) e _ H.out hd (by simp)).mono ?_
  rintro e1 w1 ⟨rfl, rfl⟩
  rw [errV_zero]
  go_wp2_with fail
  have HBX := Lib.hid (H.out.bel (Below.refl w.heap.size w).drew)
  refine Reg.wp_region0 (by kernel_rfl) (by kernel_rfl) ?_
  refine Reg.seg0 3 (by kernel_rfl) rfl ?_
  apply Exists.intro
  refine ⟨fun e => ?_, ?_⟩
  · simp only [List.take_succ_cons, List.take_zero]
    repeat (go_big_quiet_step ((intro _; rfl)))
    refine wpQuiet_nil ?_
    exact rfl
  simp only [List.drop_succ_cons, List.drop_zero, Nat.reduceAdd]
  refine Reg.const0 (.pointer (some ⟨bm + 1, 0, none⟩)) (fun e w1 hR hf => ⟨by rfl, ?_⟩) ?_
  · unfold Reg.gives
    clear hf
    go_simp
    exact Reg.bel_refl _
  simp only [Act.put, List.setIfInBounds_toArray, List.set_cons_zero, List.set_cons_succ, Nat.reduceAdd]
  refine Reg.seg0 1 (by kernel_rfl) rfl ?_
  apply Exists.intro
  refine ⟨fun e => ?_, ?_⟩
  · simp only [List.take_succ_cons, List.take_zero]
    repeat (go_big_quiet_step ((intro _; rfl)))
    refine wpQuiet_nil ?_
    exact rfl
  simp only [List.drop_succ_cons, List.drop_zero, Nat.reduceAdd]
  refine Reg.const0 (.int .i64 st.cap) (fun e w1 hR hf => ⟨by rfl, ?_⟩) ?_
  · have c0 := ((HBX.out).bel hR).cells.1
    unfold Reg.gives
    clear hf
    go_simp
    exact Reg.bel_refl _
  simp only [Act.put, List.setIfInBounds_toArray, List.set_cons_zero, List.set_cons_succ, Nat.reduceAdd]
  refine Reg.seg0 1 (by kernel_rfl) rfl ?_
  apply Exists.intro
  refine ⟨fun e => ?_, ?_⟩
  · simp only [List.take_succ_cons, List.take_zero]
    repeat (go_big_quiet_step ((intro _; rfl)))
    refine wpQuiet_nil ?_
    exact rfl
  simp only [List.drop_succ_cons, List.drop_zero, Nat.reduceAdd]
  refine Reg.const0 (.int .i64 (u : Int)) (fun e w1 hR hf => ⟨by rfl, ?_⟩) ?_
  · unfold Reg.gives
    clear hf
    go_simp
    refine (diskUsed bm st D _ _ (HBX.out.bel hR) HW.out.used).mono ?_
    rintro e2 w2 ⟨rfl, _, hb⟩
    exact ⟨by rw [HU.out], hb⟩
  simp only [Act.put, List.setIfInBounds_toArray, List.set_cons_zero, List.set_cons_succ, Nat.reduceAdd]
  refine Reg.seg0 2 (by kernel_rfl) rfl ?_
  apply Exists.intro
  refine ⟨fun e => ?_, ?_⟩
  · simp only [List.take_succ_cons, List.take_zero]
    repeat (go_big_quiet_step ((intro _; rfl)))
    refine wpQuiet_nil ?_
    exact rfl
  simp only [List.drop_succ_cons, List.drop_zero, Nat.reduceAdd]
  intro eX W1 hR hJ hf
  have HB1 := Lib.hid ((Below.refl w.heap.size w).drew.trans hR)
  have HD1 := Lib.hid (H.out.bel HB1.out)
  clear hR hJ hf HBX
  go_wp2_with fail
  go_ret
  exact ⟨rfl, HD1.out, DGrew.of_below _ HB1.out⟩
set_option maxRecDepth 100000 in
set_option maxHeartbeats 4000000 in
theorem appendFalls (bm : Nat) (st : DSt) (D : DataW Unit) (e : Ent) (R : List Ent) (a : Option Addr) (cap : Nat) (news : List UInt8) (w : World) (h : IsDisk w bm st D (e :: R)) (hw : DWf st (e :: R)) (hd : st.down = false) (hn : IsBytes w a news) (hl : news.length ≤ 1000000000) (hr : ¬ st.cap - (usedL (e :: R) : Int) < news.length) (hf : st.falls = true) : Calls Try.prog 25 #[.pointer (some ⟨bm + 1, 0, none⟩), .string e.name, .slice a news.length cap] w (DEff 15 bm st.fall D (e :: R) ((e :: R).map (Ent.crash st.keep)) w) := by
  have k1 := code_neq_nil
  have k2 := code_nil_neq_nil
  have H := Lib.hid h
  have HN := Lib.hid hn
  have HW := Lib.hid hw
  have hu := hw.room
  have hc1 := hw.capL
  have hc2 := hw.capH
  have hus := hw.used
  obtain ⟨u, hu0⟩ : ∃ u, u = usedL (e :: R) := ⟨_, rfl⟩
  have HU := Lib.hid hu0
  rw [← hu0] at hu hus
  have bu0 : (0 : Int) ≤ (u : Int) := by omega
  have bu1 : (u : Int) ≤ 1000000000000 := by omega
  have bs1 : -9223372036854775808 ≤ st.cap - (u : Int) := by omega
  have bs2 : st.cap - (u : Int) ≤ 9223372036854775807 := by omega
  have bl : (news.length : Int) ≤ 1000000000 := by omega
  rw [← hu0] at hr
  have dc : decide (st.cap - (u : Int) < (news.length : Int)) = false := by simp; omega
  have HF := Lib.hid hf
  clear hr hf
  clear h hn hw hu0 hu hus
  go_enter Try.func25, Try.ntmps25
  go_wp2_with fail
  refine (findYes bm st D (e :: R) e _ H.out hd (by simp)).mono ?_
  rintro e1 w1 ⟨rfl, rfl⟩
  rw [errV_zero]
  go_wp2_with fail
  have HBX := Lib.hid (H.out.bel (Below.refl w.heap.size w).drew)
  refine Reg.wp_region0 (by kernel_rfl) (by kernel_rfl) ?_
  refine Reg.seg0 3 (by kernel_rfl) rfl ?_
  apply Exists.intro
  refine ⟨fun e => ?_, ?_⟩
  · simp only [List.take_succ_cons, List.take_zero]
    repeat (go_big_quiet_step ((intro _; rfl)))
    refine wpQuiet_nil ?_
    exact rfl
  simp only [List.drop_succ_cons, List.drop_zero, Nat.reduceAdd]
  refine Reg.const0 (.pointer (some ⟨bm + 1, 0, none⟩)) (fun e w1 hR hf => ⟨by rfl, ?_⟩) ?_
  · unfold Reg.gives
    clear hf
    go_simp
    exact Reg.bel_refl _
  simp only [Act.put, List.setIfInBounds_toArray, List.set_cons_zero, List.set_cons_succ, Nat.reduceAdd]
  refine Reg.seg0 1 (by kernel_rfl) rfl ?_
  apply Exists.intro
  refine ⟨fun e => ?_, ?_⟩
  · simp only [List.take_succ_cons, List.take_zero]
    repeat (go_big_quiet_step ((intro _; rfl)))
    refine wpQuiet_nil ?_
    exact rfl
  simp only [List.drop_succ_cons, List.drop_zero, Nat.reduceAdd]
  refine Reg.const0 (.int .i64 st.cap) (fun e w1 hR hf => ⟨by rfl, ?_⟩) ?_
  · have c0 := ((HBX.out).bel hR).cells.1
    unfold Reg.gives
    clear hf
    go_simp
    exact Reg.bel_refl _
  simp only [Act.put, List.setIfInBounds_toArray, List.set_cons_zero, List.set_cons_succ, Nat.reduceAdd]
  refine Reg.seg0 1 (by kernel_rfl) rfl ?_
  apply Exists.intro
  refine ⟨fun e => ?_, ?_⟩
  · simp only [List.take_succ_cons, List.take_zero]
    repeat (go_big_quiet_step ((intro _; rfl)))
    refine wpQuiet_nil ?_
    exact rfl
  simp only [List.drop_succ_cons, List.drop_zero, Nat.reduceAdd]
  refine Reg.const0 (.int .i64 (u : Int)) (fun e w1 hR hf => ⟨by rfl, ?_⟩) ?_
  · unfold Reg.gives
    clear hf
    go_simp
    refine (diskUsed bm st D _ _ (HBX.out.bel hR) HW.out.used).mono ?_
    rintro e2 w2 ⟨rfl, _, hb⟩
    exact ⟨by rw [HU.out], hb⟩
  simp only [Act.put, List.setIfInBounds_toArray, List.set_cons_zero, List.set_cons_succ, Nat.reduceAdd]
  refine Reg.seg0 2 (by kernel_rfl) rfl ?_
  apply Exists.intro
  refine ⟨fun e => ?_, ?_⟩
  · simp only [List.take_succ_cons, List.take_zero]
    repeat (go_big_quiet_step ((intro _; rfl)))
    refine wpQuiet_nil ?_
    exact rfl
  simp only [List.drop_succ_cons, List.drop_zero, Nat.reduceAdd]
  intro eX W1 hR hJ hf
  have HB1 := Lib.hid ((Below.refl w.heap.size w).drew.trans hR)
  have HD1 := Lib.hid (H.out.bel HB1.out)
  clear hR hJ hf HBX
  go_wp2_with fail
  have HE := Lib.hid (diskEffect bm st D (e :: R) W1 HD1.out HW.out)
  unfold DSt.effC DSt.effS DSt.effL at HE
  rw [HF.out] at HE
  refine HE.out.mono ?_
  rintro e1 w1 ⟨rfl, hd1, hg1⟩
  have HX := Lib.hid (And.intro hd1 hg1)
  clear hd1 hg1
  simp only [if_true]
  rw [errV_succ]
  go_wp2_with fail
  go_ret
  exact ⟨rfl, HX.out.1, (DGrew.of_below _ HB1.out).trans HX.out.2⟩
def AppOk (bm : Nat) (st : DSt) (D : DataW Unit) (e : Ent) (R : List Ent) (news : List UInt8) (w : World) (x : Ending) (w' : World) : Prop := x = .returned (errV 0) ∧ ∃ v', IsDisk w' bm st.next D ({ e with f := ⟨e.f.b ++ news, e.f.s⟩, v := v' } :: R) ∧ DGrew bm w w' (e :: R) ({ e with f := ⟨e.f.b ++ news, e.f.s⟩, v := v' } :: R)
set_option maxRecDepth 100000 in
set_option maxHeartbeats 4000000 in
theorem appendOk (bm : Nat) (st : DSt) (D : DataW Unit) (e : Ent) (R : List Ent) (a : Option Addr) (cap : Nat) (news : List UInt8) (w : World) (h : IsDisk w bm st D (e :: R)) (hw : DWf st (e :: R)) (hd : st.down = false) (hn : IsBytes w a news) (hl : news.length ≤ 1000000000) (hr : ¬ st.cap - (usedL (e :: R) : Int) < news.length) (hf : st.falls = false) (hap : ∀ b off, a = some ⟨b, off, none⟩ → 0 < news.length → ¬ Own bm (e :: R) b) : Calls Try.prog 25 #[.pointer (some ⟨bm + 1, 0, none⟩), .string e.name, .slice a news.length cap] w (AppOk bm st D e R news w) := by
  have k1 := code_neq_nil
  have k2 := code_nil_neq_nil
  have H := Lib.hid h
  have HN := Lib.hid hn
  have HW := Lib.hid hw
  have hu := hw.room
  have hc1 := hw.capL
  have hc2 := hw.capH
  have hus := hw.used
  obtain ⟨u, hu0⟩ : ∃ u, u = usedL (e :: R) := ⟨_, rfl⟩
  have HU := Lib.hid hu0
  rw [← hu0] at hu hus
  have bu0 : (0 : Int) ≤ (u : Int) := by omega
  have bu1 : (u : Int) ≤ 1000000000000 := by omega
  have bs1 : -9223372036854775808 ≤ st.cap - (u : Int) := by omega
  have bs2 : st.cap - (u : Int) ≤ 9223372036854775807 := by omega
  have bl : (news.length : Int) ≤ 1000000000 := by omega
  rw [← hu0] at hr
  have dc : decide (st.cap - (u : Int) < (news.length : Int)) = false := by simp; omega
  have HF := Lib.hid hf
  have HFL := Lib.hid (hw.file e (by simp))
  have HAP := Lib.hid hap
  clear hr hf hap
  clear h hn hw hu0 hu hus
  go_enter Try.func25, Try.ntmps25
  go_wp2_with fail
  refine (findYes bm st D (e :: R) e _ H.out hd (by simp)).mono ?_
  rintro e1 w1 ⟨rfl, rfl⟩
  rw [errV_zero]
  go_wp2_with fail
  have HBX := Lib.hid (H.out.bel (Below.refl w.heap.size w).drew)
  refine Reg.wp_region0 (by kernel_rfl) (by kernel_rfl) ?_
  refine Reg.seg0 3 (by kernel_rfl) rfl ?_
  apply Exists.intro
  refine ⟨fun e => ?_, ?_⟩
  · simp only [List.take_succ_cons, List.take_zero]
    repeat (go_big_quiet_step ((intro _; rfl)))
    refine wpQuiet_nil ?_
    exact rfl
  simp only [List.drop_succ_cons, List.drop_zero, Nat.reduceAdd]
  refine Reg.const0 (.pointer (some ⟨bm + 1, 0, none⟩)) (fun e w1 hR hf => ⟨by rfl, ?_⟩) ?_
  · unfold Reg.gives
    clear hf
    go_simp
    exact Reg.bel_refl _
  simp only [Act.put, List.setIfInBounds_toArray, List.set_cons_zero, List.set_cons_succ, Nat.reduceAdd]
  refine Reg.seg0 1 (by kernel_rfl) rfl ?_
  apply Exists.intro
  refine ⟨fun e => ?_, ?_⟩
  · simp only [List.take_succ_cons, List.take_zero]
    repeat (go_big_quiet_step ((intro _; rfl)))
    refine wpQuiet_nil ?_
    exact rfl
  simp only [List.drop_succ_cons, List.drop_zero, Nat.reduceAdd]
  refine Reg.const0 (.int .i64 st.cap) (fun e w1 hR hf => ⟨by rfl, ?_⟩) ?_
  · have c0 := ((HBX.out).bel hR).cells.1
    unfold Reg.gives
    clear hf
    go_simp
    exact Reg.bel_refl _
  simp only [Act.put, List.setIfInBounds_toArray, List.set_cons_zero, List.set_cons_succ, Nat.reduceAdd]
  refine Reg.seg0 1 (by kernel_rfl) rfl ?_
  apply Exists.intro
  refine ⟨fun e => ?_, ?_⟩
  · simp only [List.take_succ_cons, List.take_zero]
    repeat (go_big_quiet_step ((intro _; rfl)))
    refine wpQuiet_nil ?_
    exact rfl
  simp only [List.drop_succ_cons, List.drop_zero, Nat.reduceAdd]
  refine Reg.const0 (.int .i64 (u : Int)) (fun e w1 hR hf => ⟨by rfl, ?_⟩) ?_
  · unfold Reg.gives
    clear hf
    go_simp
    refine (diskUsed bm st D _ _ (HBX.out.bel hR) HW.out.used).mono ?_
    rintro e2 w2 ⟨rfl, _, hb⟩
    exact ⟨by rw [HU.out], hb⟩
  simp only [Act.put, List.setIfInBounds_toArray, List.set_cons_zero, List.set_cons_succ, Nat.reduceAdd]
  refine Reg.seg0 2 (by kernel_rfl) rfl ?_
  apply Exists.intro
  refine ⟨fun e => ?_, ?_⟩
  · simp only [List.take_succ_cons, List.take_zero]
    repeat (go_big_quiet_step ((intro _; rfl)))
    refine wpQuiet_nil ?_
    exact rfl
  simp only [List.drop_succ_cons, List.drop_zero, Nat.reduceAdd]
  intro eX W1 hR hJ hf
  have HB1 := Lib.hid ((Below.refl w.heap.size w).drew.trans hR)
  have HD1 := Lib.hid (H.out.bel HB1.out)
  clear hR hJ hf HBX
  go_wp2_with fail
  have HE := Lib.hid (diskEffect bm st D (e :: R) W1 HD1.out HW.out)
  unfold DSt.effC DSt.effS DSt.effL at HE
  rw [HF.out] at HE
  refine HE.out.mono ?_
  rintro e1 w1 ⟨rfl, hd1, hg1⟩
  simp only [Bool.false_eq_true, if_false] at hd1 hg1 ⊢
  have HX := Lib.hid (And.intro hd1 hg1)
  have hfe := hd1.fs.file e (by simp)
  have q0 := cell_of_row w1 e.bf 0 _ _ _ hfe.box
  have f0 := frozen_of_row w1 e.bf 0 _ _ hfe.box
  simp at q0
  have hlo := hfe.lo
  have HO := Lib.hid hfe.own
  obtain ⟨va, vc, hev, _⟩ := hfe.own.out
  have HEV := Lib.hid hev
  have HNB := Lib.hid (show IsBytes w1 a news from by
    intro i hi
    obtain ⟨b, off, g1, g2, g3⟩ := (HN.out.bel HB1.out) i hi
    exact ⟨b, off, g1, Nat.lt_of_lt_of_le g2 HX.out.2.size, by rw [← g3]; exact World.cell?_of_block (w := W1) (HX.out.2.block b g2 (HAP.out b off g1 (by omega)))⟩)
  rw [hev] at q0
  have hz1 : bm + 2 ≤ w1.heap.size := by have := (Array.getElem?_eq_some_iff.1 hfe.box).1; omega
  clear hd1 hg1 hfe hev
  rw [errV_zero]
  go_wp2_with (at_builtin; refine wpList_append_bytes rfl (.tmp 39) (.tmp 40) 45 rfl (bm + 2) _ e.f.b rfl (by rw [← HEV.out]; exact HO.out) _ news rfl (SrcB.ofBytes cap HNB.out) ?hha ?hhb ?hhc)
  case hha => exact hz1
  case hhb => have := HFL.out; omega
  intro v' W2 ho2 hg2
  rw [← HEV.out] at hg2
  have HS := Lib.hid (appSet HX.out.1 ho2 hg2)
  have hfe := HX.out.1.fs.file e (by simp)
  have hbx2 := (hg2.1.block e.bf (Array.getElem?_eq_some_iff.1 hfe.box).1 (fun e' => hfe.ne e'.symm)).trans hfe.box
  have p0 := cell_of_row W2 e.bf 0 _ _ _ hbx2
  have g0 := frozen_of_row W2 e.bf 0 _ _ hbx2
  simp at p0
  obtain ⟨wa, wc, hwv, _⟩ := ho2.out
  subst hwv
  rw [List.length_append] at HS
  clear ho2 hg2 hfe hbx2 q0 f0
  go_wp2
  go_ret
  exact ⟨rfl, _, HS.out.1, ((DGrew.of_below _ HB1.out).trans HX.out.2).trans HS.out.2⟩
/-! Len -/
def DLen (n c : Nat) (w : World) (e : Ending) (w' : World) : Prop := e = .returned (.tuple #[.int .i64 (n : Int), errV c]) ∧ w = w'
set_option maxRecDepth 100000 in
set_option maxHeartbeats 2000000 in
theorem lenYes (bm : Nat) (st : DSt) (D : DataW Unit) (L : List Ent) (e : Ent) (w : World) (h : IsDisk w bm st D L) (hd : st.down = false) (he : e ∈ L) : Calls Try.prog 31 #[.pointer (some ⟨bm + 1, 0, none⟩), .string e.name] w (DLen e.f.b.length 0 w) := by
  have k2 := code_nil_neq_nil
  have hfe := h.fs.file e he
  have q0 := cell_of_row w e.bf 0 _ _ _ hfe.box
  simp at q0
  obtain ⟨va, vc, hev, _⟩ := hfe.own.out
  rw [hev] at q0
  have H := Lib.hid h
  have HM := Lib.hid he
  clear h he hfe hev
  go_enter Try.func31, Try.ntmps31
  go_wp2_with fail
  refine (findYes bm st D L e _ H.out hd HM.out).mono ?_
  rintro e1 w1 ⟨rfl, rfl⟩
  rw [errV_zero]
  go_wp2_with fail
  go_ret2
  exact ⟨rfl, rfl⟩
set_option maxRecDepth 100000 in
set_option maxHeartbeats 2000000 in
theorem lenDown (bm : Nat) (st : DSt) (D : DataW Unit) (L : List Ent) (n : ByteArray) (w : World) (h : IsDisk w bm st D L) (hd : st.down = true) : Calls Try.prog 31 #[.pointer (some ⟨bm + 1, 0, none⟩), .string n] w (DLen 0 15 w) := by
  have k1 := code_neq_nil
  go_enter Try.func31, Try.ntmps31
  go_wp2_with fail
  refine (findDown bm st D L n _ h hd).mono ?_
  rintro e w1 ⟨rfl, rfl⟩
  rw [errV_succ]
  go_wp2_with fail
  go_ret2
  exact ⟨rfl, rfl⟩
end Go.Proofs.Ytnpalplnpfgibaa
