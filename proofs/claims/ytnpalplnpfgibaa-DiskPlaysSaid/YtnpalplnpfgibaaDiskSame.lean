/- hassocklaw04.same: two disks that are alike are told the same. -/
import Derived.Test.YtnpalplnpfgibaaDiskStrs
namespace Go.Proofs.Ytnpalplnpfgibaa
open Go.RowKit
def SameAns (w : World) (e : Ending) (w' : World) : Prop := e = .returned (.bool true) ∧ Below w.heap.size w w'
set_option maxRecDepth 100000 in
set_option maxHeartbeats 8000000 in
theorem sameDown {w : World} {bm : Nat} {st : DSt} {D : DataW Unit} {L : List Ent} {bx : Nat} {st' : DSt} {v : Value} {l : List RF} (h : Both w bm st D L bx st' v l) (hd : st.down = true) : Calls Try.prog 58 #[.pointer (some ⟨bm + 1, 0, none⟩), .pointer (some ⟨bx, 0, none⟩)] w (SameAns w) := by
  have k1 := code_neq
  have k2 := code_nil_neq_nil
  have hd' := h.like.down.trans hd
  obtain ⟨ar, capr, rfl, hrr, _⟩ := rf_row h.r
  have HRR := Lib.hid hrr
  have H := Lib.hid h
  have HD := Lib.hid hd
  have HD' := Lib.hid hd'
  have HL := Lib.hid (show l.length ≤ 1000000 by have := h.len; omega)
  have bl : (l.length : Int) ≤ 1000 := by have := h.len; omega
  have HU := Lib.hid (show usedR l ≤ 1000000000000 by have := h.used; omega)
  obtain ⟨u, hu⟩ : ∃ u, u = usedR l := ⟨_, rfl⟩
  have HUE := Lib.hid hu
  obtain ⟨f, hf0⟩ : ∃ f, f = st'.eff := ⟨_, rfl⟩
  have HFE := Lib.hid hf0
  clear h hrr hd hd' hu hf0
  go_enter Try.func58, Try.ntmps58
  go_wp2_with fail
  refine (diskList bm st D L l w H.out.d H.out.perm H.out.rise HL.out).mono ?_
  rintro e W1 ⟨⟨a, cap, rfl, hrow⟩, hb1⟩
  have HROW := Lib.hid hrow
  have HB1 := Lib.hid hb1
  have H1 := Lib.hid (H.out.bel hb1)
  clear hrow hb1
  go_wp2_with fail
  have HBX := Lib.hid (rown_lt H1.out.r (.inl rfl))
  obtain ⟨c0, c1, c2, c3, c4, c5, c6, _⟩ := H1.out.r.cells
  rw [HD'.out] at c6
  rw [← HFE.out] at c2
  clear c0 c3 c4 c5
  refine Reg.wp_region0 (by kernel_rfl) (by kernel_rfl) ?_
  refine Reg.seg0 3 (by kernel_rfl) rfl ?_
  apply Exists.intro
  refine ⟨fun e => ?_, ?_⟩
  · simp only [List.take_succ_cons, List.take_zero]
    repeat (go_big_quiet_step ((intro _; rfl)))
    refine wpQuiet_nil ?_
    exact rfl
  simp only [List.drop_succ_cons, List.drop_zero, Nat.reduceAdd]
  refine Reg.const0 (.pointer (some ⟨bx, 0, none⟩)) (fun e w1 hR hf => ⟨by rfl, ?_⟩) ?_
  · unfold Reg.gives
    clear hf
    go_simp
    exact Reg.bel_refl _
  simp only [Act.put, List.setIfInBounds_toArray, List.set_cons_zero, List.set_cons_succ, Nat.reduceAdd]
  refine Reg.seg0 1 (by kernel_rfl) rfl ?_
  apply Exists.intro
  refine ⟨fun e => ?_, ?_⟩
  · simp only [List.take_succ_cons, List.take_zero]
    repeat (go_big_quiet_step ((intro _; rfl)))
    refine wpQuiet_nil ?_
    exact rfl
  simp only [List.drop_succ_cons, List.drop_zero, Nat.reduceAdd]
  refine Reg.const0 (.slice ar l.length capr) (fun e w1 hR hf => ⟨by rfl, ?_⟩) ?_
  · have c1' := (Below.cell hR (p := ⟨bx, 1, none⟩) HBX.out).trans c1
    unfold Reg.gives
    clear hf
    go_simp
    exact Reg.bel_refl _
  simp only [Act.put, List.setIfInBounds_toArray, List.set_cons_zero, List.set_cons_succ, Nat.reduceAdd]
  refine Reg.seg0 4 (by kernel_rfl) rfl ?_
  apply Exists.intro
  refine ⟨fun e => ?_, ?_⟩
  · simp only [List.take_succ_cons, List.take_zero]
    repeat (go_big_quiet_step ((intro _; rfl)))
    refine wpQuiet_nil ?_
    exact rfl
  simp only [List.drop_succ_cons, List.drop_zero, Nat.reduceAdd]
  refine Reg.const0 (.int .i64 (u : Int)) (fun e w1 hR hf => ⟨by rfl, ?_⟩) ?_
  · unfold Reg.gives
    clear hf
    go_simp
    refine (diskUsed bm st D L _ ((H1.out.bel (Below.refl _ _).drew).bel hR).d (by rw [H.out.usedL]; exact HU.out)).mono ?_
    rintro e2 w2 ⟨rfl, _, hb2⟩
    exact ⟨by rw [H.out.usedL, HUE.out], hb2⟩
  simp only [Act.put, List.setIfInBounds_toArray, List.set_cons_zero, List.set_cons_succ, Nat.reduceAdd]
  refine Reg.seg0 1 (by kernel_rfl) rfl ?_
  apply Exists.intro
  refine ⟨fun e => ?_, ?_⟩
  · simp only [List.take_succ_cons, List.take_zero]
    repeat (go_big_quiet_step ((intro _; rfl)))
    refine wpQuiet_nil ?_
    exact rfl
  simp only [List.drop_succ_cons, List.drop_zero, Nat.reduceAdd]
  refine Reg.const0 (.int .i64 (u : Int)) (fun e w1 hR hf => ⟨by rfl, ?_⟩) ?_
  · unfold Reg.gives
    clear hf
    go_simp
    refine (refUsed bx st' _ l _ ((H1.out.bel (Below.refl _ _).drew).bel hR).r HL.out HU.out).mono ?_
    rintro e2 w2 ⟨rfl, rfl⟩
    exact ⟨by rw [HUE.out], Reg.bel_refl _⟩
  simp only [Act.put, List.setIfInBounds_toArray, List.set_cons_zero, List.set_cons_succ, Nat.reduceAdd]
  refine Reg.seg0 4 (by kernel_rfl) rfl ?_
  apply Exists.intro
  refine ⟨fun e => ?_, ?_⟩
  · simp only [List.take_succ_cons, List.take_zero]
    repeat (go_big_quiet_step ((intro _; rfl)))
    refine wpQuiet_nil ?_
    exact rfl
  simp only [List.drop_succ_cons, List.drop_zero, Nat.reduceAdd]
  refine Reg.const0 (.bool true) (fun e w1 hR hf => ⟨by rfl, ?_⟩) ?_
  · unfold Reg.gives
    clear hf
    go_simp
    refine (diskDown bm st D L _ ((H1.out.bel (Below.refl _ _).drew).bel hR).d).mono ?_
    rintro e2 w2 ⟨rfl, rfl⟩
    exact ⟨by rw [HD.out], Reg.bel_refl _⟩
  simp only [Act.put, List.setIfInBounds_toArray, List.set_cons_zero, List.set_cons_succ, Nat.reduceAdd]
  refine Reg.seg0 1 (by kernel_rfl) rfl ?_
  apply Exists.intro
  refine ⟨fun e => ?_, ?_⟩
  · simp only [List.take_succ_cons, List.take_zero]
    repeat (go_big_quiet_step ((intro _; rfl)))
    refine wpQuiet_nil ?_
    exact rfl
  simp only [List.drop_succ_cons, List.drop_zero, Nat.reduceAdd]
  refine Reg.const0 (.pointer (some ⟨bx, 0, none⟩)) (fun e w1 hR hf => ⟨by rfl, ?_⟩) ?_
  · unfold Reg.gives
    clear hf
    go_simp
    exact Reg.bel_refl _
  simp only [Act.put, List.setIfInBounds_toArray, List.set_cons_zero, List.set_cons_succ, Nat.reduceAdd]
  refine Reg.seg0 1 (by kernel_rfl) rfl ?_
  apply Exists.intro
  refine ⟨fun e => ?_, ?_⟩
  · simp only [List.take_succ_cons, List.take_zero]
    repeat (go_big_quiet_step ((intro _; rfl)))
    refine wpQuiet_nil ?_
    exact rfl
  simp only [List.drop_succ_cons, List.drop_zero, Nat.reduceAdd]
  refine Reg.const0 (.bool true) (fun e w1 hR hf => ⟨by rfl, ?_⟩) ?_
  · have c1' := (Below.cell hR (p := ⟨bx, 6, none⟩) HBX.out).trans c6
    unfold Reg.gives
    clear hf
    go_simp
    exact Reg.bel_refl _
  simp only [Act.put, List.setIfInBounds_toArray, List.set_cons_zero, List.set_cons_succ, Nat.reduceAdd]
  refine Reg.seg0 4 (by kernel_rfl) rfl ?_
  apply Exists.intro
  refine ⟨fun e => ?_, ?_⟩
  · simp only [List.take_succ_cons, List.take_zero]
    repeat (go_big_quiet_step ((intro _; rfl)))
    refine wpQuiet_nil ?_
    exact rfl
  simp only [List.drop_succ_cons, List.drop_zero, Nat.reduceAdd]
  refine Reg.const0 (.int .i64 (f : Int)) (fun e w1 hR hf => ⟨by rfl, ?_⟩) ?_
  · unfold Reg.gives
    clear hf
    go_simp
    refine (diskEffects bm st D L _ ((H1.out.bel (Below.refl _ _).drew).bel hR).d).mono ?_
    rintro e2 w2 ⟨rfl, rfl⟩
    exact ⟨by rw [HFE.out, H.out.like.eff], Reg.bel_refl _⟩
  simp only [Act.put, List.setIfInBounds_toArray, List.set_cons_zero, List.set_cons_succ, Nat.reduceAdd]
  refine Reg.seg0 1 (by kernel_rfl) rfl ?_
  apply Exists.intro
  refine ⟨fun e => ?_, ?_⟩
  · simp only [List.take_succ_cons, List.take_zero]
    repeat (go_big_quiet_step ((intro _; rfl)))
    refine wpQuiet_nil ?_
    exact rfl
  simp only [List.drop_succ_cons, List.drop_zero, Nat.reduceAdd]
  refine Reg.const0 (.pointer (some ⟨bx, 0, none⟩)) (fun e w1 hR hf => ⟨by rfl, ?_⟩) ?_
  · unfold Reg.gives
    clear hf
    go_simp
    exact Reg.bel_refl _
  simp only [Act.put, List.setIfInBounds_toArray, List.set_cons_zero, List.set_cons_succ, Nat.reduceAdd]
  refine Reg.seg0 1 (by kernel_rfl) rfl ?_
  apply Exists.intro
  refine ⟨fun e => ?_, ?_⟩
  · simp only [List.take_succ_cons, List.take_zero]
    repeat (go_big_quiet_step ((intro _; rfl)))
    refine wpQuiet_nil ?_
    exact rfl
  simp only [List.drop_succ_cons, List.drop_zero, Nat.reduceAdd]
  refine Reg.const0 (.int .i64 (f : Int)) (fun e w1 hR hf => ⟨by rfl, ?_⟩) ?_
  · have c1' := (Below.cell hR (p := ⟨bx, 2, none⟩) HBX.out).trans c2
    unfold Reg.gives
    clear hf
    go_simp
    exact Reg.bel_refl _
  simp only [Act.put, List.setIfInBounds_toArray, List.set_cons_zero, List.set_cons_succ, Nat.reduceAdd]
  refine Reg.seg0 2 (by kernel_rfl) rfl ?_
  apply Exists.intro
  refine ⟨fun e => ?_, ?_⟩
  · simp only [List.take_succ_cons, List.take_zero]
    repeat (go_big_quiet_step ((intro _; rfl)))
    refine wpQuiet_nil ?_
    exact rfl
  simp only [List.drop_succ_cons, List.drop_zero, Nat.reduceAdd]
  intro eX W2 hR hJ hf
  have hb2 := (Below.refl W1.heap.size W1).drew.trans hR
  have HB2 := Lib.hid hb2
  clear hR hJ hf hb2 c1 c2 c6
  go_wp2_with fail
  go_loopw [6] (fun i wr => ∃ j : Nat, j ≤ l.length ∧ i = .int .i64 j ∧ Hid (Below W1.heap.size W1 wr)) (fun i _ => l.length - (intOf i).toNat)
  case atStart => exact ⟨0, Nat.zero_le _, rfl, HB2⟩
  case round =>
    obtain ⟨j, hj, rfl, HW⟩ := hrel
    have b0 : (0 : Int) ≤ (j : Int) := by omega
    by_cases hlt : j < l.length
    · have bj : (j : Int) < (l.length : Int) := by omega
      have HR := Lib.hid (H1.out.bel HW.out)
      obtain ⟨b, off, hax, hbx, hcell, _⟩ := HROW.out j hlt
      obtain ⟨gr, offr, hgr, hgx, hcr, _⟩ := HRR.out j hlt
      obtain ⟨q, hq⟩ : ∃ q, q = l[j] := ⟨_, rfl⟩
      have HQM := Lib.hid (show q ∈ l by rw [hq]; exact List.getElem_mem hlt)
      rw [← hq] at hcell hcr
      have n0 := (HW.out.cell (p := ⟨b, off + j * 1 + 0, none⟩) hbx).trans (hcell 0 (by omega))
      have hr0 := ((HB1.out.trans (HW.out.mono HB1.out.size)).cell (p := ⟨gr, offr + j * 3 + 0, none⟩) hgx).trans (hcr 0 (by omega))
      have hr1 := ((HB1.out.trans (HW.out.mono HB1.out.size)).cell (p := ⟨gr, offr + j * 3 + 1, none⟩) hgx).trans (hcr 1 (by omega))
      simp only [nmCells, rfCells, List.getElem?_cons_zero, List.getElem?_cons_succ, Nat.add_zero, Nat.mul_one] at n0 hr0 hr1
      obtain ⟨c0, c1, c2, c3, c4, c5, c6, _⟩ := HR.out.r.cells
      rw [HD'.out] at c6
      clear c0 c2 c3 c4 c5
      have HBW := Lib.hid (show b < wr.heap.size from Nat.lt_of_lt_of_le hbx HW.out.size)
      have HGW := Lib.hid (show gr < wr.heap.size from Nat.lt_of_lt_of_le (Nat.lt_of_lt_of_le hgx HB1.out.size) HW.out.size)
      have HXW := Lib.hid (rown_lt HR.out.r (.inl rfl))
      rw [hgr] at c1
      rw [hax]
      clear hax hgr hcell hcr hq hbx hgx
      go_wp2_with fail
      refine Reg.wp_region0 (by kernel_rfl) (by kernel_rfl) ?_
      refine Reg.seg0 3 (by kernel_rfl) rfl ?_
      apply Exists.intro
      refine ⟨fun e => ?_, ?_⟩
      · simp only [List.take_succ_cons, List.take_zero]
        repeat (go_big_quiet_step ((intro _; rfl)))
        refine wpQuiet_nil ?_
        exact rfl
      simp only [List.drop_succ_cons, List.drop_zero, Nat.reduceAdd]
      refine Reg.const0 (.string q.name) (fun e w1 hR hf => ⟨by rfl, ?_⟩) ?_
      · have c1' := (Below.cell hR (p := ⟨b, off + j, none⟩) HBW.out).trans n0
        unfold Reg.gives
        clear hf
        go_simp
        exact Reg.bel_refl _
      simp only [Act.put, List.setIfInBounds_toArray, List.set_cons_zero, List.set_cons_succ, Nat.reduceAdd]
      refine Reg.seg0 1 (by kernel_rfl) rfl ?_
      apply Exists.intro
      refine ⟨fun e => ?_, ?_⟩
      · simp only [List.take_succ_cons, List.take_zero]
        repeat (go_big_quiet_step ((intro _; rfl)))
        refine wpQuiet_nil ?_
        exact rfl
      simp only [List.drop_succ_cons, List.drop_zero, Nat.reduceAdd]
      refine Reg.const0 (.pointer (some ⟨bx, 0, none⟩)) (fun e w1 hR hf => ⟨by rfl, ?_⟩) ?_
      · unfold Reg.gives
        clear hf
        go_simp
        exact Reg.bel_refl _
      simp only [Act.put, List.setIfInBounds_toArray, List.set_cons_zero, List.set_cons_succ, Nat.reduceAdd]
      refine Reg.seg0 1 (by kernel_rfl) rfl ?_
      apply Exists.intro
      refine ⟨fun e => ?_, ?_⟩
      · simp only [List.take_succ_cons, List.take_zero]
        repeat (go_big_quiet_step ((intro _; rfl)))
        refine wpQuiet_nil ?_
        exact rfl
      simp only [List.drop_succ_cons, List.drop_zero, Nat.reduceAdd]
      refine Reg.const0 (.slice (some ⟨gr, offr, none⟩) l.length capr) (fun e w1 hR hf => ⟨by rfl, ?_⟩) ?_
      · have c1' := (Below.cell hR (p := ⟨bx, 1, none⟩) HXW.out).trans c1
        unfold Reg.gives
        clear hf
        go_simp
        exact Reg.bel_refl _
      simp only [Act.put, List.setIfInBounds_toArray, List.set_cons_zero, List.set_cons_succ, Nat.reduceAdd]
      refine Reg.seg0 3 (by kernel_rfl) rfl ?_
      apply Exists.intro
      refine ⟨fun e => ?_, ?_⟩
      · simp only [List.take_succ_cons, List.take_zero]
        repeat (go_big_quiet_step ((intro _; rfl)))
        refine wpQuiet_nil ?_
        exact rfl
      simp only [List.drop_succ_cons, List.drop_zero, Nat.reduceAdd]
      refine Reg.const0 (.string q.name) (fun e w1 hR hf => ⟨by rfl, ?_⟩) ?_
      · have c1' := (Below.cell hR (p := ⟨gr, offr + j * 3, none⟩) HGW.out).trans hr0
        unfold Reg.gives
        clear hf
        go_simp
        exact Reg.bel_refl _
      simp only [Act.put, List.setIfInBounds_toArray, List.set_cons_zero, List.set_cons_succ, Nat.reduceAdd]
      refine Reg.seg0 1 (by kernel_rfl) rfl ?_
      apply Exists.intro
      refine ⟨fun e => ?_, ?_⟩
      · simp only [List.take_succ_cons, List.take_zero]
        repeat (go_big_quiet_step ((intro _; rfl)))
        refine wpQuiet_nil ?_
        exact rfl
      simp only [List.drop_succ_cons, List.drop_zero, Nat.reduceAdd]
      intro eX W3 hR hJ hf
      have hb3 := (Below.refl wr.heap.size wr).drew.trans hR
      have HB3 := Lib.hid hb3
      have HR3 := Lib.hid (HR.out.bel hb3)
      have n0' := (hb3.cell (p := ⟨b, off + j, none⟩) HBW.out).trans n0
      have hr1' := (hb3.cell (p := ⟨gr, offr + j * 3 + 1, none⟩) HGW.out).trans hr1
      have c1' := (hb3.cell (p := ⟨bx, 1, none⟩) HXW.out).trans c1
      have c6' := (hb3.cell (p := ⟨bx, 6, none⟩) HXW.out).trans c6
      clear hR hJ hf hb3 n0 hr0 hr1 c1 c6
      go_wp2_with fail
      refine (lenDown bm st D L q.name _ HR3.out.d HD.out).mono ?_
      rintro e W4 ⟨rfl, rfl⟩
      rw [errV_succ]
      go_wp2_with fail
      go_roundw
      case rel => exact ⟨j + 1, by omega, by go_num, HW.out.trans (HB3.out.mono HW.out.size)⟩
      case measure => simp [intOf]; omega
    · obtain rfl : j = l.length := by omega
      go_wp2_with fail
      go_ret
      exact ⟨rfl, HB1.out.trans (HW.out.mono HB1.out.size)⟩
set_option maxRecDepth 100000 in
set_option maxHeartbeats 8000000 in
theorem sameUp {w : World} {bm : Nat} {st : DSt} {D : DataW Unit} {L : List Ent} {bx : Nat} {st' : DSt} {v : Value} {l : List RF} (h : Both w bm st D L bx st' v l) (hd : st.down = false) : Calls Try.prog 58 #[.pointer (some ⟨bm + 1, 0, none⟩), .pointer (some ⟨bx, 0, none⟩)] w (SameAns w) := by
  have k1 := code_neq
  have k2 := code_nil_neq_nil
  have hd' := h.like.down.trans hd
  obtain ⟨ar, capr, rfl, hrr, _⟩ := rf_row h.r
  have HRR := Lib.hid hrr
  have H := Lib.hid h
  have HD := Lib.hid hd
  have HD' := Lib.hid hd'
  have HL := Lib.hid (show l.length ≤ 1000000 by have := h.len; omega)
  have bl : (l.length : Int) ≤ 1000 := by have := h.len; omega
  have HU := Lib.hid (show usedR l ≤ 1000000000000 by have := h.used; omega)
  obtain ⟨u, hu⟩ : ∃ u, u = usedR l := ⟨_, rfl⟩
  have HUE := Lib.hid hu
  obtain ⟨f, hf0⟩ : ∃ f, f = st'.eff := ⟨_, rfl⟩
  have HFE := Lib.hid hf0
  clear h hrr hd hd' hu hf0
  go_enter Try.func58, Try.ntmps58
  go_wp2_with fail
  refine (diskList bm st D L l w H.out.d H.out.perm H.out.rise HL.out).mono ?_
  rintro e W1 ⟨⟨a, cap, rfl, hrow⟩, hb1⟩
  have HROW := Lib.hid hrow
  have HB1 := Lib.hid hb1
  have H1 := Lib.hid (H.out.bel hb1)
  clear hrow hb1
  go_wp2_with fail
  have HBX := Lib.hid (rown_lt H1.out.r (.inl rfl))
  obtain ⟨c0, c1, c2, c3, c4, c5, c6, _⟩ := H1.out.r.cells
  rw [HD'.out] at c6
  rw [← HFE.out] at c2
  clear c0 c3 c4 c5
  refine Reg.wp_region0 (by kernel_rfl) (by kernel_rfl) ?_
  refine Reg.seg0 3 (by kernel_rfl) rfl ?_
  apply Exists.intro
  refine ⟨fun e => ?_, ?_⟩
  · simp only [List.take_succ_cons, List.take_zero]
    repeat (go_big_quiet_step ((intro _; rfl)))
    refine wpQuiet_nil ?_
    exact rfl
  simp only [List.drop_succ_cons, List.drop_zero, Nat.reduceAdd]
  refine Reg.const0 (.pointer (some ⟨bx, 0, none⟩)) (fun e w1 hR hf => ⟨by rfl, ?_⟩) ?_
  · unfold Reg.gives
    clear hf
    go_simp
    exact Reg.bel_refl _
  simp only [Act.put, List.setIfInBounds_toArray, List.set_cons_zero, List.set_cons_succ, Nat.reduceAdd]
  refine Reg.seg0 1 (by kernel_rfl) rfl ?_
  apply Exists.intro
  refine ⟨fun e => ?_, ?_⟩
  · simp only [List.take_succ_cons, List.take_zero]
    repeat (go_big_quiet_step ((intro _; rfl)))
    refine wpQuiet_nil ?_
    exact rfl
  simp only [List.drop_succ_cons, List.drop_zero, Nat.reduceAdd]
  refine Reg.const0 (.slice ar l.length capr) (fun e w1 hR hf => ⟨by rfl, ?_⟩) ?_
  · have c1' := (Below.cell hR (p := ⟨bx, 1, none⟩) HBX.out).trans c1
    unfold Reg.gives
    clear hf
    go_simp
    exact Reg.bel_refl _
  simp only [Act.put, List.setIfInBounds_toArray, List.set_cons_zero, List.set_cons_succ, Nat.reduceAdd]
  refine Reg.seg0 4 (by kernel_rfl) rfl ?_
  apply Exists.intro
  refine ⟨fun e => ?_, ?_⟩
  · simp only [List.take_succ_cons, List.take_zero]
    repeat (go_big_quiet_step ((intro _; rfl)))
    refine wpQuiet_nil ?_
    exact rfl
  simp only [List.drop_succ_cons, List.drop_zero, Nat.reduceAdd]
  refine Reg.const0 (.int .i64 (u : Int)) (fun e w1 hR hf => ⟨by rfl, ?_⟩) ?_
  · unfold Reg.gives
    clear hf
    go_simp
    refine (diskUsed bm st D L _ ((H1.out.bel (Below.refl _ _).drew).bel hR).d (by rw [H.out.usedL]; exact HU.out)).mono ?_
    rintro e2 w2 ⟨rfl, _, hb2⟩
    exact ⟨by rw [H.out.usedL, HUE.out], hb2⟩
  simp only [Act.put, List.setIfInBounds_toArray, List.set_cons_zero, List.set_cons_succ, Nat.reduceAdd]
  refine Reg.seg0 1 (by kernel_rfl) rfl ?_
  apply Exists.intro
  refine ⟨fun e => ?_, ?_⟩
  · simp only [List.take_succ_cons, List.take_zero]
    repeat (go_big_quiet_step ((intro _; rfl)))
    refine wpQuiet_nil ?_
    exact rfl
  simp only [List.drop_succ_cons, List.drop_zero, Nat.reduceAdd]
  refine Reg.const0 (.int .i64 (u : Int)) (fun e w1 hR hf => ⟨by rfl, ?_⟩) ?_
  · unfold Reg.gives
    clear hf
    go_simp
    refine (refUsed bx st' _ l _ ((H1.out.bel (Below.refl _ _).drew).bel hR).r HL.out HU.out).mono ?_
    rintro e2 w2 ⟨rfl, rfl⟩
    exact ⟨by rw [HUE.out], Reg.bel_refl _⟩
  simp only [Act.put, List.setIfInBounds_toArray, List.set_cons_zero, List.set_cons_succ, Nat.reduceAdd]
  refine Reg.seg0 4 (by kernel_rfl) rfl ?_
  apply Exists.intro
  refine ⟨fun e => ?_, ?_⟩
  · simp only [List.take_succ_cons, List.take_zero]
    repeat (go_big_quiet_step ((intro _; rfl)))
    refine wpQuiet_nil ?_
    exact rfl
  simp only [List.drop_succ_cons, List.drop_zero, Nat.reduceAdd]
  refine Reg.const0 (.bool false) (fun e w1 hR hf => ⟨by rfl, ?_⟩) ?_
  · unfold Reg.gives
    clear hf
    go_simp
    refine (diskDown bm st D L _ ((H1.out.bel (Below.refl _ _).drew).bel hR).d).mono ?_
    rintro e2 w2 ⟨rfl, rfl⟩
    exact ⟨by rw [HD.out], Reg.bel_refl _⟩
  simp only [Act.put, List.setIfInBounds_toArray, List.set_cons_zero, List.set_cons_succ, Nat.reduceAdd]
  refine Reg.seg0 1 (by kernel_rfl) rfl ?_
  apply Exists.intro
  refine ⟨fun e => ?_, ?_⟩
  · simp only [List.take_succ_cons, List.take_zero]
    repeat (go_big_quiet_step ((intro _; rfl)))
    refine wpQuiet_nil ?_
    exact rfl
  simp only [List.drop_succ_cons, List.drop_zero, Nat.reduceAdd]
  refine Reg.const0 (.pointer (some ⟨bx, 0, none⟩)) (fun e w1 hR hf => ⟨by rfl, ?_⟩) ?_
  · unfold Reg.gives
    clear hf
    go_simp
    exact Reg.bel_refl _
  simp only [Act.put, List.setIfInBounds_toArray, List.set_cons_zero, List.set_cons_succ, Nat.reduceAdd]
  refine Reg.seg0 1 (by kernel_rfl) rfl ?_
  apply Exists.intro
  refine ⟨fun e => ?_, ?_⟩
  · simp only [List.take_succ_cons, List.take_zero]
    repeat (go_big_quiet_step ((intro _; rfl)))
    refine wpQuiet_nil ?_
    exact rfl
  simp only [List.drop_succ_cons, List.drop_zero, Nat.reduceAdd]
  refine Reg.const0 (.bool false) (fun e w1 hR hf => ⟨by rfl, ?_⟩) ?_
  · have c1' := (Below.cell hR (p := ⟨bx, 6, none⟩) HBX.out).trans c6
    unfold Reg.gives
    clear hf
    go_simp
    exact Reg.bel_refl _
  simp only [Act.put, List.setIfInBounds_toArray, List.set_cons_zero, List.set_cons_succ, Nat.reduceAdd]
  refine Reg.seg0 4 (by kernel_rfl) rfl ?_
  apply Exists.intro
  refine ⟨fun e => ?_, ?_⟩
  · simp only [List.take_succ_cons, List.take_zero]
    repeat (go_big_quiet_step ((intro _; rfl)))
    refine wpQuiet_nil ?_
    exact rfl
  simp only [List.drop_succ_cons, List.drop_zero, Nat.reduceAdd]
  refine Reg.const0 (.int .i64 (f : Int)) (fun e w1 hR hf => ⟨by rfl, ?_⟩) ?_
  · unfold Reg.gives
    clear hf
    go_simp
    refine (diskEffects bm st D L _ ((H1.out.bel (Below.refl _ _).drew).bel hR).d).mono ?_
    rintro e2 w2 ⟨rfl, rfl⟩
    exact ⟨by rw [HFE.out, H.out.like.eff], Reg.bel_refl _⟩
  simp only [Act.put, List.setIfInBounds_toArray, List.set_cons_zero, List.set_cons_succ, Nat.reduceAdd]
  refine Reg.seg0 1 (by kernel_rfl) rfl ?_
  apply Exists.intro
  refine ⟨fun e => ?_, ?_⟩
  · simp only [List.take_succ_cons, List.take_zero]
    repeat (go_big_quiet_step ((intro _; rfl)))
    refine wpQuiet_nil ?_
    exact rfl
  simp only [List.drop_succ_cons, List.drop_zero, Nat.reduceAdd]
  refine Reg.const0 (.pointer (some ⟨bx, 0, none⟩)) (fun e w1 hR hf => ⟨by rfl, ?_⟩) ?_
  · unfold Reg.gives
    clear hf
    go_simp
    exact Reg.bel_refl _
  simp only [Act.put, List.setIfInBounds_toArray, List.set_cons_zero, List.set_cons_succ, Nat.reduceAdd]
  refine Reg.seg0 1 (by kernel_rfl) rfl ?_
  apply Exists.intro
  refine ⟨fun e => ?_, ?_⟩
  · simp only [List.take_succ_cons, List.take_zero]
    repeat (go_big_quiet_step ((intro _; rfl)))
    refine wpQuiet_nil ?_
    exact rfl
  simp only [List.drop_succ_cons, List.drop_zero, Nat.reduceAdd]
  refine Reg.const0 (.int .i64 (f : Int)) (fun e w1 hR hf => ⟨by rfl, ?_⟩) ?_
  · have c1' := (Below.cell hR (p := ⟨bx, 2, none⟩) HBX.out).trans c2
    unfold Reg.gives
    clear hf
    go_simp
    exact Reg.bel_refl _
  simp only [Act.put, List.setIfInBounds_toArray, List.set_cons_zero, List.set_cons_succ, Nat.reduceAdd]
  refine Reg.seg0 2 (by kernel_rfl) rfl ?_
  apply Exists.intro
  refine ⟨fun e => ?_, ?_⟩
  · simp only [List.take_succ_cons, List.take_zero]
    repeat (go_big_quiet_step ((intro _; rfl)))
    refine wpQuiet_nil ?_
    exact rfl
  simp only [List.drop_succ_cons, List.drop_zero, Nat.reduceAdd]
  intro eX W2 hR hJ hf
  have hb2 := (Below.refl W1.heap.size W1).drew.trans hR
  have HB2 := Lib.hid hb2
  clear hR hJ hf hb2 c1 c2 c6
  go_wp2_with fail
  go_loopw [6] (fun i wr => ∃ j : Nat, j ≤ l.length ∧ i = .int .i64 j ∧ Hid (Below W1.heap.size W1 wr)) (fun i _ => l.length - (intOf i).toNat)
  case atStart => exact ⟨0, Nat.zero_le _, rfl, HB2⟩
  case round =>
    obtain ⟨j, hj, rfl, HW⟩ := hrel
    have b0 : (0 : Int) ≤ (j : Int) := by omega
    by_cases hlt : j < l.length
    · have bj : (j : Int) < (l.length : Int) := by omega
      have HR := Lib.hid (H1.out.bel HW.out)
      obtain ⟨b, off, hax, hbx, hcell, _⟩ := HROW.out j hlt
      obtain ⟨gr, offr, hgr, hgx, hcr, _⟩ := HRR.out j hlt
      obtain ⟨q, hq⟩ : ∃ q, q = l[j] := ⟨_, rfl⟩
      have HQM := Lib.hid (show q ∈ l by rw [hq]; exact List.getElem_mem hlt)
      rw [← hq] at hcell hcr
      have n0 := (HW.out.cell (p := ⟨b, off + j * 1 + 0, none⟩) hbx).trans (hcell 0 (by omega))
      have hr0 := ((HB1.out.trans (HW.out.mono HB1.out.size)).cell (p := ⟨gr, offr + j * 3 + 0, none⟩) hgx).trans (hcr 0 (by omega))
      have hr1 := ((HB1.out.trans (HW.out.mono HB1.out.size)).cell (p := ⟨gr, offr + j * 3 + 1, none⟩) hgx).trans (hcr 1 (by omega))
      simp only [nmCells, rfCells, List.getElem?_cons_zero, List.getElem?_cons_succ, Nat.add_zero, Nat.mul_one] at n0 hr0 hr1
      obtain ⟨c0, c1, c2, c3, c4, c5, c6, _⟩ := HR.out.r.cells
      rw [HD'.out] at c6
      clear c0 c2 c3 c4 c5
      have HBW := Lib.hid (show b < wr.heap.size from Nat.lt_of_lt_of_le hbx HW.out.size)
      have HGW := Lib.hid (show gr < wr.heap.size from Nat.lt_of_lt_of_le (Nat.lt_of_lt_of_le hgx HB1.out.size) HW.out.size)
      have HXW := Lib.hid (rown_lt HR.out.r (.inl rfl))
      rw [hgr] at c1
      rw [hax]
      clear hax hgr hcell hcr hq hbx hgx
      go_wp2_with fail
      refine Reg.wp_region0 (by kernel_rfl) (by kernel_rfl) ?_
      refine Reg.seg0 3 (by kernel_rfl) rfl ?_
      apply Exists.intro
      refine ⟨fun e => ?_, ?_⟩
      · simp only [List.take_succ_cons, List.take_zero]
        repeat (go_big_quiet_step ((intro _; rfl)))
        refine wpQuiet_nil ?_
        exact rfl
      simp only [List.drop_succ_cons, List.drop_zero, Nat.reduceAdd]
      refine Reg.const0 (.string q.name) (fun e w1 hR hf => ⟨by rfl, ?_⟩) ?_
      · have c1' := (Below.cell hR (p := ⟨b, off + j, none⟩) HBW.out).trans n0
        unfold Reg.gives
        clear hf
        go_simp
        exact Reg.bel_refl _
      simp only [Act.put, List.setIfInBounds_toArray, List.set_cons_zero, List.set_cons_succ, Nat.reduceAdd]
      refine Reg.seg0 1 (by kernel_rfl) rfl ?_
      apply Exists.intro
      refine ⟨fun e => ?_, ?_⟩
      · simp only [List.take_succ_cons, List.take_zero]
        repeat (go_big_quiet_step ((intro _; rfl)))
        refine wpQuiet_nil ?_
        exact rfl
      simp only [List.drop_succ_cons, List.drop_zero, Nat.reduceAdd]
      refine Reg.const0 (.pointer (some ⟨bx, 0, none⟩)) (fun e w1 hR hf => ⟨by rfl, ?_⟩) ?_
      · unfold Reg.gives
        clear hf
        go_simp
        exact Reg.bel_refl _
      simp only [Act.put, List.setIfInBounds_toArray, List.set_cons_zero, List.set_cons_succ, Nat.reduceAdd]
      refine Reg.seg0 1 (by kernel_rfl) rfl ?_
      apply Exists.intro
      refine ⟨fun e => ?_, ?_⟩
      · simp only [List.take_succ_cons, List.take_zero]
        repeat (go_big_quiet_step ((intro _; rfl)))
        refine wpQuiet_nil ?_
        exact rfl
      simp only [List.drop_succ_cons, List.drop_zero, Nat.reduceAdd]
      refine Reg.const0 (.slice (some ⟨gr, offr, none⟩) l.length capr) (fun e w1 hR hf => ⟨by rfl, ?_⟩) ?_
      · have c1' := (Below.cell hR (p := ⟨bx, 1, none⟩) HXW.out).trans c1
        unfold Reg.gives
        clear hf
        go_simp
        exact Reg.bel_refl _
      simp only [Act.put, List.setIfInBounds_toArray, List.set_cons_zero, List.set_cons_succ, Nat.reduceAdd]
      refine Reg.seg0 3 (by kernel_rfl) rfl ?_
      apply Exists.intro
      refine ⟨fun e => ?_, ?_⟩
      · simp only [List.take_succ_cons, List.take_zero]
        repeat (go_big_quiet_step ((intro _; rfl)))
        refine wpQuiet_nil ?_
        exact rfl
      simp only [List.drop_succ_cons, List.drop_zero, Nat.reduceAdd]
      refine Reg.const0 (.string q.name) (fun e w1 hR hf => ⟨by rfl, ?_⟩) ?_
      · have c1' := (Below.cell hR (p := ⟨gr, offr + j * 3, none⟩) HGW.out).trans hr0
        unfold Reg.gives
        clear hf
        go_simp
        exact Reg.bel_refl _
      simp only [Act.put, List.setIfInBounds_toArray, List.set_cons_zero, List.set_cons_succ, Nat.reduceAdd]
      refine Reg.seg0 1 (by kernel_rfl) rfl ?_
      apply Exists.intro
      refine ⟨fun e => ?_, ?_⟩
      · simp only [List.take_succ_cons, List.take_zero]
        repeat (go_big_quiet_step ((intro _; rfl)))
        refine wpQuiet_nil ?_
        exact rfl
      simp only [List.drop_succ_cons, List.drop_zero, Nat.reduceAdd]
      intro eX W3 hR hJ hf
      have hb3 := (Below.refl wr.heap.size wr).drew.trans hR
      have HB3 := Lib.hid hb3
      have HR3 := Lib.hid (HR.out.bel hb3)
      have n0' := (hb3.cell (p := ⟨b, off + j, none⟩) HBW.out).trans n0
      have hr1' := (hb3.cell (p := ⟨gr, offr + j * 3 + 1, none⟩) HGW.out).trans hr1
      have c1' := (hb3.cell (p := ⟨bx, 1, none⟩) HXW.out).trans c1
      have c6' := (hb3.cell (p := ⟨bx, 6, none⟩) HXW.out).trans c6
      clear hR hJ hf hb3 n0 hr0 hr1 c1 c6
      go_wp2_with fail
      refine (sameLen HR3.out HD.out HQM.out).mono ?_
      rintro e W4 ⟨rfl, rfl⟩
      rw [errV_zero]
      have dn : (q.b.length != q.b.length) = false := by simp
      go_wp2_with fail
      refine (sameRead HR3.out HD.out HQM.out).mono ?_
      rintro e W4 ⟨vv, rfl, o4, b4⟩
      obtain ⟨va, vc, rfl, hvb, _⟩ := o4.out
      have HVB := Lib.hid hvb
      have HQB := Lib.hid ((HR3.out.bel b4).r.file q HQM.out).bytes
      have HX4 := Lib.hid (show gr < W4.heap.size ∧ bx < W4.heap.size from ⟨Nat.lt_of_lt_of_le (Nat.lt_of_lt_of_le HGW.out HB3.out.size) b4.size, Nat.lt_of_lt_of_le (Nat.lt_of_lt_of_le HXW.out HB3.out.size) b4.size⟩)
      have hr1 := (b4.cell (p := ⟨gr, offr + j * 3 + 1, none⟩) (Nat.lt_of_lt_of_le HGW.out HB3.out.size)).trans hr1'
      have c1 := (b4.cell (p := ⟨bx, 1, none⟩) (Nat.lt_of_lt_of_le HXW.out HB3.out.size)).trans c1'
      have HB4 := Lib.hid (HB3.out.trans (b4.mono HB3.out.size))
      rw [errV_zero]
      clear o4 b4 hvb n0' hr1' c1' c6'
      go_wp2_with fail
      refine Reg.wp_region0 (by kernel_rfl) (by kernel_rfl) ?_
      refine Reg.seg0 4 (by kernel_rfl) rfl ?_
      apply Exists.intro
      refine ⟨fun e => ?_, ?_⟩
      · simp only [List.take_succ_cons, List.take_zero]
        repeat (go_big_quiet_step ((intro _; rfl)))
        refine wpQuiet_nil ?_
        exact rfl
      simp only [List.drop_succ_cons, List.drop_zero, Nat.reduceAdd]
      refine Reg.const0 (.string ⟨q.b.toArray⟩) (fun e w1 hR hf => ⟨by rfl, mid_still Reg.bel_refl (gives_str _ rfl rfl rfl (HVB.out.bel ((Below.refl W4.heap.size W4).drew.trans hR)))⟩) ?_
      simp only [Act.put, List.setIfInBounds_toArray, List.set_cons_zero, List.set_cons_succ, Nat.reduceAdd]
      refine Reg.seg0 1 (by kernel_rfl) rfl ?_
      apply Exists.intro
      refine ⟨fun e => ?_, ?_⟩
      · simp only [List.take_succ_cons, List.take_zero]
        repeat (go_big_quiet_step ((intro _; rfl)))
        refine wpQuiet_nil ?_
        exact rfl
      simp only [List.drop_succ_cons, List.drop_zero, Nat.reduceAdd]
      refine Reg.const0 (.pointer (some ⟨bx, 0, none⟩)) (fun e w1 hR hf => ⟨by rfl, ?_⟩) ?_
      · unfold Reg.gives
        clear hf
        go_simp
        exact Reg.bel_refl _
      simp only [Act.put, List.setIfInBounds_toArray, List.set_cons_zero, List.set_cons_succ, Nat.reduceAdd]
      refine Reg.seg0 1 (by kernel_rfl) rfl ?_
      apply Exists.intro
      refine ⟨fun e => ?_, ?_⟩
      · simp only [List.take_succ_cons, List.take_zero]
        repeat (go_big_quiet_step ((intro _; rfl)))
        refine wpQuiet_nil ?_
        exact rfl
      simp only [List.drop_succ_cons, List.drop_zero, Nat.reduceAdd]
      refine Reg.const0 (.slice (some ⟨gr, offr, none⟩) l.length capr) (fun e w1 hR hf => ⟨by rfl, ?_⟩) ?_
      · have c1' := (Below.cell hR (p := ⟨bx, 1, none⟩) HX4.out.2).trans c1
        unfold Reg.gives
        clear hf
        go_simp
        exact Reg.bel_refl _
      simp only [Act.put, List.setIfInBounds_toArray, List.set_cons_zero, List.set_cons_succ, Nat.reduceAdd]
      refine Reg.seg0 3 (by kernel_rfl) rfl ?_
      apply Exists.intro
      refine ⟨fun e => ?_, ?_⟩
      · simp only [List.take_succ_cons, List.take_zero]
        repeat (go_big_quiet_step ((intro _; rfl)))
        refine wpQuiet_nil ?_
        exact rfl
      simp only [List.drop_succ_cons, List.drop_zero, Nat.reduceAdd]
      refine Reg.const0 (.slice q.ba q.b.length q.bcap) (fun e w1 hR hf => ⟨by rfl, ?_⟩) ?_
      · have c1' := (Below.cell hR (p := ⟨gr, offr + j * 3 + 1, none⟩) HX4.out.1).trans hr1
        unfold Reg.gives
        clear hf
        go_simp
        exact Reg.bel_refl _
      simp only [Act.put, List.setIfInBounds_toArray, List.set_cons_zero, List.set_cons_succ, Nat.reduceAdd]
      refine Reg.const0 (.string ⟨q.b.toArray⟩) (fun e w1 hR hf => ⟨by rfl, mid_still Reg.bel_refl (gives_str _ rfl rfl rfl (HQB.out.bel ((Below.refl W4.heap.size W4).drew.trans hR)))⟩) ?_
      simp only [Act.put, List.setIfInBounds_toArray, List.set_cons_zero, List.set_cons_succ, Nat.reduceAdd]
      refine Reg.seg0 2 (by kernel_rfl) rfl ?_
      apply Exists.intro
      refine ⟨fun e => ?_, ?_⟩
      · simp only [List.take_succ_cons, List.take_zero]
        repeat (go_big_quiet_step ((intro _; rfl)))
        refine wpQuiet_nil ?_
        exact rfl
      simp only [List.drop_succ_cons, List.drop_zero, Nat.reduceAdd]
      intro eY W5 hR hJ hf
      have HB5 := Lib.hid (HB4.out.trans (((Below.refl W4.heap.size W4).drew.trans hR).mono HB4.out.size))
      clear hR hJ hf hr1 c1
      go_wp2_with fail
      go_roundw
      case rel => exact ⟨j + 1, by omega, by go_num, HW.out.trans (HB5.out.mono HW.out.size)⟩
      case measure => simp [intOf]; omega
    · obtain rfl : j = l.length := by omega
      go_wp2_with fail
      go_ret
      exact ⟨rfl, HB1.out.trans (HW.out.mono HB1.out.size)⟩
theorem sameBoth {w : World} {bm : Nat} {st : DSt} {D : DataW Unit} {L : List Ent} {bx : Nat} {st' : DSt} {v : Value} {l : List RF} (h : Both w bm st D L bx st' v l) : Calls Try.prog 58 #[.pointer (some ⟨bm + 1, 0, none⟩), .pointer (some ⟨bx, 0, none⟩)] w (SameAns w) := by
  cases hd : st.down with
  | true => exact sameDown h hd
  | false => exact sameUp h hd
end Go.Proofs.Ytnpalplnpfgibaa
