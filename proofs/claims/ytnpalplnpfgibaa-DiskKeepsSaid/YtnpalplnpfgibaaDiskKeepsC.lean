/- DiskKeeps: the way through the crash, case C. -/
import Derived.Test.YtnpalplnpfgibaaDiskKeepsHd
namespace Go.Proofs.Ytnpalplnpfgibaa
open Go.RowKit
set_option maxRecDepth 100000 in
set_option maxHeartbeats 8000000 in
theorem keepsOkC (cap : Int) (a1 : Option Addr) (la : List UInt8) (c1 : Nat) (a2 : Option Addr) (lb : List UInt8) (c2 : Nat) (keep : Int) (a4 : Option Addr) (c4 : Nat) (z : List Dd) (w : World) (h1 : la.length ≤ 1000) (h2 : lb.length ≤ 1000) (h3 : z.length ≤ 100) (hz : IsRowOf ddCells (ddWf w) 6 w a4 z) (hc0 : 0 ≤ cap) (hc1 : cap ≤ 9223372036854775807) (hba : IsBytes w a1 la) (hbb : IsBytes w a2 lb) (_hcc : lb.length ≤ c2) (hn : ¬ cap < la.length) (hm : ¬ cap - la.length < lb.length) (hk1 : keep ≤ 9223372036854775807) (hka : 0 < keep ∧ (lb.length : Int) < keep) : Calls Try.prog 5 #[.int .i64 cap, .slice a1 la.length c1, .slice a2 lb.length c2, .int .i64 keep, .slice a4 z.length c4] w (DKDone w) := by
  have k1 := code_neq_nil
  have k2 := code_nil_neq_nil
  have k3 := code_neq
  have d1 : decide ((1000 : Int) < (la.length : Int)) = false := by simp; omega
  have d2 : decide ((1000 : Int) < (lb.length : Int)) = false := by simp; omega
  have d3 : decide ((100 : Int) < (z.length : Int)) = false := by simp; omega
  have d4 : decide (cap < 0) = false := by simp; omega
  have HBA := Lib.hid hba
  have HBB := Lib.hid hbb
  have HC0 := Lib.hid hc0
  have HC1 := Lib.hid hc1
  have HLA := Lib.hid h1
  have HLB := Lib.hid h2
  have HNF := Lib.hid (show nf.size ≤ maxLen by unfold maxLen; decide)
  have bla : (la.length : Int) ≤ 1000 := by omega
  have blb : (lb.length : Int) ≤ 1000 := by omega
  have HFA := Lib.hid hn
  have HFB := Lib.hid hm
  have HCA := Lib.hid (show (la.length : Int) ≤ cap by omega)
  have HKK := Lib.hid hk1
  have dk : decide (0 < keep) = true := by simp; omega
  have dl : decide ((lb.length : Int) < keep) = true := by simp; omega
  have HKA := Lib.hid hka
  have HLL := Lib.hid (show (la ++ lb).length = la.length + lb.length by simp)
  have HSUM := Lib.hid (show (la.length : Int) + (lb.length : Int) = ((la.length + lb.length : Nat) : Int) by omega)
  clear hka
  have hn4 := h3
  have HZ := Lib.hid hz
  clear hz
  have HCC := Lib.hid _hcc
  have HKN := Lib.hid (show lb.length ≤ lb.length by have := HKA.out; omega)
  clear _hcc
  clear h1 h2 h3 hc0 hc1 hba hbb hn hm hk1
  go_enter Try.func5, Try.ntmps5
  go_wp2_with fail
  refine (diskUp _).mono ?_
  rintro e W0 ⟨rfl, hb0⟩
  have B0 := Lib.hid hb0
  clear hb0
  go_wp2_with fail
  refine (diskNew cap W0).mono ?_
  rintro e W1 ⟨rfl, h1', b1⟩
  have H1 := Lib.hid (show IsDisk W1 W0.heap.size (stE cap 0) (.map []) [] from h1')
  have B1 := Lib.hid (below_next B0.out b1)
  have HW1S := Lib.hid B0.out.size
  clear h1' b1
  obtain ⟨bm, hbm⟩ : ∃ bm, bm = W0.heap.size := ⟨_, rfl⟩
  have HBM := Lib.hid hbm
  rw [← hbm] at H1 HW1S ⊢
  clear hbm
  go_wp2_with fail
  refine (diskCreate bm (stE cap 0) _ _ nf _ H1.out ((wfE cap 0 [] HC0.out HC1.out (by omega) (by decide) (by have := HC0.out; simp [usedF]; omega)).wf (List.Perm.refl _)) HNF.out).mono ?_
  rintro e W2 ⟨hr, D2, L2, h2, g2, p2⟩
  have hcc : createS (stE cap 0) (fsOf []) nf = _ := kp_c cap
  rw [hcc] at hr h2 p2
  clear hcc
  simp only at hr h2 p2
  subst hr
  have B2 := Lib.hid (B1.out.trans (g2.below H1.out.fs HW1S.out))
  have H2 := Lib.hid h2
  have P2 := Lib.hid (fs_one p2)
  clear h2 g2 p2
  rw [errV_zero]
  go_wp2_with fail
  refine (diskAppend bm (stE cap 1) _ _ nf a1 c1 la _ H2.out ((wfE cap 1 [(nf, ⟨[], 0⟩)] HC0.out HC1.out (by omega) (by rw [used1]; simp) (by rw [used1]; simp; exact HC0.out)).wf (by rw [P2.out])) HNF.out (HBA.out.below B2.out (Nat.le_refl _)) (by have := HLA.out; omega) (notOwn H2.out HBA.out HW1S.out)).mono ?_
  rintro e W3 ⟨hr, D3, L3, h3, g3, p3⟩
  rw [P2.out] at hr h3 p3
  rw [kp_a, if_neg (by have := HFA.out; omega)] at hr h3 p3
  simp only at hr h3 p3
  subst hr
  have B3 := Lib.hid (B2.out.trans (g3.below H2.out.fs HW1S.out))
  have H3 := Lib.hid h3
  have P3 := Lib.hid (fs_one p3)
  clear h3 g3 p3
  rw [errV_zero]
  go_wp2_with fail
  refine (diskSync bm (stE cap 2) _ _ nf _ H3.out ((wfE cap 2 [(nf, ⟨la, 0⟩)] HC0.out HC1.out (by omega) (by rw [used1]; have := HLA.out; omega) (by rw [used1]; have := HCA.out; omega)).wf (by rw [P3.out])) HNF.out).mono ?_
  rintro e W4 ⟨hr, D4, L4, h4, g4, p4⟩
  rw [P3.out] at hr h4 p4
  rw [kp_s] at hr h4 p4
  simp only at hr h4 p4
  subst hr
  have B4 := Lib.hid (B3.out.trans (g4.below H3.out.fs HW1S.out))
  have H4 := Lib.hid h4
  have P4 := Lib.hid (fs_one p4)
  clear h4 g4 p4
  rw [errV_zero]
  go_wp2_with fail
  refine (diskAppend bm (stE cap 3) _ _ nf a2 c2 lb _ H4.out ((wfE cap 3 [(nf, ⟨la, la.length⟩)] HC0.out HC1.out (by omega) (by rw [used1]; have := HLA.out; omega) (by rw [used1]; have := HCA.out; omega)).wf (by rw [P4.out])) HNF.out (HBB.out.below B4.out (Nat.le_refl _)) (by have := HLB.out; omega) (notOwn H4.out HBB.out HW1S.out)).mono ?_
  rintro e W5 ⟨hr, D5, L5, h5, g5, p5⟩
  rw [P4.out] at hr h5 p5
  rw [kp_b, if_neg (by have := HFB.out; omega)] at hr h5 p5
  simp only at hr h5 p5
  subst hr
  have B5 := Lib.hid (B4.out.trans (g5.below H4.out.fs HW1S.out))
  have H5 := Lib.hid h5
  have P5 := Lib.hid (fs_one p5)
  clear h5 g5 p5
  rw [errV_zero]
  go_wp2_with fail
  refine (diskPlan bm (stE cap 4) _ _ 0 keep _ H5.out).mono ?_
  rintro e W6 ⟨rfl, h6, g6⟩
  have B6 := Lib.hid (B5.out.trans (g6.below H5.out.fs HW1S.out))
  have H6 := Lib.hid (show IsDisk W6 bm ⟨cap, 4, true, 0, Int.toNat keep, false⟩ D5 L5 from h6)
  clear h6 g6
  go_wp2_with fail
  refine (diskSync bm ⟨cap, 4, true, 0, Int.toNat keep, false⟩ _ _ nf _ H6.out (DWfF.wf (fs := [(nf, ⟨la ++ lb, la.length⟩)]) (st := ⟨cap, 4, true, 0, Int.toNat keep, false⟩) (wfK cap (Int.toNat keep) true 4 _ HC0.out HC1.out (by have := HKK.out; omega) (by omega) (by rw [used1, List.length_append]; have := HLA.out; have := HLB.out; omega) (by rw [used1, List.length_append]; have := HFB.out; omega)) (by rw [P5.out])) HNF.out).mono ?_
  rintro e W7 ⟨hr, D7, L7, h7, g7, p7⟩
  rw [P5.out] at hr h7 p7
  rw [kp_f] at hr h7 p7
  rw [show min (Int.toNat keep) lb.length = lb.length by have := HKA.out; omega, List.take_length] at hr h7 p7
  simp only at hr h7 p7
  subst hr
  have B7 := Lib.hid (B6.out.trans (g7.below H6.out.fs HW1S.out))
  have H7 := Lib.hid h7
  have P7 := Lib.hid (fs_one p7)
  clear h7 g7 p7
  rw [errV_succ]
  go_wp2_with fail
  refine (diskDown bm _ _ _ _ H7.out).mono ?_
  rintro e W8 ⟨rfl, rfl⟩
  go_wp2_with fail
  refine (diskOpen bm _ _ _ _ H7.out).mono ?_
  rintro e W8 ⟨rfl, h8, g8⟩
  have B8 := Lib.hid (B7.out.trans (g8.below H7.out.fs HW1S.out))
  have H8 := Lib.hid (show IsDisk W8 bm ⟨cap, 4, false, 0, Int.toNat keep, false⟩ D7 L7 from h8)
  clear h8 g8 H1 B1 H2 B2 H3 B3 H4 B4 H5 B5 H6 B6 H7 B7 P2 P3 P4 P5
  have HWF := Lib.hid (show DWf ⟨cap, 4, false, 0, Int.toNat keep, false⟩ L7 from DWfF.wf (fs := [(nf, ⟨la ++ lb, la.length + lb.length⟩)]) (st := ⟨cap, 4, false, 0, Int.toNat keep, false⟩) (wfK cap (Int.toNat keep) false 4 _ HC0.out HC1.out (by have := HKK.out; omega) (by omega) (by rw [used1, HLL.out]; have := HLA.out; have := HLB.out; omega) (by rw [used1, HLL.out]; have := HFB.out; have := HCA.out; omega)) (by rw [P7.out]))
  have hn0 : (0 : Int) ≤ (lb.length : Int) := by omega
  have hn1 : (lb.length : Int) ≤ (lb.length : Int) := by omega
  go_wp2_with fail
  rw [HSUM.out]
  refine (readF bm _ _ _ nf _ 0 (la.length + lb.length) _ H8.out HWF.out rfl P7.out (by rw [HLL.out]; omega)).mono ?_
  rintro e W9 ⟨v, rfl, o9, b9⟩
  have hread : ((la ++ lb).drop 0).take (la.length + lb.length) = la ++ lb := by rw [List.drop_zero, List.take_of_length_le (by rw [HLL.out]; omega)]
  simp only [hread] at o9
  clear hread
  obtain ⟨va, vc, rfl, hvb, _⟩ := o9.out
  rw [HLL.out]
  have HV9 := Lib.hid hvb
  have H9 := Lib.hid (H8.out.bel b9)
  have B9 := Lib.hid (B8.out.trans (b9.mono B8.out.size))
  clear o9 b9 hvb
  rw [errV_zero]
  go_wp2_with fail
  refine (lenF bm _ _ _ nf _ _ H9.out rfl P7.out).mono ?_
  rintro e W10 ⟨rfl, rfl⟩
  rw [errV_zero]
  simp only [HLL.out]
  go_wp2_with fail
  have HBW := Lib.hid ((Below.refl W9.heap.size W9))
  refine Reg.wp_region0 (by kernel_rfl) (by kernel_rfl) ?_
  refine Reg.seg0 25 (by kernel_rfl) rfl ?_
  apply Exists.intro
  refine ⟨fun e => ?_, ?_⟩
  · simp only [List.take_succ_cons, List.take_zero]
    repeat (go_big_quiet_step ((intro _; rfl)))
    refine wpQuiet_nil ?_
    exact rfl
  simp only [List.drop_succ_cons, List.drop_zero, Nat.reduceAdd]
  refine Reg.const0 (.string ⟨(la ++ lb).toArray⟩) (fun e w1 hR hf => ⟨by rfl, mid_still Reg.bel_refl (gives_str _ rfl HLL.out.symm rfl (HV9.out.bel ((Below.refl W9.heap.size W9).drew.trans hR)))⟩) ?_
  simp only [Act.put, List.setIfInBounds_toArray, List.set_cons_zero, List.set_cons_succ, Nat.reduceAdd]
  refine Reg.seg0 1 (by kernel_rfl) rfl ?_
  apply Exists.intro
  refine ⟨fun e => ?_, ?_⟩
  · simp only [List.take_succ_cons, List.take_zero]
    repeat (go_big_quiet_step ((intro _; rfl)))
    refine wpQuiet_nil ?_
    exact rfl
  simp only [List.drop_succ_cons, List.drop_zero, Nat.reduceAdd]
  refine Reg.const0 (.string ⟨la.toArray⟩) (fun e w1 hR hf => ⟨by rfl, mid_still Reg.bel_refl (gives_str _ rfl rfl rfl ((HBA.out.below B9.out (Nat.le_refl _)).bel ((Below.refl W9.heap.size W9).drew.trans hR)))⟩) ?_
  simp only [Act.put, List.setIfInBounds_toArray, List.set_cons_zero, List.set_cons_succ, Nat.reduceAdd]
  refine Reg.seg0 2 (by kernel_rfl) rfl ?_
  apply Exists.intro
  refine ⟨fun e => ?_, ?_⟩
  · simp only [List.take_succ_cons, List.take_zero]
    repeat (go_big_quiet_step ((intro _; rfl)))
    refine wpQuiet_nil ?_
    exact rfl
  simp only [List.drop_succ_cons, List.drop_zero, Nat.reduceAdd]
  refine Reg.const0 (.slice a2 (lb.length) c2) (fun e w1 hR hf => ⟨by rfl, ?_⟩) ?_
  · unfold Reg.gives
    clear hf
    go_simp
    rw [if_pos (by have := HKN.out; have := HCC.out; omega)]
    exact ⟨Reg.bel_refl _, rfl⟩
  simp only [Act.put, List.setIfInBounds_toArray, List.set_cons_zero, List.set_cons_succ, Nat.reduceAdd]
  refine Reg.const0 (.string ⟨(lb.take lb.length).toArray⟩) (fun e w1 hR hf => ⟨by rfl, mid_still Reg.bel_refl (gives_str _ rfl (by rw [List.length_take]; have := HKN.out; omega) rfl (((HBB.out.below B9.out (Nat.le_refl _)).bel ((Below.refl W9.heap.size W9).drew.trans hR)).take lb.length))⟩) ?_
  simp only [Act.put, List.setIfInBounds_toArray, List.set_cons_zero, List.set_cons_succ, Nat.reduceAdd]
  refine Reg.const0 (.string ⟨(la ++ lb).toArray⟩) (fun e w1 hR hf => ⟨by rfl, ?_⟩) ?_
  · unfold Reg.gives
    clear hf
    go_simp
    rw [if_neg (by have := HLA.out; have := HLB.out; have := HKN.out; omega)]
    exact ⟨Reg.bel_refl _, congrArg Value.string ((cat_str _ _).trans (by simp))⟩
  simp only [Act.put, List.setIfInBounds_toArray, List.set_cons_zero, List.set_cons_succ, Nat.reduceAdd]
  refine Reg.seg0 2 (by kernel_rfl) rfl ?_
  apply Exists.intro
  refine ⟨fun e => ?_, ?_⟩
  · simp only [List.take_succ_cons, List.take_zero]
    repeat (go_big_quiet_step ((intro _; rfl)))
    refine wpQuiet_nil ?_
    exact rfl
  simp only [List.drop_succ_cons, List.drop_zero, Nat.reduceAdd]
  intro eX W11 hR hJ hf
  have HB11 := Lib.hid ((Below.refl W9.heap.size W9).drew.trans hR)
  have H11 := Lib.hid (H9.out.bel HB11.out)
  have B11 := Lib.hid (B9.out.trans (HB11.out.mono B9.out.size))
  clear hR hJ hf H9 B9 H8 B8 HV9
  obtain ⟨KP, hKP⟩ : ∃ kk : Nat, kk = Int.toNat keep := ⟨_, rfl⟩
  have HKP := Lib.hid (show KP ≤ 9223372036854775807 by have := HKK.out; omega)
  rw [← hKP] at H11 HWF
  clear hKP
  have HKS := Lib.hid (show KS w bm cap KP 4 (la.length + lb.length) W11 from ⟨B11.out, HW1S.out, HKP.out, HC0.out, HC1.out, ⟨D7, L7, H11.out, by rw [P7.out, used1, HLL.out]⟩, by omega, by have := HLA.out; have := HLB.out; omega, by have := HCA.out; have := HFB.out; omega⟩)
  have HU0 := Lib.hid (show la.length + lb.length ≤ 2000 by have := HLA.out; have := HLB.out; omega)
  clear H11 B11 HWF P7 HNF HB11
  go_wp2_with fail
  generalize (la.length : Int) + (lb.length : Int) = sI
  generalize la.length + lb.length = sN
  generalize (List.take (lb.length) lb).toArray = sT
  go_loopw [21] (fun i wr => ∃ (j eff u : Nat), j ≤ z.length ∧ i = .int .i64 j ∧ Hid (eff ≤ 4 + 2 * j) ∧ Hid (u ≤ 2000 + 2000 * j) ∧ Hid (KS w bm cap KP eff u wr)) (fun i _ => z.length - (intOf i).toNat)
  case atStart => exact ⟨0, 4, la.length + lb.length, Nat.zero_le _, rfl, Nat.le_refl 4, HU0, HKS⟩
  case round =>
    obtain ⟨j, eff, u, hj, rfl, HEF, HU, HP⟩ := hrel
    clear HKS HU0
    have b0 : (0 : Int) ≤ (j : Int) := by omega
    by_cases hlt : j < z.length
    · have bj : (j : Int) < (z.length : Int) := by omega
      have HE9 := Lib.hid (show eff ≤ 900 by have := HEF.out; omega)
      have HU9 := Lib.hid (show u ≤ 900000 by have := HU.out; omega)
      obtain ⟨b, off, hax, hbx, hcell, hyw⟩ := HZ.out j hlt
      obtain ⟨q, hq⟩ : ∃ q, q = z[j] := ⟨_, rfl⟩
      rw [← hq] at hcell hyw
      have HCELL := Lib.hid hcell
      have HBX := Lib.hid hbx
      have hc1 := (HP.out.bel.cell (p := ⟨b, off + j * 6 + 1, none⟩) hbx).trans (hcell 1 (by omega))
      have hc3 := (HP.out.bel.cell (p := ⟨b, off + j * 6 + 3, none⟩) hbx).trans (hcell 3 (by omega))
      simp only [ddCells, List.getElem?_cons_zero, List.getElem?_cons_succ] at hc1 hc3
      have HQ := Lib.hid hyw
      have bnam : q.name.size ≤ 9223372036854775807 := hyw.name
      clear hcell hbx hyw hq
      rw [hax]
      by_cases hq1 : 1000 < q.b.length
      · have e1 : decide ((1000 : Int) < (q.b.length : Int)) = true := by simp; omega
        go_wp2_with fail
        go_ret
        exact ⟨rfl, HP.out.bel⟩
      · have e1 : decide ((1000 : Int) < (q.b.length : Int)) = false := by simp; omega
        by_cases hq2 : 100 < q.name.size
        · have e2 : decide ((100 : Int) < (q.name.size : Int)) = true := by simp; omega
          go_wp2_with fail
          go_ret
          exact ⟨rfl, HP.out.bel⟩
        · have e2 : decide ((100 : Int) < (q.name.size : Int)) = false := by simp; omega
          have HQB := Lib.hid (show q.b.length ≤ 1000 by omega)
          go_wp2_with fail
          refine (ksCreate HP.out HE9.out HU9.out q.name HQ.out.name).mono ?_
          rintro e W12 ⟨c, rfl, _, eff2, u2, he2, hu2, hp2⟩
          have HE2 := Lib.hid he2
          have HU2 := Lib.hid hu2
          have HP2 := Lib.hid hp2
          clear he2 hu2 hp2 hc1 hc3
          go_wp2_with fail
          refine Reg.wp_regionO w.heap.size 11 (KS w bm cap KP eff2 u2) (fun W => ∃ eff' u', eff' ≤ eff2 + 1 ∧ u' ≤ u2 + 1000 ∧ KS w bm cap KP eff' u' W) (by kernel_rfl) (by kernel_rfl) HP2.out.drew ?_
          refine Reg.segO 5 (by kernel_rfl) rfl (by kernel_rfl) ?_
          apply Exists.intro
          refine ⟨fun e => ?_, ?_⟩
          · simp only [List.take_succ_cons, List.take_zero]
            repeat (go_big_quiet_step ((intro _; rfl)))
            refine wpQuiet_nil ?_
            exact rfl
          simp only [List.drop_succ_cons, List.drop_zero, Nat.reduceAdd]
          refine Reg.stillO (.string q.name) (fun _ => Below.refl _ _) (by decide) (fun e w1 hR => ⟨by rfl, ?_⟩) ?_
          · have hd1 := ((HP2.out.bel.drew.trans hR).cell (p := ⟨b, off + j * 6 + 1, none⟩) HBX.out).trans (HCELL.out 1 (by omega))
            simp only [ddCells, List.getElem?_cons_zero, List.getElem?_cons_succ] at hd1
            unfold Reg.gives
            go_simp
          simp only [Act.put, List.setIfInBounds_toArray, List.set_cons_zero, List.set_cons_succ, Nat.reduceAdd]
          refine Reg.segO 4 (by kernel_rfl) rfl (by kernel_rfl) ?_
          apply Exists.intro
          refine ⟨fun e => ?_, ?_⟩
          · simp only [List.take_succ_cons, List.take_zero]
            repeat (go_big_quiet_step ((intro _; rfl)))
            refine wpQuiet_nil ?_
            exact rfl
          simp only [List.drop_succ_cons, List.drop_zero, Nat.reduceAdd]
          refine Reg.stillO (.slice q.ba q.b.length q.bcap) (fun _ => Below.refl _ _) (by decide) (fun e w1 hR => ⟨by rfl, ?_⟩) ?_
          · have hd1 := ((HP2.out.bel.drew.trans hR).cell (p := ⟨b, off + j * 6 + 3, none⟩) HBX.out).trans (HCELL.out 3 (by omega))
            simp only [ddCells, List.getElem?_cons_zero, List.getElem?_cons_succ] at hd1
            unfold Reg.gives
            go_simp
          simp only [Act.put, List.setIfInBounds_toArray, List.set_cons_zero, List.set_cons_succ, Nat.reduceAdd]
          refine Reg.callO (fun e w1 hR hp => ⟨by rfl, ?_⟩) ?_
          · unfold Reg.gives
            go_simp
            refine (ksAppend hp (by have := HE2.out; have := HEF.out; omega) (by have := HU2.out; have := HU.out; omega) q.name HQ.out.name q.ba q.bcap q.b HQB.out HQ.out.by_).mono ?_
            rintro e2 w2 ⟨c2, rfl, hb2, eff3, u3, he3, hu3, hp3⟩
            exact ⟨⟨_, rfl⟩, hb2, eff3, he3, u3, hu3, hp3⟩
          simp only [Act.put, Nat.reduceAdd]
          intro eX W13 hR hJ hf
          have HJ := Lib.hid (hJ.2 rfl)
          clear hR hJ hf
          obtain ⟨eff3, u3, he3, hu3, hp3⟩ := HJ.out
          have HE3 := Lib.hid he3
          have HU3 := Lib.hid hu3
          have HP3 := Lib.hid hp3
          have HRM := Lib.hid hp3.room
          have e3 : decide (cap < (u3 : Int)) = false := by have := HRM.out; simp; omega
          clear HJ he3 hu3 hp3
          go_wp2_with fail
          refine (ksUsed HP3.out).mono ?_
          rintro e W14 ⟨rfl, hp4⟩
          have HP4 := Lib.hid hp4
          clear hp4
          go_wp2_with fail
          go_roundw
          case rel => exact ⟨j + 1, eff3, u3, by omega, by go_num, Lib.hid (by have := HEF.out; have := HE2.out; have := HE3.out; omega), Lib.hid (by have := HU.out; have := HU2.out; have := HU3.out; omega), HP4⟩
          case measure => simp [intOf]; omega
    · obtain rfl : j = z.length := by omega
      go_wp2
      go_ret
      exact ⟨rfl, HP.out.bel⟩
end Go.Proofs.Ytnpalplnpfgibaa
