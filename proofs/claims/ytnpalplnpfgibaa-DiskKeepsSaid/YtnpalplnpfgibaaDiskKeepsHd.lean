/- DiskKeeps: the ways that end before the crash. -/
import Derived.Test.YtnpalplnpfgibaaDiskKs
namespace Go.Proofs.Ytnpalplnpfgibaa
open Go.RowKit
def DKDone (w : World) (e : Ending) (w' : World) : Prop := e = .returned (.bool true) ∧ Below w.heap.size w w'
set_option maxRecDepth 100000 in
set_option maxHeartbeats 1000000 in
theorem keepsHead1 (cap : Int) (a1 : Option Addr) (la : List UInt8) (c1 : Nat) (a2 : Option Addr) (lb : List UInt8) (c2 : Nat) (keep : Int) (a4 : Option Addr) (n4 c4 : Nat) (w : World) (h : 1000 < la.length) : Calls Try.prog 5 #[.int .i64 cap, .slice a1 la.length c1, .slice a2 lb.length c2, .int .i64 keep, .slice a4 n4 c4] w (DKDone w) := by
  have d1 : decide ((1000 : Int) < (la.length : Int)) = true := by simp; omega
  clear h
  go_enter Try.func5, Try.ntmps5
  go_wp2_with fail
  refine (diskUp _).mono ?_
  rintro e W1 ⟨rfl, hb⟩
  have HX := Lib.hid hb
  clear hb
  go_wp2_with fail
  go_ret
  exact ⟨rfl, HX.out⟩
set_option maxRecDepth 100000 in
set_option maxHeartbeats 1000000 in
theorem keepsHead2 (cap : Int) (a1 : Option Addr) (la : List UInt8) (c1 : Nat) (a2 : Option Addr) (lb : List UInt8) (c2 : Nat) (keep : Int) (a4 : Option Addr) (n4 c4 : Nat) (w : World) (h1 : ¬ 1000 < la.length) (h : 1000 < lb.length) : Calls Try.prog 5 #[.int .i64 cap, .slice a1 la.length c1, .slice a2 lb.length c2, .int .i64 keep, .slice a4 n4 c4] w (DKDone w) := by
  have d1 : decide ((1000 : Int) < (la.length : Int)) = false := by simp; omega
  have d2 : decide ((1000 : Int) < (lb.length : Int)) = true := by simp; omega
  clear h h1
  go_enter Try.func5, Try.ntmps5
  go_wp2_with fail
  refine (diskUp _).mono ?_
  rintro e W1 ⟨rfl, hb⟩
  have HX := Lib.hid hb
  clear hb
  go_wp2_with fail
  go_ret
  exact ⟨rfl, HX.out⟩
set_option maxRecDepth 100000 in
set_option maxHeartbeats 1000000 in
theorem keepsHead3 (cap : Int) (a1 : Option Addr) (la : List UInt8) (c1 : Nat) (a2 : Option Addr) (lb : List UInt8) (c2 : Nat) (keep : Int) (a4 : Option Addr) (n4 c4 : Nat) (w : World) (h1 : ¬ 1000 < la.length) (h2 : ¬ 1000 < lb.length) (h : 100 < n4) : Calls Try.prog 5 #[.int .i64 cap, .slice a1 la.length c1, .slice a2 lb.length c2, .int .i64 keep, .slice a4 n4 c4] w (DKDone w) := by
  have d1 : decide ((1000 : Int) < (la.length : Int)) = false := by simp; omega
  have d2 : decide ((1000 : Int) < (lb.length : Int)) = false := by simp; omega
  have d3 : decide ((100 : Int) < (n4 : Int)) = true := by simp; omega
  clear h h1 h2
  go_enter Try.func5, Try.ntmps5
  go_wp2_with fail
  refine (diskUp _).mono ?_
  rintro e W1 ⟨rfl, hb⟩
  have HX := Lib.hid hb
  clear hb
  go_wp2_with fail
  go_ret
  exact ⟨rfl, HX.out⟩
set_option maxRecDepth 100000 in
set_option maxHeartbeats 1000000 in
theorem keepsHead4 (cap : Int) (a1 : Option Addr) (la : List UInt8) (c1 : Nat) (a2 : Option Addr) (lb : List UInt8) (c2 : Nat) (keep : Int) (a4 : Option Addr) (n4 c4 : Nat) (w : World) (h1 : ¬ 1000 < la.length) (h2 : ¬ 1000 < lb.length) (h3 : ¬ 100 < n4) (h : cap < 0) : Calls Try.prog 5 #[.int .i64 cap, .slice a1 la.length c1, .slice a2 lb.length c2, .int .i64 keep, .slice a4 n4 c4] w (DKDone w) := by
  have d1 : decide ((1000 : Int) < (la.length : Int)) = false := by simp; omega
  have d2 : decide ((1000 : Int) < (lb.length : Int)) = false := by simp; omega
  have d3 : decide ((100 : Int) < (n4 : Int)) = false := by simp; omega
  have d4 : decide (cap < 0) = true := by simp; omega
  clear h h1 h2 h3
  go_enter Try.func5, Try.ntmps5
  go_wp2_with fail
  refine (diskUp _).mono ?_
  rintro e W1 ⟨rfl, hb⟩
  have HX := Lib.hid hb
  clear hb
  go_wp2_with fail
  go_ret
  exact ⟨rfl, HX.out⟩
def nf : ByteArray := ⟨#[102]⟩
def stE (cap : Int) (eff : Nat) : DSt := ⟨cap, eff, false, 0, 0, false⟩
theorem kp_c (cap : Int) : createS (stE cap 0) [] nf = (0, stE cap 1, [(nf, ⟨[], 0⟩)]) := by rfl
theorem kp_a (cap : Int) (la : List UInt8) : appendS (stE cap 1) [(nf, ⟨[], 0⟩)] nf la = if cap - 0 < la.length then (12, stE cap 1, [(nf, ⟨[], 0⟩)]) else (0, stE cap 2, [(nf, ⟨la, 0⟩)]) := by rfl
theorem kp_s (cap : Int) (la : List UInt8) : syncS (stE cap 2) [(nf, ⟨la, 0⟩)] nf = (0, stE cap 3, [(nf, ⟨la, la.length⟩)]) := by rfl
theorem kp_b (cap : Int) (la lb : List UInt8) : appendS (stE cap 3) [(nf, ⟨la, la.length⟩)] nf lb = if cap - (la.length : Int) < lb.length then (12, stE cap 3, [(nf, ⟨la, la.length⟩)]) else (0, stE cap 4, [(nf, ⟨la ++ lb, la.length⟩)]) := by
  unfold appendS stE usedF
  simp only [Bool.false_eq_true, if_false, List.map_cons, List.map_nil, List.sum_cons, List.sum_nil, Nat.add_zero]
  rfl
theorem kp_f (cap : Int) (k : Nat) (la lb : List UInt8) : syncS ⟨cap, 4, true, 0, k, false⟩ [(nf, ⟨la ++ lb, la.length⟩)] nf = (15, ⟨cap, 4, false, 0, k, true⟩, [(nf, ⟨la ++ lb.take (min k lb.length), la.length + min k lb.length⟩)]) := by
  have h1 : (⟨la ++ lb, la.length⟩ : File).kept k = la.length + min k lb.length := by unfold File.kept; simp
  have h2 : (⟨la ++ lb, la.length⟩ : File).crash k = ⟨la ++ lb.take (min k lb.length), la.length + min k lb.length⟩ := by
    unfold File.crash
    rw [h1]
    congr 1
    simp only [List.take_append, List.take_of_length_le (Nat.le_add_right _ _), Nat.add_sub_cancel_left]
  show ((15, _, crashF k _) : Nat × DSt × Files) = _
  unfold crashF
  rw [List.map_cons, List.map_nil, h2]
  rfl
theorem wfE (cap : Int) (eff : Nat) (fs : Files) (h0 : 0 ≤ cap) (h1 : cap ≤ 9223372036854775807) (he : eff ≤ 1000) (hu : usedF fs ≤ 1000000) (hc : (usedF fs : Int) ≤ cap) : DWfF (stE cap eff) fs :=
  ⟨by simp [stE], by simp [stE], by simp only [stE]; omega, by omega, by simp only [stE]; omega, by simp only [stE]; exact h1, by simp only [stE]; omega⟩
theorem wfK (cap : Int) (k : Nat) (p : Bool) (eff : Nat) (fs : Files) (h0 : 0 ≤ cap) (h1 : cap ≤ 9223372036854775807) (hk : k ≤ 9223372036854775807) (he : eff ≤ 1000) (hu : usedF fs ≤ 1000000) (hc : (usedF fs : Int) ≤ cap) : DWfF ⟨cap, eff, p, 0, k, false⟩ fs :=
  ⟨by simp only; omega, hk, by simp only; omega, by omega, by simp only; omega, by simp only; exact h1, by simp only; omega⟩
theorem used1 (n : ByteArray) (l : List UInt8) (s : Nat) : usedF [(n, ⟨l, s⟩)] = l.length := by simp [usedF]
set_option maxRecDepth 100000 in
set_option maxHeartbeats 8000000 in
theorem keepsFull1 (cap : Int) (a1 : Option Addr) (la : List UInt8) (c1 : Nat) (a2 : Option Addr) (lb : List UInt8) (c2 : Nat) (keep : Int) (a4 : Option Addr) (n4 c4 : Nat) (w : World) (h1 : la.length ≤ 1000) (h2 : lb.length ≤ 1000) (h3 : n4 ≤ 100) (hc0 : 0 ≤ cap) (hc1 : cap ≤ 9223372036854775807) (hba : IsBytes w a1 la) (hbb : IsBytes w a2 lb) (_hcc : lb.length ≤ c2) (hf : cap < la.length) : Calls Try.prog 5 #[.int .i64 cap, .slice a1 la.length c1, .slice a2 lb.length c2, .int .i64 keep, .slice a4 n4 c4] w (DKDone w) := by
  have k1 := code_neq_nil
  have k2 := code_nil_neq_nil
  have k3 := code_neq
  have d1 : decide ((1000 : Int) < (la.length : Int)) = false := by simp; omega
  have d2 : decide ((1000 : Int) < (lb.length : Int)) = false := by simp; omega
  have d3 : decide ((100 : Int) < (n4 : Int)) = false := by simp; omega
  have d4 : decide (cap < 0) = false := by simp; omega
  have HBA := Lib.hid hba
  have HBB := Lib.hid hbb
  have HC0 := Lib.hid hc0
  have HC1 := Lib.hid hc1
  have HLA := Lib.hid h1
  have HLB := Lib.hid h2
  have HNF := Lib.hid (show nf.size ≤ maxLen by unfold maxLen; decide)
  have bla : (la.length : Int) ≤ 1000 := by omega
  have blb : (lb.length : Int) ≤ 1000 := by omega
  have HFU := Lib.hid hf
  have dfu : decide (cap < (la.length : Int) + (lb.length : Int)) = true := by simp; omega
  clear h1 h2 h3 hc0 hc1 hba hbb hf
  go_enter Try.func5, Try.ntmps5
  go_wp2_with fail
  refine (diskUp _).mono ?_
  rintro e W0 ⟨rfl, hb0⟩
  have B0 := Lib.hid hb0
  clear hb0
  go_wp2_with fail
  refine (diskNew cap W0).mono ?_
  rintro e W1 ⟨rfl, h1', b1⟩
  have H1 := Lib.hid (show IsDisk W1 W0.heap.size (stE cap 0) (.map []) [] from h1')
  have B1 := Lib.hid (below_next B0.out b1)
  have HW1S := Lib.hid B0.out.size
  clear h1' b1
  obtain ⟨bm, hbm⟩ : ∃ bm, bm = W0.heap.size := ⟨_, rfl⟩
  have HBM := Lib.hid hbm
  rw [← hbm] at H1 HW1S ⊢
  clear hbm
  go_wp2_with fail
  refine (diskCreate bm (stE cap 0) _ _ nf _ H1.out ((wfE cap 0 [] HC0.out HC1.out (by omega) (by decide) (by have := HC0.out; simp [usedF]; omega)).wf (List.Perm.refl _)) HNF.out).mono ?_
  rintro e W2 ⟨hr, D2, L2, h2, g2, p2⟩
  have hcc : createS (stE cap 0) (fsOf []) nf = _ := kp_c cap
  rw [hcc] at hr h2 p2
  clear hcc
  simp only at hr h2 p2
  subst hr
  have B2 := Lib.hid (B1.out.trans (g2.below H1.out.fs HW1S.out))
  have H2 := Lib.hid h2
  have P2 := Lib.hid (fs_one p2)
  clear h2 g2 p2
  rw [errV_zero]
  go_wp2_with fail
  refine (diskAppend bm (stE cap 1) _ _ nf a1 c1 la _ H2.out ((wfE cap 1 [(nf, ⟨[], 0⟩)] HC0.out HC1.out (by omega) (by rw [used1]; simp) (by rw [used1]; simp; exact HC0.out)).wf (by rw [P2.out])) HNF.out (HBA.out.below B2.out (Nat.le_refl _)) (by have := HLA.out; omega) (notOwn H2.out HBA.out HW1S.out)).mono ?_
  rintro e W3 ⟨hr, D3, L3, h3, g3, p3⟩
  rw [P2.out] at hr h3 p3
  rw [kp_a, if_pos (by have := HFU.out; omega)] at hr h3 p3
  simp only at hr h3 p3
  subst hr
  have B3 := Lib.hid (B2.out.trans (g3.below H2.out.fs HW1S.out))
  have H3 := Lib.hid h3
  have P3 := Lib.hid (fs_one p3)
  clear h3 g3 p3
  rw [errV_succ]
  go_wp2_with fail
  go_ret
  exact ⟨rfl, B3.out⟩
set_option maxRecDepth 100000 in
set_option maxHeartbeats 8000000 in
theorem keepsFull2 (cap : Int) (a1 : Option Addr) (la : List UInt8) (c1 : Nat) (a2 : Option Addr) (lb : List UInt8) (c2 : Nat) (keep : Int) (a4 : Option Addr) (n4 c4 : Nat) (w : World) (h1 : la.length ≤ 1000) (h2 : lb.length ≤ 1000) (h3 : n4 ≤ 100) (hc0 : 0 ≤ cap) (hc1 : cap ≤ 9223372036854775807) (hba : IsBytes w a1 la) (hbb : IsBytes w a2 lb) (_hcc : lb.length ≤ c2) (hn : ¬ cap < la.length) (hf : cap - la.length < lb.length) : Calls Try.prog 5 #[.int .i64 cap, .slice a1 la.length c1, .slice a2 lb.length c2, .int .i64 keep, .slice a4 n4 c4] w (DKDone w) := by
  have k1 := code_neq_nil
  have k2 := code_nil_neq_nil
  have k3 := code_neq
  have d1 : decide ((1000 : Int) < (la.length : Int)) = false := by simp; omega
  have d2 : decide ((1000 : Int) < (lb.length : Int)) = false := by simp; omega
  have d3 : decide ((100 : Int) < (n4 : Int)) = false := by simp; omega
  have d4 : decide (cap < 0) = false := by simp; omega
  have HBA := Lib.hid hba
  have HBB := Lib.hid hbb
  have HC0 := Lib.hid hc0
  have HC1 := Lib.hid hc1
  have HLA := Lib.hid h1
  have HLB := Lib.hid h2
  have HNF := Lib.hid (show nf.size ≤ maxLen by unfold maxLen; decide)
  have bla : (la.length : Int) ≤ 1000 := by omega
  have blb : (lb.length : Int) ≤ 1000 := by omega
  have HFA := Lib.hid hn
  have HFU := Lib.hid hf
  have HCA := Lib.hid (show (la.length : Int) ≤ cap by omega)
  have dfu : decide (cap < (la.length : Int) + (lb.length : Int)) = true := by simp; omega
  clear h1 h2 h3 hc0 hc1 hba hbb hf hn
  go_enter Try.func5, Try.ntmps5
  go_wp2_with fail
  refine (diskUp _).mono ?_
  rintro e W0 ⟨rfl, hb0⟩
  have B0 := Lib.hid hb0
  clear hb0
  go_wp2_with fail
  refine (diskNew cap W0).mono ?_
  rintro e W1 ⟨rfl, h1', b1⟩
  have H1 := Lib.hid (show IsDisk W1 W0.heap.size (stE cap 0) (.map []) [] from h1')
  have B1 := Lib.hid (below_next B0.out b1)
  have HW1S := Lib.hid B0.out.size
  clear h1' b1
  obtain ⟨bm, hbm⟩ : ∃ bm, bm = W0.heap.size := ⟨_, rfl⟩
  have HBM := Lib.hid hbm
  rw [← hbm] at H1 HW1S ⊢
  clear hbm
  go_wp2_with fail
  refine (diskCreate bm (stE cap 0) _ _ nf _ H1.out ((wfE cap 0 [] HC0.out HC1.out (by omega) (by decide) (by have := HC0.out; simp [usedF]; omega)).wf (List.Perm.refl _)) HNF.out).mono ?_
  rintro e W2 ⟨hr, D2, L2, h2, g2, p2⟩
  have hcc : createS (stE cap 0) (fsOf []) nf = _ := kp_c cap
  rw [hcc] at hr h2 p2
  clear hcc
  simp only at hr h2 p2
  subst hr
  have B2 := Lib.hid (B1.out.trans (g2.below H1.out.fs HW1S.out))
  have H2 := Lib.hid h2
  have P2 := Lib.hid (fs_one p2)
  clear h2 g2 p2
  rw [errV_zero]
  go_wp2_with fail
  refine (diskAppend bm (stE cap 1) _ _ nf a1 c1 la _ H2.out ((wfE cap 1 [(nf, ⟨[], 0⟩)] HC0.out HC1.out (by omega) (by rw [used1]; simp) (by rw [used1]; simp; exact HC0.out)).wf (by rw [P2.out])) HNF.out (HBA.out.below B2.out (Nat.le_refl _)) (by have := HLA.out; omega) (notOwn H2.out HBA.out HW1S.out)).mono ?_
  rintro e W3 ⟨hr, D3, L3, h3, g3, p3⟩
  rw [P2.out] at hr h3 p3
  rw [kp_a, if_neg (by have := HFA.out; omega)] at hr h3 p3
  simp only at hr h3 p3
  subst hr
  have B3 := Lib.hid (B2.out.trans (g3.below H2.out.fs HW1S.out))
  have H3 := Lib.hid h3
  have P3 := Lib.hid (fs_one p3)
  clear h3 g3 p3
  rw [errV_zero]
  go_wp2_with fail
  refine (diskSync bm (stE cap 2) _ _ nf _ H3.out ((wfE cap 2 [(nf, ⟨la, 0⟩)] HC0.out HC1.out (by omega) (by rw [used1]; have := HLA.out; omega) (by rw [used1]; have := HCA.out; omega)).wf (by rw [P3.out])) HNF.out).mono ?_
  rintro e W4 ⟨hr, D4, L4, h4, g4, p4⟩
  rw [P3.out] at hr h4 p4
  rw [kp_s] at hr h4 p4
  simp only at hr h4 p4
  subst hr
  have B4 := Lib.hid (B3.out.trans (g4.below H3.out.fs HW1S.out))
  have H4 := Lib.hid h4
  have P4 := Lib.hid (fs_one p4)
  clear h4 g4 p4
  rw [errV_zero]
  go_wp2_with fail
  refine (diskAppend bm (stE cap 3) _ _ nf a2 c2 lb _ H4.out ((wfE cap 3 [(nf, ⟨la, la.length⟩)] HC0.out HC1.out (by omega) (by rw [used1]; have := HLA.out; omega) (by rw [used1]; have := HCA.out; omega)).wf (by rw [P4.out])) HNF.out (HBB.out.below B4.out (Nat.le_refl _)) (by have := HLB.out; omega) (notOwn H4.out HBB.out HW1S.out)).mono ?_
  rintro e W5 ⟨hr, D5, L5, h5, g5, p5⟩
  rw [P4.out] at hr h5 p5
  rw [kp_b, if_pos HFU.out] at hr h5 p5
  simp only at hr h5 p5
  subst hr
  have B5 := Lib.hid (B4.out.trans (g5.below H4.out.fs HW1S.out))
  have H5 := Lib.hid h5
  have P5 := Lib.hid (fs_one p5)
  clear h5 g5 p5
  rw [errV_succ]
  go_wp2_with fail
  go_ret
  exact ⟨rfl, B5.out⟩
theorem fs_single {L : List Ent} {n : ByteArray} {f : File} (h : fsOf L = [(n, f)]) : ∃ e, L = [e] ∧ e.name = n ∧ e.f = f := by
  unfold fsOf at h
  cases L with
  | nil => cases h
  | cons e L =>
    simp only [List.map_cons, List.cons.injEq, Prod.mk.injEq, List.map_eq_nil_iff] at h
    exact ⟨e, by rw [h.2], h.1.1, h.1.2⟩
theorem readF (bm : Nat) (st : DSt) (D : DataW Unit) (L : List Ent) (n : ByteArray) (f : File) (i j : Nat) (w : World) (h : IsDisk w bm st D L) (hw : DWf st L) (hd : st.down = false) (hf : fsOf L = [(n, f)]) (hb : i + j ≤ f.b.length) : Calls Try.prog 30 #[.pointer (some ⟨bm + 1, 0, none⟩), .string n, .int .i64 (i : Int), .int .i64 (j : Int)] w (ReadOk ((f.b.drop i).take j) w) := by
  obtain ⟨e, rfl, rfl, rfl⟩ := fs_single hf
  exact readOk bm st D _ e i j w h hw hd (by simp) hb
theorem lenF (bm : Nat) (st : DSt) (D : DataW Unit) (L : List Ent) (n : ByteArray) (f : File) (w : World) (h : IsDisk w bm st D L) (hd : st.down = false) (hf : fsOf L = [(n, f)]) : Calls Try.prog 31 #[.pointer (some ⟨bm + 1, 0, none⟩), .string n] w (DLen f.b.length 0 w) := by
  obtain ⟨e, rfl, rfl, rfl⟩ := fs_single hf
  exact lenYes bm st D _ e w h hd (by simp)
theorem IsBytes.take {w : World} {a : Option Addr} {l : List UInt8} (h : IsBytes w a l) (n : Nat) : IsBytes w a (l.take n) := by
  intro i hi
  obtain ⟨b, off, h1, h2, h3⟩ := h i (by simp at hi; omega)
  refine ⟨b, off, h1, h2, ?_⟩
  rw [h3, List.getElem_take]
theorem cat_str (a b : List UInt8) : (⟨a.toArray⟩ ++ ⟨b.toArray⟩ : ByteArray) = ⟨(a ++ b).toArray⟩ := by
  apply ByteArray.ext
  rw [ByteArray.data_append]
  simp
theorem gives_str {o : Oper} {a : Act} {w : World} (x : Operand) (ho : o.op = .convert 45 9 x) {ad : Option Addr} {n cp : Nat} {l : List UInt8} (hn : n = l.length) (hx : a.eval x = .slice ad n cp) (h : IsBytes w ad l) :
    Reg.gives Try.prog o a w (fun v' w' => w' = w ∧ v' = .string ⟨l.toArray⟩) := by
  subst hn
  have hr := run_string_bytes w ad cp l h
  unfold Reg.gives execOp
  simp only [ho, hx, Sem.run_bind, hr, Result.andThen_ok, Sem.run_pure]
  exact ⟨trivial, trivial⟩
theorem mid_still {R : World → World → Prop} (hr : ∀ w, R w w) {o : Oper} {a : Act} {w : World} {c : Value} (h : Reg.gives Try.prog o a w (fun v' w' => w' = w ∧ v' = c)) : Reg.gives Try.prog o a w (fun v w' => R w w' ∧ v = c) :=
  Reg.gives_mono (fun v w' hh => by obtain ⟨rfl, h2⟩ := hh; exact ⟨hr _, h2⟩) h
end Go.Proofs.Ytnpalplnpfgibaa
