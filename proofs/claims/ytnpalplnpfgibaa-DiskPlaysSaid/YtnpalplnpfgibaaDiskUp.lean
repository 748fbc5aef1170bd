/- The deeds of layer 4; the head of its statements. -/
import Derived.Test.YtnpalplnpfgibaaDiskSpec
import Derived.Test.YtnpalplnpfgibaaRowOf
import Derived.Lib.SlBytesConst
namespace Go.Proofs.Ytnpalplnpfgibaa
open Go.RowKit Go.ChangeShapes Go.WideShapes
structure Dd where
  what : Int
  name : ByteArray
  to : ByteArray
  ba : Option Addr
  bcap : Nat
  b : List UInt8
  n : Int
  m : Int
def ddCells (q : Dd) : List Value := [.int .i64 q.what, .string q.name, .string q.to, .slice q.ba q.b.length q.bcap, .int .i64 q.n, .int .i64 q.m]
structure ddWf (w : World) (q : Dd) : Prop where
  what : (Lit.int .i64 q.what).wf = true
  name : q.name.size ≤ maxLen
  to : q.to.size ≤ maxLen
  by_ : IsBytes w q.ba q.b
  n : (Lit.int .i64 q.n).wf = true
  m : (Lit.int .i64 q.m).wf = true
section
variable {H : Type} {enc : TypeId × Value → H} {w : World} {base : Nat} {spare : Nat → Bool} {held : Bool}
theorem el_bytes {cs : List Value} {n o : Nat} {y : DataW H × List MemPlace} (h : DataW.trod enc Try.prog w base spare held n 45 ((cs.drop o).take 1) = some y) : ∃ a cap l, cs[o]? = some (.slice a (List.length l) cap) ∧ IsBytes w a l := by
  have key : ∀ v, (cs.drop o).take 1 = [v] → cs[o]? = some v := fun v h1 => by
    have := congrArg (·[0]?) h1
    simp [List.getElem?_drop] at this
    exact this
  rcases open_ints Try.underlying45 Try.underlying5 (by kernel_rfl) h with ⟨hcs, _⟩ | ⟨x, len, c, zs, hcs, _, hl, hm, hz, _, hcell, hwz⟩
  · exact ⟨none, 0, [], key _ hcs, IsBytes.nil _ _⟩
  · obtain ⟨l, rfl⟩ := u8_list_of_wf zs hwz
    have hlen : len ≤ l.length := by
      rw [List.length_map] at hz
      rw [hz]
      split <;> omega
    refine ⟨some x, c, l.take len, by rw [key _ hcs, List.length_take]; congr 2; omega, fun i hi => ?_⟩
    have hi' : i < len := by simp at hi; omega
    obtain ⟨b, off, sp⟩ := x
    have h0 := World.cell?_spot (hcell 0 (by simp; omega))
    simp [Addr.add] at h0
    subst h0
    have hc := hcell i (by simp; omega)
    rw [add_none'] at hc
    have hil : i < l.length := by omega
    refine ⟨b, off, rfl, heap_lt_of_cell hc, ?_⟩
    rw [hc]
    simp [List.getD, List.getElem?_eq_getElem hil]
set_option maxRecDepth 100000 in
theorem open_dd {n : Nat} {cs : List Value} {y : DataW H × List MemPlace} (h : DataW.trod enc Try.prog w base spare held n 60 cs = some y) : ∃ q : Dd, (∀ j, j < 6 → cs[j]? = (ddCells q)[j]?) ∧ ddWf w q := by
  obtain ⟨xs, m, _, _, hcs, hxs, hf⟩ := DataW.trod_struct Try.underlying60 h
  have hlen : xs.length = 6 := hxs
  have h0 := hf 0 _ rfl
  have h1 := hf 1 _ rfl
  have h2 := hf 2 _ rfl
  have h3 := hf 3 _ rfl
  have h4 := hf 4 _ rfl
  have h5 := hf 5 _ rfl
  rw [List.getElem?_eq_getElem (by omega)] at h0 h1 h2 h3 h4 h5
  obtain ⟨x0, e0, f0⟩ := el_int Try.underlying3 h0
  obtain ⟨x1, e1, f1⟩ := el_str Try.underlying9 h1
  obtain ⟨x2, e2, f2⟩ := el_str Try.underlying9 h2
  obtain ⟨a3, c3, l3, e3, f3⟩ := el_bytes h3
  obtain ⟨x4, e4, f4⟩ := el_int Try.underlying3 h4
  obtain ⟨x5, e5, f5⟩ := el_int Try.underlying3 h5
  refine ⟨⟨x0, x1, x2, a3, c3, l3, x4, x5⟩, fun j hj => ?_, f0, f1, f2, f3, f4, f5⟩
  match j, hj with
  | 0, _ => exact e0
  | 1, _ => exact e1
  | 2, _ => exact e2
  | 3, _ => exact e3
  | 4, _ => exact e4
  | 5, _ => exact e5
theorem dd_cells : Try.prog.cellsOf 60 = 6 := by kernel_rfl
theorem open_dds {a : Option Addr} {len cap : Nat} {d : DataW H} {p : List MemPlace} (h : DataW.Trod enc Try.prog w base spare held 46 (.slice a len cap) d p) : ∃ z : List Dd, z.length = len ∧ IsRowOf ddCells (ddWf w) 6 w a z ∧ len ≤ maxLen :=
  open_rowOf ⟨0, ByteArray.empty, ByteArray.empty, none, 0, [], 0, 0⟩ ddCells (ddWf w) 6 _ _ Try.underlying46 dd_cells (by omega) (fun _ => rfl) (fun _ _ _ h => open_dd h) h
end
abbrev In_DiskKeeps_4.T := List Dd
def In_DiskKeeps_4 (w : World) (a : Option Addr) (len _cap : Nat) (z : In_DiskKeeps_4.T) : Prop := z.length = len ∧ IsRowOf ddCells (ddWf w) 6 w a z ∧ len ≤ maxLen
theorem open_DiskKeeps_4 {H : Type} {enc : TypeId × Value → H} {w : World} {base : Nat} {spare : Nat → Bool} {held : Bool} {a : Option Addr} {len cap : Nat} {d : DataW H} {p : List MemPlace} (h : DataW.Trod enc Try.prog w base spare held 46 (.slice a len cap) d p) : ∃ z, In_DiskKeeps_4 w a len cap z := open_dds h
structure DWfF (st : DSt) (fs : Files) : Prop where
  left : st.left ≤ 9223372036854775807
  keep : st.keep ≤ 9223372036854775807
  eff : st.eff ≤ 1000000000
  used : usedF fs ≤ 1000000000
  capL : -9223372036854775808 ≤ st.cap
  capH : st.cap ≤ 9223372036854775807
  room : (usedF fs : Int) ≤ max st.cap 0
theorem usedF_mem {fs : Files} {p : ByteArray × File} (h : p ∈ fs) : p.2.b.length ≤ usedF fs := by
  obtain ⟨L1, L2, rfl⟩ := List.append_of_mem h
  simp [usedF]
  omega
theorem DWfF.wf {st : DSt} {fs : Files} {L : List Ent} (h : DWfF st fs) (hp : (fsOf L).Perm fs) : DWf st L := by
  have hu : usedL L = usedF fs := by rw [usedL_fs, usedF_perm hp]
  refine ⟨h.left, h.keep, h.eff, by rw [hu]; have := h.used; omega, fun e he => ?_, h.capL, h.capH, by rw [hu]; exact h.room⟩
  have h1 := usedF_mem (List.mem_map.2 ⟨e, he, rfl⟩ : (e.name, e.f) ∈ fsOf L)
  have h2 : usedF (L.map fun e => (e.name, e.f)) = usedF fs := usedF_perm hp
  rw [h2] at h1
  exact Nat.le_trans h1 h.used
theorem fs_one {L : List Ent} {p : ByteArray × File} (h : (fsOf L).Perm [p]) : fsOf L = [p] := List.perm_singleton.1 h
def na : ByteArray := ⟨#[97]⟩
def xyz : List UInt8 := [120, 121, 122]
theorem up_c : createS ⟨5, 0, false, 0, 0, false⟩ [] na = (0, ⟨5, 1, false, 0, 0, false⟩, [(na, ⟨[], 0⟩)]) := by rfl
theorem up_a : appendS ⟨5, 1, true, 0, 0, false⟩ [(na, ⟨[], 0⟩)] na [120] = (15, ⟨5, 1, false, 0, 0, true⟩, [(na, ⟨[], 0⟩)]) := by rfl
theorem up_b : appendS ⟨5, 1, false, 0, 0, false⟩ [(na, ⟨[], 0⟩)] na xyz = (0, ⟨5, 2, false, 0, 0, false⟩, [(na, ⟨xyz, 0⟩)]) := by rfl
theorem up_d : appendS ⟨5, 2, false, 0, 0, false⟩ [(na, ⟨xyz, 0⟩)] na xyz = (12, ⟨5, 2, false, 0, 0, false⟩, [(na, ⟨xyz, 0⟩)]) := by rfl
theorem newBytes {w : World} {bm : Nat} {st : DSt} {D : DataW Unit} {L : List Ent} (h : IsDisk w bm st D L) : ∀ b off, (some ⟨w.heap.size, 0, none⟩ : Option Addr) = some ⟨b, off, none⟩ → ¬ Own bm L b := by
  intro b off e ho
  cases e
  have := own_lt h ho
  omega
theorem DWfF.lit {st : DSt} {fs : Files} (h1 : st.left ≤ 9223372036854775807) (h2 : st.keep ≤ 9223372036854775807) (h3 : st.eff ≤ 1000000000) (h4 : usedF fs ≤ 1000000000) (h5 : -9223372036854775808 ≤ st.cap) (h6 : st.cap ≤ 9223372036854775807) (h7 : (usedF fs : Int) ≤ max st.cap 0) : DWfF st fs := ⟨h1, h2, h3, h4, h5, h6, h7⟩
set_option maxRecDepth 100000 in
set_option maxHeartbeats 8000000 in
theorem diskUp (w : World) : Calls Try.prog 22 #[] w (fun e w' => e = .returned (.bool true) ∧ Below w.heap.size w w') := by
  have k1 := code_eql
  have k2 := code_nil_nil
  have kc := fun (w : World) (C : Array Value) (n c : Nat) => Lib.run_convert_bytes_const (P := Try.prog) w 45 5 C n c Try.underlying45 Try.underlying5
  have HW0 := Lib.hid (show DWfF ⟨5, 0, false, 0, 0, false⟩ [] from by constructor <;> decide)
  have HW1 := Lib.hid (show DWfF ⟨5, 1, true, 0, 0, false⟩ [(na, ⟨[], 0⟩)] from by constructor <;> decide)
  have HW2 := Lib.hid (show DWfF ⟨5, 1, false, 0, 0, false⟩ [(na, ⟨[], 0⟩)] from by constructor <;> decide)
  have HW3 := Lib.hid (show DWfF ⟨5, 2, false, 0, 0, false⟩ [(na, ⟨xyz, 0⟩)] from by constructor <;> decide)
  have HNA := Lib.hid (show na.size ≤ maxLen by unfold maxLen; decide)
  go_enter Try.func22, Try.ntmps22
  go_wp2_with fail
  refine (diskNew 5 w).mono ?_
  rintro e W1 ⟨rfl, h1, b1⟩
  have H1 := Lib.hid h1
  have B1 := Lib.hid b1
  clear h1 b1
  obtain ⟨bm, hbm⟩ : ∃ bm, bm = w.heap.size := ⟨_, rfl⟩
  have HBM := Lib.hid hbm
  rw [← hbm] at H1 ⊢
  clear hbm
  go_wp2_with fail
  refine (diskCreate bm _ _ _ na _ H1.out (HW0.out.wf (List.Perm.refl _)) HNA.out).mono ?_
  rintro e W2 ⟨hr, D2, L2, h2, g2, p2⟩
  have hc : createS ⟨5, 0, false, 0, 0, false⟩ (fsOf []) na = _ := up_c
  rw [hc] at hr h2 p2
  simp only at hr h2 p2
  subst hr
  have B2 := Lib.hid (B1.out.trans (g2.below H1.out.fs (by rw [HBM.out]; exact Nat.le_refl _)))
  have H2 := Lib.hid h2
  have P2 := Lib.hid (fs_one p2)
  clear hc h2 g2 p2 H1 B1
  rw [errV_zero]
  go_wp2_with fail
  refine (diskPlan bm _ _ _ 0 0 _ H2.out).mono ?_
  rintro e W3 ⟨rfl, h3, g3⟩
  have B3 := Lib.hid (B2.out.trans (g3.below H2.out.fs (by rw [HBM.out]; exact Nat.le_refl _)))
  have H3 := Lib.hid h3
  clear h3 g3 H2 B2
  have hb4 := (Below.refl W3.heap.size W3).alloc (Nat.le_refl _) (.cells #[.int .u8 120] 5 (1, 2))
  have H4 := Lib.hid (H3.out.bel hb4)
  have B4 := Lib.hid (B3.out.trans (hb4.mono B3.out.size))
  have HBY := Lib.hid (isBytes_new W3 #[.int .u8 120] 5 (1, 2) [120] rfl)
  have HOW := Lib.hid (newBytes H3.out)
  clear hb4
  go_wp2_with fail
  refine (diskAppend bm _ _ _ na (some ⟨W3.heap.size, 0, none⟩) 1 [120] _ H4.out (HW1.out.wf (by rw [P2.out])) HNA.out HBY.out (by simp) (fun b off e _ => HOW.out b off e)).mono ?_
  rintro e W5 ⟨hr, D5, L5, h5, g5, p5⟩
  rw [P2.out] at hr h5 p5
  have hc : appendS { (⟨5, 1, false, 0, 0, false⟩ : DSt) with planned := true, left := Int.toNat 0, keep := Int.toNat 0 } [(na, ⟨[], 0⟩)] na [120] = _ := up_a
  rw [hc] at hr h5 p5
  simp only at hr h5 p5
  subst hr
  have B5 := Lib.hid (B4.out.trans (g5.below H4.out.fs (by rw [HBM.out]; exact Nat.le_refl _)))
  have H5 := Lib.hid h5
  have P5 := Lib.hid (fs_one p5)
  clear hc h5 g5 p5 H3 B3 H4 B4 HBY HOW P2
  rw [errV_succ]
  go_wp2_with fail
  refine (diskDown bm _ _ _ _ H5.out).mono ?_
  rintro e W6 ⟨rfl, rfl⟩
  go_wp2_with fail
  refine (diskOpen bm _ _ _ _ H5.out).mono ?_
  rintro e W7 ⟨rfl, h7, g7⟩
  have B7 := Lib.hid (B5.out.trans (g7.below H5.out.fs (by rw [HBM.out]; exact Nat.le_refl _)))
  have H7 := Lib.hid h7
  clear h7 g7 H5 B5
  have hb8 := (Below.refl W7.heap.size W7).alloc (Nat.le_refl _) (.cells #[.int .u8 120, .int .u8 121, .int .u8 122] 5 (3, 4))
  have H8 := Lib.hid (H7.out.bel hb8)
  have B8 := Lib.hid (B7.out.trans (hb8.mono B7.out.size))
  have HBY := Lib.hid (isBytes_new W7 #[.int .u8 120, .int .u8 121, .int .u8 122] 5 (3, 4) xyz rfl)
  have HOW := Lib.hid (newBytes H7.out)
  clear hb8
  go_wp2_with fail
  refine (diskAppend bm _ _ _ na (some ⟨W7.heap.size, 0, none⟩) 3 xyz _ H8.out (HW2.out.wf (by rw [P5.out])) HNA.out HBY.out (by decide) (fun b off e _ => HOW.out b off e)).mono ?_
  rintro e W9 ⟨hr, D9, L9, h9, g9, p9⟩
  rw [P5.out] at hr h9 p9
  have hc : appendS { (⟨5, 1, false, 0, 0, true⟩ : DSt) with planned := false, down := false } [(na, ⟨[], 0⟩)] na xyz = _ := up_b
  rw [hc] at hr h9 p9
  simp only at hr h9 p9
  subst hr
  have B9 := Lib.hid (B8.out.trans (g9.below H8.out.fs (by rw [HBM.out]; exact Nat.le_refl _)))
  have H9 := Lib.hid h9
  have P9 := Lib.hid (fs_one p9)
  clear hc h9 g9 p9 H7 B7 H8 B8 HBY HOW P5
  rw [errV_zero]
  have hb10 := (Below.refl W9.heap.size W9).alloc (Nat.le_refl _) (.cells #[.int .u8 120, .int .u8 121, .int .u8 122] 5 (3, 4))
  have H10 := Lib.hid (H9.out.bel hb10)
  have B10 := Lib.hid (B9.out.trans (hb10.mono B9.out.size))
  have HBY := Lib.hid (isBytes_new W9 #[.int .u8 120, .int .u8 121, .int .u8 122] 5 (3, 4) xyz rfl)
  have HOW := Lib.hid (newBytes H9.out)
  clear hb10
  go_wp2_with fail
  refine (diskAppend bm _ _ _ na (some ⟨W9.heap.size, 0, none⟩) 3 xyz _ H10.out (HW3.out.wf (by rw [P9.out])) HNA.out HBY.out (by decide) (fun b off e _ => HOW.out b off e)).mono ?_
  rintro e W11 ⟨hr, D11, L11, h11, g11, p11⟩
  rw [P9.out] at hr h11 p11
  rw [up_d] at hr h11 p11
  simp only at hr h11 p11
  subst hr
  have B11 := Lib.hid (B10.out.trans (g11.below H10.out.fs (by rw [HBM.out]; exact Nat.le_refl _)))
  have H11 := Lib.hid h11
  have P11 := Lib.hid (fs_one p11)
  have HU := Lib.hid (show usedL L11 = 3 by rw [usedL_fs, fs_one p11]; rfl)
  clear h11 g11 p11 H9 B9 H10 B10 HBY HOW P9
  rw [errV_succ]
  go_wp2_with fail
  refine (diskUsed bm _ _ _ _ H11.out (by rw [HU.out]; decide)).mono ?_
  rintro e W12 ⟨rfl, h12, b12⟩
  rw [HU.out]
  have B12 := Lib.hid (B11.out.trans (b12.mono B11.out.size))
  clear h12 b12
  go_wp2_with fail
  go_ret
  exact ⟨rfl, B12.out⟩
end Go.Proofs.Ytnpalplnpfgibaa
