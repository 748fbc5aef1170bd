/- Contracts of slices.Clone at bytes, of disk's Read. -/
import Derived.Test.YtnpalplnpfgibaaDiskCreate
namespace Go.Proofs.Ytnpalplnpfgibaa
open Go.RowKit
def BClone (l : List UInt8) (w : World) (e : Ending) (w' : World) : Prop := ∃ v, e = .returned v ∧ OwnB w.heap.size w' v l ∧ Below w.heap.size w w'
set_option maxRecDepth 100000 in
set_option maxHeartbeats 2000000 in
theorem cloneBytesNil (w : World) : Calls Try.prog 74 #[.slice none 0 0] w (BClone [] w) := by
  have hq := Lib.run_eql_slice_nil (P := Try.prog)
  go_enter Try.func74, Try.ntmps74
  go_wp2
  go_ret
  exact ⟨_, rfl, OwnB.nil _ _, Below.refl _ _⟩
set_option maxRecDepth 100000 in
set_option maxHeartbeats 2000000 in
theorem cloneBytes (x : Addr) (n cap : Nat) (l : List UInt8) (w : World) (hn : l.length = n) (hb : IsBytes w (some x) l) (hl : l.length ≤ 1000000000) : Calls Try.prog 74 #[.slice (some x) n cap] w (BClone l w) := by
  subst hn
  have HB := Lib.hid hb
  have HN := Lib.hid hl
  have hq := Lib.run_eql_slice_nil (P := Try.prog)
  clear hb hl
  go_enter Try.func74, Try.ntmps74
  go_wp2_with (at_builtin; refine wpList_append_bytes rfl (.tmp 5) (.tmp 6) 45 rfl w.heap.size _ [] rfl (OwnB.empty _ w (Nat.le_refl _)) _ l rfl (SrcB.ofBytes cap (HB.out.alloc _)) ?c1 ?c2 ?hh1)
  case c1 => simp
  case c2 => have := HN.out; simp; omega
  intro v4 w4 ho4 hg4
  have hb4 : Below w.heap.size w w4 := ((Below.refl _ w).alloc (Nat.le_refl _) _).trans (below_of_grown (OwnB.empty _ w (Nat.le_refl _)) (by simp) hg4)
  have HX := Lib.hid (And.intro ho4 hb4)
  clear ho4 hg4 hb4
  go_wp2
  go_ret
  exact ⟨_, rfl, by simpa using HX.out.1, HX.out.2⟩
theorem add_none0 (b off k : Nat) : (⟨b, off, none⟩ : Addr).add k = ⟨b, off + k, none⟩ := by unfold Addr.add; split <;> simp_all
theorem IsBytes.sub {w : World} {g o : Nat} {l : List UInt8} (h : IsBytes w (some ⟨g, o, none⟩) l) (i j : Nat) : IsBytes w (some ⟨g, o + i, none⟩) ((l.drop i).take j) := by
  intro k hk
  have hk' : i + k < l.length := by simp at hk; omega
  obtain ⟨b, off, h1, h2, h3⟩ := h (i + k) hk'
  cases h1
  refine ⟨g, o + i, rfl, h2, ?_⟩
  rw [show o + i + k = o + (i + k) by omega, h3]
  simp
def DRead (c : Nat) (w : World) (e : Ending) (w' : World) : Prop := e = .returned (.tuple #[.slice none 0 0, errV c]) ∧ w = w'
set_option maxRecDepth 100000 in
set_option maxHeartbeats 2000000 in
theorem readDown (bm : Nat) (st : DSt) (D : DataW Unit) (L : List Ent) (n : ByteArray) (i j : Int) (w : World) (h : IsDisk w bm st D L) (hd : st.down = true) : Calls Try.prog 30 #[.pointer (some ⟨bm + 1, 0, none⟩), .string n, .int .i64 i, .int .i64 j] w (DRead 15 w) := by
  have k1 := code_neq_nil
  go_enter Try.func30, Try.ntmps30
  go_wp2_with fail
  refine (findDown bm st D L n _ h hd).mono ?_
  rintro e w1 ⟨rfl, rfl⟩
  rw [errV_succ]
  go_wp2_with fail
  go_ret2
  exact ⟨rfl, rfl⟩
set_option maxRecDepth 100000 in
set_option maxHeartbeats 2000000 in
theorem readNo (bm : Nat) (st : DSt) (D : DataW Unit) (L : List Ent) (n : ByteArray) (i j : Int) (w : World) (h : IsDisk w bm st D L) (hd : st.down = false) (hn : ∀ e ∈ L, e.name ≠ n) (hs : n.size ≤ maxLen) : Calls Try.prog 30 #[.pointer (some ⟨bm + 1, 0, none⟩), .string n, .int .i64 i, .int .i64 j] w (DRead 5 w) := by
  have k1 := code_neq_nil
  have H := Lib.hid hn
  clear hn
  go_enter Try.func30, Try.ntmps30
  go_wp2_with fail
  refine (findNo bm st D L n _ h hd H.out hs).mono ?_
  rintro e w1 ⟨rfl, rfl⟩
  rw [errV_succ]
  go_wp2_with fail
  go_ret2
  exact ⟨rfl, rfl⟩
def readBad (l : List UInt8) (i j : Int) : Prop := i < 0 ∨ j < 0 ∨ (l.length : Int) < i ∨ (l.length : Int) - i < j
set_option maxRecDepth 100000 in
set_option maxHeartbeats 4000000 in
theorem readBadArg (bm : Nat) (st : DSt) (D : DataW Unit) (L : List Ent) (e : Ent) (i j : Int) (w : World) (h : IsDisk w bm st D L) (hw : DWf st L) (hd : st.down = false) (he : e ∈ L) (hb : readBad e.f.b i j) : Calls Try.prog 30 #[.pointer (some ⟨bm + 1, 0, none⟩), .string e.name, .int .i64 i, .int .i64 j] w (DRead 1 w) := by
  have k2 := code_nil_neq_nil
  have hfe := h.fs.file e he
  have q0 := cell_of_row w e.bf 0 _ _ _ hfe.box
  simp at q0
  obtain ⟨va, vc, hev, _⟩ := hfe.own.out
  rw [hev] at q0
  have hfl := hw.file e he
  have H := Lib.hid h
  have HM := Lib.hid he
  clear h he hfe hev hw
  by_cases h1 : i < 0
  · have d1 : decide (i < 0) = true := by simp; omega
    clear hb h1
    go_enter Try.func30, Try.ntmps30
    go_wp2_with fail
    refine (findYes bm st D L e _ H.out hd HM.out).mono ?_
    rintro e1 w1 ⟨rfl, rfl⟩
    rw [errV_zero]
    go_wp2_with fail
    go_ret2
    exact ⟨rfl, rfl⟩
  by_cases h2 : j < 0
  · have d1 : decide (i < 0) = false := by simp; omega
    have d2 : decide (j < 0) = true := by simp; omega
    clear hb h1 h2
    go_enter Try.func30, Try.ntmps30
    go_wp2_with fail
    refine (findYes bm st D L e _ H.out hd HM.out).mono ?_
    rintro e1 w1 ⟨rfl, rfl⟩
    rw [errV_zero]
    go_wp2_with fail
    go_ret2
    exact ⟨rfl, rfl⟩
  by_cases h3 : (e.f.b.length : Int) < i
  · have d1 : decide (i < 0) = false := by simp; omega
    have d2 : decide (j < 0) = false := by simp; omega
    have d3 : decide ((e.f.b.length : Int) < i) = true := by simp; omega
    clear hb h1 h2 h3
    go_enter Try.func30, Try.ntmps30
    go_wp2_with fail
    refine (findYes bm st D L e _ H.out hd HM.out).mono ?_
    rintro e1 w1 ⟨rfl, rfl⟩
    rw [errV_zero]
    go_wp2_with fail
    go_ret2
    exact ⟨rfl, rfl⟩
  · have d1 : decide (i < 0) = false := by simp; omega
    have d2 : decide (j < 0) = false := by simp; omega
    have d3 : decide ((e.f.b.length : Int) < i) = false := by simp; omega
    have d4 : decide ((e.f.b.length : Int) - i < j) = true := by unfold readBad at hb; simp; omega
    have b1 : 0 ≤ i := by omega
    have b2 : i ≤ (e.f.b.length : Int) := by omega
    have b3 : (e.f.b.length : Int) ≤ 1000000000 := by omega
    clear hb h1 h2 h3
    go_enter Try.func30, Try.ntmps30
    go_wp2_with fail
    refine (findYes bm st D L e _ H.out hd HM.out).mono ?_
    rintro e1 w1 ⟨rfl, rfl⟩
    rw [errV_zero]
    go_wp2_with fail
    go_ret2
    exact ⟨rfl, rfl⟩
def ReadOk (l : List UInt8) (w : World) (e : Ending) (w' : World) : Prop := ∃ v, e = .returned (.tuple #[v, errV 0]) ∧ OwnB w.heap.size w' v l ∧ Below w.heap.size w w'
set_option maxRecDepth 100000 in
set_option maxHeartbeats 8000000 in
theorem readOk (bm : Nat) (st : DSt) (D : DataW Unit) (L : List Ent) (e : Ent) (i j : Nat) (w : World) (h : IsDisk w bm st D L) (hw : DWf st L) (hd : st.down = false) (he : e ∈ L) (hb : i + j ≤ e.f.b.length) : Calls Try.prog 30 #[.pointer (some ⟨bm + 1, 0, none⟩), .string e.name, .int .i64 (i : Int), .int .i64 (j : Int)] w (ReadOk ((e.f.b.drop i).take j) w) := by
  have k2 := code_nil_neq_nil
  have hfe := h.fs.file e he
  have q0 := cell_of_row w e.bf 0 _ _ _ hfe.box
  simp at q0
  obtain ⟨va, vc, hev, hvb, hvc, hvm⟩ := hfe.own.out
  rw [hev] at q0
  have hfl := hw.file e he
  have H := Lib.hid h
  have HM := Lib.hid he
  have HVB := Lib.hid hvb
  have HFO := Lib.hid hfe.own
  have HEV := Lib.hid hev
  have hll : ((e.f.b.drop i).take j).length = j := by simp; omega
  have HLL := Lib.hid hll
  have d1 : decide ((i : Int) < 0) = false := by simp
  have d2 : decide ((j : Int) < 0) = false := by simp
  have d3 : decide ((e.f.b.length : Int) < (i : Int)) = false := by simp; omega
  have d3' : decide (e.f.b.length < i) = false := by simp; omega
  have d4 : decide ((e.f.b.length : Int) - (i : Int) < (j : Int)) = false := by simp; omega
  have b1 : (0 : Int) ≤ (i : Int) := by omega
  have b1' : (0 : Int) ≤ (j : Int) := by omega
  have b2 : (i : Int) ≤ (e.f.b.length : Int) := by omega
  have b3 : (e.f.b.length : Int) ≤ 1000000000 := by omega
  have b4 : (i : Int) + (j : Int) ≤ (vc : Int) := by omega
  have b5 : (i : Int) ≤ (i : Int) + (j : Int) := by omega
  have b6 : (i : Int) + (j : Int) ≤ 1000000000 := by omega
  have HJ := Lib.hid (show ((i : Int) + (j : Int)).toNat - i = j by omega)
  have HBB := Lib.hid hb
  have HFL := Lib.hid hfl
  unfold maxLen at hvm
  clear h he hfe hev hw hvb hll hb hfl
  by_cases hci : vc = i
  · have hj0 : j = 0 := by omega
    subst hci hj0
    go_enter Try.func30, Try.ntmps30
    go_wp2_with fail
    refine (findYes bm st D L e _ H.out hd HM.out).mono ?_
    rintro e1 w1 ⟨rfl, rfl⟩
    rw [errV_zero]
    go_wp2_with fail
    have fin : ∀ e' w', BClone [] w e' w' → ∃ v, e' = .returned v ∧ ReadOk ((e.f.b.drop vc).take 0) w (.returned (.tuple #[v, errV 0])) w' := by
      rintro e' w' ⟨v, rfl, h1, h2⟩
      exact ⟨v, rfl, v, rfl, by simpa using h1, h2⟩
    have HFIN := Lib.hid fin
    clear fin
    cases va with
    | none =>
      refine (cloneBytesNil _).mono ?_
      intro e' w' hq
      obtain ⟨v, rfl, hr⟩ := HFIN.out _ _ hq
      have HR := Lib.hid hr
      clear hq hr
      go_wp2_with fail
      go_ret2
      exact HR.out
    | some x =>
      refine (cloneBytes x 0 0 [] _ rfl (IsBytes.nil _ _) (by simp)).mono ?_
      intro e' w' hq
      obtain ⟨v, rfl, hr⟩ := HFIN.out _ _ hq
      have HR := Lib.hid hr
      clear hq hr
      go_wp2_with fail
      go_ret2
      exact HR.out
  · go_enter Try.func30, Try.ntmps30
    go_wp2_with fail
    refine (findYes bm st D L e _ H.out hd HM.out).mono ?_
    rintro e1 w1 ⟨rfl, rfl⟩
    rw [errV_zero]
    go_wp2_with fail
    have hva : ∃ g, va = some ⟨g, 0, none⟩ := by
      rcases HFO.out.2 with ⟨h3, h4⟩ | ⟨g, cap', cur, hv, _⟩
      · rw [HEV.out] at h3
        simp only [Value.slice.injEq] at h3
        obtain ⟨_, _, h5⟩ := h3
        have := HBB.out
        omega
      · rw [HEV.out] at hv
        simp only [Value.slice.injEq] at hv
        exact ⟨g, hv.1⟩
    obtain ⟨g, rfl⟩ := hva
    have hbs := HVB.out.sub i j
    simp only [Option.map_some, add_none0, Nat.zero_add] at hbs ⊢
    refine (cloneBytes ⟨g, i, none⟩ j (vc - i) _ _ HLL.out hbs (by rw [HLL.out]; have := HFL.out; have := HBB.out; omega)).mono ?_
    rintro e' w' ⟨v, rfl, h1, h2⟩
    have HR := Lib.hid (show ReadOk ((e.f.b.drop i).take j) w (.returned (.tuple #[v, errV 0])) w' from ⟨v, rfl, h1, h2⟩)
    clear h1 h2 hbs
    go_wp2_with fail
    go_ret2
    exact HR.out
end Go.Proofs.Ytnpalplnpfgibaa
