/- Contracts of disk's Cut, Rename, Delete. -/
import Derived.Test.YtnpalplnpfgibaaDiskSpec
namespace Go.Proofs.Ytnpalplnpfgibaa
open Go.RowKit
set_option maxRecDepth 100000 in
set_option maxHeartbeats 4000000 in
theorem cutDown (bm : Nat) (st : DSt) (D : DataW Unit) (L : List Ent) (n : ByteArray) (k : Int) (w : World) (h : IsDisk w bm st D L) (hd : st.down = true) : Calls Try.prog 51 #[.pointer (some ⟨bm + 1, 0, none⟩), .string n, .int .i64 k] w (DErr 15 w) := by
  have k1 := code_neq_nil
  go_enter Try.func51, Try.ntmps51
  go_wp2_with fail
  refine (findDown bm st D L n _ h hd).mono ?_
  rintro e w1 ⟨rfl, rfl⟩
  rw [errV_succ]
  go_wp2_with fail
  go_ret
  exact ⟨rfl, rfl⟩
set_option maxRecDepth 100000 in
set_option maxHeartbeats 4000000 in
theorem cutNo (bm : Nat) (st : DSt) (D : DataW Unit) (L : List Ent) (n : ByteArray) (k : Int) (w : World) (h : IsDisk w bm st D L) (hd : st.down = false) (hn : ∀ e ∈ L, e.name ≠ n) (hs : n.size ≤ maxLen) : Calls Try.prog 51 #[.pointer (some ⟨bm + 1, 0, none⟩), .string n, .int .i64 k] w (DErr 5 w) := by
  have k1 := code_neq_nil
  have H := Lib.hid hn
  clear hn
  go_enter Try.func51, Try.ntmps51
  go_wp2_with fail
  refine (findNo bm st D L n _ h hd H.out hs).mono ?_
  rintro e w1 ⟨rfl, rfl⟩
  rw [errV_succ]
  go_wp2_with fail
  go_ret
  exact ⟨rfl, rfl⟩
set_option maxRecDepth 100000 in
set_option maxHeartbeats 4000000 in
theorem cutFalls (bm : Nat) (st : DSt) (D : DataW Unit) (L : List Ent) (e : Ent) (k : Nat) (w : World) (h : IsDisk w bm st D L) (hw : DWf st L) (hd : st.down = false) (he : e ∈ L) (hf : st.falls = true) (hk : k ≤ e.f.b.length) : Calls Try.prog 51 #[.pointer (some ⟨bm + 1, 0, none⟩), .string e.name, .int .i64 (k : Int)] w (DEff 15 bm st.fall D L (L.map (Ent.crash st.keep)) w) := by
  have k1 := code_neq_nil
  have k2 := code_nil_neq_nil
  have HE := Lib.hid (diskEffect bm st D L w h hw)
  unfold DSt.effC DSt.effS DSt.effL at HE
  rw [hf] at HE
  have H := Lib.hid h
  have HM := Lib.hid he
  have hfe := h.fs.file e he
  have q0 := cell_of_row w e.bf 0 _ _ _ hfe.box
  simp at q0
  obtain ⟨va, vc, hev, _⟩ := hfe.own.out
  rw [hev] at q0
  clear hfe hev
  have d1 : decide ((k : Int) < 0) = false := by simp
  have d2 : decide ((e.f.b.length : Int) < (k : Int)) = false := by simp; omega
  have d3 : decide (e.f.b.length < k) = false := by simp; omega
  clear hk
  clear h hw he hf
  go_enter Try.func51, Try.ntmps51
  go_wp2_with fail
  refine (findYes bm st D L e _ H.out hd HM.out).mono ?_
  rintro e1 w1 ⟨rfl, rfl⟩
  rw [errV_zero]
  go_wp2_with fail
  refine HE.out.mono ?_
  rintro e1 w1 ⟨rfl, hd1, hg1⟩
  have HX := Lib.hid (And.intro hd1 hg1)
  clear hd1 hg1
  simp only [if_true]
  rw [errV_succ]
  go_wp2_with fail
  go_ret
  exact ⟨rfl, HX.out⟩
set_option maxRecDepth 100000 in
set_option maxHeartbeats 4000000 in
theorem renDown (bm : Nat) (st : DSt) (D : DataW Unit) (L : List Ent) (n : ByteArray) (to : ByteArray) (w : World) (h : IsDisk w bm st D L) (hd : st.down = true) : Calls Try.prog 52 #[.pointer (some ⟨bm + 1, 0, none⟩), .string n, .string to] w (DErr 15 w) := by
  have k1 := code_neq_nil
  go_enter Try.func52, Try.ntmps52
  go_wp2_with fail
  refine (findDown bm st D L n _ h hd).mono ?_
  rintro e w1 ⟨rfl, rfl⟩
  rw [errV_succ]
  go_wp2_with fail
  go_ret
  exact ⟨rfl, rfl⟩
set_option maxRecDepth 100000 in
set_option maxHeartbeats 4000000 in
theorem renNo (bm : Nat) (st : DSt) (D : DataW Unit) (L : List Ent) (n : ByteArray) (to : ByteArray) (w : World) (h : IsDisk w bm st D L) (hd : st.down = false) (hn : ∀ e ∈ L, e.name ≠ n) (hs : n.size ≤ maxLen) : Calls Try.prog 52 #[.pointer (some ⟨bm + 1, 0, none⟩), .string n, .string to] w (DErr 5 w) := by
  have k1 := code_neq_nil
  have H := Lib.hid hn
  clear hn
  go_enter Try.func52, Try.ntmps52
  go_wp2_with fail
  refine (findNo bm st D L n _ h hd H.out hs).mono ?_
  rintro e w1 ⟨rfl, rfl⟩
  rw [errV_succ]
  go_wp2_with fail
  go_ret
  exact ⟨rfl, rfl⟩
set_option maxRecDepth 100000 in
set_option maxHeartbeats 4000000 in
theorem renFalls (bm : Nat) (st : DSt) (D : DataW Unit) (L : List Ent) (e : Ent) (to : ByteArray) (w : World) (h : IsDisk w bm st D L) (hw : DWf st L) (hd : st.down = false) (he : e ∈ L) (hf : st.falls = true) : Calls Try.prog 52 #[.pointer (some ⟨bm + 1, 0, none⟩), .string e.name, .string to] w (DEff 15 bm st.fall D L (L.map (Ent.crash st.keep)) w) := by
  have k1 := code_neq_nil
  have k2 := code_nil_neq_nil
  have HE := Lib.hid (diskEffect bm st D L w h hw)
  unfold DSt.effC DSt.effS DSt.effL at HE
  rw [hf] at HE
  have H := Lib.hid h
  have HM := Lib.hid he
  clear h hw he hf
  go_enter Try.func52, Try.ntmps52
  go_wp2_with fail
  refine (findYes bm st D L e _ H.out hd HM.out).mono ?_
  rintro e1 w1 ⟨rfl, rfl⟩
  rw [errV_zero]
  go_wp2_with fail
  refine HE.out.mono ?_
  rintro e1 w1 ⟨rfl, hd1, hg1⟩
  have HX := Lib.hid (And.intro hd1 hg1)
  clear hd1 hg1
  simp only [if_true]
  rw [errV_succ]
  go_wp2_with fail
  go_ret
  exact ⟨rfl, HX.out⟩
set_option maxRecDepth 100000 in
set_option maxHeartbeats 4000000 in
theorem delDown (bm : Nat) (st : DSt) (D : DataW Unit) (L : List Ent) (n : ByteArray) (w : World) (h : IsDisk w bm st D L) (hd : st.down = true) : Calls Try.prog 53 #[.pointer (some ⟨bm + 1, 0, none⟩), .string n] w (DErr 15 w) := by
  have k1 := code_neq_nil
  go_enter Try.func53, Try.ntmps53
  go_wp2_with fail
  refine (findDown bm st D L n _ h hd).mono ?_
  rintro e w1 ⟨rfl, rfl⟩
  rw [errV_succ]
  go_wp2_with fail
  go_ret
  exact ⟨rfl, rfl⟩
set_option maxRecDepth 100000 in
set_option maxHeartbeats 4000000 in
theorem delNo (bm : Nat) (st : DSt) (D : DataW Unit) (L : List Ent) (n : ByteArray) (w : World) (h : IsDisk w bm st D L) (hd : st.down = false) (hn : ∀ e ∈ L, e.name ≠ n) (hs : n.size ≤ maxLen) : Calls Try.prog 53 #[.pointer (some ⟨bm + 1, 0, none⟩), .string n] w (DErr 5 w) := by
  have k1 := code_neq_nil
  have H := Lib.hid hn
  clear hn
  go_enter Try.func53, Try.ntmps53
  go_wp2_with fail
  refine (findNo bm st D L n _ h hd H.out hs).mono ?_
  rintro e w1 ⟨rfl, rfl⟩
  rw [errV_succ]
  go_wp2_with fail
  go_ret
  exact ⟨rfl, rfl⟩
set_option maxRecDepth 100000 in
set_option maxHeartbeats 4000000 in
theorem delFalls (bm : Nat) (st : DSt) (D : DataW Unit) (L : List Ent) (e : Ent) (w : World) (h : IsDisk w bm st D L) (hw : DWf st L) (hd : st.down = false) (he : e ∈ L) (hf : st.falls = true) : Calls Try.prog 53 #[.pointer (some ⟨bm + 1, 0, none⟩), .string e.name] w (DEff 15 bm st.fall D L (L.map (Ent.crash st.keep)) w) := by
  have k1 := code_neq_nil
  have k2 := code_nil_neq_nil
  have HE := Lib.hid (diskEffect bm st D L w h hw)
  unfold DSt.effC DSt.effS DSt.effL at HE
  rw [hf] at HE
  have H := Lib.hid h
  have HM := Lib.hid he
  clear h hw he hf
  go_enter Try.func53, Try.ntmps53
  go_wp2_with fail
  refine (findYes bm st D L e _ H.out hd HM.out).mono ?_
  rintro e1 w1 ⟨rfl, rfl⟩
  rw [errV_zero]
  go_wp2_with fail
  refine HE.out.mono ?_
  rintro e1 w1 ⟨rfl, hd1, hg1⟩
  have HX := Lib.hid (And.intro hd1 hg1)
  clear hd1 hg1
  simp only [if_true]
  rw [errV_succ]
  go_wp2_with fail
  go_ret
  exact ⟨rfl, HX.out⟩
set_option maxRecDepth 100000 in
set_option maxHeartbeats 4000000 in
theorem cutLow (bm : Nat) (st : DSt) (D : DataW Unit) (L : List Ent) (e : Ent) (k : Int) (w : World) (h : IsDisk w bm st D L) (hd : st.down = false) (he : e ∈ L) (hk : k < 0) : Calls Try.prog 51 #[.pointer (some ⟨bm + 1, 0, none⟩), .string e.name, .int .i64 k] w (DErr 1 w) := by
  have k1 := code_neq_nil
  have k2 := code_nil_neq_nil
  have hfe := h.fs.file e he
  have q0 := cell_of_row w e.bf 0 _ _ _ hfe.box
  simp at q0
  obtain ⟨va, vc, hev, _⟩ := hfe.own.out
  rw [hev] at q0
  clear hfe hev
  have H := Lib.hid h
  have HM := Lib.hid he
  have d1 : decide (k < 0) = true := by simp; omega
  clear h he hk
  go_enter Try.func51, Try.ntmps51
  go_wp2_with fail
  refine (findYes bm st D L e _ H.out hd HM.out).mono ?_
  rintro e1 w1 ⟨rfl, rfl⟩
  rw [errV_zero]
  go_wp2_with fail
  go_ret
  exact ⟨rfl, rfl⟩
set_option maxRecDepth 100000 in
set_option maxHeartbeats 4000000 in
theorem cutHigh (bm : Nat) (st : DSt) (D : DataW Unit) (L : List Ent) (e : Ent) (k : Int) (w : World) (h : IsDisk w bm st D L) (hd : st.down = false) (he : e ∈ L) (hk0 : 0 ≤ k) (hk : (e.f.b.length : Int) < k) : Calls Try.prog 51 #[.pointer (some ⟨bm + 1, 0, none⟩), .string e.name, .int .i64 k] w (DErr 1 w) := by
  have k1 := code_neq_nil
  have k2 := code_nil_neq_nil
  have hfe := h.fs.file e he
  have q0 := cell_of_row w e.bf 0 _ _ _ hfe.box
  simp at q0
  obtain ⟨va, vc, hev, _⟩ := hfe.own.out
  rw [hev] at q0
  clear hfe hev
  have H := Lib.hid h
  have HM := Lib.hid he
  have d1 : decide (k < 0) = false := by simp; omega
  have d2 : decide ((e.f.b.length : Int) < k) = true := by simp; omega
  clear h he hk
  go_enter Try.func51, Try.ntmps51
  go_wp2_with fail
  refine (findYes bm st D L e _ H.out hd HM.out).mono ?_
  rintro e1 w1 ⟨rfl, rfl⟩
  rw [errV_zero]
  go_wp2_with fail
  go_ret
  exact ⟨rfl, rfl⟩
/-! The ways that come to it -/
theorem delSet {w w1 : World} {bm : Nat} {st : DSt} {D : DataW Unit} {e : Ent} {R : List Ent} (h : IsDisk w bm st D (e :: R)) (ho : w1.ownsMap Try.prog 9 fileElem bm st.eff (D.del (fk e.name))) (hg : w.grownBy w1 (some bm)) :
    IsDisk w1 bm st (D.del (fk e.name)) R ∧ DGrew bm w w1 (e :: R) R := by
  have hbl : ∀ k, k < w.heap.size → k ≠ bm → w1.heap[k]? = w.heap[k]? := fun k hk hne => hg.block k hk (by simp; omega)
  have hbm1 := own_lt h (.inr (.inl rfl))
  refine ⟨⟨(hbl _ hbm1 (by omega)).trans h.box, ho, h.fs.map.sub (names_ne h), fun q hq => ?_, (List.pairwise_cons.1 h.fs.apart).2⟩, hg.os, hg.tape, hg.output, hg.size, fun k hk hno => hbl k hk (fun e => hno (.inl e)), fun k hk => ?_⟩
  · have hqm := List.mem_cons_of_mem e hq
    have hf := h.fs.file q hqm
    refine hf.kept fun k h1 => hbl k (own_lt h (.inr (.inr ⟨q, hqm, h1⟩))) ?_
    rcases h1 with rfl | h1
    · have := hf.lo; omega
    · have := (hf.own.block k h1).1; omega
  · rcases hk with hk | hk | ⟨q, hq, h1⟩
    · exact .inl (.inl hk)
    · exact .inl (.inr (.inl hk))
    · exact .inl (.inr (.inr ⟨q, List.mem_cons_of_mem _ hq, h1⟩))
set_option maxRecDepth 100000 in
set_option maxHeartbeats 4000000 in
theorem delOk (bm : Nat) (st : DSt) (D : DataW Unit) (e : Ent) (R : List Ent) (w : World) (h : IsDisk w bm st D (e :: R)) (hw : DWf st (e :: R)) (hd : st.down = false) (hf : st.falls = false) : Calls Try.prog 53 #[.pointer (some ⟨bm + 1, 0, none⟩), .string e.name] w (DEff 0 bm st.next (D.del (fk e.name)) (e :: R) R w) := by
  have k1 := code_neq_nil
  have k2 := code_nil_neq_nil
  have HE := Lib.hid (diskEffect bm st D (e :: R) w h hw)
  unfold DSt.effC DSt.effS DSt.effL at HE
  rw [hf] at HE
  have H := Lib.hid h
  have HK := Lib.hid (keyOf_str e.name (h.fs.file e (by simp)).nm)
  clear h hw hf
  go_enter Try.func53, Try.ntmps53
  go_wp2_with fail
  refine (findYes bm st D (e :: R) e _ H.out hd (by simp)).mono ?_
  rintro e1 w1 ⟨rfl, rfl⟩
  rw [errV_zero]
  go_wp2_with fail
  refine HE.out.mono ?_
  rintro e1 w1 ⟨rfl, hd1, hg1⟩
  simp only [Bool.false_eq_true, if_false] at hd1 hg1 ⊢
  have HX := Lib.hid (And.intro hd1 hg1)
  obtain ⟨_, q1, _, _, _, _, _, _, hl1⟩ := hd1.cells
  clear hd1 hg1
  rw [errV_zero]
  go_wp2_with (at_delete; refine wpList_delete_own _ rfl _ _ 124 9 rfl 127 lawStr Try.underlying124 fileElem bm _ D rfl HX.out.1.fs.own _ _ rfl HK.out ?hh1)
  intro w3 ho3 ht3
  have HF := Lib.hid (delSet HX.out.1 ho3 ht3.grown)
  clear ho3 ht3
  go_wp2
  go_ret
  exact ⟨rfl, HF.out.1, HX.out.2.trans HF.out.2⟩
set_option maxRecDepth 100000 in
set_option maxHeartbeats 4000000 in
theorem cutOk (bm : Nat) (st : DSt) (D : DataW Unit) (e : Ent) (R : List Ent) (k : Nat) (w : World) (h : IsDisk w bm st D (e :: R)) (hw : DWf st (e :: R)) (hd : st.down = false) (hf : st.falls = false) (hk : k ≤ e.f.b.length) : Calls Try.prog 51 #[.pointer (some ⟨bm + 1, 0, none⟩), .string e.name, .int .i64 (k : Int)] w (DEff 0 bm st.next D (e :: R) ({ e with f := ⟨e.f.b.take k, min e.f.s k⟩, v := cutV e.v k } :: R) w) := by
  have k1 := code_neq_nil
  have k2 := code_nil_neq_nil
  have HE := Lib.hid (diskEffect bm st D (e :: R) w h hw)
  unfold DSt.effC DSt.effS DSt.effL at HE
  rw [hf] at HE
  have H := Lib.hid h
  have HFL := Lib.hid (hw.file e (by simp))
  have hfe := h.fs.file e (by simp)
  have q0 := cell_of_row w e.bf 0 _ _ _ hfe.box
  simp at q0
  obtain ⟨va, vc, hev, _, hvc, hvm⟩ := hfe.own.out
  rw [hev] at q0
  have HEV := Lib.hid hev
  have d1 : decide ((k : Int) < 0) = false := by simp
  have d2 : decide ((e.f.b.length : Int) < (k : Int)) = false := by simp; omega
  have d3 : decide (e.f.b.length < k) = false := by simp; omega
  have b1 : (0 : Int) ≤ (k : Int) := by omega
  have b2 : (k : Int) ≤ (vc : Int) := by omega
  have b3 : k ≤ vc := by omega
  have HKL := Lib.hid hk
  have HSL := Lib.hid hfe.le
  clear h hw hf hfe hev hk
  go_enter Try.func51, Try.ntmps51
  go_wp2_with fail
  refine (findYes bm st D (e :: R) e _ H.out hd (by simp)).mono ?_
  rintro e1 w1 ⟨rfl, rfl⟩
  rw [errV_zero]
  go_wp2_with fail
  refine HE.out.mono ?_
  rintro e1 w1 ⟨rfl, hd1, hg1⟩
  simp only [Bool.false_eq_true, if_false] at hd1 hg1 ⊢
  have HX := Lib.hid (And.intro hd1 hg1)
  have hfe := hd1.fs.file e (by simp)
  have q0 := cell_of_row w1 e.bf 0 _ _ _ hfe.box
  have q1 := cell_of_row w1 e.bf 1 _ _ _ hfe.box
  have f0 := frozen_of_row w1 e.bf 0 _ _ hfe.box
  have f1 := frozen_of_row w1 e.bf 1 _ _ hfe.box
  simp at q0 q1
  rw [HEV.out] at q0
  have how : OwnB (bm + 2) w1 (.slice va k vc) (e.f.b.take k) := by have h1 := hfe.own.takeN k HKL.out; rw [HEV.out] at h1; exact h1
  have HFIN : Hid (∀ x : Int, x = ((min e.f.s k : Nat) : Int) → IsDisk ((w1.setCell ⟨e.bf, 0, none⟩ (.slice va k vc)).setCell ⟨e.bf, 1, none⟩ (.int .i64 x)) bm st.next D ({ e with f := ⟨e.f.b.take k, min e.f.s k⟩, v := cutV e.v k } :: R) ∧ DGrew bm w ((w1.setCell ⟨e.bf, 0, none⟩ (.slice va k vc)).setCell ⟨e.bf, 1, none⟩ (.int .i64 x)) (e :: R) ({ e with f := ⟨e.f.b.take k, min e.f.s k⟩, v := cutV e.v k } :: R)) := Lib.hid (by
    intro x hx
    have h6 := HX.out.1.file1 (.slice va k vc) ⟨e.f.b.take k, min e.f.s k⟩ x how (by rw [HEV.out]; cases va <;> rfl) hx (by have := HKL.out; simp only [List.length_take]; omega)
    have hcv : cutV e.v k = .slice va k vc := by rw [HEV.out]; rfl
    rw [hcv]
    exact ⟨h6.1, HX.out.2.trans h6.2.1⟩)
  clear hd1 hg1 hfe how
  rw [errV_zero]
  go_wp2_with fail
  all_goals
    go_ret
    exact ⟨rfl, HFIN.out _ (by omega)⟩
theorem MapIs.repl {D : DataW Unit} {L : List Ent} {e e' : Ent} (h : MapIs D (e :: L)) (hn : ∀ q ∈ L, q.name ≠ e.name) (he : e'.name = e.name) : MapIs (D.put (fk e'.name) (.lit (.int .i64 (e'.bf : Int)))) (e' :: L) := by
  have hm := h.at_ e (by simp)
  rw [← he] at hm hn
  refine ⟨h.tidy.put (fk_lit _) _, ?_, fun q hq => ?_, fun k hk => ?_⟩
  · rw [Maps.size_put h.tidy, hm.2, h.size]; simp
  · rcases List.mem_cons.1 hq with rfl | hq
    · exact ⟨fun z => Maps.atKey_put_same h.tidy.isMap (fk_lit _) _ z, Maps.has_put_same h.tidy.isMap (fk_lit _) _⟩
    · have hne : fk q.name ≠ fk e'.name := fun e1 => hn q hq (fk_inj e1)
      have hq' := h.at_ q (List.mem_cons_of_mem _ hq)
      exact ⟨fun z => (Maps.atKey_put_other hne _ z).trans (hq'.1 z), (Maps.has_put_other hne _).trans hq'.2⟩
  · by_cases e1 : k = fk e'.name
    · exact ⟨e', by simp, e1⟩
    · rw [Maps.has_put_other e1] at hk
      obtain ⟨q, hq, h1⟩ := h.only k hk
      rcases List.mem_cons.1 hq with rfl | hq
      · exact absurd (by rw [he]; exact h1) e1
      · exact ⟨q, List.mem_cons_of_mem _ hq, h1⟩
/-- The file of the name 'from' has the name 'to' (R2: the others, without one of that name). -/
theorem renSet {w w1 w2 : World} {bm : Nat} {st : DSt} {D D2 : DataW Unit} {e : Ent} {R R2 : List Ent} {to : ByteArray} (h : IsDisk w bm st D (e :: R)) (hsub : R2.Sublist R) (hto : ∀ q ∈ R2, q.name ≠ to) (hs : to.size ≤ maxLen)
    (hg1 : w.grownBy w1 (some bm)) (ho : w2.ownsMap Try.prog 9 fileElem bm st.eff D2) (hm : MapIs D2 ({ e with name := to } :: R2)) (hg : w1.grownBy w2 (some bm)) :
    IsDisk w2 bm st D2 ({ e with name := to } :: R2) ∧ DGrew bm w w2 (e :: R) ({ e with name := to } :: R2) := by
  have hbl : ∀ k, k < w.heap.size → k ≠ bm → w2.heap[k]? = w.heap[k]? := fun k hk hne => by
    rw [hg.block k (by have := hg1.size; omega) (by simp; omega), hg1.block k hk (by simp; omega)]
  have hbm1 := own_lt h (.inr (.inl rfl))
  have kept : ∀ q ∈ e :: R, ∀ k, k = q.bf ∨ q.v.ownBlock = some k → w2.heap[k]? = w.heap[k]? := fun q hq k h1 => by
    refine hbl k (own_lt h (.inr (.inr ⟨q, hq, h1⟩))) ?_
    have hf := h.fs.file q hq
    rcases h1 with rfl | h1
    · have := hf.lo; omega
    · have := (hf.own.block k h1).1; omega
  have hap := List.pairwise_cons.1 h.fs.apart
  refine ⟨⟨(hbl _ hbm1 (by omega)).trans h.box, ho, hm, fun q hq => ?_, List.pairwise_cons.2 ⟨fun q hq => ?_, hap.2.sublist hsub⟩⟩, hg.os.trans hg1.os, hg.tape.trans hg1.tape, hg.output.trans hg1.output, Nat.le_trans hg1.size hg.size, fun k hk hno => hbl k hk (fun e => hno (.inl e)), fun k hk => ?_⟩
  · rcases List.mem_cons.1 hq with rfl | hq
    · have hf := (h.fs.file e (by simp)).kept (kept e (by simp))
      exact ⟨hf.box, hf.own, hf.lo, hf.ne, hf.le, hs⟩
    · have hq' := List.mem_cons_of_mem e (hsub.subset hq)
      exact (h.fs.file q hq').kept (kept q hq')
  · have ha := hap.1 q (hsub.subset hq)
    exact ⟨(hto q hq).symm, ha.bf, ha.l, ha.r, ha.v⟩
  · rcases hk with hk | hk | ⟨q, hq, h1⟩
    · exact .inl (.inl hk)
    · exact .inl (.inr (.inl hk))
    · rcases List.mem_cons.1 hq with rfl | hq
      · exact .inl (.inr (.inr ⟨e, by simp, h1⟩))
      · exact .inl (.inr (.inr ⟨q, List.mem_cons_of_mem _ (hsub.subset hq), h1⟩))
set_option maxRecDepth 100000 in
set_option maxHeartbeats 4000000 in
theorem renOk (bm : Nat) (st : DSt) (D : DataW Unit) (e : Ent) (R R2 : List Ent) (to : ByteArray) (w : World) (h : IsDisk w bm st D (e :: R)) (hw : DWf st (e :: R)) (hd : st.down = false) (hf : st.falls = false) (hs : to.size ≤ maxLen) (hsub : R2.Sublist R) (hto : ∀ q ∈ R2, q.name ≠ to) (hm : MapIs ((D.del (fk e.name)).put (fk to) (.lit (.int .i64 (e.bf : Int)))) ({ e with name := to } :: R2)) : Calls Try.prog 52 #[.pointer (some ⟨bm + 1, 0, none⟩), .string e.name, .string to] w (DEff 0 bm st.next ((D.del (fk e.name)).put (fk to) (.lit (.int .i64 (e.bf : Int)))) (e :: R) ({ e with name := to } :: R2) w) := by
  have k1 := code_neq_nil
  have k2 := code_nil_neq_nil
  have HE := Lib.hid (diskEffect bm st D (e :: R) w h hw)
  unfold DSt.effC DSt.effS DSt.effL at HE
  rw [hf] at HE
  have H := Lib.hid h
  have HK := Lib.hid (keyOf_str e.name (h.fs.file e (by simp)).nm)
  have HK2 := Lib.hid (keyOf_str to hs)
  have HS := Lib.hid hs
  have HSUB := Lib.hid hsub
  have HTO := Lib.hid hto
  have HM := Lib.hid hm
  have HEFF := Lib.hid hw.eff
  clear h hw hf hs hsub hto hm
  go_enter Try.func52, Try.ntmps52
  go_wp2_with fail
  refine (findYes bm st D (e :: R) e _ H.out hd (by simp)).mono ?_
  rintro e1 w1 ⟨rfl, rfl⟩
  rw [errV_zero]
  go_wp2_with fail
  refine HE.out.mono ?_
  rintro e1 w1 ⟨rfl, hd1, hg1⟩
  simp only [Bool.false_eq_true, if_false] at hd1 hg1 ⊢
  have HX := Lib.hid (And.intro hd1 hg1)
  obtain ⟨_, q1, _, _, _, _, _, _, hl1⟩ := hd1.cells
  clear hd1 hg1
  rw [errV_zero]
  go_wp2_with (at_delete; refine wpList_delete_own _ rfl _ _ 124 9 rfl 127 lawStr Try.underlying124 fileElem bm _ D rfl HX.out.1.fs.own _ _ rfl HK.out ?hh1)
  intro w3 ho3 ht3
  have HG3 := Lib.hid ht3.grown
  have HO3 := Lib.hid (own_size ho3).2
  have HZ3 := Lib.hid (show Maps.size (D.del (fk e.name)) + 1 ≤ st.next.eff by
    have h1 := (own_size HX.out.1.fs.own).1
    have h2 := Maps.size_del (k := fk e.name) H.out.fs.map.tidy
    rw [(H.out.fs.map.at_ e (by simp)).2] at h2
    have h3 : 0 < Maps.size D := by rw [H.out.fs.map.size]; simp
    simp at h2
    omega)
  have q2 := HG3.out.cell q1 (by simp)
  clear ho3 ht3 q1
  go_wp2_with (at_mapUpdate; refine wpList_mapUpdate_own _ rfl _ _ _ 124 rfl 9 127 lawStr Try.underlying124 fileElem bm _ _ rfl HO3.out ?c1 _ _ _ rfl rfl HK2.out _ [] (fileElem_mk _) ?hh2)
  case c1 => have h1 := HZ3.out; have h2 := HEFF.out; unfold maxLen; simp only [DSt.next] at h1; omega
  intro w4 ho4 hg4
  have HF := Lib.hid (renSet HX.out.1 HSUB.out HTO.out HS.out HG3.out (ho4.mono HZ3.out) HM.out hg4)
  clear ho4 hg4
  go_wp2
  go_ret
  exact ⟨rfl, HF.out.1, HX.out.2.trans HF.out.2⟩
end Go.Proofs.Ytnpalplnpfgibaa
