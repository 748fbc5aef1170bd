/- Contracts of disk's Create. -/
import Derived.Test.YtnpalplnpfgibaaDiskAppend
namespace Go.Proofs.Ytnpalplnpfgibaa
open Go.RowKit
theorem own_size {w : World} {b n : Nat} {D : DataW Unit} (h : w.ownsMap Try.prog 9 fileElem b n D) : Maps.size D ≤ n ∧ w.ownsMap Try.prog 9 fileElem b (Maps.size D) D := by
  obtain ⟨es, clock, hb, F, hs, rfl⟩ := h
  have e1 : Maps.size (DataW.map ((es.toList.map (WideElems.rg Try.prog 9 fileElem)).foldr DataW.insert [])) = es.size := by simp [Maps.size, length_sorted]
  exact ⟨by rw [e1]; exact hs, es, clock, hb, F, by rw [e1]; exact Nat.le_refl _, rfl⟩
theorem MapIs.add {D : DataW Unit} {L : List Ent} (h : MapIs D L) (e : Ent) (hn : ∀ q ∈ L, q.name ≠ e.name) : MapIs (D.put (fk e.name) (.lit (.int .i64 (e.bf : Int)))) (e :: L) := by
  have hno := h.no e.name hn
  refine ⟨h.tidy.put (fk_lit _) _, ?_, fun q hq => ?_, fun k hk => ?_⟩
  · rw [Maps.size_put h.tidy, hno, h.size]; simp
  · rcases List.mem_cons.1 hq with rfl | hq
    · exact ⟨fun z => Maps.atKey_put_same h.tidy.isMap (fk_lit _) _ z, Maps.has_put_same h.tidy.isMap (fk_lit _) _⟩
    · have hne : fk q.name ≠ fk e.name := fun e' => hn q hq (fk_inj e')
      exact ⟨fun z => (Maps.atKey_put_other hne _ z).trans ((h.at_ q hq).1 z), (Maps.has_put_other hne _).trans (h.at_ q hq).2⟩
  · by_cases e1 : k = fk e.name
    · exact ⟨e, by simp, e1⟩
    · rw [Maps.has_put_other e1] at hk
      obtain ⟨q, hq, h1⟩ := h.only k hk
      exact ⟨q, List.mem_cons_of_mem _ hq, h1⟩
theorem MapIs.sub {D : DataW Unit} {L : List Ent} {e : Ent} (h : MapIs D (e :: L)) (hn : ∀ q ∈ L, q.name ≠ e.name) : MapIs (D.del (fk e.name)) L := by
  have hm := h.at_ e (by simp)
  refine ⟨h.tidy.del _, ?_, fun q hq => ?_, fun k hk => ?_⟩
  · have h1 := Maps.size_del (k := fk e.name) h.tidy
    rw [hm.2, h.size] at h1
    simp at h1
    exact h1
  · have hne : fk q.name ≠ fk e.name := fun e' => hn q hq (fk_inj e')
    have hq' := h.at_ q (List.mem_cons_of_mem _ hq)
    exact ⟨fun z => (Maps.atKey_del_other hne z).trans (hq'.1 z), (Maps.has_del_other hne).trans hq'.2⟩
  · by_cases e1 : k = fk e.name
    · subst e1
      rw [Maps.has_del_same] at hk
      cases hk
    · rw [Maps.has_del_other e1] at hk
      obtain ⟨q, hq, h1⟩ := h.only k hk
      rcases List.mem_cons.1 hq with rfl | hq
      · exact absurd h1 e1
      · exact ⟨q, hq, h1⟩
def newEnt (n : ByteArray) (b : Nat) : Ent := ⟨n, ⟨[], 0⟩, b, .slice none 0 0⟩
/-- A new file. -/
theorem addSet {w w1 : World} {bm : Nat} {st : DSt} {D : DataW Unit} {L : List Ent} {n : ByteArray} (h : IsDisk w bm st D L) (hn : ∀ q ∈ L, q.name ≠ n) (hs : n.size ≤ maxLen) (hr : L.length + 1 ≤ st.eff)
    (ho : w1.ownsMap Try.prog 9 fileElem bm (L.length + 1) (D.put (fk n) (.lit (.int .i64 (w.heap.size : Int))))) (hg : (w.alloc (.cells #[.slice none 0 0, .int .i64 0] 131)).grownBy w1 (some bm)) :
    IsDisk w1 bm st (D.put (fk n) (.lit (.int .i64 (w.heap.size : Int)))) (newEnt n w.heap.size :: L) ∧ DGrew bm w w1 L (newEnt n w.heap.size :: L) := by
  have hbl : ∀ k, k < w.heap.size → k ≠ bm → w1.heap[k]? = w.heap[k]? := fun k hk hne => by
    rw [hg.block k (by simp; omega) (by simp; omega), Below.heap_alloc _ _ _ hk]
  have hbm := h.fs.own.lt
  have hbm1 := own_lt h (.inr (.inl rfl))
  have hnew : w1.heap[w.heap.size]? = some (.cells #[.slice none 0 0, .int .i64 0] 131 (0, 0)) := by
    rw [hg.block w.heap.size (by simp) (by simp; omega)]
    exact heap_alloc_new w _
  have hz : w.heap.size ≤ w1.heap.size := by have := hg.size; simp at this; omega
  refine ⟨⟨(hbl _ hbm1 (by omega)).trans h.box, ho.mono hr, h.fs.map.add (newEnt n w.heap.size) hn, fun q hq => ?_, List.pairwise_cons.2 ⟨fun q hq => ?_, h.fs.apart⟩⟩, hg.os, hg.tape, hg.output, hz, fun k hk hno => hbl k hk (fun e => hno (.inl e)), fun k hk => ?_⟩
  · rcases List.mem_cons.1 hq with rfl | hq
    · exact ⟨hnew, OwnB.nil _ _, by simp only [newEnt]; omega, fun e => (by cases e), Nat.le_refl _, hs⟩
    · have hf := h.fs.file q hq
      refine hf.kept fun k h1 => hbl k (own_lt h (.inr (.inr ⟨q, hq, h1⟩))) ?_
      rcases h1 with rfl | h1
      · have := hf.lo; omega
      · have := (hf.own.block k h1).1; omega
  · have hlt : ∀ k, k = q.bf ∨ q.v.ownBlock = some k → k < w.heap.size := fun k h1 => own_lt h (.inr (.inr ⟨q, hq, h1⟩))
    exact ⟨fun e => hn q hq e.symm, fun e => by have := hlt q.bf (.inl rfl); simp only [newEnt] at e; omega, fun e => (by cases e), fun e => by have := hlt _ (.inr e); simp only [newEnt] at this; omega, fun k hk => (by cases hk)⟩
  · rcases hk with hk | hk | ⟨q, hq, hk⟩
    · exact .inl (.inl hk)
    · exact .inl (.inr (.inl hk))
    · rcases List.mem_cons.1 hq with rfl | hq
      · rcases hk with hk | hk
        · exact .inr (by simp only [newEnt] at hk; omega)
        · cases hk
      · exact .inl (.inr (.inr ⟨q, hq, hk⟩))
set_option maxRecDepth 100000 in
set_option maxHeartbeats 4000000 in
theorem createDown (bm : Nat) (st : DSt) (D : DataW Unit) (L : List Ent) (n : ByteArray) (w : World) (h : IsDisk w bm st D L) (hs : n.size ≤ maxLen) (hd : st.down = true) : Calls Try.prog 24 #[.pointer (some ⟨bm + 1, 0, none⟩), .string n] w (DErr 15 w) := by
  have k1 := code_neq_nil
  have k2 := code_nil_neq_nil
  obtain ⟨c0, c1, c2, c3, c4, c5, c6, _, hlt⟩ := h.cells
  have HK := Lib.hid (keyOf_str n hs)
  have HO := Lib.hid h.fs.own
  have HS := Lib.hid hs
  have H := Lib.hid h
  have hln := fun ty => h.fs.own.len Try.underlying124 ty
  rw [h.fs.map.size] at hln
  obtain ⟨b, hb⟩ : ∃ b, Maps.has D (fk n) = b := ⟨_, rfl⟩
  have HH := Lib.hid hb
  rw [hd] at c6
  clear hd hb
  clear h hs c0 c2 c3 c4 c5
  go_enter Try.func24, Try.ntmps24
  go_wp2_with (at_lookup; refine wpList_lookup_own_ok _ rfl _ _ 124 rfl 9 127 lawStr Try.underlying124 fileElem (zero_file _) (.lit (.int .i64 (-1))) [] fileElem_nil bm _ D rfl HO.out _ _ rfl HK.out ?hh1)
  intro v ps hv
  obtain ⟨fc, rfl⟩ := fileV_inv v _ hv
  rw [HH.out]
  clear hv
  go_wp2_with fail
  go_ret
  exact ⟨rfl, rfl⟩
set_option maxRecDepth 100000 in
set_option maxHeartbeats 4000000 in
theorem createTwice (bm : Nat) (st : DSt) (D : DataW Unit) (L : List Ent) (n : ByteArray) (w : World) (h : IsDisk w bm st D L) (hs : n.size ≤ maxLen) (hd : st.down = false) (e : Ent) (he : e ∈ L) (hen : e.name = n) : Calls Try.prog 24 #[.pointer (some ⟨bm + 1, 0, none⟩), .string n] w (DErr 6 w) := by
  have k1 := code_neq_nil
  have k2 := code_nil_neq_nil
  obtain ⟨c0, c1, c2, c3, c4, c5, c6, _, hlt⟩ := h.cells
  have HK := Lib.hid (keyOf_str n hs)
  have HO := Lib.hid h.fs.own
  have HS := Lib.hid hs
  have H := Lib.hid h
  have hln := fun ty => h.fs.own.len Try.underlying124 ty
  rw [h.fs.map.size] at hln
  have HH := Lib.hid (hen ▸ (h.fs.map.at_ e he).2)
  rw [hd] at c6
  clear hd he hen
  clear h hs c0 c2 c3 c4 c5
  go_enter Try.func24, Try.ntmps24
  go_wp2_with (at_lookup; refine wpList_lookup_own_ok _ rfl _ _ 124 rfl 9 127 lawStr Try.underlying124 fileElem (zero_file _) (.lit (.int .i64 (-1))) [] fileElem_nil bm _ D rfl HO.out _ _ rfl HK.out ?hh1)
  intro v ps hv
  obtain ⟨fc, rfl⟩ := fileV_inv v _ hv
  rw [HH.out]
  clear hv
  go_wp2_with fail
  go_ret
  exact ⟨rfl, rfl⟩
set_option maxRecDepth 100000 in
set_option maxHeartbeats 4000000 in
theorem createMany (bm : Nat) (st : DSt) (D : DataW Unit) (L : List Ent) (n : ByteArray) (w : World) (h : IsDisk w bm st D L) (hs : n.size ≤ maxLen) (hd : st.down = false) (hn : ∀ q ∈ L, q.name ≠ n) (hm : 1000 ≤ L.length) : Calls Try.prog 24 #[.pointer (some ⟨bm + 1, 0, none⟩), .string n] w (DErr 12 w) := by
  have k1 := code_neq_nil
  have k2 := code_nil_neq_nil
  obtain ⟨c0, c1, c2, c3, c4, c5, c6, _, hlt⟩ := h.cells
  have HK := Lib.hid (keyOf_str n hs)
  have HO := Lib.hid h.fs.own
  have HS := Lib.hid hs
  have H := Lib.hid h
  have hln := fun ty => h.fs.own.len Try.underlying124 ty
  rw [h.fs.map.size] at hln
  have HN := Lib.hid hn
  have HH := Lib.hid (h.fs.map.no n hn)
  clear hn
  rw [hd] at c6
  have dm : decide ((1000 : Int) ≤ (L.length : Int)) = true := by simp; omega
  clear hd hm
  clear h hs c0 c2 c3 c4 c5
  go_enter Try.func24, Try.ntmps24
  go_wp2_with (at_lookup; refine wpList_lookup_own_ok _ rfl _ _ 124 rfl 9 127 lawStr Try.underlying124 fileElem (zero_file _) (.lit (.int .i64 (-1))) [] fileElem_nil bm _ D rfl HO.out _ _ rfl HK.out ?hh1)
  intro v ps hv
  obtain ⟨fc, rfl⟩ := fileV_inv v _ hv
  rw [HH.out]
  clear hv
  go_wp2_with fail
  go_ret
  exact ⟨rfl, rfl⟩
set_option maxRecDepth 100000 in
set_option maxHeartbeats 4000000 in
theorem createFalls (bm : Nat) (st : DSt) (D : DataW Unit) (L : List Ent) (n : ByteArray) (w : World) (h : IsDisk w bm st D L) (hs : n.size ≤ maxLen) (hw : DWf st L) (hd : st.down = false) (hn : ∀ q ∈ L, q.name ≠ n) (hm : L.length < 1000) (hf : st.falls = true) : Calls Try.prog 24 #[.pointer (some ⟨bm + 1, 0, none⟩), .string n] w (DEff 15 bm st.fall D L (L.map (Ent.crash st.keep)) w) := by
  have k1 := code_neq_nil
  have k2 := code_nil_neq_nil
  obtain ⟨c0, c1, c2, c3, c4, c5, c6, _, hlt⟩ := h.cells
  have HK := Lib.hid (keyOf_str n hs)
  have HO := Lib.hid h.fs.own
  have HS := Lib.hid hs
  have H := Lib.hid h
  have hln := fun ty => h.fs.own.len Try.underlying124 ty
  rw [h.fs.map.size] at hln
  have HN := Lib.hid hn
  have HH := Lib.hid (h.fs.map.no n hn)
  clear hn
  rw [hd] at c6
  have dm : decide ((1000 : Int) ≤ (L.length : Int)) = false := by simp; omega
  have HE := Lib.hid (diskEffect bm st D L w h hw)
  unfold DSt.effC DSt.effS DSt.effL at HE
  rw [hf] at HE
  have HLN := Lib.hid (show L.length ≤ st.eff by rw [← h.fs.map.size]; exact (own_size h.fs.own).1)
  have HM := Lib.hid (show L.length < maxLen by unfold maxLen; omega)
  clear hd hm hf hw
  clear h hs c0 c2 c3 c4 c5
  go_enter Try.func24, Try.ntmps24
  go_wp2_with (at_lookup; refine wpList_lookup_own_ok _ rfl _ _ 124 rfl 9 127 lawStr Try.underlying124 fileElem (zero_file _) (.lit (.int .i64 (-1))) [] fileElem_nil bm _ D rfl HO.out _ _ rfl HK.out ?hh1)
  intro v ps hv
  obtain ⟨fc, rfl⟩ := fileV_inv v _ hv
  rw [HH.out]
  clear hv
  go_wp2_with fail
  refine HE.out.mono ?_
  rintro e1 w1 ⟨rfl, hd1, hg1⟩
  have HX := Lib.hid (And.intro hd1 hg1)
  clear hd1 hg1
  simp only [if_true]
  rw [errV_succ]
  go_wp2_with fail
  go_ret
  exact ⟨rfl, HX.out⟩
def CreOk (bm : Nat) (st : DSt) (L : List Ent) (n : ByteArray) (w : World) (x : Ending) (w' : World) : Prop := x = .returned (errV 0) ∧ ∃ b D', IsDisk w' bm st.next D' (newEnt n b :: L) ∧ DGrew bm w w' L (newEnt n b :: L)
set_option maxRecDepth 100000 in
set_option maxHeartbeats 4000000 in
theorem createOk (bm : Nat) (st : DSt) (D : DataW Unit) (L : List Ent) (n : ByteArray) (w : World) (h : IsDisk w bm st D L) (hs : n.size ≤ maxLen) (hw : DWf st L) (hd : st.down = false) (hn : ∀ q ∈ L, q.name ≠ n) (hm : L.length < 1000) (hf : st.falls = false) : Calls Try.prog 24 #[.pointer (some ⟨bm + 1, 0, none⟩), .string n] w (CreOk bm st L n w) := by
  have k1 := code_neq_nil
  have k2 := code_nil_neq_nil
  obtain ⟨c0, c1, c2, c3, c4, c5, c6, _, hlt⟩ := h.cells
  have HK := Lib.hid (keyOf_str n hs)
  have HO := Lib.hid h.fs.own
  have HS := Lib.hid hs
  have H := Lib.hid h
  have hln := fun ty => h.fs.own.len Try.underlying124 ty
  rw [h.fs.map.size] at hln
  have HN := Lib.hid hn
  have HH := Lib.hid (h.fs.map.no n hn)
  clear hn
  rw [hd] at c6
  have dm : decide ((1000 : Int) ≤ (L.length : Int)) = false := by simp; omega
  have HE := Lib.hid (diskEffect bm st D L w h hw)
  unfold DSt.effC DSt.effS DSt.effL at HE
  rw [hf] at HE
  have HLN := Lib.hid (show L.length ≤ st.eff by rw [← h.fs.map.size]; exact (own_size h.fs.own).1)
  have HM := Lib.hid (show L.length < maxLen by unfold maxLen; omega)
  clear hd hm hf hw
  clear h hs c0 c2 c3 c4 c5
  go_enter Try.func24, Try.ntmps24
  go_wp2_with (at_lookup; refine wpList_lookup_own_ok _ rfl _ _ 124 rfl 9 127 lawStr Try.underlying124 fileElem (zero_file _) (.lit (.int .i64 (-1))) [] fileElem_nil bm _ D rfl HO.out _ _ rfl HK.out ?hh1)
  intro v ps hv
  obtain ⟨fc, rfl⟩ := fileV_inv v _ hv
  rw [HH.out]
  clear hv
  go_wp2_with fail
  refine HE.out.mono ?_
  rintro e1 w1 ⟨rfl, hd1, hg1⟩
  simp only [Bool.false_eq_true, if_false] at hd1 hg1 ⊢
  have HX := Lib.hid (And.intro hd1 hg1)
  have hot := (own_size hd1.fs.own).2
  rw [hd1.fs.map.size] at hot
  have HOT := Lib.hid (hot.alloc (.cells #[.slice none 0 0, .int .i64 0] 131))
  obtain ⟨_, q1, _, _, _, _, _, _, hl1⟩ := hd1.cells
  clear hd1 hg1 hot c1 c6 hln
  rw [errV_zero]
  go_wp2_with (at_mapUpdate; refine wpList_mapUpdate_own _ rfl _ _ _ 124 rfl 9 127 lawStr Try.underlying124 fileElem bm L.length D rfl HOT.out HM.out _ _ _ rfl rfl HK.out _ [] (fileElem_mk _) ?hh2)
  intro w3 ho3 hg3
  have HF := Lib.hid (addSet HX.out.1 HN.out HS.out (by have := HLN.out; simp only [DSt.next]; omega) ho3 hg3)
  clear ho3 hg3
  go_wp2
  go_ret
  exact ⟨rfl, _, _, HF.out.1, HX.out.2.trans HF.out.2⟩
end Go.Proofs.Ytnpalplnpfgibaa
