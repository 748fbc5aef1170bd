/- A crash: disk's effect, where it is planned and no effect is left. -/
import Derived.Test.YtnpalplnpfgibaaDisk
import Derived.BigRegion
import Derived.WalkLawsBesides
namespace Go.Proofs.Ytnpalplnpfgibaa
open Go.RowKit
def cutV : Value → Nat → Value
  | .slice a _ c, n => .slice a n c
  | v, _ => v
def File.kept (f : File) (keep : Nat) : Nat := f.s + min keep (f.b.length - f.s)
def Ent.crash (keep : Nat) (e : Ent) : Ent := { e with f := ⟨e.f.b.take (e.f.kept keep), e.f.kept keep⟩, v := cutV e.v (e.f.kept keep) }
theorem OwnB.takeN {B : Nat} {w : World} {v : Value} {l : List UInt8} (h : OwnB B w v l) (m : Nat) (hm : m ≤ l.length) : OwnB B w (cutV v m) (l.take m) := by
  have hl : (l.take m).length = m := by rw [List.length_take]; omega
  rcases h.2 with ⟨rfl, h0⟩ | ⟨g, cap, cur, rfl, hbg, hg, hnc, hcm, hcs, htake⟩
  · obtain rfl : m = 0 := by omega
    exact ⟨by simp, .inl ⟨rfl, by simp⟩⟩
  · refine ⟨by simp, .inr ⟨g, cap, cur, by rw [hl]; rfl, hbg, hg, by omega, hcm, hcs, ?_⟩⟩
    rw [hl, List.map_take, ← htake, List.take_take]
    congr 1
    omega
theorem cutV_block (v : Value) (m : Nat) : (cutV v m).ownBlock = v.ownBlock := by
  cases v <;> try rfl
  rename_i a _ _
  cases a <;> rfl
/-- The file's box, and its two stores. -/
theorem IsDisk.file1 {w : World} {bm : Nat} {st : DSt} {D : DataW Unit} {e : Ent} {R : List Ent} (h : IsDisk w bm st D (e :: R)) (v' : Value) (f' : File) (x : Int) (ho : OwnB (bm + 2) w v' f'.b) (hv : v'.ownBlock = e.v.ownBlock) (hx : x = (f'.s : Int)) (hs : f'.s ≤ f'.b.length) :
    IsDisk ((w.setCell ⟨e.bf, 0, none⟩ v').setCell ⟨e.bf, 1, none⟩ (.int .i64 x)) bm st D ({ e with f := f', v := v' } :: R) ∧ DGrew bm w ((w.setCell ⟨e.bf, 0, none⟩ v').setCell ⟨e.bf, 1, none⟩ (.int .i64 x)) (e :: R) ({ e with f := f', v := v' } :: R) ∧ w.grownBy ((w.setCell ⟨e.bf, 0, none⟩ v').setCell ⟨e.bf, 1, none⟩ (.int .i64 x)) (some e.bf) := by
  subst hx
  have hf := h.fs.file e (by simp)
  have s1 := heap_setCell_same w e.bf 0 _ _ v' hf.box
  have s2 := heap_setCell_same _ e.bf 1 _ _ (.int .i64 (f'.s : Int)) s1
  have oth : ∀ k, k ≠ e.bf → ((w.setCell ⟨e.bf, 0, none⟩ v').setCell ⟨e.bf, 1, none⟩ (.int .i64 (f'.s : Int))).heap[k]? = w.heap[k]? := fun k hk => by
    rw [Below.heap_setCell _ _ _ _ hk, Below.heap_setCell _ _ _ _ hk]
  have hg : w.grownBy ((w.setCell ⟨e.bf, 0, none⟩ v').setCell ⟨e.bf, 1, none⟩ (.int .i64 (f'.s : Int))) (some e.bf) := ⟨rfl, rfl, rfl, by simp [World.setCell], fun k _ hk => oth k (fun e' => hk (by rw [e']))⟩
  obtain ⟨h1, h2⟩ := h.one (e' := { e with f := f', v := v' }) ⟨s2, ho.kept fun k hk => oth k (fun e' => hf.ne (by rw [← hv, hk, e'])), hf.lo, by simp only; rw [hv]; exact hf.ne, hs, hf.nm⟩ rfl rfl (fun k hk => .inl (by rw [← hv]; exact hk)) rfl rfl rfl (by simp [World.setCell]) (fun k _ hk _ => oth k hk)
  exact ⟨h1, h2, hg⟩
def fileV : Option Nat → Value
  | some b => .pointer (some ⟨b, 0, none⟩)
  | none => .pointer none
theorem fileV_inv (v : Value) (y : DataW Unit × List MemPlace) (h : fileElem v = some y) : ∃ c, v = fileV c := by
  unfold fileElem at h
  split at h
  · exact ⟨some _, rfl⟩
  · exact ⟨none, rfl⟩
  · cases h
theorem str_inv (key : Value) (kl : Lit) (h : keyOf Try.prog 9 key = some kl) : ∃ x, key = .string x := by
  cases key <;> simp [keyOf, Try.underlying9, mapKey] at h
  exact ⟨_, rfl⟩
theorem str_key {x : ByteArray} {kl : Lit} (h : keyOf Try.prog 9 (.string x) = some kl) : kl = fk x := by
  simp [keyOf, Try.underlying9, mapKey] at h
  exact h.2.symm
/-- How far the loop over the files is. -/
structure Crashing (bm : Nat) (st : DSt) (D : DataW Unit) (L : List Ent) (r : Nat) (w : World) (Ld Lt : List Ent) (left : Lit → Bool) (cnt : Nat) (wr : World) : Prop where
  disk : IsDisk wr bm st D (Ld.map (Ent.crash st.keep) ++ Lt)
  perm : (Ld ++ Lt).Perm L
  rng : wr.ranges Try.prog 9 fileElem bm r st.eff D left cnt
  todo : ∀ e ∈ Lt, left (fk e.name) = true
  only : ∀ k, left k = true → ∃ e ∈ Lt, k = fk e.name
  grew : DGrew bm w wr L (Ld.map (Ent.crash st.keep) ++ Lt)
  rn : w.heap.size ≤ r
theorem crash_own (bm keep : Nat) (Ld Lt : List Ent) (k : Nat) : Own bm (Ld.map (Ent.crash keep) ++ Lt) k ↔ Own bm (Ld ++ Lt) k := by
  have key : ∀ e : Ent, (k = (Ent.crash keep e).bf ∨ (Ent.crash keep e).v.ownBlock = some k) ↔ (k = e.bf ∨ e.v.ownBlock = some k) := fun e => by
    unfold Ent.crash; simp only [cutV_block]
  unfold Own
  constructor
  · rintro (h | h | ⟨e, he, h⟩)
    · exact .inl h
    · exact .inr (.inl h)
    · rcases List.mem_append.1 he with he | he
      · obtain ⟨e0, h0, rfl⟩ := List.mem_map.1 he
        exact .inr (.inr ⟨e0, List.mem_append_left _ h0, (key e0).1 h⟩)
      · exact .inr (.inr ⟨e, List.mem_append_right _ he, h⟩)
  · rintro (h | h | ⟨e, he, h⟩)
    · exact .inl h
    · exact .inr (.inl h)
    · rcases List.mem_append.1 he with he | he
      · exact .inr (.inr ⟨_, List.mem_append_left _ (List.mem_map.2 ⟨e, he, rfl⟩), (key e).2 h⟩)
      · exact .inr (.inr ⟨e, List.mem_append_right _ he, h⟩)
def DSt.fall (st : DSt) : DSt := { st with down := true, planned := false }
theorem fallSet {bm : Nat} {st : DSt} {D : DataW Unit} {L : List Ent} {w : World} (h : IsDisk w bm st D L) :
    IsDisk ((w.setCell ⟨bm + 1, 6, none⟩ (.bool true)).setCell ⟨bm + 1, 3, none⟩ (.bool false)) bm st.fall D L ∧ DGrew bm w ((w.setCell ⟨bm + 1, 6, none⟩ (.bool true)).setCell ⟨bm + 1, 3, none⟩ (.bool false)) L L := by
  refine h.set ?_ (fun k hk => ?_) rfl rfl rfl (by simp [World.setCell]) (Nat.le_refl _)
  · have s1 := heap_setCell_same w (bm + 1) 6 _ _ (.bool true) h.box
    have s2 := heap_setCell_same _ (bm + 1) 3 _ _ (.bool false) s1
    exact s2
  · rw [Below.heap_setCell _ _ _ _ hk, Below.heap_setCell _ _ _ _ hk]
theorem Crashing.start {bm : Nat} {st : DSt} {D : DataW Unit} {L : List Ent} {w W W2 : World} {r : Nat} (hrr : r = W.heap.size) (h : IsDisk W bm st D L) (hg : DGrew bm w W L L) (hr : W2.ranges Try.prog 9 fileElem bm r st.eff D (Maps.has D) (Maps.size D)) (h2 : W.grownBy W2 none) (hz : w.heap.size ≤ W.heap.size) :
    Crashing bm st D L r w [] L (Maps.has D) (Maps.size D) W2 := by
  subst hrr
  have hb : Below W.heap.size W W2 := ⟨h2.os, h2.tape, h2.output, h2.size, fun k hk => h2.block k hk (by simp)⟩
  exact ⟨h.bel hb, List.Perm.refl _, hr, fun e he => (h.fs.map.at_ e he).2, fun k hk => h.fs.map.only k hk, hg.trans (DGrew.of_below L hb), hz⟩
theorem Crashing.pick {bm : Nat} {st : DSt} {D : DataW Unit} {L Ld Lt : List Ent} {r : Nat} {w wr w3 : World} {left : Lit → Bool} {cnt : Nat} {x : ByteArray} {c : Option Nat} {kl : Lit} {y1 : DataW Unit} {y2 : List MemPlace} (h : Crashing bm st D L r w Ld Lt left cnt wr) (hw : ∀ k, Own bm L k → k < w.heap.size)
    (hkey : keyOf Try.prog 9 (.string x) = some kl) (hlk : left kl = true) (hv : fileElem (fileV c) = some (y1, y2)) (hat : ∀ zd, D.atKey kl zd = y1) (hg : wr.grownBy w3 (some r)) :
    ∃ e Lt', e ∈ L ∧ Lt.Perm (e :: Lt') ∧ x = e.name ∧ kl = fk e.name ∧ c = some e.bf ∧ IsDisk w3 bm st D (e :: (Ld.map (Ent.crash st.keep) ++ Lt')) ∧ DGrew bm w w3 L (e :: (Ld.map (Ent.crash st.keep) ++ Lt')) := by
  obtain rfl := str_key hkey
  obtain ⟨e, he, h1⟩ := h.only _ hlk
  obtain rfl := fk_inj h1
  obtain ⟨L1, L2, hL⟩ := List.append_of_mem he
  have hp : Lt.Perm (e :: (L1 ++ L2)) := by rw [hL]; exact List.perm_middle
  have hm := h.disk.fs.map.at_ e (List.mem_append_right _ he)
  have hb : c = some e.bf := by
    have h2 := (hat (.map [])).symm.trans (hm.1 (.map []))
    subst h2
    have h3 := fileElem_inv hv
    cases c with
    | none => cases h3
    | some b => simp only [fileV, Value.pointer.injEq, Option.some.injEq, Addr.mk.injEq, and_true] at h3; rw [h3]
  have hpp : (Ld.map (Ent.crash st.keep) ++ Lt).Perm (e :: (Ld.map (Ent.crash st.keep) ++ (L1 ++ L2))) := (hp.append_left _).trans List.perm_middle
  have heL : e ∈ L := h.perm.mem_iff.1 (List.mem_append_right _ he)
  have hown : ∀ k, Own bm (Ld.map (Ent.crash st.keep) ++ Lt) k → k < w.heap.size := fun k hk => hw k ((own_perm h.perm k).1 ((crash_own bm st.keep Ld Lt k).1 hk))
  have hd : IsDisk w3 bm st D (Ld.map (Ent.crash st.keep) ++ Lt) := h.disk.kept fun k hk => hg.block k (own_lt h.disk hk) (fun e' => by cases e'; have := hown _ hk; have := h.rn; omega)
  have hdg : DGrew bm w w3 L (Ld.map (Ent.crash st.keep) ++ Lt) := ⟨hg.os.trans h.grew.os, hg.tape.trans h.grew.tape, hg.output.trans h.grew.output, Nat.le_trans h.grew.size hg.size, fun k hk ho => by
    rw [hg.block k (Nat.lt_of_lt_of_le hk h.grew.size) (fun e' => by cases e'; have := h.rn; omega)]
    exact h.grew.block k hk ho, h.grew.own⟩
  exact ⟨e, L1 ++ L2, heL, hp, rfl, rfl, hb, hd.perm hpp, hdg.perm (List.Perm.refl _) hpp⟩
theorem Crashing.next {bm : Nat} {st : DSt} {D : DataW Unit} {L Ld Lt Lt' : List Ent} {r : Nat} {w wr w3 w5 : World} {left : Lit → Bool} {cnt cnt' : Nat} {e : Ent} (h : Crashing bm st D L r w Ld Lt left cnt wr) (hw : ∀ k, Own bm L k → k < w.heap.size) (heL : e ∈ L) (hp : Lt.Perm (e :: Lt'))
    (hrg : w3.ranges Try.prog 9 fileElem bm r st.eff D (fun z => left z && !z.sameKey (fk e.name)) cnt') (h5 : IsDisk w5 bm st D (Ent.crash st.keep e :: (Ld.map (Ent.crash st.keep) ++ Lt'))) (hg : w3.grownBy w5 (some e.bf)) (hd : DGrew bm w w5 L (Ent.crash st.keep e :: (Ld.map (Ent.crash st.keep) ++ Lt'))) :
    Crashing bm st D L r w (e :: Ld) Lt' (fun z => left z && !z.sameKey (fk e.name)) cnt' w5 := by
  have hbf := hw e.bf (.inr (.inr ⟨e, heL, .inl rfl⟩))
  have hbl := h5.fs.file _ (List.mem_cons_self ..)
  have hap := (List.pairwise_cons.1 h5.fs.apart).1
  refine ⟨h5, ?_, hrg.kept hg ?_ ?_, fun q hq => ?_, fun k hk => ?_, hd, h.rn⟩
  · exact (List.perm_middle.symm.trans (hp.symm.append_left Ld)).trans h.perm
  · have := hbl.lo; simp only [Ent.crash] at this; simp; omega
  · have := h.rn; simp; omega
  · have h1 := h.todo q (hp.mem_iff.2 (List.mem_cons_of_mem _ hq))
    have h2 : (fk q.name).sameKey (fk e.name) = false := by
      cases hs : (fk q.name).sameKey (fk e.name) with
      | false => rfl
      | true => exact absurd (fk_inj (WideAt.sameKey_eq hs)).symm (hap q (List.mem_append_right _ hq)).name
    simp [h1, h2]
  · simp only [Bool.and_eq_true, Bool.not_eq_true'] at hk
    obtain ⟨q, hq, rfl⟩ := h.only k hk.1
    rcases List.mem_cons.1 (hp.mem_iff.1 hq) with rfl | hq
    · rw [WideAt.sameKey_self (fk_lit _)] at hk
      cases hk.2
    · exact ⟨q, hq, rfl⟩
set_option maxRecDepth 100000 in
set_option maxHeartbeats 8000000 in
theorem effectCrash (bm : Nat) (st : DSt) (D : DataW Unit) (L : List Ent) (w : World) (h : IsDisk w bm st D L) (hp : st.planned = true) (hl : st.left = 0) (hk : st.keep ≤ 9223372036854775807) (hb : ∀ e ∈ L, e.f.b.length ≤ 1000000000) : Calls Try.prog 72 #[.pointer (some ⟨bm + 1, 0, none⟩)] w (DEff 15 bm st.fall D L (L.map (Ent.crash st.keep)) w) := by
  obtain ⟨c0, c1, c2, c3, c4, c5, c6, hf, hlt⟩ := h.cells
  have f3 := hf 3
  have f6 := hf 6
  have H := Lib.hid h
  rw [hp] at c3
  rw [hl] at c4
  have HB := Lib.hid hb
  have HK := Lib.hid hk
  have hbm := h.fs.own.lt
  clear h hf c0 c2 hp hl hb hk
  go_enter Try.func72, Try.ntmps72
  have HF := Lib.hid (fallSet H.out)
  go_wp2_with (at_range; refine wpList_range_own _ rfl _ 124 rfl 9 127 lawStr Try.underlying124 fileElem bm st.fall.eff D rfl HF.out.1.fs.own ?_)
  intro W2 hrg hg2 hz2
  have HC := Lib.hid (Crashing.start (r := w.heap.size) (by simp [World.setCell]) HF.out.1 HF.out.2 hrg hg2 HF.out.2.size)
  clear hrg hg2 hz2 HF c1 c3 c4 c5 c6 f3 f6
  obtain ⟨r, hr⟩ : ∃ r, r = w.heap.size := ⟨_, rfl⟩
  rw [← hr] at HC ⊢
  clear hr
  go_wp2_with fail
  go_loopw [4] (fun _ wr => ∃ (Ld Lt : List Ent) (left : Lit → Bool) (cnt : Nat), Hid (Crashing bm st.fall D L r w Ld Lt left cnt wr)) (fun _ wr => wr.rangeLeft bm r)
  case atStart => exact ⟨[], L, _, _, HC⟩
  case round =>
    obtain ⟨Ld, Lt, left, cnt, HR⟩ := hrel
    clear HC
    go_wp2_with (at_next; refine wpList_next_ranges _ rfl _ rfl 9 lawStr fileElem Value.string fileV str_inv fileV_inv bm r st.fall.eff D left cnt rfl HR.out.rng ?_ ?_)
    · intro hc0 hl0
      have hlt0 : Lt = [] := by
        cases Lt with
        | nil => rfl
        | cons e Lt => have h1 := HR.out.todo e (by simp); rw [hl0] at h1; cases h1
      subst hlt0
      have HX := Lib.hid (show IsDisk wr bm st.fall D (L.map (Ent.crash st.keep)) ∧ DGrew bm w wr L (L.map (Ent.crash st.keep)) by
        have h1 := HR.out.disk
        have h2 := HR.out.grew
        have h3 := HR.out.perm
        rw [List.append_nil] at h1 h2 h3
        exact ⟨h1.perm (h3.map _), h2.perm (List.Perm.refl _) (h3.map _)⟩)
      clear hc0 hl0
      go_wp2
      go_ret
      exact ⟨rfl, HX.out⟩
    · intro x c kl y1 y2 w3 cnt' hkey hlk hv hat hrg hlt' hg hz hen
      have hw : ∀ k, Own bm L k → k < w.heap.size := fun k hk => own_lt H.out hk
      obtain ⟨e, Lt', heL, hpe, rfl, rfl, rfl, hd3, hg3⟩ := HR.out.pick hw hkey hlk hv hat hg
      have HW := Lib.hid hw
      have HEL := Lib.hid heL
      have HPE := Lib.hid hpe
      have HD3 := Lib.hid hd3
      have HG3 := Lib.hid hg3
      have HRG := Lib.hid hrg
      have HLT := Lib.hid hlt'
      have hfe := hd3.fs.file e (by simp)
      obtain ⟨c0, c1, c2, c3, c4, c5, c6, _, hdl⟩ := hd3.cells
      have q0 := cell_of_row w3 e.bf 0 _ _ _ hfe.box
      have q1 := cell_of_row w3 e.bf 1 _ _ _ hfe.box
      have f0 := frozen_of_row w3 e.bf 0 _ _ hfe.box
      have f1 := frozen_of_row w3 e.bf 1 _ _ hfe.box
      simp at q0 q1
      have hlo := hfe.lo
      have hbl := (Array.getElem?_eq_some_iff.1 hfe.box).1
      have hle := hfe.le
      have HFE := Lib.hid hfe
      have hbz := HB.out e heL
      clear hkey hlk hv hat hg hd3 hg3 hrg hlt' hz hfe c0 c1 c2 c3 c4 c6 hpe heL hw
      simp only [fileV] at hen ⊢
      obtain ⟨va, vc, hev, _, hvc, _⟩ := HFE.out.own.out
      rw [hev] at q0
      have HEV := Lib.hid hev
      clear hev
      have bs : (e.f.s : Int) ≤ (e.f.b.length : Int) := by omega
      have bl : (e.f.b.length : Int) ≤ 1000000000 := by omega
      have bc : (e.f.b.length : Int) ≤ (vc : Int) := by omega
      have bk : (st.keep : Int) ≤ 9223372036854775807 := by have := HK.out; omega
      go_wp2
      go_region
      have hN : ((e.f.s : Int) + if (e.f.b.length : Int) - (e.f.s : Int) < (st.fall.keep : Int) then (e.f.b.length : Int) - (e.f.s : Int) else (st.fall.keep : Int)).toNat = e.f.kept st.keep := by
        have hk0 : st.fall.keep = st.keep := rfl
        rw [hk0]
        unfold File.kept
        split <;> omega
      rw [hN]
      clear hN
      obtain ⟨n, hn⟩ : ∃ n, n = e.f.kept st.keep := ⟨_, rfl⟩
      rw [← hn]
      have HNN := Lib.hid hn
      have hnl : n ≤ e.f.b.length := by rw [hn]; unfold File.kept; omega
      have hnb : (n : Int) ≤ 1000000000 := by omega
      have s0 := World.cell?_setCell_same w3 ⟨e.bf, 0, none⟩ (.slice va n vc) q0
      clear hn
      go_wp2
      have hcr : Ent.crash st.keep e = { e with f := ⟨e.f.b.take n, n⟩, v := .slice va n vc } := by rw [HNN.out]; unfold Ent.crash; rw [HEV.out]; rfl
      have how : OwnB (bm + 2) w3 (.slice va n vc) (e.f.b.take n) := by have h1 := HFE.out.own.takeN n hnl; rw [HEV.out] at h1; exact h1
      have h6 := HD3.out.file1 (.slice va n vc) ⟨e.f.b.take n, n⟩ n how (by rw [HEV.out]; cases va <;> rfl) rfl (by simp only [List.length_take]; omega)
      rw [← hcr] at h6
      obtain ⟨h61, h62, h63⟩ := h6
      have hbd := (Below.refl ((w3.setCell ⟨e.bf, 0, none⟩ (.slice va n vc)).setCell ⟨e.bf, 1, none⟩ (.int .i64 (n : Int))).heap.size ((w3.setCell ⟨e.bf, 0, none⟩ (.slice va n vc)).setCell ⟨e.bf, 1, none⟩ (.int .i64 (n : Int)))).drew
      have hn7 := HR.out.next HW.out HEL.out HPE.out HRG.out (h61.bel hbd) ⟨h63.os, h63.tape, h63.output, h63.size, h63.block⟩ (HG3.out.trans (h62.trans (DGrew.of_below _ hbd)))
      exact ⟨⟨_, _, _, _, hn7⟩, by rw [hn7.rng.left_eq, HR.out.rng.left_eq]; exact HLT.out⟩
end Go.Proofs.Ytnpalplnpfgibaa
