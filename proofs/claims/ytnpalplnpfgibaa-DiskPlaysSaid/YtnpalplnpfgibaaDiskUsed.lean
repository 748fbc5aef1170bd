/- Contract of disk's Used; Len, Read, Sync, Cut, Append, Create, Rename, Delete. -/
import Derived.Test.YtnpalplnpfgibaaDiskCrash
import Derived.Test.YtnpalplnpfgibaaChain
import Derived.Lib.LazyBuf
namespace Go.Proofs.Ytnpalplnpfgibaa
open Go.RowKit
def usedL (L : List Ent) : Nat := (L.map fun e => e.f.b.length).sum
theorem usedL_perm {L L' : List Ent} (h : L.Perm L') : usedL L = usedL L' := (h.map _).sum_nat
theorem usedL_app (L L' : List Ent) : usedL (L ++ L') = usedL L + usedL L' := by simp [usedL]
structure Ranging (bm : Nat) (st : DSt) (D : DataW Unit) (L : List Ent) (r : Nat) (w : World) (Ld Lt : List Ent) (left : Lit → Bool) (cnt : Nat) (wr : World) : Prop where
  disk : IsDisk wr bm st D L
  perm : (Ld ++ Lt).Perm L
  rng : wr.ranges Try.prog 9 fileElem bm r st.eff D left cnt
  todo : ∀ e ∈ Lt, left (fk e.name) = true
  only : ∀ k, left k = true → ∃ e ∈ Lt, k = fk e.name
  bel : Below w.heap.size w wr
  rn : w.heap.size ≤ r
theorem Ranging.step {bm : Nat} {st : DSt} {D : DataW Unit} {L Ld Lt : List Ent} {r : Nat} {w wr w3 : World} {left : Lit → Bool} {cnt cnt' : Nat} {x : ByteArray} {c : Option Nat} {kl : Lit} {y1 : DataW Unit} {y2 : List MemPlace} (h : Ranging bm st D L r w Ld Lt left cnt wr) (hw : ∀ k, Own bm L k → k < w.heap.size)
    (hkey : keyOf Try.prog 9 (.string x) = some kl) (hlk : left kl = true) (hv : fileElem (fileV c) = some (y1, y2)) (hat : ∀ zd, D.atKey kl zd = y1) (hrg : w3.ranges Try.prog 9 fileElem bm r st.eff D (fun z => left z && !z.sameKey kl) cnt') (hg : wr.grownBy w3 (some r)) :
    ∃ e Lt', e ∈ L ∧ Lt.Perm (e :: Lt') ∧ x = e.name ∧ c = some e.bf ∧ Ranging bm st D L r w (e :: Ld) Lt' (fun z => left z && !z.sameKey kl) cnt' w3 := by
  obtain rfl := str_key hkey
  obtain ⟨e, he, h1⟩ := h.only _ hlk
  obtain rfl := fk_inj h1
  obtain ⟨L1, L2, hL⟩ := List.append_of_mem he
  have hp : Lt.Perm (e :: (L1 ++ L2)) := by rw [hL]; exact List.perm_middle
  have heL : e ∈ L := h.perm.mem_iff.1 (List.mem_append_right _ he)
  have hm := h.disk.fs.map.at_ e heL
  have hb : c = some e.bf := by
    have h2 := (hat (.map [])).symm.trans (hm.1 (.map []))
    subst h2
    have h3 := fileElem_inv hv
    cases c with
    | none => cases h3
    | some b => simp only [fileV, Value.pointer.injEq, Option.some.injEq, Addr.mk.injEq, and_true] at h3; rw [h3]
  have hpp : (e :: Ld ++ (L1 ++ L2)).Perm L := (List.perm_middle.symm.trans (hp.symm.append_left Ld)).trans h.perm
  have hap := (List.pairwise_cons.1 ((h.disk.perm hpp.symm).fs.apart)).1
  refine ⟨e, L1 ++ L2, heL, hp, rfl, hb, ⟨h.disk.kept fun k hk => hg.block k (own_lt h.disk hk) (fun e' => by cases e'; have := hw _ hk; have := h.rn; omega), hpp, hrg, fun q hq => ?_, fun k hk => ?_, ?_, h.rn⟩⟩
  · have h1 := h.todo q (hp.mem_iff.2 (List.mem_cons_of_mem _ hq))
    have h2 : (fk q.name).sameKey (fk e.name) = false := by
      cases hs : (fk q.name).sameKey (fk e.name) with
      | false => rfl
      | true => exact absurd (fk_inj (WideAt.sameKey_eq hs)).symm (hap q (List.mem_append_right _ hq)).name
    simp [h1, h2]
  · simp only [Bool.and_eq_true, Bool.not_eq_true'] at hk
    obtain ⟨q, hq, rfl⟩ := h.only k hk.1
    rcases List.mem_cons.1 (hp.mem_iff.1 hq) with rfl | hq
    · rw [WideAt.sameKey_self (fk_lit _)] at hk
      cases hk.2
    · exact ⟨q, hq, rfl⟩
  · exact h.bel.trans ⟨hg.os, hg.tape, hg.output, hg.size, fun k hk => hg.block k (Nat.lt_of_lt_of_le hk h.bel.size) (fun e' => by cases e'; have := h.rn; omega)⟩
def DUsed (n : Nat) (bm : Nat) (st : DSt) (D : DataW Unit) (L : List Ent) (w : World) (e : Ending) (w' : World) : Prop := e = .returned (.int .i64 (n : Int)) ∧ IsDisk w' bm st D L ∧ Below w.heap.size w w'
set_option maxRecDepth 100000 in
set_option maxHeartbeats 8000000 in
theorem diskUsed (bm : Nat) (st : DSt) (D : DataW Unit) (L : List Ent) (w : World) (h : IsDisk w bm st D L) (hb : usedL L ≤ 1000000000000) : Calls Try.prog 32 #[.pointer (some ⟨bm + 1, 0, none⟩)] w (DUsed (usedL L) bm st D L w) := by
  obtain ⟨c0, c1, c2, c3, c4, c5, c6, hf, hlt⟩ := h.cells
  have H := Lib.hid h
  have HB := Lib.hid hb
  clear h hf c0 c2 c3 c4 c5 c6 hb
  go_enter Try.func32, Try.ntmps32
  go_wp2_with (at_range; refine wpList_range_own _ rfl _ 124 rfl 9 127 lawStr Try.underlying124 fileElem bm st.eff D rfl H.out.fs.own ?_)
  intro W2 hrg hg2 hz2
  have HC := Lib.hid (show Ranging bm st D L w.heap.size w [] L (Maps.has D) (Maps.size D) W2 from by
    have hb : Below w.heap.size w W2 := ⟨hg2.os, hg2.tape, hg2.output, hg2.size, fun k hk => hg2.block k hk (by simp)⟩
    exact ⟨H.out.bel hb, List.Perm.refl _, hrg, fun e he => (H.out.fs.map.at_ e he).2, fun k hk => H.out.fs.map.only k hk, hb, Nat.le_refl _⟩)
  have HW := Lib.hid (show ∀ k, Own bm L k → k < w.heap.size from fun k hk => own_lt H.out hk)
  clear hrg hg2 hz2 c1
  obtain ⟨r, hr⟩ : ∃ r, r = w.heap.size := ⟨_, rfl⟩
  rw [← hr]
  have HRR := Lib.hid hr
  rw [← hr] at HC
  clear hr
  have HU0 := Lib.hid (show usedL [] = 0 from rfl)
  go_wp2_with fail
  go_loopw [3] (fun n wr => ∃ (Ld Lt : List Ent) (left : Lit → Bool) (cnt k : Nat), n = .int .i64 (k : Int) ∧ Hid (k = usedL Ld) ∧ Hid (Ranging bm st D L r w Ld Lt left cnt wr)) (fun _ wr => wr.rangeLeft bm r)
  case atStart => exact ⟨[], L, _, _, 0, rfl, rfl, by rw [HRR.out] at HC ⊢; exact HC⟩
  case round =>
    obtain ⟨Ld, Lt, left, cnt, k, rfl, HKU, HR⟩ := hrel
    clear HC
    go_wp2_with (at_next; refine wpList_next_ranges _ rfl _ rfl 9 lawStr fileElem Value.string fileV str_inv fileV_inv bm r st.eff D left cnt rfl HR.out.rng ?_ ?_)
    · intro hc0 hl0
      have hlt0 : Lt = [] := by
        cases Lt with
        | nil => rfl
        | cons e Lt => have h1 := HR.out.todo e (by simp); rw [hl0] at h1; cases h1
      subst hlt0
      have HX := Lib.hid (show k = usedL L ∧ IsDisk wr bm st D L ∧ Below w.heap.size w wr by
        have h3 := HR.out.perm
        rw [List.append_nil] at h3
        exact ⟨by rw [HKU.out, usedL_perm h3], HR.out.disk, HR.out.bel⟩)
      clear hc0 hl0
      go_wp2
      go_ret
      exact ⟨by rw [← HX.out.1]; rfl, HX.out.2⟩
    · intro x c kl y1 y2 w3 cnt' hkey hlk hv hat hrg hlt' hg hz hen
      obtain ⟨e, Lt', heL, hpe, rfl, rfl, hn⟩ := HR.out.step HW.out hkey hlk hv hat hrg hg
      have HN := Lib.hid hn
      have HLT := Lib.hid hlt'
      have hfe := hn.disk.fs.file e heL
      have q0 := cell_of_row w3 e.bf 0 _ _ _ hfe.box
      simp at q0
      have hbl := (Array.getElem?_eq_some_iff.1 hfe.box).1
      obtain ⟨va, vc, hev, _⟩ := hfe.own.out
      rw [hev] at q0
      have hbb : k + e.f.b.length ≤ 1000000000000 := by
        have h1 := usedL_perm hn.perm
        rw [usedL_app] at h1
        have h2 : usedL (e :: Ld) = e.f.b.length + usedL Ld := by simp [usedL]
        have h3 := HKU.out
        have h4 := HB.out
        omega
      have hb1 : (k : Int) + (e.f.b.length : Int) ≤ 1000000000000 := by omega
      have bk0 : (0 : Int) ≤ (k : Int) := by omega
      have HK2 := Lib.hid (show k + e.f.b.length = usedL (e :: Ld) by
        have h2 : usedL (e :: Ld) = e.f.b.length + usedL Ld := by simp [usedL]
        have h3 := HKU.out
        omega)
      clear hkey hlk hv hat hg hn hrg hlt' hz hfe hpe hev heL hbb
      simp only [fileV] at hen ⊢
      go_wp2
      go_roundw
      case rel => exact ⟨_, _, _, _, k + e.f.b.length, by go_num, HK2, HN⟩
      case measure => rw [HN.out.rng.left_eq, HR.out.rng.left_eq]; exact HLT.out
end Go.Proofs.Ytnpalplnpfgibaa
