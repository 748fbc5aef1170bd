/- Contracts of disk's Sync, Len, Append. -/
import Derived.Test.YtnpalplnpfgibaaDiskUsed
namespace Go.Proofs.Ytnpalplnpfgibaa
open Go.RowKit
def DSt.falls (st : DSt) : Bool := st.planned && (st.left == 0)
def DSt.effC (st : DSt) : Nat := if st.falls then 15 else 0
def DSt.effS (st : DSt) : DSt := if st.falls then st.fall else st.next
def DSt.effL (st : DSt) (L : List Ent) : List Ent := if st.falls then L.map (Ent.crash st.keep) else L
/-- What the contracts ask of a disk. -/
structure DWf (st : DSt) (L : List Ent) : Prop where
  left : st.left ≤ 9223372036854775807
  keep : st.keep ≤ 9223372036854775807
  eff : st.eff ≤ 1000000000
  used : usedL L ≤ 1000000000000
  file : ∀ e ∈ L, e.f.b.length ≤ 1000000000
  capL : -9223372036854775808 ≤ st.cap
  capH : st.cap ≤ 9223372036854775807
  room : (usedL L : Int) ≤ max st.cap 0
theorem diskEffect (bm : Nat) (st : DSt) (D : DataW Unit) (L : List Ent) (w : World) (h : IsDisk w bm st D L) (hw : DWf st L) : Calls Try.prog 72 #[.pointer (some ⟨bm + 1, 0, none⟩)] w (DEff st.effC bm st.effS D L (st.effL L) w) := by
  unfold DSt.effC DSt.effS DSt.effL
  cases hf : st.falls with
  | true =>
    simp only [DSt.falls, Bool.and_eq_true, beq_iff_eq] at hf
    exact effectCrash bm st D L w h hf.1 hf.2 hw.keep hw.file
  | false =>
    simp only [DSt.falls, Bool.and_eq_false_iff, beq_eq_false_iff_ne] at hf
    exact effectOk bm st D L w h hf hw.left hw.eff
theorem errV_zero : errV 0 = .nilIface := rfl
theorem errV_succ (n : Nat) : errV (n + 1) = .iface 58 (.int .i64 ((n + 1 : Nat) : Int)) := rfl
def DErr (c : Nat) (w : World) (e : Ending) (w' : World) : Prop := e = .returned (errV c) ∧ w = w'
/-! Sync -/
set_option maxRecDepth 100000 in
set_option maxHeartbeats 2000000 in
theorem syncDown (bm : Nat) (st : DSt) (D : DataW Unit) (L : List Ent) (n : ByteArray) (w : World) (h : IsDisk w bm st D L) (hd : st.down = true) : Calls Try.prog 26 #[.pointer (some ⟨bm + 1, 0, none⟩), .string n] w (DErr 15 w) := by
  have k1 := code_neq_nil
  go_enter Try.func26, Try.ntmps26
  go_wp2_with fail
  refine (findDown bm st D L n _ h hd).mono ?_
  rintro e w1 ⟨rfl, rfl⟩
  rw [errV_succ]
  go_wp2_with fail
  go_ret
  exact ⟨rfl, rfl⟩
set_option maxRecDepth 100000 in
set_option maxHeartbeats 2000000 in
theorem syncNo (bm : Nat) (st : DSt) (D : DataW Unit) (L : List Ent) (n : ByteArray) (w : World) (h : IsDisk w bm st D L) (hd : st.down = false) (hn : ∀ e ∈ L, e.name ≠ n) (hs : n.size ≤ maxLen) : Calls Try.prog 26 #[.pointer (some ⟨bm + 1, 0, none⟩), .string n] w (DErr 5 w) := by
  have k1 := code_neq_nil
  have H := Lib.hid hn
  clear hn
  go_enter Try.func26, Try.ntmps26
  go_wp2_with fail
  refine (findNo bm st D L n _ h hd H.out hs).mono ?_
  rintro e w1 ⟨rfl, rfl⟩
  rw [errV_succ]
  go_wp2_with fail
  go_ret
  exact ⟨rfl, rfl⟩
theorem syncSet {w : World} {bm : Nat} {st : DSt} {D : DataW Unit} {e : Ent} {R : List Ent} (h : IsDisk w bm st D (e :: R)) :
    IsDisk (w.setCell ⟨e.bf, 1, none⟩ (.int .i64 (e.f.b.length : Int))) bm st D ({ e with f := ⟨e.f.b, e.f.b.length⟩ } :: R) ∧ DGrew bm w (w.setCell ⟨e.bf, 1, none⟩ (.int .i64 (e.f.b.length : Int))) (e :: R) ({ e with f := ⟨e.f.b, e.f.b.length⟩ } :: R) := by
  have hf := h.fs.file e (by simp)
  have s1 := heap_setCell_same w e.bf 1 _ _ (.int .i64 (e.f.b.length : Int)) hf.box
  have oth : ∀ k, k ≠ e.bf → (w.setCell ⟨e.bf, 1, none⟩ (.int .i64 (e.f.b.length : Int))).heap[k]? = w.heap[k]? := fun k hk => Below.heap_setCell _ _ _ _ hk
  exact h.one (e' := { e with f := ⟨e.f.b, e.f.b.length⟩ }) ⟨s1, hf.own.kept fun k hk => oth k (fun e' => hf.ne (by rw [hk, e'])), hf.lo, hf.ne, Nat.le_refl _, hf.nm⟩ rfl rfl (fun k hk => .inl hk) rfl rfl rfl (by simp [World.setCell]) (fun k _ hk _ => oth k hk)
set_option maxRecDepth 100000 in
set_option maxHeartbeats 2000000 in
theorem syncFalls (bm : Nat) (st : DSt) (D : DataW Unit) (L : List Ent) (e : Ent) (w : World) (h : IsDisk w bm st D L) (hw : DWf st L) (hd : st.down = false) (he : e ∈ L) (hf : st.falls = true) : Calls Try.prog 26 #[.pointer (some ⟨bm + 1, 0, none⟩), .string e.name] w (DEff 15 bm st.fall D L (L.map (Ent.crash st.keep)) w) := by
  have k1 := code_neq_nil
  have k2 := code_nil_neq_nil
  have HE := Lib.hid (diskEffect bm st D L w h hw)
  unfold DSt.effC DSt.effS DSt.effL at HE
  rw [hf] at HE
  have H := Lib.hid h
  have HM := Lib.hid he
  clear h hw he hf
  go_enter Try.func26, Try.ntmps26
  go_wp2_with fail
  refine (findYes bm st D L e _ H.out hd HM.out).mono ?_
  rintro e1 w1 ⟨rfl, rfl⟩
  rw [errV_zero]
  go_wp2_with fail
  refine HE.out.mono ?_
  rintro e1 w1 ⟨rfl, hd1, hg1⟩
  have HX := Lib.hid (And.intro hd1 hg1)
  clear hd1 hg1
  simp only [if_true]
  rw [errV_succ]
  go_wp2_with fail
  go_ret
  exact ⟨rfl, HX.out⟩
set_option maxRecDepth 100000 in
set_option maxHeartbeats 2000000 in
theorem syncOk (bm : Nat) (st : DSt) (D : DataW Unit) (e : Ent) (R : List Ent) (w : World) (h : IsDisk w bm st D (e :: R)) (hw : DWf st (e :: R)) (hd : st.down = false) (hf : st.falls = false) : Calls Try.prog 26 #[.pointer (some ⟨bm + 1, 0, none⟩), .string e.name] w (DEff 0 bm st.next D (e :: R) ({ e with f := ⟨e.f.b, e.f.b.length⟩ } :: R) w) := by
  have k1 := code_neq_nil
  have k2 := code_nil_neq_nil
  have HE := Lib.hid (diskEffect bm st D (e :: R) w h hw)
  unfold DSt.effC DSt.effS DSt.effL at HE
  rw [hf] at HE
  have H := Lib.hid h
  clear h hw hf
  go_enter Try.func26, Try.ntmps26
  go_wp2_with fail
  refine (findYes bm st D (e :: R) e _ H.out hd (by simp)).mono ?_
  rintro e1 w1 ⟨rfl, rfl⟩
  rw [errV_zero]
  go_wp2_with fail
  refine HE.out.mono ?_
  rintro e1 w1 ⟨rfl, hd1, hg1⟩
  simp only [Bool.false_eq_true, if_false] at hd1 hg1 ⊢
  have HX := Lib.hid (And.intro hd1 hg1)
  have hfe := hd1.fs.file e (by simp)
  have q0 := cell_of_row w1 e.bf 0 _ _ _ hfe.box
  have q1 := cell_of_row w1 e.bf 1 _ _ _ hfe.box
  have f1 := frozen_of_row w1 e.bf 1 _ _ hfe.box
  simp at q0 q1
  obtain ⟨va, vc, hev, _⟩ := hfe.own.out
  rw [hev] at q0
  clear hd1 hg1 hfe hev
  rw [errV_zero]
  go_wp2_with fail
  go_ret
  have hs := syncSet HX.out.1
  exact ⟨rfl, hs.1, HX.out.2.trans hs.2⟩
end Go.Proofs.Ytnpalplnpfgibaa
