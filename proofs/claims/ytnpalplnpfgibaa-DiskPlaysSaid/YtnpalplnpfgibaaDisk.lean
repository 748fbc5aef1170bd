/- Contracts of disk: New, Down, Open, Plan, Effects, find, effect. -/
import Derived.Test.YtnpalplnpfgibaaDiskSt
import Derived.Handy
import Derived.BigQuiet
import Derived.WalkSpells
namespace Go.Proofs.Ytnpalplnpfgibaa
open Go.RowKit
def DNew (cap : Int) (w : World) (e : Ending) (w' : World) : Prop := e = .returned (.pointer (some ⟨w.heap.size + 1, 0, none⟩)) ∧ IsDisk w' w.heap.size ⟨cap, 0, false, 0, 0, false⟩ (.map []) [] ∧ Below w.heap.size w w'
set_option maxRecDepth 100000 in
set_option maxHeartbeats 1000000 in
theorem diskNew (cap : Int) (w : World) : Calls Try.prog 23 #[.int .i64 cap] w (DNew cap w) := by
  have hmm := @run_makeMap Try.prog
  go_enter Try.func23, Try.ntmps23
  go_wp2
  go_ret
  refine ⟨by simp, ⟨?_, (World.ownsMap_made w _ _ _).alloc _, ⟨Maps.tidy_empty, rfl, fun e he => (by cases he), fun k hk => (by cases hk)⟩, fun e he => (by cases he), List.Pairwise.nil⟩, ((Below.refl _ w).alloc (Nat.le_refl _) _).alloc (by simp) _⟩
  have h0 := heap_alloc_new (w.alloc (.map #[] 0)) (.cells (DSt.cells w.heap.size ⟨cap, 0, false, 0, 0, false⟩) 126)
  have e : (w.alloc (.map #[] 0)).heap.size = w.heap.size + 1 := by simp
  rw [e] at h0
  exact h0
/-- The box's cells. -/
theorem IsDisk.cells {w : World} {bm : Nat} {st : DSt} {D : DataW Unit} {L : List Ent} (h : IsDisk w bm st D L) :
    w.cell? ⟨bm + 1, 0, none⟩ = some (.int .i64 st.cap) ∧ w.cell? ⟨bm + 1, 1, none⟩ = some (.map (some bm)) ∧ w.cell? ⟨bm + 1, 2, none⟩ = some (.int .i64 (st.eff : Int)) ∧ w.cell? ⟨bm + 1, 3, none⟩ = some (.bool st.planned) ∧ w.cell? ⟨bm + 1, 4, none⟩ = some (.int .i64 (st.left : Int)) ∧
    w.cell? ⟨bm + 1, 5, none⟩ = some (.int .i64 (st.keep : Int)) ∧ w.cell? ⟨bm + 1, 6, none⟩ = some (.bool st.down) ∧ (∀ i, w.frozen? ⟨bm + 1, i, none⟩ = false) ∧ bm + 1 < w.heap.size := by
  have hc := fun i => cell_of_row w (bm + 1) i _ _ _ h.box
  refine ⟨?_, ?_, ?_, ?_, ?_, ?_, ?_, fun i => frozen_of_row w (bm + 1) i _ _ h.box, (Array.getElem?_eq_some_iff.1 h.box).1⟩
  · rw [hc 0]; rfl
  · rw [hc 1]; rfl
  · rw [hc 2]; rfl
  · rw [hc 3]; rfl
  · rw [hc 4]; rfl
  · rw [hc 5]; rfl
  · rw [hc 6]; rfl
/-- Stores into the box. -/
theorem IsDisk.set {w w' : World} {bm : Nat} {st st' : DSt} {D : DataW Unit} {L : List Ent} (h : IsDisk w bm st D L) (hb : w'.heap[bm + 1]? = some (.cells (st'.cells bm) 126 (0, 0))) (ho : ∀ k, k ≠ bm + 1 → w'.heap[k]? = w.heap[k]?) (hos : w'.os = w.os) (ht : w'.tape = w.tape) (hou : w'.output = w.output) (hz : w'.heap.size = w.heap.size) (he : st.eff ≤ st'.eff) : IsDisk w' bm st' D L ∧ DGrew bm w w' L L :=
  h.box' hb ⟨hos, ht, hou, by omega, fun k _ hk => ho k (fun e => hk (by rw [e]))⟩ he
def DBool (b : Bool) (w : World) (e : Ending) (w' : World) : Prop := e = .returned (.bool b) ∧ w = w'
theorem diskDown (bm : Nat) (st : DSt) (D : DataW Unit) (L : List Ent) (w : World) (h : IsDisk w bm st D L) : Calls Try.prog 28 #[.pointer (some ⟨bm + 1, 0, none⟩)] w (DBool st.down w) := by
  obtain ⟨c0, c1, c2, c3, c4, c5, c6, _, _⟩ := h.cells
  clear h c0 c1 c2 c3 c4 c5
  go_enter Try.func28, Try.ntmps28
  go_wp2
  go_ret
  exact ⟨rfl, rfl⟩
def DDone (bm : Nat) (st' : DSt) (D : DataW Unit) (L : List Ent) (w : World) (e : Ending) (w' : World) : Prop := e = .returned (.tuple #[]) ∧ IsDisk w' bm st' D L ∧ DGrew bm w w' L L
set_option maxRecDepth 100000 in
set_option maxHeartbeats 2000000 in
theorem diskOpen (bm : Nat) (st : DSt) (D : DataW Unit) (L : List Ent) (w : World) (h : IsDisk w bm st D L) : Calls Try.prog 29 #[.pointer (some ⟨bm + 1, 0, none⟩)] w (DDone bm { st with planned := false, down := false } D L w) := by
  obtain ⟨c0, c1, c2, c3, c4, c5, c6, hf, _⟩ := h.cells
  have f3 := hf 3
  have f6 := hf 6
  have H := Lib.hid h
  clear h hf c0 c1 c2 c4 c5
  go_enter Try.func29, Try.ntmps29
  go_wp2
  go_returns
  refine ⟨rfl, H.out.set ?_ (fun k hk => ?_) rfl rfl rfl (by simp [World.setCell]) (Nat.le_refl _)⟩
  · have s1 := heap_setCell_same w (bm + 1) 3 _ _ (.bool false) H.out.box
    have s2 := heap_setCell_same _ (bm + 1) 6 _ _ (.bool false) s1
    exact s2
  · rw [Below.heap_setCell _ _ _ _ hk, Below.heap_setCell _ _ _ _ hk]
theorem planSet {bm : Nat} {st : DSt} {D : DataW Unit} {L : List Ent} {w : World} (h : IsDisk w bm st D L) (n m x y : Int) (hx : x = (n.toNat : Int)) (hy : y = (m.toNat : Int)) :
    IsDisk (((w.setCell ⟨bm + 1, 3, none⟩ (.bool true)).setCell ⟨bm + 1, 4, none⟩ (.int .i64 x)).setCell ⟨bm + 1, 5, none⟩ (.int .i64 y)) bm { st with planned := true, left := n.toNat, keep := m.toNat } D L ∧ DGrew bm w (((w.setCell ⟨bm + 1, 3, none⟩ (.bool true)).setCell ⟨bm + 1, 4, none⟩ (.int .i64 x)).setCell ⟨bm + 1, 5, none⟩ (.int .i64 y)) L L := by
  subst hx hy
  refine h.set ?_ (fun k hk => ?_) rfl rfl rfl (by simp [World.setCell]) (Nat.le_refl _)
  · have s1 := heap_setCell_same w (bm + 1) 3 _ _ (.bool true) h.box
    have s2 := heap_setCell_same _ (bm + 1) 4 _ _ (.int .i64 (n.toNat : Int)) s1
    have s3 := heap_setCell_same _ (bm + 1) 5 _ _ (.int .i64 (m.toNat : Int)) s2
    exact s3
  · rw [Below.heap_setCell _ _ _ _ hk, Below.heap_setCell _ _ _ _ hk, Below.heap_setCell _ _ _ _ hk]
set_option maxRecDepth 100000 in
set_option maxHeartbeats 2000000 in
theorem diskPlan (bm : Nat) (st : DSt) (D : DataW Unit) (L : List Ent) (n m : Int) (w : World) (h : IsDisk w bm st D L) : Calls Try.prog 27 #[.pointer (some ⟨bm + 1, 0, none⟩), .int .i64 n, .int .i64 m] w (DDone bm { st with planned := true, left := n.toNat, keep := m.toNat } D L w) := by
  obtain ⟨c0, c1, c2, c3, c4, c5, c6, hf, _⟩ := h.cells
  have f3 := hf 3
  have f4 := hf 4
  have f5 := hf 5
  have H := Lib.hid h
  have HN := Lib.hid (show max n 0 = (n.toNat : Int) by omega)
  have HM := Lib.hid (show max m 0 = (m.toNat : Int) by omega)
  clear h hf c0 c1 c2 c6
  go_enter Try.func27, Try.ntmps27
  go_wp2
  all_goals
    go_returns
    exact ⟨rfl, planSet H.out n m _ _ (by omega) (by omega)⟩
def DInt (n : Int) (w : World) (e : Ending) (w' : World) : Prop := e = .returned (.int .i64 n) ∧ w = w'
theorem diskEffects (bm : Nat) (st : DSt) (D : DataW Unit) (L : List Ent) (w : World) (h : IsDisk w bm st D L) : Calls Try.prog 89 #[.pointer (some ⟨bm + 1, 0, none⟩)] w (DInt st.eff w) := by
  obtain ⟨c0, c1, c2, c3, c4, c5, c6, _, _⟩ := h.cells
  clear h c0 c1 c3 c4 c5 c6
  go_enter Try.func89, Try.ntmps89
  go_wp2
  go_ret
  exact ⟨rfl, rfl⟩
def DFind (v : Value) (c : Nat) (w : World) (e : Ending) (w' : World) : Prop := e = .returned (.tuple #[v, errV c]) ∧ w = w'
set_option maxRecDepth 100000 in
set_option maxHeartbeats 2000000 in
theorem findDown (bm : Nat) (st : DSt) (D : DataW Unit) (L : List Ent) (n : ByteArray) (w : World) (h : IsDisk w bm st D L) (hd : st.down = true) : Calls Try.prog 73 #[.pointer (some ⟨bm + 1, 0, none⟩), .string n] w (DFind (.pointer none) 15 w) := by
  obtain ⟨c0, c1, c2, c3, c4, c5, c6, _, _⟩ := h.cells
  rw [hd] at c6
  clear h c0 c1 c2 c3 c4 c5 hd
  go_enter Try.func73, Try.ntmps73
  go_wp2
  go_ret2
  exact ⟨rfl, rfl⟩
set_option maxRecDepth 100000 in
set_option maxHeartbeats 2000000 in
theorem findNo (bm : Nat) (st : DSt) (D : DataW Unit) (L : List Ent) (n : ByteArray) (w : World) (h : IsDisk w bm st D L) (hd : st.down = false) (hn : ∀ e ∈ L, e.name ≠ n) (hs : n.size ≤ maxLen) : Calls Try.prog 73 #[.pointer (some ⟨bm + 1, 0, none⟩), .string n] w (DFind (.pointer none) 5 w) := by
  obtain ⟨c0, c1, c2, c3, c4, c5, c6, _, _⟩ := h.cells
  rw [hd] at c6
  have HH := Lib.hid (h.fs.map.no n hn)
  have HK := Lib.hid (keyOf_str n hs)
  have HO := Lib.hid h.fs.own
  clear h c0 c2 c3 c4 c5 hd hn hs
  go_enter Try.func73, Try.ntmps73
  go_wp2_with (at_lookup; refine wpList_lookup_own_ok _ rfl _ _ 124 rfl 9 127 lawStr Try.underlying124 fileElem (zero_file _) (.lit (.int .i64 (-1))) [] fileElem_nil bm _ D rfl HO.out _ _ rfl HK.out ?hh1)
  intro v ps hv
  rw [HH.out]
  clear hv
  go_wp2
  go_ret2
  exact ⟨rfl, rfl⟩
set_option maxRecDepth 100000 in
set_option maxHeartbeats 2000000 in
theorem findYes (bm : Nat) (st : DSt) (D : DataW Unit) (L : List Ent) (e : Ent) (w : World) (h : IsDisk w bm st D L) (hd : st.down = false) (he : e ∈ L) : Calls Try.prog 73 #[.pointer (some ⟨bm + 1, 0, none⟩), .string e.name] w (DFind (.pointer (some ⟨e.bf, 0, none⟩)) 0 w) := by
  obtain ⟨c0, c1, c2, c3, c4, c5, c6, _, _⟩ := h.cells
  rw [hd] at c6
  have HH := Lib.hid (h.fs.map.at_ e he)
  have HK := Lib.hid (keyOf_str e.name (h.fs.file e he).nm)
  have HO := Lib.hid h.fs.own
  clear h c0 c2 c3 c4 c5 hd he
  go_enter Try.func73, Try.ntmps73
  go_wp2_with (at_lookup; refine wpList_lookup_own_ok _ rfl _ _ 124 rfl 9 127 lawStr Try.underlying124 fileElem (zero_file _) (.lit (.int .i64 (-1))) [] fileElem_nil bm _ D rfl HO.out _ _ rfl HK.out ?hh1)
  intro v ps hv
  rw [HH.out.1] at hv
  obtain rfl := fileElem_inv hv
  rw [HH.out.2]
  clear hv
  go_wp2
  go_ret2
  exact ⟨rfl, rfl⟩
def DEff (c : Nat) (bm : Nat) (st' : DSt) (D : DataW Unit) (L L' : List Ent) (w : World) (e : Ending) (w' : World) : Prop := e = .returned (errV c) ∧ IsDisk w' bm st' D L' ∧ DGrew bm w w' L L'
def DSt.next (st : DSt) : DSt := { st with left := st.left - 1, eff := st.eff + 1 }
theorem effSet {bm : Nat} {st : DSt} {D : DataW Unit} {L : List Ent} {w : World} (h : IsDisk w bm st D L) (x y : Int) (hx : x = ((st.left - 1 : Nat) : Int)) (hy : y = ((st.eff + 1 : Nat) : Int)) :
    IsDisk ((w.setCell ⟨bm + 1, 4, none⟩ (.int .i64 x)).setCell ⟨bm + 1, 2, none⟩ (.int .i64 y)) bm st.next D L ∧ DGrew bm w ((w.setCell ⟨bm + 1, 4, none⟩ (.int .i64 x)).setCell ⟨bm + 1, 2, none⟩ (.int .i64 y)) L L := by
  subst hx hy
  refine h.set ?_ (fun k hk => ?_) rfl rfl rfl (by simp [World.setCell]) (Nat.le_succ _)
  · have s1 := heap_setCell_same w (bm + 1) 4 _ _ (.int .i64 ((st.left - 1 : Nat) : Int)) h.box
    have s2 := heap_setCell_same _ (bm + 1) 2 _ _ (.int .i64 ((st.eff + 1 : Nat) : Int)) s1
    exact s2
  · rw [Below.heap_setCell _ _ _ _ hk, Below.heap_setCell _ _ _ _ hk]
set_option maxRecDepth 100000 in
set_option maxHeartbeats 2000000 in
theorem effectOk (bm : Nat) (st : DSt) (D : DataW Unit) (L : List Ent) (w : World) (h : IsDisk w bm st D L) (hp : st.planned = false ∨ st.left ≠ 0) (hl : st.left ≤ 9223372036854775807) (he : st.eff ≤ 1000000000) : Calls Try.prog 72 #[.pointer (some ⟨bm + 1, 0, none⟩)] w (DEff 0 bm st.next D L L w) := by
  obtain ⟨c0, c1, c2, c3, c4, c5, c6, hf, _⟩ := h.cells
  have f4 := hf 4
  have f2 := hf 2
  have H := Lib.hid h
  have bl : (0 : Int) ≤ (st.left : Int) := by omega
  have bl2 : (st.left : Int) ≤ 9223372036854775807 := by omega
  have be : (st.eff : Int) ≤ 1000000000 := by omega
  have be0 : (0 : Int) ≤ (st.eff : Int) := by omega
  have HL := Lib.hid hl
  cases hpl : st.planned with
  | false =>
    rw [hpl] at c3
    clear h hf c0 c1 c5 c6 hp hpl hl he
    go_enter Try.func72, Try.ntmps72
    go_wp2
    all_goals
      go_ret
      exact ⟨rfl, effSet H.out _ _ (by omega) (by omega)⟩
  | true =>
    have hl0 : st.left ≠ 0 := by
      rcases hp with hp | hp
      · rw [hpl] at hp; cases hp
      · exact hp
    rw [hpl] at c3
    have d1 : ((st.left : Int) == 0) = false := by simp; omega
    have d2 : (st.left == 0) = false := by simp; omega
    clear h hf c0 c1 c5 c6 hp hpl hl he
    go_enter Try.func72, Try.ntmps72
    go_wp2
    all_goals
      go_ret
      exact ⟨rfl, effSet H.out _ _ (by omega) (by omega)⟩
end Go.Proofs.Ytnpalplnpfgibaa
