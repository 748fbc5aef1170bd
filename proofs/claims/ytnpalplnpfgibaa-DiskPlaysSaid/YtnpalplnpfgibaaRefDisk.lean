/- The reference's disk (hassockref04) as it lies; Plan, Open, Find, Used. -/
import Derived.Test.YtnpalplnpfgibaaDiskSpec2
import Derived.Test.YtnpalplnpfgibaaOwnOf
import Derived.Sort.Walk0
import Derived.Lib.MinMaxS
namespace Go.Proofs.Ytnpalplnpfgibaa
open Go.RowKit
structure RF where
  name : ByteArray
  ba : Option Addr
  bcap : Nat
  b : List UInt8
  s : Nat
def rfCells (q : RF) : List Value := [.string q.name, .slice q.ba q.b.length q.bcap, .int .i64 (q.s : Int)]
structure RFok (w : World) (bx : Nat) (v : Value) (q : RF) : Prop where
  bytes : IsBytes w q.ba q.b
  cap : q.b.length ≤ q.bcap
  capm : q.bcap ≤ maxLen
  nm : q.name.size ≤ maxLen
  lo : ∀ b off, q.ba = some ⟨b, off, none⟩ → 0 < q.b.length → bx + 1 ≤ b ∧ v.ownBlock ≠ some b
def rdCells (st : DSt) (v : Value) : Array Value := #[.int .i64 st.cap, v, .int .i64 (st.eff : Int), .bool st.planned, .int .i64 (st.left : Int), .int .i64 (st.keep : Int), .bool st.down]
structure IsRD (w : World) (bx : Nat) (st : DSt) (v : Value) (l : List RF) : Prop where
  box : w.heap[bx]? = some (.cells (rdCells st v) 92 (0, 0))
  own : OwnOf 97 rfCells 3 (bx + 1) w v l
  file : ∀ q ∈ l, RFok w bx v q
def rfsOf (l : List RF) : Files := l.map fun q => (q.name, ⟨q.b, q.s⟩)
/-- The reference's own blocks. -/
def ROwn (bx : Nat) (v : Value) (l : List RF) (k : Nat) : Prop := k = bx ∨ v.ownBlock = some k ∨ ∃ q ∈ l, 0 < q.b.length ∧ ∃ off, q.ba = some ⟨k, off, none⟩
structure RGrew (bx : Nat) (w w' : World) (v v' : Value) (l l' : List RF) : Prop where
  os : w'.os = w.os
  tape : w'.tape = w.tape
  output : w'.output = w.output
  size : w.heap.size ≤ w'.heap.size
  block : ∀ k, k < w.heap.size → ¬ ROwn bx v l k → w'.heap[k]? = w.heap[k]?
  own : ∀ k, ROwn bx v' l' k → ROwn bx v l k ∨ w.heap.size ≤ k
theorem RGrew.refl (bx : Nat) (w : World) (v : Value) (l : List RF) : RGrew bx w w v v l l := ⟨rfl, rfl, rfl, Nat.le_refl _, fun _ _ _ => rfl, fun _ h => .inl h⟩
theorem RGrew.trans {bx : Nat} {w w1 w2 : World} {v v1 v2 : Value} {l l1 l2 : List RF} (h : RGrew bx w w1 v v1 l l1) (k : RGrew bx w1 w2 v1 v2 l1 l2) : RGrew bx w w2 v v2 l l2 := by
  refine ⟨k.os.trans h.os, k.tape.trans h.tape, k.output.trans h.output, Nat.le_trans h.size k.size, fun i hi h1 => ?_, fun i hi => ?_⟩
  · rw [k.block i (Nat.lt_of_lt_of_le hi h.size) (fun e => ?_), h.block i hi h1]
    rcases h.own i e with h3 | h3
    · exact h1 h3
    · omega
  · rcases k.own i hi with h1 | h1
    · exact h.own i h1
    · exact .inr (Nat.le_trans h.size h1)
theorem rown_lt {w : World} {bx : Nat} {st : DSt} {v : Value} {l : List RF} (h : IsRD w bx st v l) {k : Nat} (hk : ROwn bx v l k) : k < w.heap.size := by
  rcases hk with rfl | hk | ⟨q, hq, h0, off, hb⟩
  · exact (Array.getElem?_eq_some_iff.1 h.box).1
  · exact (h.own.block k hk).2
  · obtain ⟨b, off', h1, h2, _⟩ := (h.file q hq).bytes 0 h0
    rw [hb] at h1
    cases h1
    exact h2
theorem rown_lo {w : World} {bx : Nat} {st : DSt} {v : Value} {l : List RF} (h : IsRD w bx st v l) {k : Nat} (hk : ROwn bx v l k) : bx ≤ k := by
  rcases hk with rfl | hk | ⟨q, hq, h0, off, hb⟩
  · exact Nat.le_refl _
  · have := (h.own.block k hk).1; omega
  · have := ((h.file q hq).lo k off hb h0).1; omega
theorem IsBytes.kept {w w' : World} {a : Option Addr} {l : List UInt8} (h : IsBytes w a l) (hz : w.heap.size ≤ w'.heap.size) (hk : ∀ b off, a = some ⟨b, off, none⟩ → 0 < l.length → w'.heap[b]? = w.heap[b]?) : IsBytes w' a l := by
  intro i hi
  obtain ⟨b, off, h1, h2, h3⟩ := h i hi
  refine ⟨b, off, h1, by omega, ?_⟩
  rw [← h3]
  exact World.cell?_of_block (hk b off h1 (by omega))
theorem RFok.kept {w w' : World} {bx : Nat} {v : Value} {q : RF} (h : RFok w bx v q) (hz : w.heap.size ≤ w'.heap.size) (hk : ∀ b off, q.ba = some ⟨b, off, none⟩ → 0 < q.b.length → w'.heap[b]? = w.heap[b]?) : RFok w' bx v q :=
  ⟨h.bytes.kept hz hk, h.cap, h.capm, h.nm, h.lo⟩
theorem IsRD.kept {w w' : World} {bx : Nat} {st : DSt} {v : Value} {l : List RF} (h : IsRD w bx st v l) (hz : w.heap.size ≤ w'.heap.size) (hk : ∀ k, ROwn bx v l k → w'.heap[k]? = w.heap[k]?) : IsRD w' bx st v l :=
  ⟨(hk _ (.inl rfl)).trans h.box, h.own.kept fun k h1 => hk k (.inr (.inl h1)), fun q hq => (h.file q hq).kept hz fun b off h1 h0 => hk b (.inr (.inr ⟨q, hq, h0, off, h1⟩))⟩
theorem IsRD.bel {w w' : World} {bx : Nat} {st : DSt} {v : Value} {l : List RF} (h : IsRD w bx st v l) (hb : Below w.heap.size w w') : IsRD w' bx st v l := h.kept hb.size fun k hk => hb.block k (rown_lt h hk)
theorem RGrew.of_below {bx : Nat} {w w' : World} (v : Value) (l : List RF) (h : Below w.heap.size w w') : RGrew bx w w' v v l l := ⟨h.os, h.tape, h.output, h.size, fun k hk _ => h.block k hk, fun _ h => .inl h⟩
/-- The box alone turns. -/
theorem IsRD.box' {w w' : World} {bx : Nat} {st st' : DSt} {v : Value} {l : List RF} (h : IsRD w bx st v l) (hb : w'.heap[bx]? = some (.cells (rdCells st' v) 92 (0, 0))) (hg : w.grownBy w' (some bx)) : IsRD w' bx st' v l ∧ RGrew bx w w' v v l l := by
  have hne : ∀ k, v.ownBlock = some k → k ≠ bx := fun k hk e => by have := (h.own.block k hk).1; omega
  refine ⟨⟨hb, h.own.kept fun k hk => hg.block k (h.own.block k hk).2 (by have := hne k hk; simp; omega), fun q hq => (h.file q hq).kept hg.size fun b off h1 h0 => ?_⟩, hg.os, hg.tape, hg.output, hg.size, fun k hk ho => hg.block k hk (fun e => by cases e; exact ho (.inl rfl)), fun k hk => .inl hk⟩
  have h2 := ((h.file q hq).lo b off h1 h0).1
  exact hg.block b (rown_lt h (.inr (.inr ⟨q, hq, h0, off, h1⟩))) (by simp; omega)
structure RDCells (w : World) (bx : Nat) (st : DSt) (v : Value) : Prop where
  c0 : w.cell? ⟨bx, 0, none⟩ = some (.int .i64 st.cap)
  c1 : w.cell? ⟨bx, 1, none⟩ = some v
  c2 : w.cell? ⟨bx, 2, none⟩ = some (.int .i64 (st.eff : Int))
  c3 : w.cell? ⟨bx, 3, none⟩ = some (.bool st.planned)
  c4 : w.cell? ⟨bx, 4, none⟩ = some (.int .i64 (st.left : Int))
  c5 : w.cell? ⟨bx, 5, none⟩ = some (.int .i64 (st.keep : Int))
  c6 : w.cell? ⟨bx, 6, none⟩ = some (.bool st.down)
  fr : ∀ i, w.frozen? ⟨bx, i, none⟩ = false
theorem IsRD.cells {w : World} {bx : Nat} {st : DSt} {v : Value} {l : List RF} (h : IsRD w bx st v l) : RDCells w bx st v := by
  have hc := fun j => cell_of_row w bx j _ _ _ h.box
  exact ⟨by simpa [rdCells] using hc 0, by simpa [rdCells] using hc 1, by simpa [rdCells] using hc 2, by simpa [rdCells] using hc 3, by simpa [rdCells] using hc 4, by simpa [rdCells] using hc 5, by simpa [rdCells] using hc 6, fun i => frozen_of_row w bx i _ _ h.box⟩
def rdOpen (st : DSt) : DSt := { st with planned := false, down := false }
def rdPlan (st : DSt) (e k : Int) : DSt := { st with planned := true, left := e.toNat, keep := k.toNat }
theorem rdOpenSet {w : World} {bx : Nat} {st : DSt} {v : Value} {l : List RF} (h : IsRD w bx st v l) :
    IsRD ((w.setCell ⟨bx, 3, none⟩ (.bool false)).setCell ⟨bx, 6, none⟩ (.bool false)) bx (rdOpen st) v l ∧ RGrew bx w ((w.setCell ⟨bx, 3, none⟩ (.bool false)).setCell ⟨bx, 6, none⟩ (.bool false)) v v l l := by
  refine h.box' ?_ ⟨rfl, rfl, rfl, by simp [World.setCell], fun k _ hk => ?_⟩
  · have s1 := heap_setCell_same w bx 3 _ _ (.bool false) h.box
    have s2 := heap_setCell_same _ bx 6 _ _ (.bool false) s1
    rw [s2]
    rfl
  · have hk' : k ≠ bx := fun e => hk (by rw [e])
    rw [Below.heap_setCell _ _ _ _ hk', Below.heap_setCell _ _ _ _ hk']
theorem rdPlanSet {w : World} {bx : Nat} {st : DSt} {v : Value} {l : List RF} (h : IsRD w bx st v l) (a b e k : Int) (ha : a = (e.toNat : Int)) (hb : b = (k.toNat : Int)) :
    IsRD (((w.setCell ⟨bx, 3, none⟩ (.bool true)).setCell ⟨bx, 4, none⟩ (.int .i64 a)).setCell ⟨bx, 5, none⟩ (.int .i64 b)) bx (rdPlan st e k) v l ∧ RGrew bx w (((w.setCell ⟨bx, 3, none⟩ (.bool true)).setCell ⟨bx, 4, none⟩ (.int .i64 a)).setCell ⟨bx, 5, none⟩ (.int .i64 b)) v v l l := by
  subst ha hb
  refine h.box' ?_ ⟨rfl, rfl, rfl, by simp [World.setCell], fun j _ hk => ?_⟩
  · have s1 := heap_setCell_same w bx 3 _ _ (.bool true) h.box
    have s2 := heap_setCell_same _ bx 4 _ _ (.int .i64 (e.toNat : Int)) s1
    have s3 := heap_setCell_same _ bx 5 _ _ (.int .i64 (k.toNat : Int)) s2
    rw [s3]
    rfl
  · have hk' : j ≠ bx := fun e => hk (by rw [e])
    rw [Below.heap_setCell _ _ _ _ hk', Below.heap_setCell _ _ _ _ hk', Below.heap_setCell _ _ _ _ hk']
structure RDid (st' : DSt) (bx : Nat) (v : Value) (l : List RF) (w : World) (e : Ending) (w' : World) : Prop where
  ret : e = .returned (.tuple #[])
  st : IsRD w' bx st' v l ∧ RGrew bx w w' v v l l
set_option maxRecDepth 100000 in
set_option maxHeartbeats 2000000 in
theorem refOpen (bx : Nat) (st : DSt) (v : Value) (l : List RF) (w : World) (h : IsRD w bx st v l) : Calls Try.prog 55 #[.pointer (some ⟨bx, 0, none⟩)] w (RDid (rdOpen st) bx v l w) := by
  obtain ⟨c0, c1, c2, c3, c4, c5, c6, fr⟩ := h.cells
  have H := Lib.hid h
  clear h c0 c1 c2 c4 c5
  go_enter Try.func55, Try.ntmps55
  go_wp2
  go_returns
  exact ⟨rfl, rdOpenSet H.out⟩
set_option maxRecDepth 100000 in
set_option maxHeartbeats 2000000 in
theorem refPlan (bx : Nat) (st : DSt) (v : Value) (l : List RF) (x y : Int) (w : World) (h : IsRD w bx st v l) : Calls Try.prog 54 #[.pointer (some ⟨bx, 0, none⟩), .int .i64 x, .int .i64 y] w (RDid (rdPlan st x y) bx v l w) := by
  obtain ⟨c0, c1, c2, c3, c4, c5, c6, fr⟩ := h.cells
  have H := Lib.hid h
  clear h c0 c1 c2 c6
  have HFIN : Hid (∀ a b : Int, a = (x.toNat : Int) → b = (y.toNat : Int) → _) := Lib.hid fun a b ha hb => rdPlanSet H.out a b x y ha hb
  by_cases hx : x < 0
  · by_cases hy : y < 0
    · have d1 : decide (x < 0) = true := by simp; omega
      have d2 : decide (y < 0) = true := by simp; omega
      go_enter Try.func54, Try.ntmps54
      go_wp2
      go_returns
      exact ⟨rfl, HFIN.out _ _ (by omega) (by omega)⟩
    · have d1 : decide (x < 0) = true := by simp; omega
      have d2 : decide (y < 0) = false := by simp; omega
      go_enter Try.func54, Try.ntmps54
      go_wp2
      go_returns
      exact ⟨rfl, HFIN.out _ _ (by omega) (by omega)⟩
  · by_cases hy : y < 0
    · have d1 : decide (x < 0) = false := by simp; omega
      have d2 : decide (y < 0) = true := by simp; omega
      go_enter Try.func54, Try.ntmps54
      go_wp2
      go_returns
      exact ⟨rfl, HFIN.out _ _ (by omega) (by omega)⟩
    · have d1 : decide (x < 0) = false := by simp; omega
      have d2 : decide (y < 0) = false := by simp; omega
      go_enter Try.func54, Try.ntmps54
      go_wp2
      go_returns
      exact ⟨rfl, HFIN.out _ _ (by omega) (by omega)⟩
/-- Where a name's file is, or would be. -/
def rfAt (l : List RF) (n : ByteArray) : Nat := (l.takeWhile fun q => decide (q.name.data.toList < n.data.toList)).length
theorem rfAt_le (l : List RF) (n : ByteArray) : rfAt l n ≤ l.length := (List.takeWhile_sublist _).length_le
theorem rfAt_cons (q : RF) (l : List RF) (n : ByteArray) : rfAt (q :: l) n = if q.name.data.toList < n.data.toList then rfAt l n + 1 else 0 := by
  unfold rfAt
  rw [List.takeWhile_cons]
  by_cases h : q.name.data.toList < n.data.toList
  · simp [h]
  · simp [h]
theorem rfAt_lt (n : ByteArray) : ∀ (l : List RF) (j : Nat) (hj : j < l.length), j < rfAt l n → l[j].name.data.toList < n.data.toList
  | q :: l, j, hj, h => by
    rw [rfAt_cons] at h
    split at h
    · rename_i hq
      cases j with
      | zero => exact hq
      | succ j => exact rfAt_lt n l j (by simpa using hj) (by omega)
    · omega
theorem rfAt_eq (n : ByteArray) : ∀ (l : List RF) (j : Nat), (∀ i (h : i < l.length), i < j → l[i].name.data.toList < n.data.toList) → j ≤ l.length → (∀ h : j < l.length, ¬ l[j].name.data.toList < n.data.toList) → j = rfAt l n
  | [], j, _, hj, _ => by simp at hj; subst hj; rfl
  | q :: l, 0, _, _, h => by
    rw [rfAt_cons, if_neg (show ¬ q.name.data.toList < n.data.toList from h (by simp))]
  | q :: l, j + 1, h1, hj, h2 => by
    rw [rfAt_cons, if_pos (show q.name.data.toList < n.data.toList from h1 0 (by simp) (by omega)), ← rfAt_eq n l j (fun i hi hij => h1 (i + 1) (by simpa using hi) (by omega)) (by simpa using hj) (fun h => h2 (by simpa using h))]
theorem less_nm (a b : ByteArray) : Op.bytesLess a.toList b.toList = decide (a.data.toList < b.data.toList) := by rw [Proofs.bytesLess_eq, Lib.toList_data, Lib.toList_data]
def rfIs (l : List RF) (n : ByteArray) : Bool := (l[rfAt l n]?.map fun q => q.name.data.toList == n.data.toList).getD false
structure FindAns (l : List RF) (n : ByteArray) (w : World) (e : Ending) (w' : World) : Prop where
  ret : e = .returned (.tuple #[.int .i64 (rfAt l n : Int), .bool (rfIs l n)])
  bel : Below w.heap.size w w'
theorem findAnsAt {l : List RF} {n : ByteArray} {w W1 : World} {j : Nat} {q : RF} (he : j = rfAt l n) (hj : j < l.length) (hq : q = l[j]) (hb : Below w.heap.size w W1) : FindAns l n w (.returned (.tuple #[.int .i64 (j : Int), .bool (q.name.toList == n.toList)])) W1 := by
  refine ⟨?_, hb⟩
  unfold rfIs
  rw [← he, List.getElem?_eq_getElem hj, ← hq, Lib.toList_data, Lib.toList_data]
  rfl
theorem findAnsNo {l : List RF} {n : ByteArray} {w W1 : World} (he : l.length = rfAt l n) (hb : Below w.heap.size w W1) : FindAns l n w (.returned (.tuple #[.int .i64 (l.length : Int), .bool false])) W1 := by
  refine ⟨?_, hb⟩
  unfold rfIs
  rw [← he, List.getElem?_eq_none (Nat.le_refl _)]
  rfl
theorem rf_row {w : World} {bx : Nat} {st : DSt} {v : Value} {l : List RF} (h : IsRD w bx st v l) : ∃ a cap, v = .slice a l.length cap ∧ IsRowOf rfCells (fun _ => True) 3 w a l ∧ l.length ≤ cap ∧ cap ≤ maxLen ∧ (∀ b off, a = some ⟨b, off, none⟩ → v.ownBlock = some b) :=
  h.own.rowOf (fun _ => rfl) (fun _ _ => trivial)
set_option maxRecDepth 100000 in
set_option maxHeartbeats 4000000 in
theorem refFind (bx : Nat) (st : DSt) (v : Value) (l : List RF) (n : ByteArray) (w : World) (h : IsRD w bx st v l) (hl : l.length ≤ 1000000) : Calls Try.prog 56 #[.pointer (some ⟨bx, 0, none⟩), .string n] w (FindAns l n w) := by
  obtain ⟨c0, c1, c2, c3, c4, c5, c6, fr⟩ := h.cells
  obtain ⟨a, cap, rfl, hrow, _, _, _⟩ := rf_row h
  have HROW := Lib.hid hrow
  have H := Lib.hid h
  have bl : (l.length : Int) ≤ 1000000 := by omega
  have HX := Lib.hid (Array.getElem?_eq_some_iff.1 h.box).1
  clear h c0 c2 c3 c4 c5 c6 fr hrow
  have HI0 := Lib.hid (show ∀ i (h : i < l.length), i < 0 → l[i].name.data.toList < n.data.toList from fun i _ h => by omega)
  go_enter Try.func56, Try.ntmps56
  go_wp2
  go_loop [6] (fun i => ∃ j : Nat, j ≤ l.length ∧ i = .int .i64 j ∧ Hid (∀ i (h : i < l.length), i < j → l[i].name.data.toList < n.data.toList)) (fun i => l.length - (intOf i).toNat)
  case atStart => exact ⟨0, Nat.zero_le _, rfl, HI0⟩
  case round =>
    obtain ⟨j, hj, rfl, HI⟩ := hrel
    have b0 : (0 : Int) ≤ (j : Int) := by omega
    by_cases hlt : j < l.length
    · have bj : (j : Int) < (l.length : Int) := by omega
      have dj : decide ((j : Int) = (l.length : Int)) = false := by simp; omega
      have dj' : decide (j = l.length) = false := by simp; omega
      obtain ⟨b, off, hax, hbx, hcell, _⟩ := HROW.out j hlt
      obtain ⟨q, hq⟩ : ∃ q, q = l[j] := ⟨_, rfl⟩
      have HQ := Lib.hid hq
      rw [← hq] at hcell
      have hc0 := hcell 0 (by omega)
      simp only [rfCells, List.getElem?_cons_zero, Nat.add_zero] at hc0
      clear hcell hq
      rw [hax] at c1
      by_cases hc : q.name.data.toList < n.data.toList
      · have dl : Op.bytesLess q.name.toList n.toList = true := (less_nm _ _).trans (decide_eq_true hc)
        have HL := Lib.hid hc
        clear hc
        go_wp2
        go_round
        case rel => exact ⟨j + 1, by omega, by go_num, fun i h hi => by
          by_cases e : i = j
          · subst e; rw [← HQ.out]; exact HL.out
          · exact HI.out i h (by omega)⟩
        case measure => simp [intOf]; omega
      · have dl : Op.bytesLess q.name.toList n.toList = false := (less_nm _ _).trans (decide_eq_false hc)
        have HE := Lib.hid (rfAt_eq n l j HI.out hj (fun h => by rw [← HQ.out]; exact hc))
        clear hc
        go_wp2
        refine Reg.wp_region0 (by kernel_rfl) (by kernel_rfl) ?_
        refine Reg.seg0 2 (by kernel_rfl) rfl ?_
        apply Exists.intro
        refine ⟨fun e => ?_, ?_⟩
        · simp only [List.take_succ_cons, List.take_zero]
          repeat (go_big_quiet_step ((intro _; rfl)))
          refine wpQuiet_nil ?_
          exact rfl
        simp only [List.drop_succ_cons, List.drop_zero, Nat.reduceAdd]
        refine Reg.const0 (.pointer (some ⟨bx, 0, none⟩)) (fun e w1 hR hf => ⟨by rfl, ?_⟩) ?_
        · unfold Reg.gives
          clear hf
          go_simp
          exact Reg.bel_refl _
        simp only [Act.put, List.setIfInBounds_toArray, List.set_cons_zero, List.set_cons_succ, Nat.reduceAdd]
        refine Reg.seg0 1 (by kernel_rfl) rfl ?_
        apply Exists.intro
        refine ⟨fun e => ?_, ?_⟩
        · simp only [List.take_succ_cons, List.take_zero]
          repeat (go_big_quiet_step ((intro _; rfl)))
          refine wpQuiet_nil ?_
          exact rfl
        simp only [List.drop_succ_cons, List.drop_zero, Nat.reduceAdd]
        refine Reg.const0 (.slice (some ⟨b, off, none⟩) l.length cap) (fun e w1 hR hf => ⟨by rfl, ?_⟩) ?_
        · have c1' := (Below.cell hR (p := ⟨bx, 1, none⟩) HX.out).trans c1
          unfold Reg.gives
          clear hf
          go_simp
          exact Reg.bel_refl _
        simp only [Act.put, List.setIfInBounds_toArray, List.set_cons_zero, List.set_cons_succ, Nat.reduceAdd]
        refine Reg.seg0 3 (by kernel_rfl) rfl ?_
        apply Exists.intro
        refine ⟨fun e => ?_, ?_⟩
        · simp only [List.take_succ_cons, List.take_zero]
          repeat (go_big_quiet_step ((intro _; rfl)))
          refine wpQuiet_nil ?_
          exact rfl
        simp only [List.drop_succ_cons, List.drop_zero, Nat.reduceAdd]
        refine Reg.const0 (.string q.name) (fun e w1 hR hf => ⟨by rfl, ?_⟩) ?_
        · have c1' := (Below.cell hR (p := ⟨b, off + j * 3, none⟩) hbx).trans hc0
          unfold Reg.gives
          clear hf
          go_simp
          exact Reg.bel_refl _
        simp only [Act.put, List.setIfInBounds_toArray, List.set_cons_zero, List.set_cons_succ, Nat.reduceAdd]
        refine Reg.seg0 4 (by kernel_rfl) rfl ?_
        apply Exists.intro
        refine ⟨fun e => ?_, ?_⟩
        · simp only [List.take_succ_cons, List.take_zero]
          repeat (go_big_quiet_step ((intro _; rfl)))
          refine wpQuiet_nil ?_
          exact rfl
        simp only [List.drop_succ_cons, List.drop_zero, Nat.reduceAdd]
        intro eX W1 hR hJ hf
        have HB1 := Lib.hid ((Below.refl w.heap.size w).drew.trans hR)
        clear hR hJ hf
        go_wp2
        go_ret2
        exact findAnsAt HE.out hlt HQ.out HB1.out
    · obtain rfl : j = l.length := by omega
      have HE := Lib.hid (rfAt_eq n l l.length HI.out (Nat.le_refl _) (fun h => by omega))
      go_wp2
      go_ret2
      exact findAnsNo HE.out (Below.refl _ _)
def usedR (l : List RF) : Nat := (l.map fun q => q.b.length).sum
theorem usedR_fs (l : List RF) : usedR l = usedF (rfsOf l) := by unfold usedR usedF rfsOf; rw [List.map_map]; rfl
theorem usedR_take (l : List RF) (j : Nat) (h : j < l.length) : usedR (l.take (j + 1)) = usedR (l.take j) + l[j].b.length := by
  unfold usedR
  rw [List.take_succ_eq_append_getElem h, List.map_append, List.sum_append]
  rfl
theorem usedR_le (l : List RF) (j : Nat) : usedR (l.take j) ≤ usedR l := by
  unfold usedR
  conv => rhs; rw [← List.take_append_drop j l, List.map_append, List.sum_append]
  exact Nat.le_add_right _ _
set_option maxRecDepth 100000 in
set_option maxHeartbeats 4000000 in
theorem refUsed (bx : Nat) (st : DSt) (v : Value) (l : List RF) (w : World) (h : IsRD w bx st v l) (hl : l.length ≤ 1000000) (hu : usedR l ≤ 1000000000000) : Calls Try.prog 84 #[.pointer (some ⟨bx, 0, none⟩)] w (fun e w' => e = .returned (.int .i64 (usedR l : Int)) ∧ w' = w) := by
  obtain ⟨c0, c1, c2, c3, c4, c5, c6, fr⟩ := h.cells
  obtain ⟨a, cap, rfl, hrow, _, _, _⟩ := rf_row h
  have HROW := Lib.hid hrow
  have HU := Lib.hid hu
  have bl : (l.length : Int) ≤ 1000000 := by omega
  clear h c0 c2 c3 c4 c5 c6 fr hrow hu
  go_enter Try.func84, Try.ntmps84
  go_wp2
  go_loop [3, 4] (fun u i => ∃ j : Nat, j ≤ l.length ∧ i = .int .i64 j ∧ u = .int .i64 (usedR (l.take j) : Int)) (fun _ i => l.length - (intOf i).toNat)
  case atStart => exact ⟨0, Nat.zero_le _, rfl, rfl⟩
  case round =>
    obtain ⟨j, hj, rfl, rfl⟩ := hrel
    have b0 : (0 : Int) ≤ (j : Int) := by omega
    by_cases hlt : j < l.length
    · have bj : (j : Int) < (l.length : Int) := by omega
      obtain ⟨b, off, hax, hbx, hcell, _⟩ := HROW.out j hlt
      obtain ⟨q, hq⟩ : ∃ q, q = l[j] := ⟨_, rfl⟩
      have hst := usedR_take l j hlt
      have hle := usedR_le l (j + 1)
      rw [← hq] at hcell hst
      have hc1 := hcell 1 (by omega)
      simp only [rfCells, List.getElem?_cons_zero, List.getElem?_cons_succ] at hc1
      rw [hax] at c1
      have HS := Lib.hid hst
      obtain ⟨u, hu⟩ : ∃ u, u = usedR (l.take j) := ⟨_, rfl⟩
      have HUE := Lib.hid hu
      rw [← hu] at hst ⊢
      have b3 : (0 : Int) ≤ (u : Int) := by omega
      have b4 : (u : Int) + (q.b.length : Int) ≤ 1000000000000 := by have := HU.out; omega
      have b5 : (0 : Int) ≤ (u : Int) + (q.b.length : Int) := by omega
      clear hcell hq hst hle hu
      go_wp2
      go_round
      case rel => exact ⟨j + 1, by omega, by go_num, by rw [HS.out, ← HUE.out]; go_num⟩
      case measure => simp [intOf]; omega
    · obtain rfl : j = l.length := by omega
      go_wp2
      go_ret
      exact ⟨rfl, rfl⟩
end Go.Proofs.Ytnpalplnpfgibaa
