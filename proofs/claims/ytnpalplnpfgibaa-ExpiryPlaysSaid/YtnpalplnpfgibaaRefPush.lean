/- Contracts of the reference's Before and Push (layer 10). -/
import Derived.Test.YtnpalplnpfgibaaOwnOf
import Derived.Test.YtnpalplnpfgibaaItOpen
import Derived.Test.YtnpalplnpfgibaaHeapPure
import Derived.WalkLawsBesides
import Derived.Lib.MinMaxS
import Derived.BigQuiet
import Derived.Handy
namespace Go.Proofs.Ytnpalplnpfgibaa
open Go.RowKit
theorem less_strs (a b : ByteArray) : Op.bytesLess a.toList b.toList = decide (a.data.toList < b.data.toList) := by rw [Proofs.bytesLess_eq, Lib.toList_data, Lib.toList_data]
def BefOk (a b : It) (w : World) (e : Ending) (w' : World) : Prop := e = .returned (.bool (decide (a.lt b))) ∧ Below w.heap.size w w'
set_option maxRecDepth 100000 in
set_option maxHeartbeats 1000000 in
theorem refBefore (a b : It) (w : World) : Calls Try.prog 70 #[.agg #[.int .u64 a.t, .string a.k], .agg #[.int .u64 b.t, .string b.k]] w (BefOk a b w) := by
  by_cases h : a.t = b.t
  · have hr : decide (a.lt b) = Op.bytesLess a.k.toList b.k.toList := by
      rw [less_strs, decide_eq_decide]
      unfold It.lt
      constructor
      · rintro (h1 | h1)
        · omega
        · exact h1.2
      · exact fun h1 => .inr ⟨h, h1⟩
    have HR := Lib.hid hr
    obtain ⟨at_, ak⟩ := a
    simp only at h
    subst h
    clear hr
    go_enter Try.func70, Try.ntmps70
    go_wp2
    go_ret
    exact ⟨by rw [HR.out]; rfl, ((Below.refl _ _).alloc (Nat.le_refl _) _).alloc (by simp) _⟩
  · have hr : decide (a.lt b) = decide (a.t < b.t) := by
      rw [decide_eq_decide]
      unfold It.lt
      constructor
      · rintro (h1 | h1)
        · exact h1
        · exact absurd h1.1 h
      · exact fun h1 => .inl h1
    have HR := Lib.hid hr
    have d : (a.t != b.t) = true := by simpa using h
    clear hr h
    go_enter Try.func70, Try.ntmps70
    go_wp2
    go_ret
    exact ⟨by rw [HR.out]; rfl, ((Below.refl _ _).alloc (Nat.le_refl _) _).alloc (by simp) _⟩
theorem rit_info : (Try.prog.info? 40).map (fun i => (i.zero, i.size, i.bytes)) = some (some (.agg #[.int .u64 0, .string ByteArray.empty]), 2, 24) := by kernel_rfl
theorem it_one (q : It) : ∀ u ∈ itCells q, u.oneCell' = true := by
  intro u hu
  simp only [itCells, List.mem_cons, List.not_mem_nil, or_false] at hu
  rcases hu with h | h <;> subst h <;> rfl
/-- The reference's items, as they lie. -/
def MRow (w : World) (v : Value) (m : List It) : Prop := ∃ a cap, v = .slice a m.length cap ∧ IsRowOf itCells It.wf 2 w a m ∧ m.length ≤ cap ∧ cap ≤ maxLen ∧ (m = [] ∨ ∃ b off, a = some ⟨b, off, none⟩ ∧ b < w.heap.size)
def RPush (m : List It) (w : World) (e : Ending) (w' : World) : Prop := ∃ v, e = .returned v ∧ OwnOf 40 itCells 2 w.heap.size w' v m ∧ Below w.heap.size w w'
theorem ins_split (x : It) : ∀ l1 l2 : List It, (∀ a ∈ l1, ¬ x.lt a) → (∀ a r, l2 = a :: r → x.lt a) → ins x (l1 ++ l2) = l1 ++ x :: l2
  | [], l2, _, h2 => by
    cases l2 with
    | nil => rfl
    | cons y r => simp only [List.nil_append, ins]; rw [if_pos (h2 y r rfl)]
  | y :: l1, l2, h1, h2 => by
    simp only [List.cons_append, ins]
    rw [if_neg (h1 y (by simp)), ins_split x l1 l2 (fun a ha => h1 a (by simp [ha])) h2]
theorem ins_at (x : It) (m : List It) (hs : m.Pairwise fun a b => ¬ b.lt a) (k : Nat) (hk : k ≤ m.length) (h1 : ∀ i (h : i < m.length), k ≤ i → x.lt m[i]) (h2 : ∀ (h : k - 1 < m.length), 0 < k → ¬ x.lt m[k - 1]) : ins x m = m.take k ++ x :: m.drop k := by
  conv => lhs; rw [← List.take_append_drop k m]
  refine ins_split x _ _ (fun a ha => ?_) (fun a r e => ?_)
  · obtain ⟨i, hi, rfl⟩ := List.getElem_of_mem ha
    have hi' : i < k := by rw [List.length_take] at hi; omega
    rw [List.getElem_take]
    have h3 := h2 (by omega) (by omega)
    by_cases e : i = k - 1
    · subst e; exact h3
    · have := List.pairwise_iff_getElem.1 hs i (k - 1) (by omega) (by omega) (by omega)
      intro h4
      by_cases h5 : m[i].lt m[k - 1]
      · exact h3 (It.trans h4 h5)
      · have := It.total h5 this
        rw [this] at h4
        exact h3 h4
  · have hlt : k < m.length := by
      have := congrArg List.length e
      simp at this
      omega
    have := h1 k hlt (Nat.le_refl _)
    rw [List.drop_eq_getElem_cons hlt] at e
    cases e
    exact this
def PushAt (x : It) (m : List It) (k : Nat) : Prop := ∀ i (h : i < m.length), k ≤ i → x.lt m[i]
theorem src_rowOf' {α : Type} {C : α → List Value} {W : α → Prop} {sz : Nat} {E S : TypeId} {w : World} {a : Option Addr} {l : List α} (hS : Try.prog.underlying S = some (.slice E)) (hC : ∀ q, (C q).length = sz) (h1 : ∀ q, ∀ u ∈ C q, u.oneCell' = true) (hp : 0 < sz) (n cap : Nat) (hn : n = l.length) (h : IsRowOf C W sz w a l) : Src Try.prog sz S (.slice a n cap) l.length (l.flatMap C) w := by
  subst hn
  exact src_rowOf hS hC h1 hp cap h
theorem srcM {w : World} {a : Option Addr} {l : List It} (n cap : Nat) (hn : n = l.length) (h : IsRowOf itCells It.wf 2 w a l) : Src Try.prog 2 35 (.slice a n cap) l.length (l.flatMap itCells) w :=
  src_rowOf' (C := itCells) (E := 40) Try.underlying35 (fun _ => rfl) it_one (by omega) n cap hn h
theorem pushDone {w W1 W3 : World} {v1 v3 : Value} {l1 l3 m : List It} (hb : Below w.heap.size w W1)
    (ho1 : OwnOf 40 itCells 2 w.heap.size W1 v1 l1) (ho3 : OwnOf 40 itCells 2 w.heap.size W3 v3 l3) (hg : Grew W1 W3 v1 v3) (hm : l3 = m) : RPush m w (.returned v3) W3 := by
  subst hm
  exact ⟨v3, rfl, ho3, hb.trans (Grew.bel ho1 hb.size hg)⟩
theorem boxCells {w : World} {b : Nat} {x : It} {t : TypeId} (h : w.heap[b]? = some (.cells #[.int .u64 x.t, .string x.k] t (0, 0))) : w.cell? ⟨b, 0, none⟩ = some (.int .u64 x.t) ∧ w.cell? ⟨b, 1, none⟩ = some (.string x.k) ∧ b < w.heap.size := by
  have h0 := cell_of_row w b 0 _ _ _ h
  have h1 := cell_of_row w b 1 _ _ _ h
  exact ⟨by simpa using h0, by simpa using h1, (Array.getElem?_eq_some_iff.1 h).1⟩
set_option maxRecDepth 100000 in
set_option maxHeartbeats 8000000 in
theorem refPushNil (a : Option Addr) (cap : Nat) (x : It) (w : World) (hx : x.wf) :
    Calls Try.prog 17 #[.slice a 0 cap, .agg #[.int .u64 x.t, .string x.k]] w (RPush [x] w) := by
  have HX := Lib.hid hx
  have HI := Lib.hid rit_info
  obtain ⟨bx, hbx⟩ : ∃ bx, bx = w.heap.size := ⟨_, rfl⟩
  have HBX := Lib.hid hbx
  clear hx hbx
  by_cases hc : cap = 0
  · subst hc
    go_enter Try.func17, Try.ntmps17
    go_wp2
    refine wp_loop_rounds 1 ?_
    rw [rounds_succ]
    go_wp2
    go_quiet (fail)
    obtain ⟨Wq, hWq⟩ : ∃ W, W = (w.alloc (.cells #[.int .u64 x.t, .string x.k] 40)).drewN nq := ⟨_, rfl⟩
    have HBW := Lib.hid (show Below w.heap.size w Wq by rw [hWq]; exact below_drewN ((Below.refl _ _).alloc (Nat.le_refl _) _) _)
    have HBXW := Lib.hid (show Wq.heap[bx]? = some (.cells #[.int .u64 x.t, .string x.k] 40 (0, 0)) by rw [hWq, HBX.out]; exact heap_alloc_new w _)
    rw [← HBX.out, ← hWq]
    clear hWq
    go_wp2_with (at_builtin; refine wpList_append_of Try.underlying35 HI.out rfl (by omega) rfl (.tmp 22) (.tmp 25) rfl w.heap.size _ ([] : List It) rfl (OwnOf.emptyAt w.heap.size _ _ (by simp) (Nat.le_trans HBW.out.size (by simp))) _ ([]) rfl (srcM 0 _ rfl IsRowOf.nil) (Nat.le_trans HBW.out.size (by simp)) (by simp; try omega) ?_)
    intro v1 W1 ho1 hg1
    have hbw1 := (HBW.out.trans (((Below.refl Wq.heap.size Wq).alloc (Nat.le_refl _) (.cells #[] 40)).mono HBW.out.size)).trans (Grew.bel (OwnOf.emptyAt (C := itCells) (sz := 2) w.heap.size Wq _ rfl (Nat.le_trans HBW.out.size (by simp))) (Nat.le_trans HBW.out.size (by simp)) hg1)
    have hbx1 := (hg1.1.block bx (by have := (boxCells HBXW.out).2.2; simp; omega) (by have := (boxCells HBXW.out).2.2; simp [Value.ownBlock]; omega)).trans ((Below.heap_alloc _ _ _ (boxCells HBXW.out).2.2).trans HBXW.out)
    obtain ⟨qx0, qx1, qx2⟩ := boxCells hbx1
    have HB1 := Lib.hid hbw1
    have HO1 := Lib.hid ho1
    clear hbw1 hbx1 ho1 hg1
    go_wp2_with (at_builtin; refine wpList_append_of Try.underlying35 HI.out rfl (by omega) rfl (.tmp 27) (.tmp 29) rfl w.heap.size v1 ([] ++ []) rfl (HO1.out.bel ((Below.refl _ _).alloc (Nat.le_refl _) _)) _ [x] rfl (srcM 1 _ rfl (rowOf_new x HX.out rfl (heap_alloc_new W1 _))) (Nat.le_trans HB1.out.size (by simp)) (by simp; try omega) ?_)
    intro v2 W2 ho2 hg2
    have HB2 := Lib.hid (HB1.out.trans (Grew.bel HO1.out HB1.out.size hg2.after_alloc))
    have HO2 := Lib.hid ho2
    clear ho2 hg2
    go_wp2_with (at_builtin; refine wpList_append_of Try.underlying35 HI.out rfl (by omega) rfl (.tmp 31) (.tmp 34) rfl w.heap.size v2 ([] ++ [] ++ [x]) rfl HO2.out _ ([]) rfl (srcM 0 _ rfl IsRowOf.nil) HB2.out.size (by simp; try omega) ?_)
    intro v3 W3 ho3 hg3
    have HF := Lib.hid (show RPush [x] w (.returned v3) W3 from pushDone HB2.out HO2.out ho3 hg3 (by first | exact (rfl).symm | (simp; done) | (simp; exact (rfl).symm)))
    clear ho3 hg3
    go_wp2
    go_ret
    exact HF.out
  · cases a with
    | none =>
      go_enter Try.func17, Try.ntmps17
      go_wp2
      refine wp_loop_rounds 1 ?_
      rw [rounds_succ]
      go_wp2
      go_quiet (fail)
      obtain ⟨Wq, hWq⟩ : ∃ W, W = (w.alloc (.cells #[.int .u64 x.t, .string x.k] 40)).drewN nq := ⟨_, rfl⟩
      have HBW := Lib.hid (show Below w.heap.size w Wq by rw [hWq]; exact below_drewN ((Below.refl _ _).alloc (Nat.le_refl _) _) _)
      have HBXW := Lib.hid (show Wq.heap[bx]? = some (.cells #[.int .u64 x.t, .string x.k] 40 (0, 0)) by rw [hWq, HBX.out]; exact heap_alloc_new w _)
      rw [← HBX.out, ← hWq]
      clear hWq
      go_wp2_with (at_builtin; refine wpList_append_of Try.underlying35 HI.out rfl (by omega) rfl (.tmp 22) (.tmp 25) rfl w.heap.size _ ([] : List It) rfl (OwnOf.emptyAt w.heap.size _ _ (by simp) (Nat.le_trans HBW.out.size (by simp))) _ ([]) rfl (srcM 0 _ rfl IsRowOf.nil) (Nat.le_trans HBW.out.size (by simp)) (by simp; try omega) ?_)
      intro v1 W1 ho1 hg1
      have hbw1 := (HBW.out.trans (((Below.refl Wq.heap.size Wq).alloc (Nat.le_refl _) (.cells #[] 40)).mono HBW.out.size)).trans (Grew.bel (OwnOf.emptyAt (C := itCells) (sz := 2) w.heap.size Wq _ rfl (Nat.le_trans HBW.out.size (by simp))) (Nat.le_trans HBW.out.size (by simp)) hg1)
      have hbx1 := (hg1.1.block bx (by have := (boxCells HBXW.out).2.2; simp; omega) (by have := (boxCells HBXW.out).2.2; simp [Value.ownBlock]; omega)).trans ((Below.heap_alloc _ _ _ (boxCells HBXW.out).2.2).trans HBXW.out)
      obtain ⟨qx0, qx1, qx2⟩ := boxCells hbx1
      have HB1 := Lib.hid hbw1
      have HO1 := Lib.hid ho1
      clear hbw1 hbx1 ho1 hg1
      go_wp2_with (at_builtin; refine wpList_append_of Try.underlying35 HI.out rfl (by omega) rfl (.tmp 27) (.tmp 29) rfl w.heap.size v1 ([] ++ []) rfl (HO1.out.bel ((Below.refl _ _).alloc (Nat.le_refl _) _)) _ [x] rfl (srcM 1 _ rfl (rowOf_new x HX.out rfl (heap_alloc_new W1 _))) (Nat.le_trans HB1.out.size (by simp)) (by simp; try omega) ?_)
      intro v2 W2 ho2 hg2
      have HB2 := Lib.hid (HB1.out.trans (Grew.bel HO1.out HB1.out.size hg2.after_alloc))
      have HO2 := Lib.hid ho2
      clear ho2 hg2
      go_wp2_with (at_builtin; refine wpList_append_of Try.underlying35 HI.out rfl (by omega) rfl (.tmp 31) (.tmp 34) rfl w.heap.size v2 ([] ++ [] ++ [x]) rfl HO2.out _ ([]) rfl (srcM 0 _ rfl IsRowOf.nil) HB2.out.size (by simp; try omega) ?_)
      intro v3 W3 ho3 hg3
      have HF := Lib.hid (show RPush [x] w (.returned v3) W3 from pushDone HB2.out HO2.out ho3 hg3 (by first | exact (rfl).symm | (simp; done) | (simp; exact (rfl).symm)))
      clear ho3 hg3
      go_wp2
      go_ret
      exact HF.out
    | some a =>
      go_enter Try.func17, Try.ntmps17
      go_wp2
      refine wp_loop_rounds 1 ?_
      rw [rounds_succ]
      go_wp2
      go_quiet (fail)
      obtain ⟨Wq, hWq⟩ : ∃ W, W = (w.alloc (.cells #[.int .u64 x.t, .string x.k] 40)).drewN nq := ⟨_, rfl⟩
      have HBW := Lib.hid (show Below w.heap.size w Wq by rw [hWq]; exact below_drewN ((Below.refl _ _).alloc (Nat.le_refl _) _) _)
      have HBXW := Lib.hid (show Wq.heap[bx]? = some (.cells #[.int .u64 x.t, .string x.k] 40 (0, 0)) by rw [hWq, HBX.out]; exact heap_alloc_new w _)
      rw [← HBX.out, ← hWq]
      clear hWq
      go_wp2_with (at_builtin; refine wpList_append_of Try.underlying35 HI.out rfl (by omega) rfl (.tmp 22) (.tmp 25) rfl w.heap.size _ ([] : List It) rfl (OwnOf.emptyAt w.heap.size _ _ (by simp) (Nat.le_trans HBW.out.size (by simp))) _ ([]) rfl (srcM 0 _ rfl IsRowOf.nil) (Nat.le_trans HBW.out.size (by simp)) (by simp; try omega) ?_)
      intro v1 W1 ho1 hg1
      have hbw1 := (HBW.out.trans (((Below.refl Wq.heap.size Wq).alloc (Nat.le_refl _) (.cells #[] 40)).mono HBW.out.size)).trans (Grew.bel (OwnOf.emptyAt (C := itCells) (sz := 2) w.heap.size Wq _ rfl (Nat.le_trans HBW.out.size (by simp))) (Nat.le_trans HBW.out.size (by simp)) hg1)
      have hbx1 := (hg1.1.block bx (by have := (boxCells HBXW.out).2.2; simp; omega) (by have := (boxCells HBXW.out).2.2; simp [Value.ownBlock]; omega)).trans ((Below.heap_alloc _ _ _ (boxCells HBXW.out).2.2).trans HBXW.out)
      obtain ⟨qx0, qx1, qx2⟩ := boxCells hbx1
      have HB1 := Lib.hid hbw1
      have HO1 := Lib.hid ho1
      clear hbw1 hbx1 ho1 hg1
      go_wp2_with (at_builtin; refine wpList_append_of Try.underlying35 HI.out rfl (by omega) rfl (.tmp 27) (.tmp 29) rfl w.heap.size v1 ([] ++ []) rfl (HO1.out.bel ((Below.refl _ _).alloc (Nat.le_refl _) _)) _ [x] rfl (srcM 1 _ rfl (rowOf_new x HX.out rfl (heap_alloc_new W1 _))) (Nat.le_trans HB1.out.size (by simp)) (by simp; try omega) ?_)
      intro v2 W2 ho2 hg2
      have HB2 := Lib.hid (HB1.out.trans (Grew.bel HO1.out HB1.out.size hg2.after_alloc))
      have HO2 := Lib.hid ho2
      clear ho2 hg2
      go_wp2_with (at_builtin; refine wpList_append_of Try.underlying35 HI.out rfl (by omega) rfl (.tmp 31) (.tmp 34) rfl w.heap.size v2 ([] ++ [] ++ [x]) rfl HO2.out _ ([]) rfl (srcM 0 _ rfl IsRowOf.nil) HB2.out.size (by simp; try omega) ?_)
      intro v3 W3 ho3 hg3
      have HF := Lib.hid (show RPush [x] w (.returned v3) W3 from pushDone HB2.out HO2.out ho3 hg3 (by first | exact (rfl).symm | (simp; done) | (simp; exact (rfl).symm)))
      clear ho3 hg3
      go_wp2
      go_ret
      exact HF.out
set_option maxRecDepth 100000 in
set_option maxHeartbeats 8000000 in
theorem refPushCons (b off cap : Nat) (m : List It) (x : It) (w : World) (hr : IsRowOf itCells It.wf 2 w (some ⟨b, off, none⟩) m) (hb : b < w.heap.size) (hs : m.Pairwise fun a b => ¬ b.lt a) (h1 : 0 < m.length) (hl : m.length ≤ 1000000) (hlc : m.length ≤ cap) (hcm : cap ≤ maxLen) (hx : x.wf) :
    Calls Try.prog 17 #[.slice (some ⟨b, off, none⟩) m.length cap, .agg #[.int .u64 x.t, .string x.k]] w (RPush (ins x m) w) := by
  have HR := Lib.hid hr
  have HS := Lib.hid hs
  have HX := Lib.hid hx
  unfold maxLen at hcm
  have HI := Lib.hid rit_info
  have bl : (m.length : Int) ≤ 1000000 := by omega
  have HP0 := Lib.hid (show PushAt x m m.length from fun i h h2 => by omega)
  have hc0 : ¬ cap = 0 := by omega
  obtain ⟨bx, hbx⟩ : ∃ bx, bx = w.heap.size := ⟨_, rfl⟩
  have HBX := Lib.hid hbx
  clear hr hs hx hbx
  go_enter Try.func17, Try.ntmps17
  go_wp2
  obtain ⟨W0, hW0⟩ : ∃ W, W = w.alloc (.cells #[.int .u64 x.t, .string x.k] 40) := ⟨_, rfl⟩
  have HB0 := Lib.hid (show Below w.heap.size w W0 by rw [hW0]; exact (Below.refl _ _).alloc (Nat.le_refl _) _)
  have HX0 := Lib.hid (show W0.heap[bx]? = some (.cells #[.int .u64 x.t, .string x.k] 40 (0, 0)) by rw [hW0, HBX.out]; exact heap_alloc_new w _)
  rw [← hW0, ← HBX.out]
  clear hW0
  have HBR := Lib.hid (Below.refl W0.heap.size W0)
  go_loopw [5] (fun i wr => ∃ k : Nat, k ≤ m.length ∧ i = .int .i64 k ∧ Hid (PushAt x m k) ∧ Hid (Below W0.heap.size W0 wr)) (fun i _ => (intOf i).toNat)
  case atStart => exact ⟨m.length, Nat.le_refl _, rfl, HP0, HBR⟩
  case round =>
    obtain ⟨k, hk, rfl, HP, HB⟩ := hrel
    have HBW0 := Lib.hid (HB0.out.trans (HB.out.mono HB0.out.size))
    have HBX0 := Lib.hid ((HB.out.block bx (Array.getElem?_eq_some_iff.1 HX0.out).1).trans HX0.out)
    have bk0 : (0 : Int) ≤ (k : Int) := by omega
    have bkl : (k : Int) ≤ (m.length : Int) := by omega
    have bkc : (k : Int) ≤ (cap : Int) := by omega
    by_cases h0 : k = 0
    · have d0 : decide ((0 : Int) < (k : Int)) = false := by simp; omega
      have d1 : decide (0 < k) = false := by simp; omega
      have HM := Lib.hid (ins_at x m HS.out k hk HP.out (fun _ h => by omega))
      have hck : ¬ cap = k := by omega
      clear h0
      go_wp2
      go_quiet (fail)
      obtain ⟨Wq, hWq⟩ : ∃ W, W = wr.drewN nq := ⟨_, rfl⟩
      have HBW := Lib.hid (show Below w.heap.size w Wq by rw [hWq]; exact below_drewN HBW0.out _)
      have HBXW := Lib.hid (show Wq.heap[bx]? = some (.cells #[.int .u64 x.t, .string x.k] 40 (0, 0)) by rw [hWq]; exact HBX0.out)
      rw [← hWq]
      clear hWq
      go_wp2_with (at_builtin; refine wpList_append_of Try.underlying35 HI.out rfl (by omega) rfl (.tmp 22) (.tmp 25) rfl w.heap.size _ ([] : List It) rfl (OwnOf.emptyAt w.heap.size _ _ (by simp) (Nat.le_trans HBW.out.size (by simp))) _ (m.take k) rfl (srcM k _ (by rw [List.length_take]; omega) ((HR.out.bel HBW.out).takeN k |>.bel ((Below.refl _ _).alloc (Nat.le_refl _) _))) (Nat.le_trans HBW.out.size (by simp)) (by simp; try omega) ?_)
      intro v1 W1 ho1 hg1
      have hbw1 := (HBW.out.trans (((Below.refl Wq.heap.size Wq).alloc (Nat.le_refl _) (.cells #[] 40)).mono HBW.out.size)).trans (Grew.bel (OwnOf.emptyAt (C := itCells) (sz := 2) w.heap.size Wq _ rfl (Nat.le_trans HBW.out.size (by simp))) (Nat.le_trans HBW.out.size (by simp)) hg1)
      have hbx1 := (hg1.1.block bx (by have := (boxCells HBXW.out).2.2; simp; omega) (by have := (boxCells HBXW.out).2.2; simp [Value.ownBlock]; omega)).trans ((Below.heap_alloc _ _ _ (boxCells HBXW.out).2.2).trans HBXW.out)
      obtain ⟨qx0, qx1, qx2⟩ := boxCells hbx1
      have HB1 := Lib.hid hbw1
      have HO1 := Lib.hid ho1
      clear hbw1 hbx1 ho1 hg1
      go_wp2_with (at_builtin; refine wpList_append_of Try.underlying35 HI.out rfl (by omega) rfl (.tmp 27) (.tmp 29) rfl w.heap.size v1 ([] ++ m.take k) rfl (HO1.out.bel ((Below.refl _ _).alloc (Nat.le_refl _) _)) _ [x] rfl (srcM 1 _ rfl (rowOf_new x HX.out rfl (heap_alloc_new W1 _))) (Nat.le_trans HB1.out.size (by simp)) (by simp; try omega) ?_)
      intro v2 W2 ho2 hg2
      have HB2 := Lib.hid (HB1.out.trans (Grew.bel HO1.out HB1.out.size hg2.after_alloc))
      have HO2 := Lib.hid ho2
      clear ho2 hg2
      go_wp2_with (at_builtin; refine wpList_append_of Try.underlying35 HI.out rfl (by omega) rfl (.tmp 31) (.tmp 34) rfl w.heap.size v2 ([] ++ m.take k ++ [x]) rfl HO2.out _ (m.drop k) rfl (srcM (m.length - k) _ (by simp) ((HR.out.bel HB2.out).dropN k)) HB2.out.size (by simp; try omega) ?_)
      intro v3 W3 ho3 hg3
      have HF := Lib.hid (show RPush (ins x m) w (.returned v3) W3 from pushDone HB2.out HO2.out ho3 hg3 (by first | exact (HM.out).symm | (simp; done) | (simp; exact (HM.out).symm)))
      clear ho3 hg3
      go_wp2
      go_ret
      exact HF.out
    · obtain ⟨j, rfl⟩ : ∃ j, k = j + 1 := ⟨k - 1, by omega⟩
      have hj : j < m.length := by omega
      obtain ⟨b', off', hax, _, hcell, hyw⟩ := HR.out j hj
      simp only [Option.some.injEq, Addr.mk.injEq] at hax
      obtain ⟨rfl, rfl, _⟩ := hax
      obtain ⟨y, hy⟩ : ∃ y, y = m[j] := ⟨_, rfl⟩
      have HY := Lib.hid hy
      rw [← hy] at hcell
      have hq0 := (HBW0.out.cell (p := ⟨b, off + j * 2, none⟩) hb).trans (hcell 0 (by omega))
      have hq1 := (HBW0.out.cell (p := ⟨b, off + j * 2 + 1, none⟩) hb).trans (hcell 1 (by omega))
      simp only [itCells, List.getElem?_cons_zero, List.getElem?_cons_succ] at hq0 hq1
      have hbw := HBW0.out.size
      obtain ⟨hx0, hx1, hx2⟩ := boxCells HBX0.out
      have bj0 : (0 : Int) ≤ (j : Int) := by omega
      have bjl : (j : Int) < (m.length : Int) := by omega
      have d1 : 0 < j + 1 := by omega
      have HJ := Lib.hid (show j + 1 ≤ m.length from hk)
      clear hcell hy h0 hyw
      by_cases hlt : x.lt y
      · have HLT := Lib.hid hlt
        have dl := decide_eq_true hlt
        clear hlt
        go_wp2
        refine Reg.wp_region0 (by kernel_rfl) (by kernel_rfl) ?_
        refine Reg.seg0 3 (by kernel_rfl) rfl ?_
        apply Exists.intro
        refine ⟨fun e => ?_, ?_⟩
        · simp only [List.take_succ_cons, List.take_zero]
          repeat (go_big_quiet_step ((intro _; rfl)))
          refine wpQuiet_nil ?_
          exact rfl
        simp only [List.drop_succ_cons, List.drop_zero, Nat.reduceAdd]
        refine Reg.const0 (.agg #[.int .u64 x.t, .string x.k]) (fun e w1 hR hf => ⟨by rfl, ?_⟩) ?_
        · have c0 := (Below.cell hR (p := ⟨bx, 0, none⟩) hx2).trans hx0
          have c1 := (Below.cell hR (p := ⟨bx, 1, none⟩) hx2).trans hx1
          unfold Reg.gives
          clear hf
          go_simp
          exact Reg.bel_refl _
        simp only [Act.put, List.setIfInBounds_toArray, List.set_cons_zero, List.set_cons_succ, Nat.reduceAdd]
        refine Reg.seg0 4 (by kernel_rfl) rfl ?_
        apply Exists.intro
        refine ⟨fun e => ?_, ?_⟩
        · simp only [List.take_succ_cons, List.take_zero]
          repeat (go_big_quiet_step ((intro _; rfl)))
          refine wpQuiet_nil ?_
          exact rfl
        simp only [List.drop_succ_cons, List.drop_zero, Nat.reduceAdd]
        refine Reg.const0 (.agg #[.int .u64 y.t, .string y.k]) (fun e w1 hR hf => ⟨by rfl, ?_⟩) ?_
        · have c0 := (Below.cell hR (p := ⟨b, off + j * 2, none⟩) (show b < wr.heap.size by omega)).trans hq0
          have c1 := (Below.cell hR (p := ⟨b, off + j * 2 + 1, none⟩) (show b < wr.heap.size by omega)).trans hq1
          unfold Reg.gives
          clear hf
          go_simp
          exact Reg.bel_refl _
        simp only [Act.put, List.setIfInBounds_toArray, List.set_cons_zero, List.set_cons_succ, Nat.reduceAdd]
        refine Reg.const0 (.bool (decide (x.lt y))) (fun e w1 hR hf => ⟨by rfl, ?_⟩) ?_
        · unfold Reg.gives
          clear hf dl
          go_simp
          refine (refBefore x y _).mono ?_
          rintro e w2 ⟨rfl, hbb⟩
          exact ⟨rfl, hbb⟩
        simp only [Act.put, List.setIfInBounds_toArray, List.set_cons_zero, List.set_cons_succ, Nat.reduceAdd]
        refine Reg.seg0 1 (by kernel_rfl) rfl ?_
        apply Exists.intro
        refine ⟨fun e => ?_, ?_⟩
        · simp only [List.take_succ_cons, List.take_zero]
          repeat (go_big_quiet_step ((intro _; rfl)))
          refine wpQuiet_nil ?_
          exact rfl
        simp only [List.drop_succ_cons, List.drop_zero, Nat.reduceAdd]
        intro e Wq hR hJ hf
        have HB2 := Lib.hid (HB.out.trans (((Below.refl wr.heap.size wr).drew.trans hR).mono HB.out.size))
        clear hR hJ hf
        go_wp2
        go_roundw
        case rel => exact ⟨j, by omega, by go_num, fun i h hi => by
          by_cases e : i = j
          · subst e; rw [← HY.out]; exact HLT.out
          · exact HP.out i h (by omega), HB2⟩
        case measure => simp [intOf]
      · have HLT := Lib.hid hlt
        have dl := decide_eq_false hlt
        have HM := Lib.hid (ins_at x m HS.out (j + 1) hk HP.out (fun _ _ => by simp only [Nat.add_sub_cancel]; rw [← HY.out]; exact HLT.out))
        clear hlt
        go_wp2
        refine Reg.wp_region0 (by kernel_rfl) (by kernel_rfl) ?_
        refine Reg.seg0 3 (by kernel_rfl) rfl ?_
        apply Exists.intro
        refine ⟨fun e => ?_, ?_⟩
        · simp only [List.take_succ_cons, List.take_zero]
          repeat (go_big_quiet_step ((intro _; rfl)))
          refine wpQuiet_nil ?_
          exact rfl
        simp only [List.drop_succ_cons, List.drop_zero, Nat.reduceAdd]
        refine Reg.const0 (.agg #[.int .u64 x.t, .string x.k]) (fun e w1 hR hf => ⟨by rfl, ?_⟩) ?_
        · have c0 := (Below.cell hR (p := ⟨bx, 0, none⟩) hx2).trans hx0
          have c1 := (Below.cell hR (p := ⟨bx, 1, none⟩) hx2).trans hx1
          unfold Reg.gives
          clear hf
          go_simp
          exact Reg.bel_refl _
        simp only [Act.put, List.setIfInBounds_toArray, List.set_cons_zero, List.set_cons_succ, Nat.reduceAdd]
        refine Reg.seg0 4 (by kernel_rfl) rfl ?_
        apply Exists.intro
        refine ⟨fun e => ?_, ?_⟩
        · simp only [List.take_succ_cons, List.take_zero]
          repeat (go_big_quiet_step ((intro _; rfl)))
          refine wpQuiet_nil ?_
          exact rfl
        simp only [List.drop_succ_cons, List.drop_zero, Nat.reduceAdd]
        refine Reg.const0 (.agg #[.int .u64 y.t, .string y.k]) (fun e w1 hR hf => ⟨by rfl, ?_⟩) ?_
        · have c0 := (Below.cell hR (p := ⟨b, off + j * 2, none⟩) (show b < wr.heap.size by omega)).trans hq0
          have c1 := (Below.cell hR (p := ⟨b, off + j * 2 + 1, none⟩) (show b < wr.heap.size by omega)).trans hq1
          unfold Reg.gives
          clear hf
          go_simp
          exact Reg.bel_refl _
        simp only [Act.put, List.setIfInBounds_toArray, List.set_cons_zero, List.set_cons_succ, Nat.reduceAdd]
        refine Reg.const0 (.bool (decide (x.lt y))) (fun e w1 hR hf => ⟨by rfl, ?_⟩) ?_
        · unfold Reg.gives
          clear hf dl
          go_simp
          refine (refBefore x y _).mono ?_
          rintro e w2 ⟨rfl, hbb⟩
          exact ⟨rfl, hbb⟩
        simp only [Act.put, List.setIfInBounds_toArray, List.set_cons_zero, List.set_cons_succ, Nat.reduceAdd]
        refine Reg.seg0 1 (by kernel_rfl) rfl ?_
        apply Exists.intro
        refine ⟨fun e => ?_, ?_⟩
        · simp only [List.take_succ_cons, List.take_zero]
          repeat (go_big_quiet_step ((intro _; rfl)))
          refine wpQuiet_nil ?_
          exact rfl
        simp only [List.drop_succ_cons, List.drop_zero, Nat.reduceAdd]
        intro e Wq hR hJ hf
        have hbq := (Below.refl wr.heap.size wr).drew.trans hR
        have HBW := Lib.hid (HBW0.out.trans (hbq.mono HBW0.out.size))
        have HBXW := Lib.hid ((hbq.block bx hx2).trans HBX0.out)
        clear hR hJ hf hbq hx0 hx1 hx2 hq0 hq1
        obtain ⟨k, hkk⟩ : ∃ k, k = j + 1 := ⟨_, rfl⟩
        have HKE := Lib.hid (show ((j : Int) + 1) = (k : Int) by omega)
        have hk2 : k ≤ m.length := by omega
        rw [← hkk] at HM
        have bk0' : (0 : Int) ≤ (k : Int) := by omega
        have bkl' : (k : Int) ≤ (m.length : Int) := by omega
        have bkc' : (k : Int) ≤ (cap : Int) := by omega
        rw [← hkk]
        clear hkk bk0 bkl bkc d1 bj0 bjl dl
        by_cases hck : cap = k
        · have HDN := Lib.hid (show (m.drop k).length = 0 by simp; omega)
          subst hck
          go_wp2_with (at_builtin; refine wpList_append_of Try.underlying35 HI.out rfl (by omega) rfl (.tmp 22) (.tmp 25) rfl w.heap.size _ ([] : List It) rfl (OwnOf.emptyAt w.heap.size _ _ (by simp) (Nat.le_trans HBW.out.size (by simp))) _ (m.take cap) rfl (srcM cap _ (by rw [List.length_take]; omega) ((HR.out.bel HBW.out).takeN cap |>.bel ((Below.refl _ _).alloc (Nat.le_refl _) _))) (Nat.le_trans HBW.out.size (by simp)) (by simp; try omega) ?_)
          intro v1 W1 ho1 hg1
          have hbw1 := (HBW.out.trans (((Below.refl Wq.heap.size Wq).alloc (Nat.le_refl _) (.cells #[] 40)).mono HBW.out.size)).trans (Grew.bel (OwnOf.emptyAt (C := itCells) (sz := 2) w.heap.size Wq _ rfl (Nat.le_trans HBW.out.size (by simp))) (Nat.le_trans HBW.out.size (by simp)) hg1)
          have hbx1 := (hg1.1.block bx (by have := (boxCells HBXW.out).2.2; simp; omega) (by have := (boxCells HBXW.out).2.2; simp [Value.ownBlock]; omega)).trans ((Below.heap_alloc _ _ _ (boxCells HBXW.out).2.2).trans HBXW.out)
          obtain ⟨qx0, qx1, qx2⟩ := boxCells hbx1
          have HB1 := Lib.hid hbw1
          have HO1 := Lib.hid ho1
          clear hbw1 hbx1 ho1 hg1
          go_wp2_with (at_builtin; refine wpList_append_of Try.underlying35 HI.out rfl (by omega) rfl (.tmp 27) (.tmp 29) rfl w.heap.size v1 ([] ++ m.take cap) rfl (HO1.out.bel ((Below.refl _ _).alloc (Nat.le_refl _) _)) _ [x] rfl (srcM 1 _ rfl (rowOf_new x HX.out rfl (heap_alloc_new W1 _))) (Nat.le_trans HB1.out.size (by simp)) (by simp; try omega) ?_)
          intro v2 W2 ho2 hg2
          have HB2 := Lib.hid (HB1.out.trans (Grew.bel HO1.out HB1.out.size hg2.after_alloc))
          have HO2 := Lib.hid ho2
          clear ho2 hg2
          go_wp2_with (at_builtin; refine wpList_append_of Try.underlying35 HI.out rfl (by omega) rfl (.tmp 31) (.tmp 34) rfl w.heap.size v2 ([] ++ m.take cap ++ [x]) rfl HO2.out _ (m.drop cap) rfl (srcM 0 _ HDN.out.symm (IsRowOf.ofNil HDN.out)) HB2.out.size (by simp; try omega) ?_)
          intro v3 W3 ho3 hg3
          have HF := Lib.hid (show RPush (ins x m) w (.returned v3) W3 from pushDone HB2.out HO2.out ho3 hg3 (by first | exact (HM.out).symm | (simp; done) | (simp; exact (HM.out).symm)))
          clear ho3 hg3
          go_wp2
          go_ret
          exact HF.out
        · go_wp2_with (at_builtin; refine wpList_append_of Try.underlying35 HI.out rfl (by omega) rfl (.tmp 22) (.tmp 25) rfl w.heap.size _ ([] : List It) rfl (OwnOf.emptyAt w.heap.size _ _ (by simp) (Nat.le_trans HBW.out.size (by simp))) _ (m.take k) rfl (srcM k _ (by rw [List.length_take]; omega) ((HR.out.bel HBW.out).takeN k |>.bel ((Below.refl _ _).alloc (Nat.le_refl _) _))) (Nat.le_trans HBW.out.size (by simp)) (by simp; try omega) ?_)
          intro v1 W1 ho1 hg1
          have hbw1 := (HBW.out.trans (((Below.refl Wq.heap.size Wq).alloc (Nat.le_refl _) (.cells #[] 40)).mono HBW.out.size)).trans (Grew.bel (OwnOf.emptyAt (C := itCells) (sz := 2) w.heap.size Wq _ rfl (Nat.le_trans HBW.out.size (by simp))) (Nat.le_trans HBW.out.size (by simp)) hg1)
          have hbx1 := (hg1.1.block bx (by have := (boxCells HBXW.out).2.2; simp; omega) (by have := (boxCells HBXW.out).2.2; simp [Value.ownBlock]; omega)).trans ((Below.heap_alloc _ _ _ (boxCells HBXW.out).2.2).trans HBXW.out)
          obtain ⟨qx0, qx1, qx2⟩ := boxCells hbx1
          have HB1 := Lib.hid hbw1
          have HO1 := Lib.hid ho1
          clear hbw1 hbx1 ho1 hg1
          go_wp2_with (at_builtin; refine wpList_append_of Try.underlying35 HI.out rfl (by omega) rfl (.tmp 27) (.tmp 29) rfl w.heap.size v1 ([] ++ m.take k) rfl (HO1.out.bel ((Below.refl _ _).alloc (Nat.le_refl _) _)) _ [x] rfl (srcM 1 _ rfl (rowOf_new x HX.out rfl (heap_alloc_new W1 _))) (Nat.le_trans HB1.out.size (by simp)) (by simp; try omega) ?_)
          intro v2 W2 ho2 hg2
          have HB2 := Lib.hid (HB1.out.trans (Grew.bel HO1.out HB1.out.size hg2.after_alloc))
          have HO2 := Lib.hid ho2
          clear ho2 hg2
          go_wp2_with (at_builtin; refine wpList_append_of Try.underlying35 HI.out rfl (by omega) rfl (.tmp 31) (.tmp 34) rfl w.heap.size v2 ([] ++ m.take k ++ [x]) rfl HO2.out _ (m.drop k) rfl (srcM (m.length - k) _ (by simp) ((HR.out.bel HB2.out).dropN k)) HB2.out.size (by simp; try omega) ?_)
          intro v3 W3 ho3 hg3
          have HF := Lib.hid (show RPush (ins x m) w (.returned v3) W3 from pushDone HB2.out HO2.out ho3 hg3 (by first | exact (HM.out).symm | (simp; done) | (simp; exact (HM.out).symm)))
          clear ho3 hg3
          go_wp2
          go_ret
          exact HF.out
theorem refPush (v : Value) (m : List It) (x : It) (w : World) (hm : MRow w v m) (hs : m.Pairwise fun a b => ¬ b.lt a) (hl : m.length ≤ 1000000) (hx : x.wf) :
    Calls Try.prog 17 #[v, .agg #[.int .u64 x.t, .string x.k]] w (RPush (ins x m) w) := by
  obtain ⟨a, cap, rfl, hrow, hlc, hcm, hsh⟩ := hm
  rcases hsh with rfl | ⟨b, off, rfl, hb⟩
  · exact refPushNil a cap x w hx
  · by_cases h : 0 < m.length
    · exact refPushCons b off cap m x w hrow hb hs h hl hlc hcm hx
    · obtain rfl : m = [] := List.eq_nil_of_length_eq_zero (by omega)
      exact refPushNil _ cap x w hx
end Go.Proofs.Ytnpalplnpfgibaa
