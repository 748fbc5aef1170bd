/- fold's Find, and the parts of its Page: Sorted(Values(..)), Compact, Clone at []string. -/
import Derived.Test.YtnpalplnpfgibaaFoldIter
import Derived.Test.YtnpalplnpfgibaaFoldPure
import Derived.Lib.MinMaxS
import Derived.Lib.RowBridge
import Derived.WalkLawsBesides
import Derived.BigQuiet
import Derived.Handy
namespace Go.Proofs.Ytnpalplnpfgibaa
open Go.RowKit Go.Maps Go.Sort Go.Shelf
abbrev OwnS (B : Nat) (w : World) (v : Value) (l : List BA) : Prop := OwnOf 9 sCells 1 B w v l
theorem cells_toBA (L : List (List UInt8)) : (L.map toBA).flatMap sCells = L.map encStr := by
  induction L with
  | nil => rfl
  | cons x L ih =>
    rw [List.map_cons, List.flatMap_cons, ih, List.map_cons]
    rfl
theorem OwnS.of {B n : Nat} {w : World} {v : Value} {L : List (List UInt8)} (h : w.ownsRow B 9 1 v n (L.map encStr)) (hn : n = L.length) : OwnS B w v (L.map toBA) := by
  subst hn
  show w.ownsRow B 9 1 v (L.map toBA).length ((L.map toBA).flatMap sCells)
  rw [cells_toBA, List.length_map]
  exact h
theorem OwnS.strs {B : Nat} {w : World} {v : Value} {l : List BA} (h : OwnS B w v l) : ∃ a cap, v = .slice a l.length cap ∧ IsStrs w a l ∧ l.length ≤ cap ∧ cap ≤ maxLen := by
  obtain ⟨a, cap, h1, h2, h3, h4, _⟩ := OwnOf.rowOf (C := sCells) (W := fun _ => True) (fun _ => rfl) (fun _ _ => trivial) h
  exact ⟨a, cap, h1, h2, h3, h4⟩
theorem ownsRow_cut {w : World} {B g cap n m : Nat} {e : TypeId} {xs : List Value} (h : w.ownsRow B e 1 (.slice (some ⟨g, 0, none⟩) n cap) n xs) (hm : m ≤ n) : w.ownsRow B e 1 (.slice (some ⟨g, 0, none⟩) m cap) m (xs.take m) := by
  have hl := h.1
  refine ⟨by rw [List.length_take, hl]; omega, ?_⟩
  rcases h.2 with ⟨h1, _⟩ | ⟨g', cap', cur, hv, hbg, hg, hnc, hcm, hcs, htake⟩
  · cases h1
  · simp only [Value.slice.injEq, Option.some.injEq, Addr.mk.injEq] at hv
    obtain ⟨⟨rfl, _, _⟩, _, rfl⟩ := hv
    refine .inr ⟨g, cap, cur, rfl, hbg, hg, by omega, hcm, hcs, ?_⟩
    rw [← htake, List.take_take]
    congr 1
    omega
structure SliceAns (B : Nat) (l : List BA) (w : World) (e : Ending) (w' : World) : Prop where
  own : ∃ v, e = .returned v ∧ OwnS B w' v l
  bel : Below B w w'
set_option maxRecDepth 100000 in
set_option maxHeartbeats 2000000 in
theorem valuesS (a : Option Addr) (len cap : Nat) (w : World) : Calls Try.prog 80 #[.slice a len cap] w (fun e w' => e = .returned (.func (.func 109) #[] #[.pointer (some ⟨w.heap.size, 0, none⟩)]) ∧ w' = w.alloc (.cells #[.slice a len cap] 81)) := by
  go_enter Try.func80, Try.ntmps80
  go_wp2
  go_ret
  exact ⟨rfl, rfl⟩
theorem str_cells (l : List BA) : l.map Value.string = l.flatMap sCells := by
  induction l with
  | nil => rfl
  | cons y l ih => rw [List.map_cons, List.flatMap_cons, ih]; rfl
set_option maxRecDepth 100000 in
set_option maxHeartbeats 2000000 in
theorem sortedVals (Bs cap : Nat) (a : Option Addr) (zs : List BA) (w : World) (hBs : w.cell? ⟨Bs, 0, none⟩ = some (.slice a zs.length cap)) (hBl : Bs < w.heap.size) (hlen : zs.length ≤ 1000000) (hz : IsStrs w a zs) :
    Calls Try.prog 79 #[.func (.func 109) #[] #[.pointer (some ⟨Bs, 0, none⟩)]] w fun e w' => ∃ v : Value, e = .returned v ∧ w'.ownsRow w.heap.size 9 1 v zs.length (((bl zs).mergeSort fun x y => decide (x ≤ y)).map encStr) ∧ Below w.heap.size w w' := by
  refine (callsIn_wide (n := 6)).1 ?_
  have cC := collectVals 5 (by omega) Bs cap a zs w hBs hBl hlen hz
  have hfC : Fence.wide.fn 107 := trivial
  have hfS : Fence.wide.fn 108 := trivial
  have hbl := bl_len zs
  refine callsIn_of_wp Try.func79 rfl trivial ?_ rfl
  clear hBs hz
  simp only [Try.ntmps79, List.size_toArray, List.length_cons, List.length_nil, Nat.reduceAdd, Nat.reduceSub, Array.replicate_succ, Array.replicate_zero, List.push_toArray, List.append_toArray, List.nil_append, List.cons_append]
  gi_wp2_with (gi_at_call 107; refine cC.mono ?_; rintro e W ⟨v, rfl, hrow, hb⟩)
  rcases hrow.2 with ⟨rfl, hz0⟩ | ⟨gb, cap', cur, rfl, hbase, hgb, r1, r2, r3, r4⟩
  · have h0 : zs = [] := List.eq_nil_of_length_eq_zero (by omega)
    subst h0
    gi_wp2_with (gi_at_call 108; refine (callsIn_wide.2 (AnyM.slices_Sort_string_none Try.sortF none 0 W)).mono ?_; rintro e w' ⟨rfl, rfl⟩)
    go_ret
    exact ⟨.slice none 0 0, rfl, by simpa [bl] using hrow, hb⟩
  · have hH : Holds encStr W gb 0 (bl zs).toArray := holds_of_block hgb (by simpa using r4)
    have hgl : gb < W.heap.size := (Array.getElem?_eq_some_iff.1 hgb).1
    have cS := (callsIn_wide (n := 5)).2 (AnyM.slices_Sort_string Try.sortF gb 0 cap' (bl zs) W hH hgl (by omega))
    change CallsIn _ _ Try.prog 108 _ _ _ at cS
    gi_wp2_with (gi_at_call 108; refine cS.mono ?_; rintro e w' ⟨rfl, nn, os, rfl⟩)
    go_ret
    refine ⟨_, rfl, ?_, hb.grown (grownBy_sorted _) hb.size (fun j hj => by cases hj; exact hbase)⟩
    have h1 := ownsRow_sorted (w := W) (n := nn) (os := os) (ss := bl zs) (ts := (bl zs).mergeSort fun x y => decide (x ≤ y)) (by simp) hbase hgb r1 r2 r3
    rw [hbl] at h1
    exact h1
theorem compactS (B n : Nat) (v : Value) (M : List (List UInt8)) (w : World) (hn : M.length = n) (h : w.ownsRow B 9 1 v n (M.map encStr)) (hB : B ≤ w.heap.size) (hl : n ≤ 1000000) :
    Calls Try.prog 78 #[v] w (SliceAns B ((Lib.compact M).map toBA) w) := by
  subst hn
  rcases h.2 with ⟨rfl, h0⟩ | ⟨g, cap, cur, rfl, hbase, hg, r1, r2, r3, r4⟩
  · have hM : M = [] := List.eq_nil_of_length_eq_zero h0
    subst hM
    refine (Any.slices_Compact_string_empty Try.compactF none 0 w).mono ?_
    rintro e w' ⟨rfl, rfl⟩
    exact ⟨⟨_, rfl, OwnOf.nil _ _⟩, Below.refl _ _⟩
  · have hH : Holds encStr w g 0 M.toArray := holds_of_block hg (by simpa using r4)
    have hc := Lib.compact_length_le M
    refine (Any.slices_Compact_string Try.compactF g 0 cap M w hH (by omega) (by omega)).mono ?_
    rintro e w' ⟨rfl, q, rfl⟩
    obtain ⟨T, hT⟩ : ∃ T, T = Lib.compact M ++ List.replicate (M.length - (Lib.compact M).length) [] := ⟨_, rfl⟩
    have hTl : T.length = M.length := by rw [hT]; simp; omega
    have h1 := ownsRow_sorted (w := w) (n := q) (os := #[]) (ss := M) (ts := T) hTl hbase hg r1 r2 r3
    have h2 := grownBy_sorted (w := w) (g := g) (n := q) (os := #[]) T.toArray
    rw [grow_empty] at h1 h2
    have h3 := ownsRow_cut h1 hc
    have h4 : (T.map encStr).take (Lib.compact M).length = (Lib.compact M).map encStr := by
      rw [hT, List.map_append, List.take_append_of_le_length (by simp)]
      rw [List.take_of_length_le (by simp)]
    rw [h4, hT] at h3
    rw [hT] at h2
    exact ⟨⟨_, rfl, OwnS.of h3 rfl⟩, (Below.refl B w).grown h2 hB (fun j hj => by cases hj; exact hbase)⟩
theorem cloneS (a : Option Addr) (n cap : Nat) (l : List BA) (w : World) (hn : l.length = n) (h : IsStrs w a l) (hl : n ≤ 1000000) :
    Calls Try.prog 81 #[.slice a n cap] w (SliceAns w.heap.size l w) := by
  subst hn
  cases a with
  | none =>
    have h0 : l = [] := by
      cases l with
      | nil => rfl
      | cons x l =>
        obtain ⟨b, off, h1, _⟩ := h 0 (by simp)
        cases h1
    subst h0
    refine (Any.slices_Clone_string_nil Try.cloneF 0 cap w).mono ?_
    rintro e w' ⟨rfl, rfl⟩
    exact ⟨⟨_, rfl, OwnOf.nil _ _⟩, Below.refl _ _⟩
  | some x =>
    by_cases h0 : l.length = 0
    · have h0' := List.eq_nil_of_length_eq_zero h0
      subst h0'
      refine (Any.slices_Clone_string_zero Try.cloneF x cap w).mono ?_
      rintro e w' ⟨v, rfl, ho, _, hb⟩
      exact ⟨⟨v, rfl, ho⟩, hb⟩
    · obtain ⟨b, off, h1, _⟩ := h 0 (by omega)
      rw [h1]
      refine (Any.slices_Clone_string Try.cloneF b off l.length cap l w (Nat.le_refl _) (by omega) (fun j hj => ?_)).mono ?_
      · rw [strs_at h hj h1, enc_bl, List.getD_eq_getElem?_getD, List.getElem?_eq_getElem hj]
        rfl
      · rintro e w' ⟨v, rfl, ho, _, hb⟩
        rw [List.take_length] at ho
        rw [str_cells] at ho
        exact ⟨⟨v, rfl, ho⟩, hb⟩
structure FindAns (S : List BA) (s : BA) (w : World) (e : Ending) (w' : World) : Prop where
  ret : e = .returned (.tuple #[.int .i64 (atL S s : Int), .bool (isL S s)])
  bel : Below w.heap.size w w'
theorem less_nm (a b : BA) : Op.bytesLess a.toList b.toList = ltB a b := by rw [Proofs.bytesLess_eq, Lib.toList_data, Lib.toList_data]; rfl
theorem searchS (a : Option Addr) (cap : Nat) (S : List BA) (s : BA) (w : World) (h : IsStrs w a S) (hr : Rise S) (hl : S.length ≤ 1000000) :
    Calls Try.prog 83 #[.slice a S.length cap, .string s] w (FindAns S s w) := by
  by_cases h0 : S.length = 0
  · have h0' := List.eq_nil_of_length_eq_zero h0
    subst h0'
    refine (Any2.slices_BinarySearch_string_empty Try.searchF a cap s w).mono ?_
    rintro e w' ⟨rfl, rfl⟩
    exact ⟨rfl, Below.refl _ _⟩
  · obtain ⟨b, off, h1, _⟩ := h 0 (by omega)
    rw [h1]
    refine (Any2.slices_BinarySearch_string Try.searchF b off S.length cap (fun t => S.getD t ByteArray.empty) s w (by omega) (fun j hj => ?_)).mono ?_
    · rw [strs_at h hj h1, enc_bl, List.getD_eq_getElem?_getD, List.getElem?_eq_getElem hj]
      rfl
    · have hb : ∀ f : Nat → Bool, (∀ t (h : t < S.length), f t = ltB S[t] s) → Lib.bsGo f S.length 0 S.length = atL S s := fun f hf => by
        have h2 := bs_at hr s (fun t => if t < S.length then f t else false) (fun t ht => by rw [if_pos ht, hf t ht]) (fun t ht => if_neg (by omega))
        rw [← h2]
        exact bs_congr f _ (fun t ht => (if_pos ht).symm) S.length 0 S.length (Nat.le_refl _)
      have h3 := hb (fun t => Op.bytesLess (S.getD t ByteArray.empty).toList s.toList) (fun t ht => by rw [less_nm, List.getD_eq_getElem?_getD, List.getElem?_eq_getElem ht]; rfl)
      rintro e w' ⟨rfl, q, rfl⟩
      refine ⟨?_, below_drewN (Below.refl _ _) q⟩
      have h7 : decide (atL S s < S.length ∧ S.getD (atL S s) ByteArray.empty = s) = isL S s := by
        rw [Bool.eq_iff_iff, decide_eq_true_iff, isL_iff]
        constructor
        · rintro ⟨h4, h5⟩
          rw [List.getElem?_eq_getElem h4]
          rw [List.getD_eq_getElem?_getD, List.getElem?_eq_getElem h4] at h5
          exact congrArg some h5
        · intro h4
          obtain ⟨h5, h6⟩ := List.getElem?_eq_some_iff.1 h4
          refine ⟨h5, ?_⟩
          rw [List.getD_eq_getElem?_getD, h4]
          rfl
      rw [h3, h7]
set_option maxRecDepth 100000 in
set_option maxHeartbeats 2000000 in
theorem foldFind (a : Option Addr) (cap : Nat) (S : List BA) (s : BA) (w : World) (h : IsStrs w a S) (hr : Rise S) (hl : S.length ≤ 1000000) :
    Calls Try.prog 48 #[.slice a S.length cap, .string s] w (FindAns S s w) := by
  have H := Lib.hid h
  have HR := Lib.hid hr
  have HL := Lib.hid hl
  clear h hr hl
  go_enter Try.func48, Try.ntmps48
  go_wp2_with fail
  refine (searchS a cap S s w H.out HR.out HL.out).mono ?_
  rintro e W ⟨rfl, hb⟩
  have HB := Lib.hid hb
  clear hb
  go_wp2_with fail
  go_ret2
  exact ⟨rfl, HB.out⟩
end Go.Proofs.Ytnpalplnpfgibaa
