/- slices.Sort, slices.Sorted(maps.Keys(m)) at uint32. -/
import Derived.Test.YtnpalplnpfgibaaSortJ
import Derived.Test.YtnpalplnpfgibaaRtIter
import Derived.Test.YtnpalplnpfgibaaOwnOf
namespace Go.Proofs.Ytnpalplnpfgibaa
open Go.RowKit Go.Maps Go.Shelf
set_option linter.unusedSimpArgs false
set_option linter.unusedVariables false
set_option maxRecDepth 100000 in
set_option maxHeartbeats 2000000 in
theorem sort32 (g n cap : Nat) (d : Array Int) (sp : Array Value) (w : World) (h : SRow w g d sp) (hn : d.size = n) (hmx : n ≤ 1000000) : Calls Try.prog 105 #[.slice (some ⟨g, 0, none⟩) n cap] w (SOk g (Sort.sort ltI d) sp (.tuple #[]) w) := by
  have hbl : Sort.bitsLen n ≤ 30 := (Sort.bitsLen_le_iff n 30).2 (by omega)
  have HP := Lib.hid (pdq32 g cap sp (n + 1) n 0 n (Sort.bitsLen n) d w (by omega) h hn (by omega) (Nat.zero_le _) (Nat.le_refl _) (by omega) (.inl rfl))
  have HL := Lib.hid (bitsLen32 n w (by omega))
  have HE := Lib.hid (show Sort.sort ltI d = Sort.pdq ltI d 0 n (Sort.bitsLen n) true true by unfold Sort.sort; rw [hn])
  have hw1 : IntKind.u64.wrap (n : Int) = (n : Int) := by rw [IntKind.wrap_u64]; omega
  generalize Sort.bitsLen n = k at *
  rw [HE.out]
  clear h hn hmx hbl HE
  go_enter Try.func105, Try.ntmps105
  go_wp2_with fail
  refine HL.out.mono ?_
  rintro e W ⟨rfl, rfl⟩
  go_wp2_with fail
  refine HP.out.mono ?_
  rintro e W ⟨rfl, hr, hs⟩
  have HX := Lib.hid (And.intro hr hs)
  clear hr hs
  go_wp2
  go_returns
  exact ⟨rfl, HX.out.1, HX.out.2⟩
set_option maxRecDepth 100000 in
set_option maxHeartbeats 2000000 in
theorem insNil (w : World) : Calls Try.prog 141 #[.slice none 0 0, .int .i64 0, .int .i64 0] w (fun e w' => e = .returned (.tuple #[]) ∧ w' = w) := by
  go_enter Try.func141, Try.ntmps141
  go_wp2
  go_rounds 1
  all_goals go_returns
  all_goals exact ⟨rfl, rfl⟩
set_option maxRecDepth 100000 in
set_option maxHeartbeats 2000000 in
theorem pdqNil (w : World) (k : Nat) : Calls Try.prog 124 #[.slice none 0 0, .int .i64 0, .int .i64 0, .int .i64 (k : Int)] w (fun e w' => e = .returned (.tuple #[]) ∧ w' = w) := by
  have HI := Lib.hid (insNil w)
  go_enter Try.func124, Try.ntmps124
  go_wp2
  refine wp_loop_rounds 1 ?_
  rw [rounds_succ]
  go_wp2_with (go_at_call 141; refine HI.out.mono ?_; rintro e w' ⟨rfl, rfl⟩)
  all_goals go_returns
  all_goals exact ⟨rfl, rfl⟩
set_option maxRecDepth 100000 in
set_option maxHeartbeats 2000000 in
theorem sortNil (w : World) : Calls Try.prog 105 #[.slice none 0 0] w (fun e w' => e = .returned (.tuple #[]) ∧ w' = w) := by
  have HL := Lib.hid (bitsLen32 0 w (by omega))
  have HP := Lib.hid (pdqNil w)
  generalize Sort.bitsLen 0 = k at *
  go_enter Try.func105, Try.ntmps105
  go_wp2_with fail
  refine HL.out.mono ?_
  rintro e W ⟨rfl, rfl⟩
  go_wp2_with fail
  refine (HP.out k).mono ?_
  rintro e W ⟨rfl, rfl⟩
  go_wp2
  go_returns
  exact ⟨rfl, rfl⟩
theorem row_of_cur {w : World} {g k cap : Nat} {cur : Array Value} {ss : List Int} (hg : w.heap[g]? = some (.cells cur 67 (0, 0))) (hk : ss.length ≤ cap) (hc : cur.size = cap * 1) (ht : cur.toList.take (ss.length * 1) = ss.map encU) : SRow w g ss.toArray (cur.toList.drop ss.length).toArray := by
  unfold SRow
  rw [hg]
  congr 2
  apply Array.ext'
  rw [Nat.mul_one] at ht
  simp only [List.map_toArray, Array.toList_append]
  rw [← ht, List.take_append_drop]
theorem sorted_mem (ss : List Int) : (Sort.sort ltI ss.toArray).toList = ss.mergeSort fun x y => decide (x ≤ y) := Sort.sortInt ss
theorem sorted_lt (ss : List Int) (h : ss.Nodup) : (ss.mergeSort fun x y => decide (x ≤ y)).Pairwise (· < ·) := by
  have tr : ∀ a b c : Int, decide (a ≤ b) = true → decide (b ≤ c) = true → decide (a ≤ c) = true := fun a b c h1 h2 => by simp only [decide_eq_true_eq] at *; omega
  have tot : ∀ a b : Int, (decide (a ≤ b) || decide (b ≤ a)) = true := fun a b => by simp only [Bool.or_eq_true, decide_eq_true_eq]; omega
  have h1 := List.pairwise_mergeSort tr tot ss
  have h2 : (ss.mergeSort fun x y => decide (x ≤ y)).Nodup := (List.mergeSort_perm ss _).nodup_iff.2 h
  refine (h1.and h2).imp ?_
  intro a b hab
  have := hab.1
  have := hab.2
  simp only [decide_eq_true_eq] at *
  omega
set_option maxRecDepth 100000 in
set_option maxHeartbeats 2000000 in
theorem sortedKeys (Bm b nn : Nat) (D0 : DataW Unit) (w : World) (hm : w.cell? ⟨Bm, 0, none⟩ = some (.map (some b))) (hBm : Bm < w.heap.size) (hown : w.ownsMap Try.prog 67 tokElem b nn D0) (hN : Maps.size D0 ≤ 1000000) :
    Calls Try.prog 76 #[.func (.func 106) #[] #[.pointer (some ⟨Bm, 0, none⟩)]] w fun e w' => ∃ (v : Value) (ts : List Int), e = .returned v ∧ (ts.Pairwise (· < ·) ∧ ∀ x, x ∈ ts ↔ has D0 (.int .u32 x) = true) ∧ w'.ownsRow w.heap.size 67 1 v ts.length (ts.map encU) ∧ Below w.heap.size w w' := by
  refine (callsIn_wide (n := 6)).1 ?_
  have cC := collectKeys 5 (by omega) Bm b nn D0 w hm hBm hown hN
  have hfC : Fence.wide.fn 104 := trivial
  have hfS : Fence.wide.fn 105 := trivial
  refine callsIn_of_wp Try.func76 rfl trivial ?_ rfl
  clear hm
  simp only [Try.ntmps76, List.size_toArray, List.length_cons, List.length_nil, Nat.reduceAdd, Nat.reduceSub, Array.replicate_succ, Array.replicate_zero, List.push_toArray, List.append_toArray, List.nil_append, List.cons_append]
  gi_wp2_with (gi_at_call 104; refine cC.mono ?_; rintro e W ⟨v, ss, rfl, hS, hrow, hb⟩)
  have hlen : ss.length ≤ 1000000 := Nat.le_trans hS.2.1 hN
  rcases hrow.2 with ⟨rfl, hz0⟩ | ⟨gb, cap', cur, rfl, hbase, hgb, r1, r2, r3, r4⟩
  · have h0 : ss = [] := List.eq_nil_of_length_eq_zero (by omega)
    subst h0
    gi_wp2_with (gi_at_call 105; refine (callsIn_wide.2 (sortNil W)).mono ?_; rintro e w' ⟨rfl, rfl⟩)
    go_ret
    exact ⟨.slice none 0 0, [], rfl, ⟨List.Pairwise.nil, hS.2.2⟩, hrow, hb⟩
  · have hr := row_of_cur (k := 0) hgb r1 r3 r4
    have cS := (callsIn_wide (n := 5)).2 (sort32 gb ss.length cap' ss.toArray _ W hr (by simp) hlen)
    obtain ⟨ts, hts⟩ : ∃ ts, ts = ss.mergeSort fun x y => decide (x ≤ y) := ⟨_, rfl⟩
    have hl : ts.length = ss.length := by rw [hts, List.length_mergeSort]
    have he : Sort.sort ltI ss.toArray = ts.toArray := by apply Array.ext'; rw [sorted_mem, hts]
    rw [he] at cS
    have HO := Lib.hid (show ts.Pairwise (· < ·) ∧ ∀ x, x ∈ ts ↔ has D0 (.int .u32 x) = true from ⟨hts ▸ sorted_lt ss hS.1, fun x => by rw [hts, List.mem_mergeSort, hS.2.2]⟩)
    clear hts he hS hrow r4 hown
    gi_wp2_with (gi_at_call 105; refine cS.mono ?_; rintro e w' ⟨rfl, hr2, hs2⟩)
    go_ret
    have hb2 := hb.trans (hs2.below hb.size hbase)
    refine ⟨_, ts, rfl, HO.out, ⟨by simp, .inr ⟨gb, cap', _, by rw [hl]; rfl, hbase, hr2, by omega, r2, ?_, ?_⟩⟩, hb2⟩
    · simp
      rw [r3] at *
      omega
    · simp
end Go.Proofs.Ytnpalplnpfgibaa
