/- fold.Page. -/
import Derived.Test.YtnpalplnpfgibaaFoldRef2
namespace Go.Proofs.Ytnpalplnpfgibaa
open Go.RowKit
theorem boxAt {w : World} {v : Value} {t : TypeId} : (w.alloc (.cells #[v] t)).cell? ⟨w.heap.size, 0, none⟩ = some v := by
  have h := heap_alloc_new w (.cells #[v] t (0, 0))
  rw [cell_of_row _ w.heap.size 0 _ _ _ h]
  rfl
structure Sorted0 (zs : List BA) (w W : World) (v : Value) (S : List BA) : Prop where
  own : OwnS w.heap.size W v S
  bel : Below w.heap.size w W
  rise : Rise S
  mem : ∀ x, x ∈ S ↔ x ∈ zs
  len : S.length ≤ zs.length
theorem sortD_len (zs : List BA) : (sortD zs).length ≤ zs.length := by
  rw [sel_first (sortD_rise zs) (sortD_mem zs) ByteArray.empty]
  exact selL_len _ _ _
theorem pageFin {zs S T : List BA} {after : BA} {first : Bool} {many : Int} {w W W' : World} {v : Value} {m k : Nat} {b : Bool} (hS : S = selL zs after first) (hm : m = many.toNat) (hk : k = min m S.length) (hT : T = S.take k) (hb : b = decide (m < S.length)) (hB : Below w.heap.size w W) (ho : OwnS W.heap.size W' v T) (hW : Below W.heap.size W W') : PageAns zs after first many w (.returned (.tuple #[v, .bool b])) W' := by
  refine pageAns hS hm hb (OwnOf.mono ?_ hB.size) (hB.trans (hW.mono hB.size))
  have h1 : S.take m = T := by
    rw [hT, hk]
    by_cases h : m < S.length
    · rw [Nat.min_eq_left (by omega)]
    · rw [Nat.min_eq_right (by omega), List.take_of_length_le (by omega), List.take_of_length_le (by omega)]
  rw [h1]
  exact ho
set_option maxRecDepth 100000 in
set_option maxHeartbeats 8000000 in
theorem pageFirst (a : Option Addr) (cap : Nat) (zs : List BA) (after : BA) (many : Int) (w : World) (h : IsStrs w a zs) (hl : zs.length ≤ 1000) : Calls Try.prog 46 #[.slice a zs.length cap, .string after, .bool true, .int .i64 many] w (PageAns zs after true many w) := by
  have HZ := Lib.hid h
  have HLZ := Lib.hid hl
  obtain ⟨m, hmm⟩ : ∃ m, m = many.toNat := ⟨_, rfl⟩
  have HMM := Lib.hid hmm
  have hmx : max many 0 = (m : Int) := by omega
  clear h hl hmm
  go_enter Try.func46, Try.ntmps46
  go_wp2_with fail
  refine (valuesS a zs.length cap w).mono ?_
  rintro e W0 ⟨rfl, hW0⟩
  have HB0 := Lib.hid (show Below w.heap.size w W0 by rw [hW0]; exact (Below.refl _ _).alloc (Nat.le_refl _) _)
  have HC0 := Lib.hid (show W0.cell? ⟨w.heap.size, 0, none⟩ = some (.slice a zs.length cap) by rw [hW0]; exact boxAt)
  have HS0 := Lib.hid (show w.heap.size < W0.heap.size by rw [hW0]; simp)
  clear hW0
  go_wp2_with fail
  refine (sortedVals w.heap.size cap a zs W0 HC0.out HS0.out (by have := HLZ.out; omega) (strsBel HZ.out HB0.out)).mono ?_
  rintro e W1 ⟨v1, rfl, ho1, hb1⟩
  have HB1 := Lib.hid (HB0.out.trans (hb1.mono HB0.out.size))
  have HO1 := Lib.hid ho1
  have HZ1 := Lib.hid hb1.size
  clear ho1 hb1
  go_wp2_with fail
  refine (compactS W0.heap.size zs.length v1 _ W1 (by rw [List.length_mergeSort, bl_len]) HO1.out HZ1.out (by have := HLZ.out; omega)).mono ?_
  rintro e W2 ⟨⟨v2, rfl, ho2⟩, hb2⟩
  obtain ⟨S, hS⟩ : ∃ S, S = sortD zs := ⟨_, rfl⟩
  have HSD := Lib.hid (show Sorted0 zs w W2 v2 S from ⟨by rw [hS]; exact OwnOf.mono ho2 HB0.out.size, HB1.out.trans ((hb2.mono HB0.out.size)), by rw [hS]; exact sortD_rise zs, fun x => by rw [hS]; exact sortD_mem zs x, by rw [hS]; exact sortD_len zs⟩)
  clear ho2 hb2 hS
  obtain ⟨a2, c2, rfl, hz2, hc2, hcm2⟩ := HSD.out.own.strs
  have hgc : c2 ≠ S.length → ∃ g, a2 = some ⟨g, 0, none⟩ := fun hne => by
    rcases HSD.out.own.2 with ⟨h1, h0⟩ | ⟨g, cap', cur, h1, _⟩
    · simp only [Value.slice.injEq] at h1
      omega
    · simp only [Value.slice.injEq] at h1
      exact ⟨g, h1.1⟩
  have HGC := Lib.hid hgc
  have HZ2 := Lib.hid hz2
  have HC2 := Lib.hid hc2
  have bS : (S.length : Int) ≤ 1000 := by have := HSD.out.len; have := HLZ.out; omega
  have bC : (c2 : Int) ≤ 9223372036854775807 := by unfold maxLen at hcm2; omega
  clear hz2 hc2 hcm2 hgc
  have HRR := HZ2
  have HCC := HC2
  have HBB := Lib.hid HSD.out.bel
  by_cases hlt : m < S.length
  · have hmn : min (m : Int) (S.length : Int) = (m : Int) := by omega
    have HK := Lib.hid (show m = min m S.length by omega)
    have d : decide ((m : Int) < (S.length : Int)) = true := decide_eq_true (by omega)
    have d' : decide (m < S.length) = true := decide_eq_true (by omega)
    have HD := Lib.hid (show true = decide (m < S.length) from (decide_eq_true (by omega)).symm)
    have bk0 : (0 : Int) ≤ (m : Int) := by omega
    have bkc : (m : Int) ≤ (c2 : Int) := by have := HCC.out; omega
    obtain ⟨T, hT⟩ : ∃ T, T = S.take m := ⟨_, rfl⟩
    have HT := Lib.hid hT
    have HTL := Lib.hid (show T.length = m by rw [hT, List.length_take]; omega)
    have HTR := Lib.hid (show IsStrs W2 a2 T by rw [hT]; exact IsRowOf.takeN HRR.out _)
    have HK1 := Lib.hid (show m ≤ 1000000 by omega)
    clear hlt hT
    go_wp2_with fail
    refine (cloneS a2 m c2 T _ HTL.out HTR.out HK1.out).mono ?_
    rintro e W9 ⟨⟨v9, rfl, ho9⟩, hb9⟩
    have HF := Lib.hid (pageFin (sel_first HSD.out.rise HSD.out.mem after) HMM.out HK.out HT.out HD.out HBB.out ho9 hb9)
    clear ho9 hb9
    go_wp2_with fail
    go_ret2
    exact HF.out
  · have hmn : min (m : Int) (S.length : Int) = (S.length : Int) := by omega
    have HK := Lib.hid (show S.length = min m S.length by omega)
    have d : decide ((S.length : Int) < (S.length : Int)) = false := decide_eq_false (by omega)
    have d' : decide (S.length < S.length) = false := decide_eq_false (by omega)
    have HD := Lib.hid (show false = decide (m < S.length) from (decide_eq_false (by omega)).symm)
    have bk0 : (0 : Int) ≤ (S.length : Int) := by omega
    have bkc : (S.length : Int) ≤ (c2 : Int) := by have := HCC.out; omega
    obtain ⟨T, hT⟩ : ∃ T, T = S.take S.length := ⟨_, rfl⟩
    have HT := Lib.hid hT
    have HTL := Lib.hid (show T.length = S.length by rw [hT, List.length_take]; omega)
    have HTR := Lib.hid (show IsStrs W2 a2 T by rw [hT]; exact IsRowOf.takeN HRR.out _)
    have HK1 := Lib.hid (show S.length ≤ 1000000 by omega)
    clear hlt hT
    go_wp2_with fail
    refine (cloneS a2 S.length c2 T _ HTL.out HTR.out HK1.out).mono ?_
    rintro e W9 ⟨⟨v9, rfl, ho9⟩, hb9⟩
    have HF := Lib.hid (pageFin (sel_first HSD.out.rise HSD.out.mem after) HMM.out HK.out HT.out HD.out HBB.out ho9 hb9)
    clear ho9 hb9
    go_wp2_with fail
    go_ret2
    exact HF.out
set_option maxRecDepth 100000 in
set_option maxHeartbeats 8000000 in
theorem pageBehind (a : Option Addr) (cap : Nat) (zs : List BA) (after : BA) (many : Int) (w : World) (h : IsStrs w a zs) (hl : zs.length ≤ 1000) : Calls Try.prog 46 #[.slice a zs.length cap, .string after, .bool false, .int .i64 many] w (PageAns zs after false many w) := by
  have HZ := Lib.hid h
  have HLZ := Lib.hid hl
  obtain ⟨m, hmm⟩ : ∃ m, m = many.toNat := ⟨_, rfl⟩
  have HMM := Lib.hid hmm
  have hmx : max many 0 = (m : Int) := by omega
  clear h hl hmm
  go_enter Try.func46, Try.ntmps46
  go_wp2_with fail
  refine (valuesS a zs.length cap w).mono ?_
  rintro e W0 ⟨rfl, hW0⟩
  have HB0 := Lib.hid (show Below w.heap.size w W0 by rw [hW0]; exact (Below.refl _ _).alloc (Nat.le_refl _) _)
  have HC0 := Lib.hid (show W0.cell? ⟨w.heap.size, 0, none⟩ = some (.slice a zs.length cap) by rw [hW0]; exact boxAt)
  have HS0 := Lib.hid (show w.heap.size < W0.heap.size by rw [hW0]; simp)
  clear hW0
  go_wp2_with fail
  refine (sortedVals w.heap.size cap a zs W0 HC0.out HS0.out (by have := HLZ.out; omega) (strsBel HZ.out HB0.out)).mono ?_
  rintro e W1 ⟨v1, rfl, ho1, hb1⟩
  have HB1 := Lib.hid (HB0.out.trans (hb1.mono HB0.out.size))
  have HO1 := Lib.hid ho1
  have HZ1 := Lib.hid hb1.size
  clear ho1 hb1
  go_wp2_with fail
  refine (compactS W0.heap.size zs.length v1 _ W1 (by rw [List.length_mergeSort, bl_len]) HO1.out HZ1.out (by have := HLZ.out; omega)).mono ?_
  rintro e W2 ⟨⟨v2, rfl, ho2⟩, hb2⟩
  obtain ⟨S, hS⟩ : ∃ S, S = sortD zs := ⟨_, rfl⟩
  have HSD := Lib.hid (show Sorted0 zs w W2 v2 S from ⟨by rw [hS]; exact OwnOf.mono ho2 HB0.out.size, HB1.out.trans ((hb2.mono HB0.out.size)), by rw [hS]; exact sortD_rise zs, fun x => by rw [hS]; exact sortD_mem zs x, by rw [hS]; exact sortD_len zs⟩)
  clear ho2 hb2 hS
  obtain ⟨a2, c2, rfl, hz2, hc2, hcm2⟩ := HSD.out.own.strs
  have hgc : c2 ≠ S.length → ∃ g, a2 = some ⟨g, 0, none⟩ := fun hne => by
    rcases HSD.out.own.2 with ⟨h1, h0⟩ | ⟨g, cap', cur, h1, _⟩
    · simp only [Value.slice.injEq] at h1
      omega
    · simp only [Value.slice.injEq] at h1
      exact ⟨g, h1.1⟩
  have HGC := Lib.hid hgc
  have HZ2 := Lib.hid hz2
  have HC2 := Lib.hid hc2
  have bS : (S.length : Int) ≤ 1000 := by have := HSD.out.len; have := HLZ.out; omega
  have bC : (c2 : Int) ≤ 9223372036854775807 := by unfold maxLen at hcm2; omega
  clear hz2 hc2 hcm2 hgc
  go_wp2_with fail
  refine (foldFind a2 c2 S after W2 HZ2.out HSD.out.rise (by have := HSD.out.len; have := HLZ.out; omega)).mono ?_
  rintro e W3 ⟨rfl, hb3⟩
  have HBB := Lib.hid (HSD.out.bel.trans (hb3.mono HSD.out.bel.size))
  have HZ3 := Lib.hid (strsBel HZ2.out hb3)
  clear hb3
  have hsb := sel_behind HSD.out.rise HSD.out.mem after
  have hale := atL_le S after
  have hisl : isL S after = true → atL S after < S.length := fun h => by
    obtain ⟨h1, _⟩ := List.getElem?_eq_some_iff.1 (isL_iff.1 h)
    exact h1
  obtain ⟨k0, hk0⟩ : ∃ k, k = atL S after := ⟨_, rfl⟩
  obtain ⟨p, hp⟩ : ∃ p, p = isL S after := ⟨_, rfl⟩
  rw [← hk0, ← hp] at hsb
  rw [← hk0] at hale hisl
  rw [← hp] at hisl
  rw [← hk0, ← hp]
  clear hk0 hp
  have bk00 : (0 : Int) ≤ (k0 : Int) := by omega
  cases p with
  | false =>
    obtain ⟨k, hk⟩ : ∃ k, k = k0 := ⟨_, rfl⟩
    have hks : k ≤ S.length := by omega
    have hsb' : S.drop k = selL zs after false := by rw [← hsb, hk]; rfl
    clear hsb hale hisl
    subst hk
    obtain ⟨R, hR⟩ : ∃ R, R = S.drop k := ⟨_, rfl⟩
    have HSEL := Lib.hid (show R = selL zs after false by rw [hR, ← hsb'])
    have hrl : S.length - k = R.length := by rw [hR, List.length_drop]
    have bk : (k : Int) ≤ (S.length : Int) := by omega
    have bkc2 : (k : Int) ≤ (c2 : Int) := by have := HC2.out; omega
    have bSc : (S.length : Int) ≤ (c2 : Int) := by have := HC2.out; omega
    have bk0 : (0 : Int) ≤ (k : Int) := by omega
    clear hsb'
    by_cases hc : c2 = k
    · have hRn : R = [] := List.eq_nil_of_length_eq_zero (by have := HC2.out; omega)
      have hkS : k = S.length := by have := HC2.out; omega
      have HK := Lib.hid (show 0 = min m R.length by rw [hRn]; simp)
      have HD := Lib.hid (show false = decide (m < R.length) by rw [hRn]; simp)
      have HT := Lib.hid (show ([] : List BA) = R.take 0 by simp)
      have hmn : min (m : Int) 0 = 0 := by omega
      clear hR hRn hrl
      subst hc
      subst hkS
      clear bk bkc2 bSc
      cases a2 with
      | none =>
        go_wp2_with fail
        refine (cloneS _ 0 _ [] _ rfl IsRowOf.nil (by omega)).mono ?_
        rintro e W9 ⟨⟨v9, rfl, ho9⟩, hb9⟩
        have HF := Lib.hid (pageFin HSEL.out HMM.out HK.out HT.out HD.out HBB.out ho9 hb9)
        clear ho9 hb9
        go_wp2_with fail
        go_ret2
        exact HF.out
      | some x =>
        go_wp2_with fail
        refine (cloneS _ 0 _ [] _ rfl IsRowOf.nil (by omega)).mono ?_
        rintro e W9 ⟨⟨v9, rfl, ho9⟩, hb9⟩
        have HF := Lib.hid (pageFin HSEL.out HMM.out HK.out HT.out HD.out HBB.out ho9 hb9)
        clear ho9 hb9
        go_wp2_with fail
        go_ret2
        exact HF.out
    · obtain ⟨g, hag⟩ : ∃ g, a2 = some ⟨g, 0, none⟩ := by
        rcases HSD.out.own.2 with ⟨h1, h0⟩ | ⟨g, cap', cur, h1, _⟩
        · simp only [Value.slice.injEq] at h1
          omega
        · simp only [Value.slice.injEq] at h1
          exact ⟨g, h1.1⟩
      obtain ⟨c3, hc3⟩ : ∃ c3, c2 - k = c3 := ⟨_, rfl⟩
      have HCC := Lib.hid (show R.length ≤ c3 by have := HC2.out; omega)
      have HRR := Lib.hid (show IsStrs W3 (some ⟨g, k, none⟩) R by
        have h1 := IsStrs.dropS (hag ▸ HZ3.out) k
        rw [Nat.zero_add] at h1
        rw [hR]
        exact h1)
      have bR : (R.length : Int) ≤ 1000 := by omega
      have bc3 : (c3 : Int) ≤ 9223372036854775807 := by omega
      clear hR
      subst hag
      by_cases hlt : m < R.length
      · have hmn : min (m : Int) (R.length : Int) = (m : Int) := by omega
        have HK := Lib.hid (show m = min m R.length by omega)
        have d : decide ((m : Int) < (R.length : Int)) = true := decide_eq_true (by omega)
        have d' : decide (m < R.length) = true := decide_eq_true (by omega)
        have HD := Lib.hid (show true = decide (m < R.length) from (decide_eq_true (by omega)).symm)
        have bk0 : (0 : Int) ≤ (m : Int) := by omega
        have bkc : (m : Int) ≤ (c3 : Int) := by have := HCC.out; omega
        obtain ⟨T, hT⟩ : ∃ T, T = R.take m := ⟨_, rfl⟩
        have HT := Lib.hid hT
        have HTL := Lib.hid (show T.length = m by rw [hT, List.length_take]; omega)
        have HTR := Lib.hid (show IsStrs W3 (some ⟨g, k, none⟩) T by rw [hT]; exact IsRowOf.takeN HRR.out _)
        have HK1 := Lib.hid (show m ≤ 1000000 by omega)
        clear hlt hT
        go_wp2_with fail
        refine (cloneS (some ⟨g, k, none⟩) m c3 T _ HTL.out HTR.out HK1.out).mono ?_
        rintro e W9 ⟨⟨v9, rfl, ho9⟩, hb9⟩
        have HF := Lib.hid (pageFin HSEL.out HMM.out HK.out HT.out HD.out HBB.out ho9 hb9)
        clear ho9 hb9
        go_wp2_with fail
        go_ret2
        exact HF.out
      · have hmn : min (m : Int) (R.length : Int) = (R.length : Int) := by omega
        have HK := Lib.hid (show R.length = min m R.length by omega)
        have d : decide ((R.length : Int) < (R.length : Int)) = false := decide_eq_false (by omega)
        have d' : decide (R.length < R.length) = false := decide_eq_false (by omega)
        have HD := Lib.hid (show false = decide (m < R.length) from (decide_eq_false (by omega)).symm)
        have bk0 : (0 : Int) ≤ (R.length : Int) := by omega
        have bkc : (R.length : Int) ≤ (c3 : Int) := by have := HCC.out; omega
        obtain ⟨T, hT⟩ : ∃ T, T = R.take R.length := ⟨_, rfl⟩
        have HT := Lib.hid hT
        have HTL := Lib.hid (show T.length = R.length by rw [hT, List.length_take]; omega)
        have HTR := Lib.hid (show IsStrs W3 (some ⟨g, k, none⟩) T by rw [hT]; exact IsRowOf.takeN HRR.out _)
        have HK1 := Lib.hid (show R.length ≤ 1000000 by omega)
        clear hlt hT
        go_wp2_with fail
        refine (cloneS (some ⟨g, k, none⟩) R.length c3 T _ HTL.out HTR.out HK1.out).mono ?_
        rintro e W9 ⟨⟨v9, rfl, ho9⟩, hb9⟩
        have HF := Lib.hid (pageFin HSEL.out HMM.out HK.out HT.out HD.out HBB.out ho9 hb9)
        clear ho9 hb9
        go_wp2_with fail
        go_ret2
        exact HF.out
  | true =>
    obtain ⟨k, hk⟩ : ∃ k, k = k0 + 1 := ⟨_, rfl⟩
    have hkc : (k0 : Int) + 1 = (k : Int) := by omega
    have hks : k ≤ S.length := by have := hisl rfl; omega
    have hsb' : S.drop k = selL zs after false := by rw [← hsb, hk]; rfl
    have bk0b : (k0 : Int) + 1 ≤ 1000 := by omega
    clear hsb hale hisl hk
    obtain ⟨R, hR⟩ : ∃ R, R = S.drop k := ⟨_, rfl⟩
    have HSEL := Lib.hid (show R = selL zs after false by rw [hR, ← hsb'])
    have hrl : S.length - k = R.length := by rw [hR, List.length_drop]
    have bk : (k : Int) ≤ (S.length : Int) := by omega
    have bkc2 : (k : Int) ≤ (c2 : Int) := by have := HC2.out; omega
    have bSc : (S.length : Int) ≤ (c2 : Int) := by have := HC2.out; omega
    have bk0 : (0 : Int) ≤ (k : Int) := by omega
    clear hsb'
    by_cases hc : c2 = k
    · have hRn : R = [] := List.eq_nil_of_length_eq_zero (by have := HC2.out; omega)
      have hkS : k = S.length := by have := HC2.out; omega
      have HK := Lib.hid (show 0 = min m R.length by rw [hRn]; simp)
      have HD := Lib.hid (show false = decide (m < R.length) by rw [hRn]; simp)
      have HT := Lib.hid (show ([] : List BA) = R.take 0 by simp)
      have hmn : min (m : Int) 0 = 0 := by omega
      clear hR hRn hrl
      subst hc
      subst hkS
      clear bk bkc2 bSc
      cases a2 with
      | none =>
        go_wp2_with fail
        refine (cloneS _ 0 _ [] _ rfl IsRowOf.nil (by omega)).mono ?_
        rintro e W9 ⟨⟨v9, rfl, ho9⟩, hb9⟩
        have HF := Lib.hid (pageFin HSEL.out HMM.out HK.out HT.out HD.out HBB.out ho9 hb9)
        clear ho9 hb9
        go_wp2_with fail
        go_ret2
        exact HF.out
      | some x =>
        go_wp2_with fail
        refine (cloneS _ 0 _ [] _ rfl IsRowOf.nil (by omega)).mono ?_
        rintro e W9 ⟨⟨v9, rfl, ho9⟩, hb9⟩
        have HF := Lib.hid (pageFin HSEL.out HMM.out HK.out HT.out HD.out HBB.out ho9 hb9)
        clear ho9 hb9
        go_wp2_with fail
        go_ret2
        exact HF.out
    · obtain ⟨g, hag⟩ : ∃ g, a2 = some ⟨g, 0, none⟩ := by
        rcases HSD.out.own.2 with ⟨h1, h0⟩ | ⟨g, cap', cur, h1, _⟩
        · simp only [Value.slice.injEq] at h1
          omega
        · simp only [Value.slice.injEq] at h1
          exact ⟨g, h1.1⟩
      obtain ⟨c3, hc3⟩ : ∃ c3, c2 - k = c3 := ⟨_, rfl⟩
      have HCC := Lib.hid (show R.length ≤ c3 by have := HC2.out; omega)
      have HRR := Lib.hid (show IsStrs W3 (some ⟨g, k, none⟩) R by
        have h1 := IsStrs.dropS (hag ▸ HZ3.out) k
        rw [Nat.zero_add] at h1
        rw [hR]
        exact h1)
      have bR : (R.length : Int) ≤ 1000 := by omega
      have bc3 : (c3 : Int) ≤ 9223372036854775807 := by omega
      clear hR
      subst hag
      by_cases hlt : m < R.length
      · have hmn : min (m : Int) (R.length : Int) = (m : Int) := by omega
        have HK := Lib.hid (show m = min m R.length by omega)
        have d : decide ((m : Int) < (R.length : Int)) = true := decide_eq_true (by omega)
        have d' : decide (m < R.length) = true := decide_eq_true (by omega)
        have HD := Lib.hid (show true = decide (m < R.length) from (decide_eq_true (by omega)).symm)
        have bk0 : (0 : Int) ≤ (m : Int) := by omega
        have bkc : (m : Int) ≤ (c3 : Int) := by have := HCC.out; omega
        obtain ⟨T, hT⟩ : ∃ T, T = R.take m := ⟨_, rfl⟩
        have HT := Lib.hid hT
        have HTL := Lib.hid (show T.length = m by rw [hT, List.length_take]; omega)
        have HTR := Lib.hid (show IsStrs W3 (some ⟨g, k, none⟩) T by rw [hT]; exact IsRowOf.takeN HRR.out _)
        have HK1 := Lib.hid (show m ≤ 1000000 by omega)
        clear hlt hT
        go_wp2_with fail
        refine (cloneS (some ⟨g, k, none⟩) m c3 T _ HTL.out HTR.out HK1.out).mono ?_
        rintro e W9 ⟨⟨v9, rfl, ho9⟩, hb9⟩
        have HF := Lib.hid (pageFin HSEL.out HMM.out HK.out HT.out HD.out HBB.out ho9 hb9)
        clear ho9 hb9
        go_wp2_with fail
        go_ret2
        exact HF.out
      · have hmn : min (m : Int) (R.length : Int) = (R.length : Int) := by omega
        have HK := Lib.hid (show R.length = min m R.length by omega)
        have d : decide ((R.length : Int) < (R.length : Int)) = false := decide_eq_false (by omega)
        have d' : decide (R.length < R.length) = false := decide_eq_false (by omega)
        have HD := Lib.hid (show false = decide (m < R.length) from (decide_eq_false (by omega)).symm)
        have bk0 : (0 : Int) ≤ (R.length : Int) := by omega
        have bkc : (R.length : Int) ≤ (c3 : Int) := by have := HCC.out; omega
        obtain ⟨T, hT⟩ : ∃ T, T = R.take R.length := ⟨_, rfl⟩
        have HT := Lib.hid hT
        have HTL := Lib.hid (show T.length = R.length by rw [hT, List.length_take]; omega)
        have HTR := Lib.hid (show IsStrs W3 (some ⟨g, k, none⟩) T by rw [hT]; exact IsRowOf.takeN HRR.out _)
        have HK1 := Lib.hid (show R.length ≤ 1000000 by omega)
        clear hlt hT
        go_wp2_with fail
        refine (cloneS (some ⟨g, k, none⟩) R.length c3 T _ HTL.out HTR.out HK1.out).mono ?_
        rintro e W9 ⟨⟨v9, rfl, ho9⟩, hb9⟩
        have HF := Lib.hid (pageFin HSEL.out HMM.out HK.out HT.out HD.out HBB.out ho9 hb9)
        clear ho9 hb9
        go_wp2_with fail
        go_ret2
        exact HF.out
end Go.Proofs.Ytnpalplnpfgibaa
