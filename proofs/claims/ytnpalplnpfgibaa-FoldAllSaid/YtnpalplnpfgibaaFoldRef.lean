/- The reference's Add, Page and Texts (layer 11), and 'small'. -/
import Derived.Test.YtnpalplnpfgibaaFoldSort
import Derived.WalkLawsBesides
import Derived.BigQuiet
import Derived.Handy
namespace Go.Proofs.Ytnpalplnpfgibaa
open Go.RowKit
theorem st_info : (Try.prog.info? 9).map (fun i => (i.zero, i.size, i.bytes)) = some (some (.string ByteArray.empty), 1, 16) := by kernel_rfl
theorem st_one (q : BA) : ∀ u ∈ sCells q, u.oneCell' = true := by
  intro u hu
  simp only [sCells, List.mem_cons, List.not_mem_nil, or_false] at hu
  subst hu
  rfl
theorem srcS {w : World} {a : Option Addr} {l : List BA} (n cap : Nat) (hn : n = l.length) (h : IsStrs w a l) : Src Try.prog 1 81 (.slice a n cap) l.length (l.flatMap sCells) w := by
  subst hn
  exact src_rowOf (C := sCells) (W := fun _ => True) (E := 9) Try.underlying81 (sz := 1) (fun _ => rfl) st_one (by omega) cap h
theorem addDone {B : Nat} {w W1 W3 : World} {v1 v3 : Value} {l1 l3 m : List BA} (hB : B ≤ w.heap.size) (hb : Below w.heap.size w W1) (ho1 : OwnS w.heap.size W1 v1 l1) (ho3 : OwnS w.heap.size W3 v3 l3) (hg : Grew W1 W3 v1 v3) (hm : l3 = m) : SliceAns B m w (.returned v3) W3 := by
  subst hm
  exact ⟨⟨v3, rfl, OwnOf.mono ho3 hB⟩, (hb.trans (Grew.bel ho1 hb.size hg)).mono hB⟩
theorem IsStrs.dropS {w : World} {b off : Nat} {l : List BA} (h : IsStrs w (some ⟨b, off, none⟩) l) (n : Nat) : IsStrs w (some ⟨b, off + n, none⟩) (l.drop n) := by
  have h1 := IsRowOf.dropN h n
  rw [Nat.mul_one] at h1
  exact h1
set_option maxRecDepth 100000 in
set_option maxHeartbeats 8000000 in
theorem refAdd (B : Nat) (v : Value) (l : List BA) (s : BA) (w : World) (h : OwnS B w v l) (hB : B ≤ w.heap.size) (hl : l.length ≤ 1000000) : Calls Try.prog 82 #[v, .string s] w (SliceAns B (addL l s) w) := by
  have HV := Lib.hid h
  obtain ⟨a, cap, hv, hz, hnc, hcm⟩ := h.strs
  have hgc : cap ≠ l.length → ∃ g, a = some ⟨g, 0, none⟩ := fun hne => by
    rcases h.2 with ⟨h1, h0⟩ | ⟨g, cap', cur, h1, _⟩
    · rw [hv] at h1
      simp only [Value.slice.injEq] at h1
      omega
    · rw [hv] at h1
      simp only [Value.slice.injEq] at h1
      exact ⟨g, h1.1⟩
  subst hv
  have HGC := Lib.hid hgc
  have HI := Lib.hid st_info
  have HBZ := Lib.hid hB
  have HLL := Lib.hid hl
  have HROW := Lib.hid hz
  have HCM := Lib.hid hcm
  have HNC := Lib.hid hnc
  have bl0 : (l.length : Int) ≤ 1000000 := by omega
  clear h hz hgc hB hl hcm hnc
  have HI0 := Lib.hid (show ∀ i (h : i < l.length), i < 0 → nlt l[i] s from fun i _ h => by omega)
  go_enter Try.func82, Try.ntmps82
  go_wp2
  go_loop [5] (fun i => ∃ j : Nat, j ≤ l.length ∧ i = .int .i64 j ∧ Hid (∀ i (h : i < l.length), i < j → nlt l[i] s)) (fun i => l.length - (intOf i).toNat)
  case atStart => exact ⟨0, Nat.zero_le _, rfl, HI0⟩
  case round =>
    obtain ⟨j, hj, rfl, HJ⟩ := hrel
    have b0 : (0 : Int) ≤ (j : Int) := by omega
    by_cases hlt : j < l.length
    · have bj : (j : Int) < (l.length : Int) := by omega
      obtain ⟨b, off, hax, hbx, _⟩ := HROW.out j hlt
      have hc0 := strs_at HROW.out hlt hax
      rw [enc_bl] at hc0
      obtain ⟨q, hq⟩ : ∃ q, q = l[j] := ⟨_, rfl⟩
      have HQ := Lib.hid hq
      rw [← hq] at hc0
      clear hq
      by_cases hc : nlt q s
      · have dl : Op.bytesLess q.toList s.toList = true := (less_nm _ _).trans (ltB_iff.2 hc)
        have HL := Lib.hid hc
        subst hax
        clear hc
        go_wp2
        go_round
        case rel => exact ⟨j + 1, by omega, by go_num, fun i h hi => by
          by_cases e : i = j
          · subst e; rw [← HQ.out]; exact HL.out
          · exact HJ.out i h (by omega)⟩
        case measure => simp [intOf]; omega
      · have dl : Op.bytesLess q.toList s.toList = false := (less_nm _ _).trans (ltB_no.2 hc)
        have hat := atL_eq s l j hj HJ.out (fun h => by rw [← HQ.out]; exact hc)
        by_cases he : q = s
        · have hadd : addL l s = l := by
            unfold addL
            rw [if_pos (isL_iff.2 (by rw [← hat, List.getElem?_eq_getElem hlt, ← HQ.out, he]))]
          have de : (q.toList == s.toList) = true := by rw [he]; simp
          have HADD := Lib.hid hadd
          subst hax
          clear hc hat hadd he
          go_wp2_with fail
          go_ret
          exact ⟨⟨.slice (some ⟨b, off, none⟩) l.length cap, rfl, by rw [HADD.out]; exact HV.out⟩, Below.refl _ _⟩
        · have hadd : l.take j ++ s :: l.drop j = addL l s := by
            unfold addL
            rw [if_neg (fun h5 => by
              have h6 := isL_iff.1 h5
              rw [← hat, List.getElem?_eq_getElem hlt, ← HQ.out, Option.some.injEq] at h6
              exact he h6), ← hat]
          have de : (q.toList == s.toList) = false := by
            rw [Lib.toList_data, Lib.toList_data]
            simpa using fun e => he (ba_ext e)
          obtain ⟨T, hT⟩ : ∃ T, T = l.take j := ⟨_, rfl⟩
          obtain ⟨Dr, hDr⟩ : ∃ Dr, Dr = l.drop j := ⟨_, rfl⟩
          rw [← hT, ← hDr] at hadd
          have HEQ := Lib.hid hadd
          have HTJ := Lib.hid (show j = T.length by rw [hT, List.length_take]; omega)
          have HDJ := Lib.hid (show l.length - j = Dr.length by rw [hDr, List.length_drop])
          have ROW1 := Lib.hid (show IsStrs w a T by rw [hT]; exact IsRowOf.takeN HROW.out j)
          have ROW2 := Lib.hid (show IsStrs w (some ⟨b, off + j, none⟩) Dr by rw [hDr]; exact IsStrs.dropS (hax ▸ HROW.out) j)
          have htl : T.length + Dr.length ≤ 1000000 := by rw [hT, hDr, List.length_take, List.length_drop]; have := HLL.out; omega
          clear hT hDr
          have bc : (j : Int) ≤ (cap : Int) := by have := HNC.out; omega
          have bc2 : ¬ cap = j := by have := HNC.out; omega
          have bcm : (cap : Int) ≤ 9223372036854775807 := by have := HCM.out; unfold maxLen at this; omega
          subst hax
          clear hc hat hadd he
          have HTL := Lib.hid htl
          clear htl
          go_wp2_with (at_builtin; refine wpList_append_of Try.underlying81 HI.out rfl (by omega) rfl (.tmp 32) (.tmp 35) rfl w.heap.size _ ([] : List BA) rfl (OwnOf.emptyAt w.heap.size _ _ (by simp) (Nat.le_refl _)) _ T rfl (srcS _ _ HTJ.out (strsBel ROW1.out ((Below.refl _ _).alloc (Nat.le_refl _) _))) (by simp) (by have := HTL.out; simp only [List.length_nil]; omega) ?_)
          intro v1 W1 ho1 hg1
          have HB1 := Lib.hid (((Below.refl w.heap.size w).alloc (Nat.le_refl _) (.cells #[] 9)).trans (Grew.bel (OwnOf.emptyAt (E := 9) (C := sCells) (sz := 1) w.heap.size w _ rfl (Nat.le_refl _)) (by simp) hg1))
          have HO1 := Lib.hid ho1
          clear ho1 hg1
          go_wp2_with (at_builtin; refine wpList_append_of Try.underlying81 HI.out rfl (by omega) rfl (.tmp 37) (.tmp 39) rfl w.heap.size v1 T rfl (HO1.out.bel ((Below.refl _ _).alloc (Nat.le_refl _) _)) _ [s] rfl (srcS 1 _ rfl (rowOf_new (C := sCells) (W := fun _ => True) s trivial rfl (heap_alloc_new W1 _))) (Nat.le_trans HB1.out.size (by simp)) (by have := HTL.out; simp only [List.length_cons, List.length_nil]; omega) ?_)
          intro v2 W2 ho2 hg2
          have HB2 := Lib.hid (HB1.out.trans (Grew.bel HO1.out HB1.out.size hg2.after_alloc))
          have HO2 := Lib.hid ho2
          clear ho2 hg2
          go_wp2_with (at_builtin; refine wpList_append_of Try.underlying81 HI.out rfl (by omega) rfl (.tmp 41) (.tmp 44) rfl w.heap.size v2 (T ++ [s]) rfl HO2.out _ Dr rfl (srcS _ _ HDJ.out (strsBel ROW2.out HB2.out)) HB2.out.size (by have := HTL.out; simp only [List.length_append, List.length_cons, List.length_nil]; omega) ?_)
          intro v3 W3 ho3 hg3
          have HF := Lib.hid (addDone HBZ.out HB2.out HO2.out ho3 hg3 HEQ.out)
          clear ho3 hg3
          go_wp2_with fail
          go_ret
          exact HF.out
    · obtain rfl : j = l.length := by omega
      have hat := atL_eq s l l.length (Nat.le_refl _) HJ.out (fun h => by omega)
      have hadd : l ++ s :: ([] : List BA) = addL l s := by
        unfold addL
        rw [if_neg (fun h5 => by
          have h6 := isL_iff.1 h5
          rw [← hat, List.getElem?_eq_none (Nat.le_refl _)] at h6
          cases h6), ← hat]
        simp
      obtain ⟨T, hT⟩ : ∃ T, T = l := ⟨_, rfl⟩
      obtain ⟨Dr, hDr⟩ : ∃ Dr, Dr = ([] : List BA) := ⟨_, rfl⟩
      rw [← hDr] at hadd
      have hadd2 : T ++ s :: Dr = addL l s := by rw [hT]; exact hadd
      have HEQ := Lib.hid hadd2
      have HTJ := Lib.hid (show l.length = T.length by rw [hT])
      have ROW1 := Lib.hid (show IsStrs w a T by rw [hT]; exact HROW.out)
      have hd0 : Dr.length = 0 := by rw [hDr]; rfl
      have HD0 := Lib.hid hd0
      have htl : T.length + Dr.length ≤ 1000000 := by rw [hT]; have := HLL.out; omega
      have HR0 : Hid (∀ a', IsStrs w a' Dr) := Lib.hid (fun a' => by rw [hDr]; exact IsRowOf.nil)
      clear hT hDr hadd2 hd0
      have bc : (l.length : Int) ≤ (cap : Int) := by have := HNC.out; omega
      have bcm : (cap : Int) ≤ 9223372036854775807 := by have := HCM.out; unfold maxLen at this; omega
      by_cases hcl : cap = l.length
      · have HDJ := Lib.hid HD0.out.symm
        have ROW2 := Lib.hid (HR0.out a)
        subst hcl
        clear hat hadd
        cases a with
        | none =>
          have HTL := Lib.hid htl
          clear htl
          go_wp2_with (at_builtin; refine wpList_append_of Try.underlying81 HI.out rfl (by omega) rfl (.tmp 32) (.tmp 35) rfl w.heap.size _ ([] : List BA) rfl (OwnOf.emptyAt w.heap.size _ _ (by simp) (Nat.le_refl _)) _ T rfl (srcS _ _ HTJ.out (strsBel ROW1.out ((Below.refl _ _).alloc (Nat.le_refl _) _))) (by simp) (by have := HTL.out; simp only [List.length_nil]; omega) ?_)
          intro v1 W1 ho1 hg1
          have HB1 := Lib.hid (((Below.refl w.heap.size w).alloc (Nat.le_refl _) (.cells #[] 9)).trans (Grew.bel (OwnOf.emptyAt (E := 9) (C := sCells) (sz := 1) w.heap.size w _ rfl (Nat.le_refl _)) (by simp) hg1))
          have HO1 := Lib.hid ho1
          clear ho1 hg1
          go_wp2_with (at_builtin; refine wpList_append_of Try.underlying81 HI.out rfl (by omega) rfl (.tmp 37) (.tmp 39) rfl w.heap.size v1 T rfl (HO1.out.bel ((Below.refl _ _).alloc (Nat.le_refl _) _)) _ [s] rfl (srcS 1 _ rfl (rowOf_new (C := sCells) (W := fun _ => True) s trivial rfl (heap_alloc_new W1 _))) (Nat.le_trans HB1.out.size (by simp)) (by have := HTL.out; simp only [List.length_cons, List.length_nil]; omega) ?_)
          intro v2 W2 ho2 hg2
          have HB2 := Lib.hid (HB1.out.trans (Grew.bel HO1.out HB1.out.size hg2.after_alloc))
          have HO2 := Lib.hid ho2
          clear ho2 hg2
          go_wp2_with (at_builtin; refine wpList_append_of Try.underlying81 HI.out rfl (by omega) rfl (.tmp 41) (.tmp 44) rfl w.heap.size v2 (T ++ [s]) rfl HO2.out _ Dr rfl (srcS _ _ HDJ.out (strsBel ROW2.out HB2.out)) HB2.out.size (by have := HTL.out; simp only [List.length_append, List.length_cons, List.length_nil]; omega) ?_)
          intro v3 W3 ho3 hg3
          have HF := Lib.hid (addDone HBZ.out HB2.out HO2.out ho3 hg3 HEQ.out)
          clear ho3 hg3
          go_wp2_with fail
          go_ret
          exact HF.out
        | some x =>
          have HTL := Lib.hid htl
          clear htl
          go_wp2_with (at_builtin; refine wpList_append_of Try.underlying81 HI.out rfl (by omega) rfl (.tmp 32) (.tmp 35) rfl w.heap.size _ ([] : List BA) rfl (OwnOf.emptyAt w.heap.size _ _ (by simp) (Nat.le_refl _)) _ T rfl (srcS _ _ HTJ.out (strsBel ROW1.out ((Below.refl _ _).alloc (Nat.le_refl _) _))) (by simp) (by have := HTL.out; simp only [List.length_nil]; omega) ?_)
          intro v1 W1 ho1 hg1
          have HB1 := Lib.hid (((Below.refl w.heap.size w).alloc (Nat.le_refl _) (.cells #[] 9)).trans (Grew.bel (OwnOf.emptyAt (E := 9) (C := sCells) (sz := 1) w.heap.size w _ rfl (Nat.le_refl _)) (by simp) hg1))
          have HO1 := Lib.hid ho1
          clear ho1 hg1
          go_wp2_with (at_builtin; refine wpList_append_of Try.underlying81 HI.out rfl (by omega) rfl (.tmp 37) (.tmp 39) rfl w.heap.size v1 T rfl (HO1.out.bel ((Below.refl _ _).alloc (Nat.le_refl _) _)) _ [s] rfl (srcS 1 _ rfl (rowOf_new (C := sCells) (W := fun _ => True) s trivial rfl (heap_alloc_new W1 _))) (Nat.le_trans HB1.out.size (by simp)) (by have := HTL.out; simp only [List.length_cons, List.length_nil]; omega) ?_)
          intro v2 W2 ho2 hg2
          have HB2 := Lib.hid (HB1.out.trans (Grew.bel HO1.out HB1.out.size hg2.after_alloc))
          have HO2 := Lib.hid ho2
          clear ho2 hg2
          go_wp2_with (at_builtin; refine wpList_append_of Try.underlying81 HI.out rfl (by omega) rfl (.tmp 41) (.tmp 44) rfl w.heap.size v2 (T ++ [s]) rfl HO2.out _ Dr rfl (srcS _ _ HDJ.out (strsBel ROW2.out HB2.out)) HB2.out.size (by have := HTL.out; simp only [List.length_append, List.length_cons, List.length_nil]; omega) ?_)
          intro v3 W3 ho3 hg3
          have HF := Lib.hid (addDone HBZ.out HB2.out HO2.out ho3 hg3 HEQ.out)
          clear ho3 hg3
          go_wp2_with fail
          go_ret
          exact HF.out
      · obtain ⟨g, hag⟩ := HGC.out hcl
        have HDJ := Lib.hid HD0.out.symm
        have ROW2 := Lib.hid (HR0.out (some ⟨g, l.length, none⟩))
        subst hag
        clear hat hadd
        have HTL := Lib.hid htl
        clear htl
        go_wp2_with (at_builtin; refine wpList_append_of Try.underlying81 HI.out rfl (by omega) rfl (.tmp 32) (.tmp 35) rfl w.heap.size _ ([] : List BA) rfl (OwnOf.emptyAt w.heap.size _ _ (by simp) (Nat.le_refl _)) _ T rfl (srcS _ _ HTJ.out (strsBel ROW1.out ((Below.refl _ _).alloc (Nat.le_refl _) _))) (by simp) (by have := HTL.out; simp only [List.length_nil]; omega) ?_)
        intro v1 W1 ho1 hg1
        have HB1 := Lib.hid (((Below.refl w.heap.size w).alloc (Nat.le_refl _) (.cells #[] 9)).trans (Grew.bel (OwnOf.emptyAt (E := 9) (C := sCells) (sz := 1) w.heap.size w _ rfl (Nat.le_refl _)) (by simp) hg1))
        have HO1 := Lib.hid ho1
        clear ho1 hg1
        go_wp2_with (at_builtin; refine wpList_append_of Try.underlying81 HI.out rfl (by omega) rfl (.tmp 37) (.tmp 39) rfl w.heap.size v1 T rfl (HO1.out.bel ((Below.refl _ _).alloc (Nat.le_refl _) _)) _ [s] rfl (srcS 1 _ rfl (rowOf_new (C := sCells) (W := fun _ => True) s trivial rfl (heap_alloc_new W1 _))) (Nat.le_trans HB1.out.size (by simp)) (by have := HTL.out; simp only [List.length_cons, List.length_nil]; omega) ?_)
        intro v2 W2 ho2 hg2
        have HB2 := Lib.hid (HB1.out.trans (Grew.bel HO1.out HB1.out.size hg2.after_alloc))
        have HO2 := Lib.hid ho2
        clear ho2 hg2
        go_wp2_with (at_builtin; refine wpList_append_of Try.underlying81 HI.out rfl (by omega) rfl (.tmp 41) (.tmp 44) rfl w.heap.size v2 (T ++ [s]) rfl HO2.out _ Dr rfl (srcS _ _ HDJ.out (strsBel ROW2.out HB2.out)) HB2.out.size (by have := HTL.out; simp only [List.length_append, List.length_cons, List.length_nil]; omega) ?_)
        intro v3 W3 ho3 hg3
        have HF := Lib.hid (addDone HBZ.out HB2.out HO2.out ho3 hg3 HEQ.out)
        clear ho3 hg3
        go_wp2_with fail
        go_ret
        exact HF.out
end Go.Proofs.Ytnpalplnpfgibaa
