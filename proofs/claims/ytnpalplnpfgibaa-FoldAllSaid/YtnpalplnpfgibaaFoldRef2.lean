/- The reference's Page and Texts (layer 11), and 'small'. -/
import Derived.Test.YtnpalplnpfgibaaFoldRef
namespace Go.Proofs.Ytnpalplnpfgibaa
open Go.RowKit
theorem beq_ba {a b : BA} (h : a ≠ b) : (a.toList == b.toList) = false := by
  rw [Lib.toList_data, Lib.toList_data]
  simpa using fun e => h (ba_ext e)
structure PageAns (zs : List BA) (after : BA) (first : Bool) (many : Int) (w : World) (e : Ending) (w' : World) : Prop where
  own : ∃ v, e = .returned (.tuple #[v, .bool (decide (many.toNat < (selL zs after first).length))]) ∧ OwnS w.heap.size w' v ((selL zs after first).take many.toNat)
  bel : Below w.heap.size w w'
theorem pageAns {zs : List BA} {after : BA} {first : Bool} {many : Int} {w W : World} {v : Value} {l : List BA} {m : Nat} {b : Bool} (hl : l = selL zs after first) (hm : m = many.toNat) (hb : b = decide (m < l.length)) (ho : OwnS w.heap.size W v (l.take m)) (hB : Below w.heap.size w W) : PageAns zs after first many w (.returned (.tuple #[v, .bool b])) W := by
  subst hl hm hb
  exact ⟨⟨v, rfl, ho⟩, hB⟩
theorem filter_step (p : BA → Bool) (zs : List BA) (j : Nat) (hj : j < zs.length) : ((zs.take (j + 1)).filter p).foldl addL [] = if p zs[j] then addL (((zs.take j).filter p).foldl addL []) zs[j] else ((zs.take j).filter p).foldl addL [] := by
  rw [List.take_succ_eq_append_getElem hj, List.filter_append, List.foldl_append]
  by_cases h : p zs[j] = true
  · rw [List.filter_cons_of_pos h, if_pos h]
    rfl
  · rw [List.filter_cons_of_neg h, if_neg h]
    rfl
theorem ownS_cut {B : Nat} {w : World} {g n cap : Nat} {l : List BA} (h : OwnS B w (.slice (some ⟨g, 0, none⟩) n cap) l) (m : Nat) (hm : m ≤ l.length) : OwnS B w (.slice (some ⟨g, 0, none⟩) m cap) (l.take m) := by
  have hn : n = l.length := by
    obtain ⟨a, c, h1, _⟩ := h.strs
    simp only [Value.slice.injEq] at h1
    exact h1.2.1
  subst hn
  have h1 : w.ownsRow B 9 1 (.slice (some ⟨g, 0, none⟩) l.length cap) l.length (l.flatMap sCells) := h
  have h2 := ownsRow_cut h1 hm
  rw [← str_cells, ← List.map_take, str_cells] at h2
  show w.ownsRow B 9 1 _ (l.take m).length ((l.take m).flatMap sCells)
  rw [List.length_take, Nat.min_eq_left hm]
  exact h2
set_option maxRecDepth 100000 in
set_option maxHeartbeats 8000000 in
theorem refPageFirst (a : Option Addr) (cap : Nat) (zs : List BA) (after : BA) (many : Int) (w : World) (h : IsStrs w a zs) (hl : zs.length ≤ 1000) : Calls Try.prog 47 #[.slice a zs.length cap, .string after, .bool true, .int .i64 many] w (PageAns zs after true many w) := by
  have HZ := Lib.hid h
  have bl0 : (zs.length : Int) ≤ 1000 := by omega
  have HLZ := Lib.hid hl
  clear h hl
  have HN0 := Lib.hid (show OwnS w.heap.size w (.slice none 0 0) [] from OwnOf.nil _ _)
  have HBR := Lib.hid (Below.refl w.heap.size w)
  go_enter Try.func47, Try.ntmps47
  go_wp2
  go_loopw [10, 11] (fun av i wr => ∃ (j : Nat) (l : List BA), j ≤ zs.length ∧ i = .int .i64 j ∧ Hid (l = ((zs.take j).filter (pickB after true)).foldl addL []) ∧ Hid (l.length ≤ j) ∧ Hid (OwnS w.heap.size wr av l) ∧ Hid (Below w.heap.size w wr)) (fun _ i _ => zs.length - (intOf i).toNat)
  case atStart => exact ⟨0, [], Nat.zero_le _, rfl, Lib.hid (by simp), Nat.le_refl 0, HN0, HBR⟩
  case round =>
    obtain ⟨j, l, hj, rfl, HE, HL, HO, HB⟩ := hrel
    have b0 : (0 : Int) ≤ (j : Int) := by omega
    by_cases hlt : j < zs.length
    · have bj : (j : Int) < (zs.length : Int) := by omega
      obtain ⟨b, off, hax, hbx, _⟩ := HZ.out j hlt
      have hc0 := (HB.out.cell (p := ⟨b, off + j, none⟩) hbx).trans (strs_at HZ.out hlt hax)
      rw [enc_bl] at hc0
      obtain ⟨q, hq⟩ : ∃ q, q = zs[j] := ⟨_, rfl⟩
      have HQ := Lib.hid hq
      rw [← hq] at hc0
      clear hq
      subst hax
      have HP := Lib.hid (show pickB after true q = true from rfl)
      go_wp2_with fail
      refine (refAdd w.heap.size u10 l q _ HO.out HB.out.size (by have := HL.out; omega)).mono ?_
      rintro e W2 ⟨⟨v2, rfl, ho2⟩, hb2⟩
      have HB2 := Lib.hid (HB.out.trans hb2)
      have HO2 := Lib.hid ho2
      clear ho2 hb2
      go_wp2_with fail
      go_roundw
      case rel => exact ⟨j + 1, addL l q, by omega, by go_num, Lib.hid (show _ = _ by rw [filter_step _ _ _ hlt, ← HQ.out, if_pos HP.out, ← HE.out]), Lib.hid (show _ ≤ _ by have := addL_len l q; have := HL.out; omega), HO2, HB2⟩
      case measure => simp [intOf]; omega
    · obtain rfl : j = zs.length := by omega
      have HS := Lib.hid (show l = selL zs after true by rw [HE.out, List.take_length]; rfl)
      rcases HO.out.2 with ⟨hv, h0⟩ | ⟨g, cap', cur, hv, hrest⟩
      · subst hv
        have hle : l = [] := List.eq_nil_of_length_eq_zero h0
        subst hle
        by_cases hm : many < 0
        · have d1 : decide (many < 0) = true := decide_eq_true (by omega)
          have HM := Lib.hid (show 0 = many.toNat by omega)
          clear hm h0
          go_wp2_with fail
          go_ret2
          exact pageAns HS.out HM.out rfl (OwnOf.nil _ _) HB.out
        · have d1 : decide (many < 0) = false := decide_eq_false (by omega)
          clear hm h0
          go_wp2_with fail
          go_ret2
          exact pageAns HS.out rfl (by simp) (by simpa using OwnOf.nil _ _) HB.out
      · subst hv
        have HLC := Lib.hid (show l.length ≤ cap' by obtain ⟨a', c', h1, _, h3, _⟩ := HO.out.strs; simp only [Value.slice.injEq] at h1; omega)
        have bll : (l.length : Int) ≤ 1000 := by have := HL.out; have := HLZ.out; omega
        have blc : (l.length : Int) ≤ (cap' : Int) := by have := HLC.out; omega
        clear hrest
        by_cases hm : many < 0
        · have d1 : decide (many < 0) = true := decide_eq_true (by omega)
          have HM := Lib.hid (show 0 = many.toNat by omega)
          by_cases h0 : 0 < l.length
          · have d2 : decide ((0 : Int) < (l.length : Int)) = true := decide_eq_true (by omega)
            have d2' : decide (0 < l.length) = true := decide_eq_true (by omega)
            have HC := Lib.hid (ownS_cut HO.out 0 (Nat.zero_le _))
            have HD := Lib.hid (show true = decide (0 < l.length) from (decide_eq_true (by omega)).symm)
            clear hm h0
            go_wp2_with fail
            go_ret2
            exact pageAns HS.out HM.out HD.out HC.out HB.out
          · have d2 : decide ((0 : Int) < (l.length : Int)) = false := decide_eq_false (by omega)
            have d2' : decide (0 < l.length) = false := decide_eq_false (by omega)
            have HC := Lib.hid (show OwnS w.heap.size wr (.slice (some ⟨g, 0, none⟩) l.length cap') (l.take 0) by rw [List.take_of_length_le (by omega)]; exact HO.out)
            have HD := Lib.hid (show false = decide (0 < l.length) from (decide_eq_false (by omega)).symm)
            clear hm h0
            go_wp2_with fail
            go_ret2
            exact pageAns HS.out HM.out HD.out HC.out HB.out
        · have d1 : decide (many < 0) = false := decide_eq_false (by omega)
          obtain ⟨m, rfl⟩ : ∃ m : Nat, many = (m : Int) := ⟨many.toNat, by omega⟩
          have HM := Lib.hid (show m = (m : Int).toNat by omega)
          have bm0 : (0 : Int) ≤ (m : Int) := by omega
          by_cases h0 : m < l.length
          · have d2 : decide ((m : Int) < (l.length : Int)) = true := decide_eq_true (by omega)
            have d2' : decide (m < l.length) = true := decide_eq_true (by omega)
            have bmc : (m : Int) ≤ (cap' : Int) := by omega
            have HC := Lib.hid (ownS_cut HO.out m (by omega))
            have HD := Lib.hid (show true = decide (m < l.length) from (decide_eq_true (by omega)).symm)
            clear hm h0
            go_wp2_with fail
            go_ret2
            exact pageAns HS.out HM.out HD.out HC.out HB.out
          · have d2 : decide ((m : Int) < (l.length : Int)) = false := decide_eq_false (by omega)
            have d2' : decide (m < l.length) = false := decide_eq_false (by omega)
            have HC := Lib.hid (show OwnS w.heap.size wr (.slice (some ⟨g, 0, none⟩) l.length cap') (l.take m) by rw [List.take_of_length_le (by omega)]; exact HO.out)
            have HD := Lib.hid (show false = decide (m < l.length) from (decide_eq_false (by omega)).symm)
            clear hm h0
            go_wp2_with fail
            go_ret2
            exact pageAns HS.out HM.out HD.out HC.out HB.out
set_option maxRecDepth 100000 in
set_option maxHeartbeats 8000000 in
theorem refPageBehind (a : Option Addr) (cap : Nat) (zs : List BA) (after : BA) (many : Int) (w : World) (h : IsStrs w a zs) (hl : zs.length ≤ 1000) : Calls Try.prog 47 #[.slice a zs.length cap, .string after, .bool false, .int .i64 many] w (PageAns zs after false many w) := by
  have HZ := Lib.hid h
  have bl0 : (zs.length : Int) ≤ 1000 := by omega
  have HLZ := Lib.hid hl
  clear h hl
  have HN0 := Lib.hid (show OwnS w.heap.size w (.slice none 0 0) [] from OwnOf.nil _ _)
  have HBR := Lib.hid (Below.refl w.heap.size w)
  go_enter Try.func47, Try.ntmps47
  go_wp2
  go_loopw [10, 11] (fun av i wr => ∃ (j : Nat) (l : List BA), j ≤ zs.length ∧ i = .int .i64 j ∧ Hid (l = ((zs.take j).filter (pickB after false)).foldl addL []) ∧ Hid (l.length ≤ j) ∧ Hid (OwnS w.heap.size wr av l) ∧ Hid (Below w.heap.size w wr)) (fun _ i _ => zs.length - (intOf i).toNat)
  case atStart => exact ⟨0, [], Nat.zero_le _, rfl, Lib.hid (by simp), Nat.le_refl 0, HN0, HBR⟩
  case round =>
    obtain ⟨j, l, hj, rfl, HE, HL, HO, HB⟩ := hrel
    have b0 : (0 : Int) ≤ (j : Int) := by omega
    by_cases hlt : j < zs.length
    · have bj : (j : Int) < (zs.length : Int) := by omega
      obtain ⟨b, off, hax, hbx, _⟩ := HZ.out j hlt
      have hc0 := (HB.out.cell (p := ⟨b, off + j, none⟩) hbx).trans (strs_at HZ.out hlt hax)
      rw [enc_bl] at hc0
      obtain ⟨q, hq⟩ : ∃ q, q = zs[j] := ⟨_, rfl⟩
      have HQ := Lib.hid hq
      rw [← hq] at hc0
      clear hq
      subst hax
      by_cases hc : nlt after q
      · have dl : Op.bytesLess q.toList after.toList = false := (less_nm _ _).trans (ltB_no.2 fun h => nlt_irrefl _ (nlt_trans hc h))
        have de : (q.toList == after.toList) = false := beq_ba fun e => nlt_irrefl _ (by rw [e] at hc; exact hc)
        have HP := Lib.hid (show pickB after false q = true from ltB_iff.2 hc)
        clear hc
        go_wp2_with fail
        refine (refAdd w.heap.size u10 l q _ HO.out HB.out.size (by have := HL.out; omega)).mono ?_
        rintro e W2 ⟨⟨v2, rfl, ho2⟩, hb2⟩
        have HB2 := Lib.hid (HB.out.trans hb2)
        have HO2 := Lib.hid ho2
        clear ho2 hb2
        go_wp2_with fail
        go_roundw
        case rel => exact ⟨j + 1, addL l q, by omega, by go_num, Lib.hid (show _ = _ by rw [filter_step _ _ _ hlt, ← HQ.out, if_pos HP.out, ← HE.out]), Lib.hid (show _ ≤ _ by have := addL_len l q; have := HL.out; omega), HO2, HB2⟩
        case measure => simp [intOf]; omega
      · have HP := Lib.hid (show ¬ pickB after false q = true from fun h => hc (ltB_iff.1 h))
        by_cases he : q = after
        · have dl : Op.bytesLess q.toList after.toList = false := (less_nm _ _).trans (ltB_no.2 (by rw [he]; exact nlt_irrefl _))
          have de : (q.toList == after.toList) = true := by rw [he]; simp
          clear hc he
          go_wp2_with fail
          go_roundw
          case rel => exact ⟨j + 1, l, by omega, by go_num, Lib.hid (show _ = _ by rw [filter_step _ _ _ hlt, ← HQ.out, if_neg HP.out, ← HE.out]), Lib.hid (show _ ≤ _ by have := HL.out; omega), HO, HB⟩
          case measure => simp [intOf]; omega
        · have dl : Op.bytesLess q.toList after.toList = true := (less_nm _ _).trans (ltB_iff.2 (by
            by_cases h : nlt q after
            · exact h
            · exact absurd (nlt_total h hc) he))
          clear hc he
          go_wp2_with fail
          go_roundw
          case rel => exact ⟨j + 1, l, by omega, by go_num, Lib.hid (show _ = _ by rw [filter_step _ _ _ hlt, ← HQ.out, if_neg HP.out, ← HE.out]), Lib.hid (show _ ≤ _ by have := HL.out; omega), HO, HB⟩
          case measure => simp [intOf]; omega
    · obtain rfl : j = zs.length := by omega
      have HS := Lib.hid (show l = selL zs after false by rw [HE.out, List.take_length]; rfl)
      rcases HO.out.2 with ⟨hv, h0⟩ | ⟨g, cap', cur, hv, hrest⟩
      · subst hv
        have hle : l = [] := List.eq_nil_of_length_eq_zero h0
        subst hle
        by_cases hm : many < 0
        · have d1 : decide (many < 0) = true := decide_eq_true (by omega)
          have HM := Lib.hid (show 0 = many.toNat by omega)
          clear hm h0
          go_wp2_with fail
          go_ret2
          exact pageAns HS.out HM.out rfl (OwnOf.nil _ _) HB.out
        · have d1 : decide (many < 0) = false := decide_eq_false (by omega)
          clear hm h0
          go_wp2_with fail
          go_ret2
          exact pageAns HS.out rfl (by simp) (by simpa using OwnOf.nil _ _) HB.out
      · subst hv
        have HLC := Lib.hid (show l.length ≤ cap' by obtain ⟨a', c', h1, _, h3, _⟩ := HO.out.strs; simp only [Value.slice.injEq] at h1; omega)
        have bll : (l.length : Int) ≤ 1000 := by have := HL.out; have := HLZ.out; omega
        have blc : (l.length : Int) ≤ (cap' : Int) := by have := HLC.out; omega
        clear hrest
        by_cases hm : many < 0
        · have d1 : decide (many < 0) = true := decide_eq_true (by omega)
          have HM := Lib.hid (show 0 = many.toNat by omega)
          by_cases h0 : 0 < l.length
          · have d2 : decide ((0 : Int) < (l.length : Int)) = true := decide_eq_true (by omega)
            have d2' : decide (0 < l.length) = true := decide_eq_true (by omega)
            have HC := Lib.hid (ownS_cut HO.out 0 (Nat.zero_le _))
            have HD := Lib.hid (show true = decide (0 < l.length) from (decide_eq_true (by omega)).symm)
            clear hm h0
            go_wp2_with fail
            go_ret2
            exact pageAns HS.out HM.out HD.out HC.out HB.out
          · have d2 : decide ((0 : Int) < (l.length : Int)) = false := decide_eq_false (by omega)
            have d2' : decide (0 < l.length) = false := decide_eq_false (by omega)
            have HC := Lib.hid (show OwnS w.heap.size wr (.slice (some ⟨g, 0, none⟩) l.length cap') (l.take 0) by rw [List.take_of_length_le (by omega)]; exact HO.out)
            have HD := Lib.hid (show false = decide (0 < l.length) from (decide_eq_false (by omega)).symm)
            clear hm h0
            go_wp2_with fail
            go_ret2
            exact pageAns HS.out HM.out HD.out HC.out HB.out
        · have d1 : decide (many < 0) = false := decide_eq_false (by omega)
          obtain ⟨m, rfl⟩ : ∃ m : Nat, many = (m : Int) := ⟨many.toNat, by omega⟩
          have HM := Lib.hid (show m = (m : Int).toNat by omega)
          have bm0 : (0 : Int) ≤ (m : Int) := by omega
          by_cases h0 : m < l.length
          · have d2 : decide ((m : Int) < (l.length : Int)) = true := decide_eq_true (by omega)
            have d2' : decide (m < l.length) = true := decide_eq_true (by omega)
            have bmc : (m : Int) ≤ (cap' : Int) := by omega
            have HC := Lib.hid (ownS_cut HO.out m (by omega))
            have HD := Lib.hid (show true = decide (m < l.length) from (decide_eq_true (by omega)).symm)
            clear hm h0
            go_wp2_with fail
            go_ret2
            exact pageAns HS.out HM.out HD.out HC.out HB.out
          · have d2 : decide ((m : Int) < (l.length : Int)) = false := decide_eq_false (by omega)
            have d2' : decide (m < l.length) = false := decide_eq_false (by omega)
            have HC := Lib.hid (show OwnS w.heap.size wr (.slice (some ⟨g, 0, none⟩) l.length cap') (l.take m) by rw [List.take_of_length_le (by omega)]; exact HO.out)
            have HD := Lib.hid (show false = decide (m < l.length) from (decide_eq_false (by omega)).symm)
            clear hm h0
            go_wp2_with fail
            go_ret2
            exact pageAns HS.out HM.out HD.out HC.out HB.out
theorem refPage (a : Option Addr) (cap : Nat) (zs : List BA) (after : BA) (first : Bool) (many : Int) (w : World) (h : IsStrs w a zs) (hl : zs.length ≤ 1000) : Calls Try.prog 47 #[.slice a zs.length cap, .string after, .bool first, .int .i64 many] w (PageAns zs after first many w) := by
  cases first with
  | true => exact refPageFirst a cap zs after many w h hl
  | false => exact refPageBehind a cap zs after many w h hl
set_option maxRecDepth 100000 in
set_option maxHeartbeats 8000000 in
theorem textsSame (a a' : Option Addr) (c c' : Nat) (l : List BA) (w : World) (h : IsStrs w a l) (h' : IsStrs w a' l) (hl : l.length ≤ 1000000) : Calls Try.prog 49 #[.slice a l.length c, .slice a' l.length c'] w (fun e w' => e = .returned (.bool true) ∧ Below w.heap.size w w') := by
  have H := Lib.hid h
  have H' := Lib.hid h'
  have bl0 : (l.length : Int) ≤ 1000000 := by omega
  clear h h' hl
  have HBR := Lib.hid (Below.refl w.heap.size w)
  go_enter Try.func49, Try.ntmps49
  go_wp2
  go_loopw [5] (fun i wr => ∃ j : Nat, j ≤ l.length ∧ i = .int .i64 j ∧ Hid (Below w.heap.size w wr)) (fun i _ => l.length - (intOf i).toNat)
  case atStart => exact ⟨0, Nat.zero_le _, rfl, HBR⟩
  case round =>
    obtain ⟨j, hj, rfl, HB⟩ := hrel
    have b0 : (0 : Int) ≤ (j : Int) := by omega
    by_cases hlt : j < l.length
    · have bj : (j : Int) < (l.length : Int) := by omega
      obtain ⟨b, off, hax, hbx, _⟩ := H.out j hlt
      obtain ⟨b', off', hax', hbx', _⟩ := H'.out j hlt
      have hc0 := (HB.out.cell (p := ⟨b, off + j, none⟩) hbx).trans (strs_at H.out hlt hax)
      have hc1 := (HB.out.cell (p := ⟨b', off' + j, none⟩) hbx').trans (strs_at H'.out hlt hax')
      rw [enc_bl] at hc0 hc1
      obtain ⟨q, hq⟩ : ∃ q, q = l[j] := ⟨_, rfl⟩
      rw [← hq] at hc0 hc1
      have HLT := Lib.hid (And.intro (Nat.lt_of_lt_of_le hbx HB.out.size) (Nat.lt_of_lt_of_le hbx' HB.out.size))
      subst hax hax'
      clear hq hbx hbx'
      go_wp2_with fail
      refine Reg.wp_region0 (by kernel_rfl) (by kernel_rfl) ?_
      refine Reg.seg0 3 (by kernel_rfl) rfl ?_
      apply Exists.intro
      refine ⟨fun e => ?_, ?_⟩
      · simp only [List.take_succ_cons, List.take_zero]
        repeat (go_big_quiet_step ((intro _; rfl)))
        refine wpQuiet_nil ?_
        exact rfl
      simp only [List.drop_succ_cons, List.drop_zero, Nat.reduceAdd]
      refine Reg.const0 (.string q) (fun e w1 hR hf => ⟨by rfl, ?_⟩) ?_
      · have c1' := (Below.cell hR (p := ⟨b, off + j, none⟩) HLT.out.1).trans hc0
        unfold Reg.gives
        clear hf
        go_simp
        exact Reg.bel_refl _
      simp only [Act.put, List.setIfInBounds_toArray, List.set_cons_zero, List.set_cons_succ, Nat.reduceAdd]
      refine Reg.seg0 3 (by kernel_rfl) rfl ?_
      apply Exists.intro
      refine ⟨fun e => ?_, ?_⟩
      · simp only [List.take_succ_cons, List.take_zero]
        repeat (go_big_quiet_step ((intro _; rfl)))
        refine wpQuiet_nil ?_
        exact rfl
      simp only [List.drop_succ_cons, List.drop_zero, Nat.reduceAdd]
      refine Reg.const0 (.string q) (fun e w1 hR hf => ⟨by rfl, ?_⟩) ?_
      · have c1' := (Below.cell hR (p := ⟨b', off' + j, none⟩) HLT.out.2).trans hc1
        unfold Reg.gives
        clear hf
        go_simp
        exact Reg.bel_refl _
      simp only [Act.put, List.setIfInBounds_toArray, List.set_cons_zero, List.set_cons_succ, Nat.reduceAdd]
      refine Reg.seg0 1 (by kernel_rfl) rfl ?_
      apply Exists.intro
      refine ⟨fun e => ?_, ?_⟩
      · simp only [List.take_succ_cons, List.take_zero]
        repeat (go_big_quiet_step ((intro _; rfl)))
        refine wpQuiet_nil ?_
        exact rfl
      simp only [List.drop_succ_cons, List.drop_zero, Nat.reduceAdd]
      intro eX W1 hR hJ hf
      have HB1 := Lib.hid (HB.out.trans (((Below.refl wr.heap.size wr).drew.trans hR).mono HB.out.size))
      clear hR hJ hf
      go_wp2_with fail
      go_roundw
      case rel => exact ⟨j + 1, by omega, by go_num, HB1⟩
      case measure => simp [intOf]; omega
    · obtain rfl : j = l.length := by omega
      go_wp2_with fail
      go_ret
      exact ⟨rfl, HB.out⟩
def SmallAns (l : List BA) (w : World) (e : Ending) (w' : World) : Prop := ∃ b, e = .returned (.bool b) ∧ w' = w ∧ (b = true → l.length ≤ 200 ∧ ∀ q ∈ l, q.size ≤ 200)
set_option maxRecDepth 100000 in
set_option maxHeartbeats 8000000 in
theorem smallAns (a : Option Addr) (c : Nat) (l : List BA) (w : World) (h : IsStrs w a l) (hl : l.length ≤ maxLen) : Calls Try.prog 45 #[.slice a l.length c] w (SmallAns l w) := by
  have H := Lib.hid h
  have bl0 : (l.length : Int) ≤ 9223372036854775807 := by unfold maxLen at hl; omega
  clear h hl
  go_enter Try.func45, Try.ntmps45
  go_wp2
  go_loop [3] (fun i => ∃ j : Nat, j ≤ l.length ∧ i = .int .i64 j ∧ Hid (∀ i (h : i < l.length), i < j → l[i].size ≤ 200)) (fun i => l.length - (intOf i).toNat)
  case atStart => exact ⟨0, Nat.zero_le _, rfl, Lib.hid fun i _ h => by omega⟩
  case round =>
    obtain ⟨j, hj, rfl, HJ⟩ := hrel
    have b0 : (0 : Int) ≤ (j : Int) := by omega
    by_cases hlt : j < l.length
    · have bj : (j : Int) < (l.length : Int) := by omega
      obtain ⟨b, off, hax, hbx, _⟩ := H.out j hlt
      have hc0 := strs_at H.out hlt hax
      rw [enc_bl] at hc0
      obtain ⟨q, hq⟩ : ∃ q, q = l[j] := ⟨_, rfl⟩
      have HQ := Lib.hid hq
      rw [← hq] at hc0
      subst hax
      clear hq hbx
      by_cases hs : 200 < q.size
      · have d : decide ((200 : Int) < (q.size : Int)) = true := decide_eq_true (by omega)
        clear hs
        go_wp2_with fail
        go_ret
        exact ⟨false, rfl, rfl, fun h => by cases h⟩
      · have d : decide ((200 : Int) < (q.size : Int)) = false := decide_eq_false (by omega)
        have HS := Lib.hid hs
        clear hs
        go_wp2_with fail
        go_round
        case rel => exact ⟨j + 1, by omega, by go_num, Lib.hid fun i h hi => by
          by_cases e : i = j
          · subst e; rw [← HQ.out]; have := HS.out; omega
          · exact HJ.out i h (by omega)⟩
        case measure => simp [intOf]; omega
    · obtain rfl : j = l.length := by omega
      have HALL := Lib.hid (show ∀ q ∈ l, q.size ≤ 200 from fun q hq => by
        obtain ⟨i, hi, rfl⟩ := List.getElem_of_mem hq
        exact HJ.out i hi hi)
      by_cases h2 : l.length ≤ 200
      · have d : decide ((l.length : Int) ≤ 200) = true := decide_eq_true (by omega)
        have HL2 := Lib.hid h2
        clear h2
        go_wp2_with fail
        go_ret
        exact ⟨true, rfl, rfl, fun _ => ⟨HL2.out, HALL.out⟩⟩
      · have d : decide ((l.length : Int) ≤ 200) = false := decide_eq_false (by omega)
        clear h2
        go_wp2_with fail
        go_ret
        exact ⟨false, rfl, rfl, fun h => by cases h⟩
end Go.Proofs.Ytnpalplnpfgibaa
