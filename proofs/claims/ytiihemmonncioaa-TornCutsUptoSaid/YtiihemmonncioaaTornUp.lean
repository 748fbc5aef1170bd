/- The head of layer 7's statements. -/
import Derived.Test.YtiihemmonncioaaTornScan
import Derived.Test.YtiihemmonncioaaRecUp
import Derived.Test.YtiihemmonncioaaFrameRef
namespace Go.Proofs.Ytiihemmonncioaa
open Go.RowKit
def dropB : List UInt8 := [2, 3, 1, 0, 0, 0]
theorem dropB_recs : recsOf dropB = some [rec0] := by
  have h := recsOf_recsL [rec0] (by simp) (fun r hr => by rw [List.mem_singleton] at hr; subst hr; exact ⟨rec0_may, rec0_wf⟩)
  rw [rec0_recs] at h
  exact h
theorem scan_frame {b : List UInt8} {at_ : Nat} {body rest : List UInt8} {L : List Rec} (hat : at_ ≤ b.length) (hd : b.drop at_ = frameL body ++ rest) (h1 : 1 ≤ body.length) (h2 : body.length ≤ 20000) (hL : recsOf body = some L) :
    scanAt b at_ = ((at_, 8 + body.length, L) :: (scanAt b (at_ + (8 + body.length))).1, (scanAt b (at_ + (8 + body.length))).2) := by
  have hg := getL_frame body rest h1 h2
  rw [← hd] at hg
  have := scanAt_more (b := b) (at_ := at_) (L := L) hat (by rw [hg]) (by rw [hg]; exact hL)
  rw [hg] at this
  exact this
theorem dropF_len : (frameL dropB).length = 14 := frameL_length dropB
theorem scan_drop : scanL (frameL dropB) = ([(0, 14, [rec0])], 14) := by
  have h1 := scan_frame (b := frameL dropB) (at_ := 0) (body := dropB) (rest := []) (L := [rec0]) (Nat.zero_le _) (by simp) (by decide) (by decide) dropB_recs
  have h2 : scanAt (frameL dropB) 14 = ([], 14) := scanAt_stop (.inl (by rw [List.drop_of_length_le (by rw [dropF_len]; exact Nat.le_refl _)]; with_unfolding_all decide +kernel))
  unfold scanL
  rw [h1]
  show ((0, 14, [rec0]) :: (scanAt (frameL dropB) 14).1, (scanAt (frameL dropB) 14).2) = _
  rw [h2]
theorem scan_two : scanL (frameL dropB ++ (frameL dropB).take 7) = ([(0, 14, [rec0])], 14) := by
  have h1 := scan_frame (b := frameL dropB ++ (frameL dropB).take 7) (at_ := 0) (body := dropB) (rest := (frameL dropB).take 7) (L := [rec0]) (Nat.zero_le _) (by simp) (by decide) (by decide) dropB_recs
  have h2 : scanAt (frameL dropB ++ (frameL dropB).take 7) 14 = ([], 14) := scanAt_stop (.inl (by
    have e : (frameL dropB ++ (frameL dropB).take 7).drop 14 = (frameL dropB).take 7 := List.drop_left' dropF_len
    rw [e, getL_cut dropB 7 (by decide) (by decide) (by decide)]
    decide))
  unfold scanL
  rw [h1]
  show ((0, 14, [rec0]) :: (scanAt (frameL dropB ++ (frameL dropB).take 7) 14).1, (scanAt (frameL dropB ++ (frameL dropB).take 7) 14).2) = _
  rw [h2]
theorem scan_nil : scanL [] = ([], 0) := scanAt_stop (.inl (by with_unfolding_all decide +kernel))
set_option maxRecDepth 100000 in
set_option maxHeartbeats 2000000 in
theorem lawDrop (w : World) : Calls Try.prog 43 #[] w (FrameOk dropB w) := by
  go_enter Try.func43, Try.ntmps43
  go_wp2_with fail
  refine (refFrame _ 6 dropB _ (by decide) (isBytes_new w _ _ _ dropB rfl)).mono ?_
  rintro e w1 ⟨v1, rfl, ho1, hb1⟩
  have HX := Lib.hid (And.intro (ho1.weak (B := w.heap.size) (by simp)) (((Below.refl w.heap.size w).alloc (Nat.le_refl _) _).trans (hb1.mono (by simp))))
  clear ho1 hb1
  go_wp2_with fail
  go_ret
  exact ⟨v1, rfl, HX.out.1, HX.out.2⟩
set_option maxRecDepth 100000 in
set_option maxHeartbeats 4000000 in
theorem tornUp (w : World) : Calls Try.prog 17 #[] w (fun e w' => e = .returned (.bool true) ∧ Below w.heap.size w w' ∧ w.heap.size < w'.heap.size) := by
  go_enter Try.func17, Try.ntmps17
  go_wp2_with fail
  refine (lawDrop _).mono ?_
  rintro e W1 ⟨v1, rfl, ho1, hb1⟩
  have HO1 := Lib.hid ho1
  have HB1 := Lib.hid hb1
  clear ho1 hb1
  go_wp2_with fail
  refine (lawDrop _).mono ?_
  rintro e W2 ⟨v2, rfl, ho2, hb2⟩
  have HO2 := Lib.hid (HO1.out.bel hb2)
  have HB2 := Lib.hid (below_next HB1.out hb2)
  obtain ⟨a2, c2, rfl, _, hc2, _⟩ := ho2.out
  have HRD : Hid (IsBytes W2 a2 ((frameL dropB).take 7)) := ho2.bytesOf.take 7
  rw [dropF_len] at hc2 ⊢
  have hlt : w.heap.size < W2.heap.size := by
    rcases ho2.2 with ⟨e, _⟩ | ⟨g, _, _, _, hg, hh, _⟩
    · exfalso; simp only [Value.slice.injEq] at e; have := e.2.1; rw [dropF_len] at this; omega
    · exact Nat.lt_of_le_of_lt (Nat.le_trans HB1.out.size hg) (Array.getElem?_eq_some_iff.1 hh).1
  have HLT := Lib.hid hlt
  have HTL := Lib.hid (show ((frameL dropB).take 7).length = 7 by rw [List.length_take, dropF_len]; rfl)
  have hx1 : (7 : Int) ≤ (c2 : Int) := by omega
  have hx2 : 7 ≤ c2 := by omega
  clear ho2 hb2 HO1 HB1 hlt
  go_wp2_with (at_builtin; refine wpList_append_bytes rfl (.tmp 4) (.tmp 6) 22 rfl w.heap.size v1 _ rfl HO2.out _ ((frameL dropB).take 7) rfl (by have := SrcB.ofBytes c2 HRD.out; rw [HTL.out] at this; exact this) ?c1 ?c2 ?hh1)
  case c1 => exact HB2.out.size
  case c2 => rw [HTL.out, dropF_len]; decide
  intro v3 W3 ho3 hg3
  have HB3 := Lib.hid (HB2.out.trans (below_of_grown HO2.out HB2.out.size hg3))
  have HLT3 := Lib.hid (Nat.lt_of_lt_of_le HLT.out hg3.1.size)
  have hl3 : (frameL dropB ++ (frameL dropB).take 7).length = 21 := by rw [List.length_append, HTL.out, dropF_len]
  have HL3 := Lib.hid hl3
  have HR3 := Lib.hid ho3.reads
  obtain ⟨a3, c3, rfl, _⟩ := ho3.out
  rw [hl3] at HR3 ⊢
  clear ho3 hg3 hl3 HO2 HB2 HLT HTL HRD hx1 hx2
  go_wp2_with fail
  refine (tornScan a3 _ c3 _ _ HL3.out (by rw [HL3.out]; decide) HR3.out).mono ?_
  rintro e W4 ⟨hb4, v4, rfl, ho4⟩
  rw [scan_two] at ho4 ⊢
  obtain ⟨a4, c4, rfl⟩ := ho4.shape
  have HB4 := Lib.hid (below_next HB3.out hb4)
  have HLT4 := Lib.hid (Nat.lt_of_lt_of_le HLT3.out hb4.size)
  have HR4 := Lib.hid (HR3.out.bel hb4)
  clear ho4 hb4 HB3 HLT3 HR3
  simp only [List.length_cons, List.length_nil, Nat.zero_add]
  go_wp2_with fail
  refine (tornWhole a3 _ c3 _ _ HL3.out (by rw [HL3.out]; decide) HR4.out).mono ?_
  rintro e W5 ⟨rfl, hb5⟩
  rw [scan_two, HL3.out]
  have HB5 := Lib.hid (below_next HB4.out hb5)
  have HLT5 := Lib.hid (Nat.lt_of_lt_of_le HLT4.out hb5.size)
  clear hb5 HB4 HLT4 HR4
  rw [show decide ((14 : Nat) = 21) = false from rfl]
  go_wp2_with fail
  refine (tornWhole none 0 0 [] _ rfl (by simp) (Reads.nil _)).mono ?_
  rintro e W6 ⟨rfl, hb6⟩
  rw [scan_nil]
  have HB6 := Lib.hid (below_next HB5.out hb6)
  have HLT6 := Lib.hid (Nat.lt_of_lt_of_le HLT5.out hb6.size)
  clear hb6 HB5 HLT5
  rw [show decide ((0 : Nat) = ([] : List UInt8).length) = true from rfl]
  go_wp2_with fail
  refine (lawDrop _).mono ?_
  rintro e W7 ⟨v7, rfl, ho7, hb7⟩
  have HB7 := Lib.hid (below_next HB6.out hb7)
  have HLT7 := Lib.hid (Nat.lt_of_lt_of_le HLT6.out hb7.size)
  have HR7 := Lib.hid ho7.reads
  obtain ⟨a7, c7, rfl, _⟩ := ho7.out
  rw [dropF_len] at HR7 ⊢
  clear hb7 ho7 HB6 HLT6
  go_wp2_with fail
  refine (tornWhole a7 _ c7 (frameL dropB) _ dropF_len (by rw [dropF_len]; decide) HR7.out).mono ?_
  rintro e W8 ⟨rfl, hb8⟩
  rw [scan_drop, dropF_len]
  have HX := Lib.hid (And.intro (below_next HB7.out hb8) (Nat.lt_of_lt_of_le HLT7.out hb8.size))
  rw [show decide ((14 : Nat) = 14) = true from rfl]
  clear hb8
  go_wp2_with fail
  go_ret
  exact ⟨rfl, HX.out.1, HX.out.2⟩
end Go.Proofs.Ytiihemmonncioaa
