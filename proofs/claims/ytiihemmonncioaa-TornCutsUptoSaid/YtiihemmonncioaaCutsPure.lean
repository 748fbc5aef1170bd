/- Frames of records, one behind the other, cut anywhere: plain laws; the contract of the reference's Body, for more records. -/
import Derived.Test.YtiihemmonncioaaTornUp
import Derived.Test.YtiihemmonncioaaRecAll
namespace Go.Proofs.Ytiihemmonncioaa
open Go.RowKit
def framesL (l : List (List Rec)) : List UInt8 := l.flatMap fun x => frameL (recsL x)
theorem framesL_append (l m : List (List Rec)) : framesL (l ++ m) = framesL l ++ framesL m := by simp [framesL]
theorem framesL_cons (x : List Rec) (l : List (List Rec)) : framesL (x :: l) = frameL (recsL x) ++ framesL l := by simp [framesL]
def GoodL (l : List (List Rec)) : Prop := ∀ x ∈ l, putOk x = true ∧ ∀ r ∈ x, r.wf
theorem good_one {x : List Rec} (h : putOk x = true ∧ ∀ r ∈ x, r.wf) : 1 ≤ (recsL x).length ∧ (recsL x).length ≤ 20000 ∧ recsOf (recsL x) = some x := by
  obtain ⟨h1, h2, h3, h4⟩ := putOk_all h.1
  exact ⟨h2, h3, recsOf_recsL x h4 (fun r hr => ⟨(List.all_eq_true.1 h1) r hr, h.2 r hr⟩)⟩
def piecesFrom : Nat → List (List Rec) → List PieceL
  | _, [] => []
  | a, x :: l => (a, 8 + (recsL x).length, x) :: piecesFrom (a + (8 + (recsL x).length)) l
theorem piecesFrom_len : ∀ a l, (piecesFrom a l).length = l.length
  | _, [] => rfl
  | a, x :: l => by simp only [piecesFrom, List.length_cons, piecesFrom_len _ l]
theorem piecesFrom_at : ∀ (a : Nat) (l : List (List Rec)) (i : Nat) (h : i < (piecesFrom a l).length) (h' : i < l.length), (piecesFrom a l)[i].2.2 = l[i]
  | _, [], _, _, h' => by simp at h'
  | _, _ :: _, 0, _, _ => rfl
  | a, x :: l, i + 1, h, h' => by
    simp only [piecesFrom, List.getElem_cons_succ]
    exact piecesFrom_at _ l i (by simpa [piecesFrom] using h) (by simpa using h')
theorem scan_frames : ∀ (l : List (List Rec)) (b : List UInt8) (at_ : Nat) (tail : List UInt8), at_ ≤ b.length → GoodL l → b.drop at_ = framesL l ++ tail → (getL tail).2.2 ≠ 0 → scanAt b at_ = (piecesFrom at_ l, at_ + (framesL l).length)
  | [], b, at_, tail, _, _, hd, ht => by
    have hd' : b.drop at_ = tail := by simpa [framesL] using hd
    rw [scanAt_stop (.inl (by rw [hd']; exact ht))]
    simp [piecesFrom, framesL]
  | x :: l, b, at_, tail, hat, hg, hd, ht => by
    obtain ⟨h1, h2, h3⟩ := good_one (hg x (by simp))
    rw [framesL_cons, List.append_assoc] at hd
    have hs := scan_frame hat hd h1 h2 h3
    have hlen : (b.drop at_).length = (8 + (recsL x).length) + (framesL l ++ tail).length := by rw [hd, List.length_append, frameL_length]
    rw [List.length_drop] at hlen
    have hd2 : b.drop (at_ + (8 + (recsL x).length)) = framesL l ++ tail := by
      rw [← List.drop_drop, hd, List.drop_left' (frameL_length _)]
    have ih := scan_frames l b (at_ + (8 + (recsL x).length)) tail (by omega) (fun y hy => hg y (by simp [hy])) hd2 ht
    rw [hs, ih, framesL_cons, List.length_append, frameL_length]
    simp only [piecesFrom]
    congr 1
    omega
/-- Where the first ones end. -/
def endAt (l : List (List Rec)) (i : Nat) : Nat := (framesL (l.take i)).length
theorem endAt_zero (l : List (List Rec)) : endAt l 0 = 0 := by simp [endAt, framesL]
theorem endAt_succ (l : List (List Rec)) (i : Nat) (h : i < l.length) : endAt l (i + 1) = endAt l i + (8 + (recsL l[i]).length) := by
  unfold endAt
  rw [List.take_succ_eq_append_getElem h, framesL_append, List.length_append, framesL_cons, List.length_append, frameL_length]
  simp [framesL]
theorem endAt_mono (l : List (List Rec)) : ∀ (j i : Nat), i ≤ j → endAt l i ≤ endAt l j
  | 0, i, h => by obtain rfl : i = 0 := by omega
                  exact Nat.le_refl _
  | j + 1, i, h => by
    by_cases e : i = j + 1
    · rw [e]; exact Nat.le_refl _
    · have ih := endAt_mono l j i (by omega)
      by_cases hj : j < l.length
      · rw [endAt_succ l j hj]; omega
      · unfold endAt at *
        rw [List.take_of_length_le (show l.length ≤ j by omega)] at ih
        rw [List.take_of_length_le (show l.length ≤ j + 1 by omega)]
        exact ih
/-- Which frames are whole, ahead of a cut. -/
theorem find_cut (l : List (List Rec)) (at_ : Nat) (hat : at_ ≤ (framesL l).length) : ∃ k, k ≤ l.length ∧ endAt l k ≤ at_ ∧ ((k < l.length ∧ at_ < endAt l (k + 1)) ∨ (k = l.length ∧ at_ = endAt l k)) := by
  have hp : ∀ n, n ≤ l.length → endAt l n ≤ at_ ∨ ∃ k, k < n ∧ endAt l k ≤ at_ ∧ at_ < endAt l (k + 1) := by
    intro n
    induction n with
    | zero => intro _; left; rw [endAt_zero]; omega
    | succ n ih =>
      intro hn
      rcases ih (by omega) with h | ⟨k, h1, h2, h3⟩
      · by_cases he : endAt l (n + 1) ≤ at_
        · exact .inl he
        · exact .inr ⟨n, by omega, h, by omega⟩
      · exact .inr ⟨k, by omega, h2, h3⟩
  rcases hp l.length (Nat.le_refl _) with h | ⟨k, h1, h2, h3⟩
  · refine ⟨l.length, Nat.le_refl _, h, .inr ⟨rfl, ?_⟩⟩
    have : endAt l l.length = (framesL l).length := by unfold endAt; rw [List.take_length]
    omega
  · exact ⟨k, by omega, h2, .inl ⟨h1, h3⟩⟩
theorem scan_cut (l : List (List Rec)) (hg : GoodL l) (at_ k : Nat) (hk : k ≤ l.length) (h1 : endAt l k ≤ at_) (h2 : (k < l.length ∧ at_ < endAt l (k + 1)) ∨ (k = l.length ∧ at_ = endAt l k)) :
    scanL ((framesL l).take at_) = (piecesFrom 0 (l.take k), endAt l k) := by
  have hgk : GoodL (l.take k) := fun x hx => hg x (List.mem_of_mem_take hx)
  have main : ∀ tail, (framesL l).take at_ = framesL (l.take k) ++ tail → (getL tail).2.2 ≠ 0 → scanL ((framesL l).take at_) = (piecesFrom 0 (l.take k), endAt l k) := by
    intro tail e ht
    have := scan_frames (l.take k) ((framesL l).take at_) 0 tail (Nat.zero_le _) hgk (by rw [List.drop_zero]; exact e) ht
    rw [Nat.zero_add] at this
    exact this
  rcases h2 with ⟨hlt, hcut⟩ | ⟨rfl, hat⟩
  · obtain ⟨g1, g2, _⟩ := good_one (hg l[k] (List.getElem_mem hlt))
    rw [endAt_succ l k hlt] at hcut
    refine main ((frameL (recsL l[k])).take (at_ - endAt l k)) ?_ ?_
    · have e : framesL l = framesL (l.take k) ++ (frameL (recsL l[k]) ++ framesL (l.drop (k + 1))) := by
        rw [← framesL_cons, ← List.drop_eq_getElem_cons hlt, ← framesL_append, List.take_append_drop]
      have hle : (framesL (l.take k)).length = endAt l k := rfl
      rw [e, List.take_append, hle, List.take_of_length_le (by rw [hle]; exact h1), List.take_append_of_le_length (by rw [frameL_length]; omega)]
    · rw [getL_cut _ _ g1 g2 (by omega)]
      decide
  · refine main [] ?_ (by with_unfolding_all decide +kernel)
    have e : at_ = (framesL l).length := by rw [hat]; unfold endAt; rw [List.take_length]
    rw [e, List.take_length, List.take_length, List.append_nil]
end Go.Proofs.Ytiihemmonncioaa
namespace Go.Proofs.Ytiihemmonncioaa
open Go.RowKit
theorem bytes_len_may {r : Rec} (h : r.may = true) : r.bytes.length ≤ 1100 := by
  obtain ⟨hk1, hk7, _⟩ := may_kind h
  unfold Rec.bytes Rec.tailL
  simp only [List.length_append, putL_length]
  split
  · simp only [List.length_append, putL_length]; omega
  split
  · rename_i h1 h3
    obtain ⟨_, t2, t3⟩ := may_text h (.inl h3)
    have e1 := textL_len' r.key.data.toList (by simp; exact Nat.le_trans t2 (by decide))
    have e2 := textL_len' r.val.data.toList (by simp; exact Nat.le_trans t3 (by decide))
    have k1 : r.key.data.toList.length = r.key.size := by simp
    have k2 : r.val.data.toList.length = r.val.size := by simp
    simp only [List.length_append, putL_length]
    omega
  split
  · rename_i h1 h3 h4
    obtain ⟨_, t2, _⟩ := may_text h (.inr h4)
    have e1 := textL_len' r.key.data.toList (by simp; exact Nat.le_trans t2 (by decide))
    have k1 : r.key.data.toList.length = r.key.size := by simp
    simp only [List.length_append, putL_length]
    omega
  split
  · simp only [List.length_append, putL_length]; omega
  split
  · simp only [putL_length]; omega
  · simp only [List.length_nil]; omega
set_option maxRecDepth 100000 in
set_option maxHeartbeats 4000000 in
theorem refBodyBig (a : Option Addr) (cap : Nat) (l : List Rec) (w : World) (hl : l.length ≤ 1048576) (h : IsRecs w a l) :
    Calls Try.prog 23 #[.slice a l.length cap] w (RefBodyOk l w) := by
  have HI := Lib.hid h
  have HLL := Lib.hid hl
  clear h hl
  go_enter Try.func23, Try.ntmps23
  go_wp2
  go_loopw [4, 5] (fun o i wr => ∃ (j : Nat) (L : List UInt8), j ≤ l.length ∧ i = .int .i64 j ∧ Hid (L.length ≤ 1100 * j) ∧ Hid (L = recsL (l.take j)) ∧ Hid (OwnB w.heap.size wr o L) ∧ Hid ((l.take j).all Rec.may = true) ∧ Hid (Below w.heap.size w wr)) (fun _ i _ => l.length - (intOf i).toNat)
  case atStart => exact ⟨0, [], Nat.zero_le _, rfl, by show _ ≤ _; simp, rfl, OwnB.nil _ _, rfl, Below.refl _ _⟩
  case round =>
    obtain ⟨j, L, hj, rfl, HLn, HL, HO, HA, HB⟩ := hrel
    obtain ⟨ao, capo, rfl, hoc⟩ : ∃ (ao : Option Addr) (capo : Nat), u4 = Value.slice ao L.length capo ∧ L.length ≤ capo := by
      obtain ⟨a, c, h1, _, h3, _⟩ := HO.out.out
      exact ⟨a, c, h1, h3⟩
    clear hoc
    by_cases hlt : j < l.length
    · obtain ⟨b, off, rfl, hbl, hrec, hwf⟩ := HI.out j hlt
      have HLD := Lib.hid (fun (w2 : World) (hb2 : Below w.heap.size w w2) => run_load_rec w2 b (off + j * 14) l[j] (fun q hq => by rw [← hrec q hq]; exact hb2.cell (p := ⟨b, off + j * 14 + q, none⟩) hbl))
      have HX := Lib.hid (And.intro hwf (And.intro (recsL_take l j hlt) (fun hm => all_take_succ hlt HA.out hm)))
      have HBAD := Lib.hid (fun (hm : l[j].may = false) => show l.all Rec.may = false from by rw [List.all_eq_false]; exact ⟨l[j], List.getElem_mem hlt, by rw [hm]; decide⟩)
      clear hrec hwf hbl
      generalize l[j] = r at *
      have HM := Lib.hid (fun w => refMay r w)
      have HP := Lib.hid (fun B v L w hv hB hl hm => refBytes B v L r w hv hB hl hm HX.out.1)
      unfold Rec.v at HLD HM HP
      generalize r.cells = C at *
      go_wp2_with (refine wpList_load_by rfl 61 (.tmp 15) rfl _ _ rfl (HLD.out _ HB.out) ?_)
      refine (HM.out _).mono ?_
      rintro e W1 ⟨rfl, hb1⟩
      have HB1 := Lib.hid (below_next HB.out hb1)
      have HO1 := Lib.hid (HO.out.bel hb1)
      clear hb1 HB HO HM
      by_cases hm : r.may = true
      · have HMY := Lib.hid hm
        rw [hm]
        clear hm HBAD
        go_wp2_with (refine wpList_load_by rfl 61 (.tmp 23) rfl _ _ rfl (HLD.out _ HB1.out) ?_)
        refine (HP.out w.heap.size _ L W1 HO1.out HB1.out.size (by have := HLn.out; have := HLL.out; omega) HMY.out).mono ?_
        rintro e W2 ⟨v2, rfl, ho2, hb2⟩
        have HO2 := Lib.hid ho2
        have HB2 := Lib.hid (HB1.out.trans hb2)
        have HL2 : Hid (L ++ r.bytes = recsL (l.take (j + 1))) := by have := HX.out.2.1; rw [this, ← HL.out]; rfl
        have HLn2 : Hid ((L ++ r.bytes).length ≤ 1100 * (j + 1)) := by have h1 := bytes_len_may HMY.out; have h2 := HLn.out; show _ ≤ _; rw [List.length_append]; omega
        have HA2 := Lib.hid (HX.out.2.2 HMY.out)
        clear ho2 hb2 HL HA HX
        have hll := HLL.out
        go_wp2_with fail
        go_roundw
        case rel => exact ⟨j + 1, L ++ r.bytes, by omega, by go_num, HLn2, HL2, HO2, HA2, HB2⟩
        case measure => simp [intOf]; omega
      · have hmf : r.may = false := by simpa using hm
        have HBD := Lib.hid (HBAD.out hmf)
        rw [hmf]
        clear hm hmf HBAD
        go_wp2
        go_ret2
        exact ⟨HB1.out, .inr ⟨HBD.out, rfl⟩⟩
    · obtain rfl : j = l.length := by omega
      have HE : Hid (L = recsL l) := by have := HL.out; rw [List.take_length] at this; exact this
      have HAA : Hid (l.all Rec.may = true) := by have := HA.out; rw [List.take_length] at this; exact this
      have hputs : putOk l = (decide (0 < L.length) && decide (L.length ≤ 20000)) := by unfold putOk; rw [HAA.out, HE.out]; rfl
      have HPU := Lib.hid hputs
      have hll := HLL.out
      have HLB := Lib.hid (show L.length ≤ 2000000000 by have := HLn.out; omega)
      clear HL HA hlt hj hputs
      by_cases h0 : L.length = 0
      · have hL0 : L = [] := List.eq_nil_of_length_eq_zero h0
        subst hL0
        clear h0
        simp only [List.length_nil]
        go_wp2
        go_ret2
        exact ⟨HB.out, .inl ⟨HAA.out, _, by rw [HPU.out]; rfl, by rw [← HE.out]; exact HO.out⟩⟩
      · have d0 : decide ((0 : Int) < (L.length : Int)) = true := by rw [decide_eq_true_eq]; omega
        have d1 : decide (0 < L.length) = true := by rw [decide_eq_true_eq]; omega
        have HD0 := Lib.hid d1
        clear h0
        go_wp2
        go_ret2
        refine ⟨HB.out, .inl ⟨HAA.out, _, ?_, by rw [← HE.out]; exact HO.out⟩⟩
        rw [HPU.out, HD0.out, Bool.true_and, ← dec_le L.length 20000]
        rfl
end Go.Proofs.Ytiihemmonncioaa
