/- The walk of RecordTells. -/
import Derived.Test.YtiihemmonncioaaRecUp
import Derived.Test.YtiihemmonncioaaRecFew
import Derived.Test.YtiihemmonncioaaRecOpen
namespace Go.Proofs.Ytiihemmonncioaa
open Go.RowKit
def RtDone (w : World) (e : Ending) (w' : World) : Prop := e = .returned (.bool true) ∧ Below w.heap.size w w'
set_option maxRecDepth 100000 in
set_option maxHeartbeats 4000000 in
theorem tellsRec (r : Rec) (a1 : Option Addr) (cap1 : Nat) (l : List Rec) (w : World) (hwf : r.wf) (hlm : l.length ≤ maxLen) (hl : IsRecs w a1 l) :
    Calls Try.prog 7 #[Rec.v r, .slice a1 l.length cap1] w (RtDone w) := by
  have k1 := code_nil_nil
  have k2 := code_eql
  have HL := Lib.hid hl
  have HLM := Lib.hid hlm
  have HRM := Lib.hid (fun w => refMay r w)
  have HM := Lib.hid (fun w => recMay r w)
  have HRC := Lib.hid (fun w hm => refCost r w hwf hm)
  have HC := Lib.hid (fun w => recCost r w hwf)
  have HSL := Lib.hid (rec_sizeC r)
  have hc10 : r.cells[10]? = some (.string r.key) := rfl
  have hc11 : r.cells[11]? = some (.string r.val) := rfl
  have HC10 := Lib.hid hc10
  have HC11 := Lib.hid hc11
  have HCZ := Lib.hid (show r.may = false → r.cost = 0 from fun h => if_neg (by rw [h]; decide))
  clear hl hlm hwf hc10 hc11
  unfold Rec.v at HRM HM HRC HC ⊢
  generalize r.cells = C at *
  have HB0 := Lib.hid ((Below.refl w.heap.size w).alloc (Nat.le_refl _) (.cells C 61))
  have HG0 := Lib.hid (heap_alloc_new w (.cells C 61))
  go_enter Try.func7, Try.ntmps7
  go_wp2_with fail
  refine (recUp _).mono ?_
  rintro e W1 ⟨rfl, hb1, _⟩
  have HQ1 := Lib.hid (below_next HB0.out hb1)
  have L1 := Lib.hid (HL.out.bel HQ1.out)
  have G1 := Lib.hid (show W1.heap[w.heap.size]? = some (.cells C 61 (0, 0)) from by rw [hb1.block _ (by simp)]; exact HG0.out)
  clear hb1 HB0 HG0 HL
  go_wp2_with fail
  refine (recFew a1 cap1 l 40 _ HLM.out L1.out).mono ?_
  rintro e W2 ⟨rfl, f, rfl, hf⟩
  have HF := Lib.hid hf
  clear hf
  cases f with
  | false =>
    go_wp2_with fail
    go_ret
    exact ⟨rfl, HQ1.out⟩
  | true =>
    have HLN := Lib.hid (HF.out rfl)
    clear HF HLM
    have hk10 := (cell_of_row W1 w.heap.size 10 C _ _ G1.out).trans HC10.out
    have hk11 := (cell_of_row W1 w.heap.size 11 C _ _ G1.out).trans HC11.out
    generalize r.key = key at *
    generalize r.val = val at *
    by_cases hk : 200 < key.size
    · have d1 : decide ((200 : Int) < (key.size : Int)) = true := by rw [decide_eq_true_eq]; omega
      have d2 : decide (200 < key.size) = true := by rw [decide_eq_true_eq]; omega
      clear hk
      go_wp2_with fail
      go_ret
      exact ⟨rfl, HQ1.out⟩
    have d1 : decide ((200 : Int) < (key.size : Int)) = false := by rw [decide_eq_false_iff_not]; omega
    have d2 : decide (200 < key.size) = false := by rw [decide_eq_false_iff_not]; omega
    by_cases hv : 2000 < val.size
    · have d3 : decide ((2000 : Int) < (val.size : Int)) = true := by rw [decide_eq_true_eq]; omega
      have d4 : decide (2000 < val.size) = true := by rw [decide_eq_true_eq]; omega
      clear hk hv
      go_wp2_with fail
      go_ret
      exact ⟨rfl, HQ1.out⟩
    have d3 : decide ((2000 : Int) < (val.size : Int)) = false := by rw [decide_eq_false_iff_not]; omega
    have d4 : decide (2000 < val.size) = false := by rw [decide_eq_false_iff_not]; omega
    clear hk hv
    go_wp2_with (refine wpList_load_recG (.tmp 2) rfl w.heap.size rfl C (0, 0) G1.out HSL.out rfl ?_)
    clear d1 d2 d3 d4 hk10 hk11
    refine (HRM.out _).mono ?_
    rintro e W2 ⟨rfl, hb2⟩
    have HQ2 := Lib.hid (below_next HQ1.out hb2)
    have L2 := Lib.hid (L1.out.bel hb2)
    have G2 := Lib.hid (show W2.heap[w.heap.size]? = some (.cells C 61 (0, 0)) from by rw [hb2.block _ (Array.getElem?_eq_some_iff.1 G1.out).1]; exact G1.out)
    clear hb2 HQ1 L1 G1
    by_cases hm : r.may = true
    · have HMY := Lib.hid hm
      rw [hm]
      clear hm
      go_wp2_with (refine wpList_load_recG (.tmp 2) rfl w.heap.size rfl C (0, 0) G2.out HSL.out rfl ?_)
      refine (HRC.out _ HMY.out).mono ?_
      rintro e W3 ⟨rfl, hb3⟩
      have HQ3 := Lib.hid (below_next HQ2.out hb3)
      have L3 := Lib.hid (L2.out.bel hb3)
      have G3 := Lib.hid (show W3.heap[w.heap.size]? = some (.cells C 61 (0, 0)) from by rw [hb3.block _ (Array.getElem?_eq_some_iff.1 G2.out).1]; exact G2.out)
      clear hb3 HQ2 L2 G2
      go_wp2_with (refine wpList_load_recG (.tmp 2) rfl w.heap.size rfl C (0, 0) G3.out HSL.out rfl ?_)
      refine (HM.out _).mono ?_
      rintro e W4 ⟨rfl, hb4⟩
      rw [HMY.out]
      have HQ4 := Lib.hid (below_next HQ3.out hb4)
      have L4 := Lib.hid (L3.out.bel hb4)
      have G4 := Lib.hid (show W4.heap[w.heap.size]? = some (.cells C 61 (0, 0)) from by rw [hb4.block _ (Array.getElem?_eq_some_iff.1 G3.out).1]; exact G3.out)
      clear hb4 HQ3 L3 G3
      go_wp2_with (refine wpList_load_recG (.tmp 2) rfl w.heap.size rfl C (0, 0) G4.out HSL.out rfl ?_)
      refine (HC.out _).mono ?_
      rintro e W5 ⟨rfl, hb5⟩
      have HQ5 := Lib.hid (below_next HQ4.out hb5)
      have L5 := Lib.hid (L4.out.bel hb5)
      have G5 := Lib.hid (show W5.heap[w.heap.size]? = some (.cells C 61 (0, 0)) from by rw [hb5.block _ (Array.getElem?_eq_some_iff.1 G4.out).1]; exact G4.out)
      clear hb5 HQ4 L4 G4
      generalize r.cost = cost at *
      go_wp2_with fail
      refine (recPutAll a1 cap1 l _ (by have := HLN.out; omega) L5.out).mono ?_
      rintro e W6 ⟨hb6, hcase⟩
      have HQ6 := Lib.hid (below_next HQ5.out hb6)
      have L6 := Lib.hid (L5.out.bel hb6)
      rcases hcase with ⟨hok, v6, rfl, ho6⟩ | ⟨hok, rfl⟩
      · have HO6 := Lib.hid ho6
        clear hb6 ho6 HQ5 L5
        go_wp2_with fail
        refine (refBody a1 cap1 l _ (by have := HLN.out; omega) L6.out).mono ?_
        rintro e W7 ⟨hb7, ⟨_, v7, rfl, ho7⟩ | ⟨hall, rfl⟩⟩
        rotate_left
        · exfalso; unfold putOk at hok; rw [hall] at hok; cases hok
        rw [hok]
        have HQ7 := Lib.hid (below_next HQ6.out hb7)
        obtain ⟨a6, c6, rfl, hi6, _⟩ := (HO6.out.bel hb7).out
        obtain ⟨a7, c7, rfl, hi7, _⟩ := ho7.out
        have kc6 := run_string_bytes W7 a6 c6 _ hi6
        have kc7 := run_string_bytes W7 a7 c7 _ hi7
        clear hb7 ho7 hi6 hi7 hok HO6 HQ6 L6
        generalize recsL l = bs at *
        generalize bs.length = nb at *
        go_wp2_with fail
        go_ret
        exact ⟨rfl, HQ7.out⟩
      · have HOK := Lib.hid hok
        clear hb6 hok HQ5 L5
        go_wp2_with fail
        refine (refBody a1 cap1 l _ (by have := HLN.out; omega) L6.out).mono ?_
        rintro e W7 ⟨hb7, ⟨_, v7, rfl, _⟩ | ⟨_, rfl⟩⟩
        · rw [HOK.out]
          have HQ7 := Lib.hid (below_next HQ6.out hb7)
          clear hb7
          go_wp2_with fail
          go_ret
          exact ⟨rfl, HQ7.out⟩
        · have HQ7 := Lib.hid (below_next HQ6.out hb7)
          clear hb7
          go_wp2_with fail
          go_ret
          exact ⟨rfl, HQ7.out⟩
    · have hmf : r.may = false := by simpa using hm
      have HCV := Lib.hid (HCZ.out hmf)
      have HMF := Lib.hid hmf
      rw [hmf]
      clear hm hmf
      go_wp2_with (refine wpList_load_recG (.tmp 2) rfl w.heap.size rfl C (0, 0) G2.out HSL.out rfl ?_)
      refine (HM.out _).mono ?_
      rintro e W4 ⟨rfl, hb4⟩
      rw [HMF.out]
      have HQ4 := Lib.hid (below_next HQ2.out hb4)
      have L4 := Lib.hid (L2.out.bel hb4)
      have G4 := Lib.hid (show W4.heap[w.heap.size]? = some (.cells C 61 (0, 0)) from by rw [hb4.block _ (Array.getElem?_eq_some_iff.1 G2.out).1]; exact G2.out)
      clear hb4 HQ2 L2 G2
      go_wp2_with (refine wpList_load_recG (.tmp 2) rfl w.heap.size rfl C (0, 0) G4.out HSL.out rfl ?_)
      refine (HC.out _).mono ?_
      rintro e W5 ⟨rfl, hb5⟩
      rw [HCV.out]
      have HQ5 := Lib.hid (below_next HQ4.out hb5)
      have L5 := Lib.hid (L4.out.bel hb5)
      have G5 := Lib.hid (show W5.heap[w.heap.size]? = some (.cells C 61 (0, 0)) from by rw [hb5.block _ (Array.getElem?_eq_some_iff.1 G4.out).1]; exact G4.out)
      clear hb5 HQ4 L4 G4
      go_wp2_with fail
      refine (recPutAll a1 cap1 l _ (by have := HLN.out; omega) L5.out).mono ?_
      rintro e W6 ⟨hb6, hcase⟩
      have HQ6 := Lib.hid (below_next HQ5.out hb6)
      have L6 := Lib.hid (L5.out.bel hb6)
      rcases hcase with ⟨hok, v6, rfl, ho6⟩ | ⟨hok, rfl⟩
      · have HO6 := Lib.hid ho6
        clear hb6 ho6 HQ5 L5
        go_wp2_with fail
        refine (refBody a1 cap1 l _ (by have := HLN.out; omega) L6.out).mono ?_
        rintro e W7 ⟨hb7, ⟨_, v7, rfl, ho7⟩ | ⟨hall, rfl⟩⟩
        rotate_left
        · exfalso; unfold putOk at hok; rw [hall] at hok; cases hok
        rw [hok]
        have HQ7 := Lib.hid (below_next HQ6.out hb7)
        obtain ⟨a6, c6, rfl, hi6, _⟩ := (HO6.out.bel hb7).out
        obtain ⟨a7, c7, rfl, hi7, _⟩ := ho7.out
        have kc6 := run_string_bytes W7 a6 c6 _ hi6
        have kc7 := run_string_bytes W7 a7 c7 _ hi7
        clear hb7 ho7 hi6 hi7 hok HO6 HQ6 L6
        generalize recsL l = bs at *
        generalize bs.length = nb at *
        go_wp2_with fail
        go_ret
        exact ⟨rfl, HQ7.out⟩
      · have HOK := Lib.hid hok
        clear hb6 hok HQ5 L5
        go_wp2_with fail
        refine (refBody a1 cap1 l _ (by have := HLN.out; omega) L6.out).mono ?_
        rintro e W7 ⟨hb7, ⟨_, v7, rfl, _⟩ | ⟨_, rfl⟩⟩
        · rw [HOK.out]
          have HQ7 := Lib.hid (below_next HQ6.out hb7)
          clear hb7
          go_wp2_with fail
          go_ret
          exact ⟨rfl, HQ7.out⟩
        · have HQ7 := Lib.hid (below_next HQ6.out hb7)
          clear hb7
          go_wp2_with fail
          go_ret
          exact ⟨rfl, HQ7.out⟩
theorem RecordTells_walk (a0 : Rec) (a1 : Option Addr) (len1 cap1 : Nat) (z1 : In_RecordTells_1.T) (w : World) (w0 : a0.wf) (w1 : In_RecordTells_1 w a1 len1 cap1 z1) :
    LawOk Try.prog 7 #[Rec.v a0, .slice a1 len1 cap1] w := by
  obtain ⟨rfl, hi, hm⟩ := w1
  exact tellsRec a0 a1 cap1 z1 w w0 hm hi
end Go.Proofs.Ytiihemmonncioaa
