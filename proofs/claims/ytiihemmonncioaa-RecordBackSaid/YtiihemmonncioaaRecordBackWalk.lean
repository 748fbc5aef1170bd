/- The walk of RecordBack. -/
import Derived.Test.YtiihemmonncioaaRecUp
import Derived.Test.YtiihemmonncioaaRecFew
import Derived.Test.YtiihemmonncioaaRecOpen
import Derived.Test.YtiihemmonncioaaRecLaws
namespace Go.Proofs.Ytiihemmonncioaa
open Go.RowKit
def RbDone (w : World) (e : Ending) (w' : World) : Prop := e = .returned (.bool true) ∧ Below w.heap.size w w'
set_option maxRecDepth 100000 in
set_option maxHeartbeats 8000000 in
theorem backRec (a0 : Option Addr) (cap0 : Nat) (l : List Rec) (a1 : Option Addr) (cap1 : Nat) (b : List UInt8) (w : World) (hlm : l.length ≤ maxLen) (hl : IsRecs w a0 l) (hr : Reads w (.slice a1 b.length cap1) b) :
    Calls Try.prog 9 #[.slice a0 l.length cap0, .slice a1 b.length cap1] w (RbDone w) := by
  have k1 := code_nil_nil
  have k2 := code_neq_nil
  have k3 := code_eql_nil
  have k4 := code_nil_neq_nil
  have HL := Lib.hid hl
  have HR := Lib.hid hr
  have HLM := Lib.hid hlm
  clear hl hr hlm
  go_enter Try.func9, Try.ntmps9
  go_wp2_with fail
  refine (recUp _).mono ?_
  rintro e W1 ⟨rfl, hb1, _⟩
  have HQ1 := Lib.hid hb1
  have L1 := Lib.hid (HL.out.bel hb1)
  have R1 := Lib.hid (HR.out.bel hb1)
  clear hb1 HL HR
  go_wp2_with fail
  refine (recFew a0 cap0 l 40 _ HLM.out L1.out).mono ?_
  rintro e W2 ⟨rfl, f, rfl, hf⟩
  have HF := Lib.hid hf
  clear hf
  cases f with
  | false =>
    go_wp2_with fail
    go_ret
    exact ⟨rfl, HQ1.out⟩
  | true =>
    have HLN := Lib.hid (HF.out rfl)
    clear HF HLM
    by_cases hlb : 20000 < b.length
    · have d1 : decide ((20000 : Int) < (b.length : Int)) = true := by rw [decide_eq_true_eq]; omega
      have d2 : decide (20000 < b.length) = true := by rw [decide_eq_true_eq]; omega
      clear hlb
      go_wp2_with fail
      go_ret
      exact ⟨rfl, HQ1.out⟩
    have d1 : decide ((20000 : Int) < (b.length : Int)) = false := by rw [decide_eq_false_iff_not]; omega
    have d2 : decide (20000 < b.length) = false := by rw [decide_eq_false_iff_not]; omega
    have HLB := Lib.hid (show b.length ≤ 20000 by omega)
    clear hlb
    go_wp2_with fail
    clear d1 d2
    refine (recPutAll a0 cap0 l _ (by have := HLN.out; omega) L1.out).mono ?_
    rintro e W3 ⟨hb3, hcase⟩
    have HQ3 := Lib.hid (below_next HQ1.out hb3)
    have L3 := Lib.hid (L1.out.bel hb3)
    have R3 := Lib.hid (R1.out.bel hb3)
    clear hb3 HQ1 L1 R1
    rcases hcase with ⟨hok, v3, rfl, ho3⟩ | ⟨_, rfl⟩
    rotate_left
    · clear L3
      go_wp2_with fail
      refine (recGets a1 _ cap1 b _ rfl (by have := HLB.out; omega) R3.out).mono ?_
      rintro e WGa ⟨hbg, hcase⟩
      have HQGa := Lib.hid (below_next HQ3.out hbg)
      have RGa := Lib.hid (R3.out.bel hbg)
      rcases hcase with ⟨_, rfl⟩ | ⟨L, hL, vg, rfl, hog⟩
      · clear hbg
        go_wp2_with fail
        go_ret
        exact ⟨rfl, HQGa.out⟩
      · have hall := recsOf_all b.length b (Nat.le_refl _) L hL
        have hback := recsL_recsOf b.length b (Nat.le_refl _) L hL
        have hne : b.length ≠ 0 := fun h0 => by rw [List.eq_nil_of_length_eq_zero h0, recsOf_nil] at hL; cases hL
        have hpo : putOk L = true := putOk_yes (by rw [List.all_eq_true]; exact fun r hr => (hall.1 r hr).2) (by rw [hback]; omega) (by rw [hback]; exact HLB.out)
        have HPO := Lib.hid hpo
        have HBK := Lib.hid hback
        have HLL := Lib.hid (show L.length ≤ 5000 by have h1 := hall.2; have h2 := HLB.out; omega)
        obtain ⟨ag, cg, rfl, hig, _⟩ := hog.recs (fun r hr => (hall.1 r hr).1)
        have HIG := Lib.hid hig
        clear hbg hL hall hback hne hpo hog hig
        go_wp2_with fail
        refine (recPutAll ag cg L _ HLL.out HIG.out).mono ?_
        rintro e WPa ⟨hbp, ⟨_, vp, rfl, hop⟩ | ⟨hno, _⟩⟩
        rotate_left
        · rw [HPO.out] at hno; cases hno
        rw [HBK.out] at hop
        have HQPa := Lib.hid (below_next HQGa.out hbp)
        have hrp := RGa.out.bel hbp
        obtain ⟨ap, cp, rfl, hip, _⟩ := hop.out
        have kcp := run_string_bytes WPa ap cp b hip
        have kcb := run_string_bytes WPa a1 cap1 b hrp.bytes
        clear hbp hop hrp hip HLB
        generalize b.length = nb at *
        go_wp2_with fail
        go_ret
        exact ⟨rfl, HQPa.out⟩
    obtain ⟨hall, hpos, hle, hne⟩ := putOk_all hok
    have hwf : ∀ r ∈ l, r.may = true ∧ r.wf := fun r hr => by
      obtain ⟨i, hi, rfl⟩ := List.getElem_of_mem hr
      obtain ⟨_, _, _, _, _, hw⟩ := L3.out i hi
      exact ⟨(List.all_eq_true.1 hall) _ hr, hw⟩
    have HRT := Lib.hid (recsOf_recsL l hne hwf)
    have HWF := Lib.hid hwf
    have HGE := Lib.hid (show (recsL l).length + 8 ≤ costs l by
      have h1 := costs_ge l hall
      have h2 : 1 ≤ l.length := by cases l with
        | nil => exact absurd rfl hne
        | cons x y => simp
      omega)
    have HLE := Lib.hid hle
    have RX := Lib.hid ho3.reads
    obtain ⟨a3, c3, rfl, _, _⟩ := ho3.out
    clear hok ho3 hall hpos hle hne hwf
    go_wp2_with fail
    refine (recGets a3 _ c3 (recsL l) _ rfl (by have := HLE.out; omega) RX.out).mono ?_
    rintro e W4 ⟨hb4, hcase⟩
    rw [HRT.out] at hcase
    rcases hcase with ⟨hn, _⟩ | ⟨L4, hL4, v4, rfl, ho4⟩
    · cases hn
    cases hL4
    have HQ4 := Lib.hid (below_next HQ3.out hb4)
    have L4 := Lib.hid (L3.out.bel hb4)
    have R4 := Lib.hid (R3.out.bel hb4)
    obtain ⟨a4, c4, rfl, hi4, _⟩ := ho4.recs (fun r hr => (HWF.out r hr).2)
    have HI4 := Lib.hid hi4
    clear hb4 ho4 hi4 HQ3 L3 R3 RX HRT
    go_wp2_with fail
    refine (recSame a4 c4 l a0 cap0 l _ (by have := HLN.out; omega) HI4.out L4.out).mono ?_
    rintro e W5 ⟨rfl, hb5⟩
    rw [decide_eq_true (rfl : l = l)]
    have HQ5 := Lib.hid (below_next HQ4.out hb5)
    have L5 := Lib.hid (L4.out.bel hb5)
    have R5 := Lib.hid (R4.out.bel hb5)
    clear hb5 HI4 HQ4 L4 R4
    generalize hnx : (recsL l).length = nx at *
    clear hnx
    go_wp2_with fail
    go_loopw [11, 12] (fun sm i wr => ∃ j : Nat, j ≤ l.length ∧ i = .int .i64 j ∧ sm = .int .i64 ((costs (l.take j) : Nat) : Int) ∧ Hid (Below w.heap.size w wr) ∧ Hid (IsRecs wr a0 l) ∧ Hid (Reads wr (.slice a1 b.length cap1) b)) (fun _ i _ => l.length - (intOf i).toNat)
    case atStart => exact ⟨0, Nat.zero_le _, rfl, rfl, HQ5, L5, R5⟩
    case round =>
      obtain ⟨j, hj, rfl, rfl, HQ, HLS, HRD⟩ := hrel
      clear HQ5 L5 R5
      by_cases hlt : j < l.length
      · obtain ⟨bx, off, rfl, _, hrec, hwf⟩ := HLS.out j hlt
        have HLD := Lib.hid (run_load_rec wr bx (off + j * 14) l[j] hrec)
        have HCO := Lib.hid (fun w => recCost l[j] w hwf)
        have HCT := Lib.hid (costs_take l j hlt)
        have hct := costs_le (l.take (j + 1))
        have hll : (l.take (j + 1)).length ≤ 40 := by have := HLN.out; simp; omega
        rw [costs_take l j hlt] at hct
        have hw1 : IntKind.i64.wrap (((costs (l.take j) : Nat) : Int) + (l[j].cost : Int)) = ((costs (l.take j) + l[j].cost : Nat) : Int) := by rw [IntKind.wrap_i64]; omega
        have hw2 : IntKind.i64.wrap ((j : Int) + 1) = (j : Int) + 1 := by have := HLN.out; rw [IntKind.wrap_i64]; omega
        clear hrec hwf hct hll
        generalize l[j] = r at *
        unfold Rec.v at HLD HCO
        generalize r.cells = C at *
        generalize costs (l.take j) = s1 at *
        generalize r.cost = s2 at *
        go_wp2_with (refine wpList_load_by rfl 61 (.tmp 57) rfl _ _ rfl HLD.out ?_)
        refine (HCO.out _).mono ?_
        rintro e W6 ⟨rfl, hb6⟩
        have HQ6 := Lib.hid (below_next HQ.out hb6)
        have L6 := Lib.hid (HLS.out.bel hb6)
        have R6 := Lib.hid (HRD.out.bel hb6)
        clear hb6 HQ HLS HRD HLD HCO
        go_wp2_with fail
        go_roundw
        case rel => exact ⟨j + 1, by omega, by go_num, by rw [HCT.out, Int.natCast_add], HQ6, L6, R6⟩
        case measure => simp [intOf]; omega
      · obtain rfl : j = l.length := by omega
        have hct : ((costs (l.take l.length) : Nat) : Int) = ((costs l : Nat) : Int) := by rw [List.take_length]
        rw [hct]
        have hc2 := costs_le l
        have hc3 := HGE.out
        have hc4 := HLE.out
        have hw1 : IntKind.i64.wrap ((nx : Int) + 8) = (nx : Int) + 8 := by rw [IntKind.wrap_i64]; omega
        have d3 : decide (((costs l : Nat) : Int) < (nx : Int) + 8) = false := by rw [decide_eq_false_iff_not]; omega
        clear hct hc2 hc3 hc4 HLS
        generalize costs l = s1 at *
        go_wp2_with fail
        refine (recGets a1 _ cap1 b _ rfl (by have := HLB.out; omega) HRD.out).mono ?_
        rintro e WGc ⟨hbg, hcase⟩
        have HQGc := Lib.hid (below_next HQ.out hbg)
        have RGc := Lib.hid (HRD.out.bel hbg)
        rcases hcase with ⟨_, rfl⟩ | ⟨L, hL, vg, rfl, hog⟩
        · clear hbg
          go_wp2_with fail
          go_ret
          exact ⟨rfl, HQGc.out⟩
        · have hall := recsOf_all b.length b (Nat.le_refl _) L hL
          have hback := recsL_recsOf b.length b (Nat.le_refl _) L hL
          have hne : b.length ≠ 0 := fun h0 => by rw [List.eq_nil_of_length_eq_zero h0, recsOf_nil] at hL; cases hL
          have hpo : putOk L = true := putOk_yes (by rw [List.all_eq_true]; exact fun r hr => (hall.1 r hr).2) (by rw [hback]; omega) (by rw [hback]; exact HLB.out)
          have HPO := Lib.hid hpo
          have HBK := Lib.hid hback
          have HLL := Lib.hid (show L.length ≤ 5000 by have h1 := hall.2; have h2 := HLB.out; omega)
          obtain ⟨ag, cg, rfl, hig, _⟩ := hog.recs (fun r hr => (hall.1 r hr).1)
          have HIG := Lib.hid hig
          clear hbg hL hall hback hne hpo hog hig
          go_wp2_with fail
          refine (recPutAll ag cg L _ HLL.out HIG.out).mono ?_
          rintro e WPc ⟨hbp, ⟨_, vp, rfl, hop⟩ | ⟨hno, _⟩⟩
          rotate_left
          · rw [HPO.out] at hno; cases hno
          rw [HBK.out] at hop
          have HQPc := Lib.hid (below_next HQGc.out hbp)
          have hrp := RGc.out.bel hbp
          obtain ⟨ap, cp, rfl, hip, _⟩ := hop.out
          have kcp := run_string_bytes WPc ap cp b hip
          have kcb := run_string_bytes WPc a1 cap1 b hrp.bytes
          clear hbp hop hrp hip HLB
          generalize b.length = nb at *
          go_wp2_with fail
          go_ret
          exact ⟨rfl, HQPc.out⟩
theorem RecordBack_walk (a0 : Option Addr) (len0 cap0 : Nat) (z0 : In_RecordBack_0.T) (a1 : Option Addr) (len1 cap1 : Nat) (z1 : List Int) (w : World) (w0 : In_RecordBack_0 w a0 len0 cap0 z0) (w1 : IsRow .u8 w a1 len1 cap1 z1) :
    LawOk Try.prog 9 #[.slice a0 len0 cap0, .slice a1 len1 cap1] w := by
  obtain ⟨rfl, hi, hm⟩ := w0
  obtain ⟨b, rfl, hr⟩ := w1.reads
  exact backRec a0 cap0 z0 a1 cap1 b w hm hi hr
end Go.Proofs.Ytiihemmonncioaa
