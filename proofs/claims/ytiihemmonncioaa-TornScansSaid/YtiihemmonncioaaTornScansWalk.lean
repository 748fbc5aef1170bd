/- The walk of TornScans. -/
import Derived.Test.YtiihemmonncioaaTornUp
import Derived.Test.YtiihemmonncioaaRefScan
import Derived.Test.YtiihemmonncioaaTornSame
namespace Go.Proofs.Ytiihemmonncioaa
open Go.RowKit
theorem scanAt_bounds : ∀ (n : Nat) (b : List UInt8) (at_ : Nat), b.length - at_ ≤ n → at_ ≤ b.length → (scanAt b at_).1.length ≤ b.length - at_ ∧ ∀ q ∈ (scanAt b at_).1, q.2.2.length ≤ b.length
  | n, b, at_, hn, hat => by
    by_cases h : (getL (b.drop at_)).2.2 ≠ 0 ∨ recsOf (getL (b.drop at_)).1 = none
    · rw [scanAt_stop h]
      exact ⟨Nat.zero_le _, fun q hq => by cases hq⟩
    · have h0 : (getL (b.drop at_)).2.2 = 0 := Classical.byContradiction fun e => h (.inl e)
      cases hL : recsOf (getL (b.drop at_)).1 with
      | none => exact absurd (.inr hL) h
      | some L =>
        obtain ⟨g1, g2, g3, g4, _⟩ := getL_good h0
        rw [List.length_drop] at g4
        have hall := (recsOf_all _ _ (Nat.le_refl _) L hL).2
        rw [scanAt_more hat h0 hL]
        cases n with
        | zero => omega
        | succ n =>
          obtain ⟨i1, i2⟩ := scanAt_bounds n b (at_ + (getL (b.drop at_)).2.1) (by omega) (by omega)
          refine ⟨by simp only [List.length_cons]; omega, fun q hq => ?_⟩
          rcases List.mem_cons.1 hq with e | e
          · rw [e]; simp only; omega
          · exact i2 q e
def TsDone (w : World) (e : Ending) (w' : World) : Prop := e = .returned (.bool true) ∧ Below w.heap.size w w'
set_option maxRecDepth 100000 in
set_option maxHeartbeats 4000000 in
theorem scansMain (a0 : Option Addr) (cap0 : Nat) (b : List UInt8) (w : World) (h : b.length ≤ 5000) (hr : Reads w (.slice a0 b.length cap0) b) :
    Calls Try.prog 5 #[.slice a0 b.length cap0] w (TsDone w) := by
  have d0 : decide ((5000 : Int) < (b.length : Int)) = false := by simp; omega
  have HR := Lib.hid hr
  have HLB := Lib.hid h
  have HBD := Lib.hid (scanAt_bounds b.length b 0 (by omega) (Nat.zero_le _))
  have hsl : scanAt b 0 = scanL b := rfl
  rw [hsl] at HBD
  clear hr h hsl
  go_enter Try.func5, Try.ntmps5
  go_wp2_with fail
  refine (tornUp _).mono ?_
  rintro e W1 ⟨rfl, hb1, hlt1⟩
  have R1 := Lib.hid (HR.out.bel hb1)
  have HQ1 := Lib.hid hb1
  have HL1 := Lib.hid (fun x (hx : a0 = some x) (hc : 0 < cap0) => show x.block + 1 < W1.heap.size by have := HR.out.low x hx hc; omega)
  clear hb1 hlt1 HR
  go_wp2_with fail
  refine (tornScan a0 _ cap0 b _ rfl (by have := HLB.out; omega) R1.out).mono ?_
  rintro e W2 ⟨hb2, v2, rfl, ho2⟩
  have R2 := Lib.hid (R1.out.bel hb2)
  have HQ2 := Lib.hid (below_next HQ1.out hb2)
  have HL2 := Lib.hid (fun x (hx : a0 = some x) (hc : 0 < cap0) => Nat.lt_of_lt_of_le (HL1.out x hx hc) hb2.size)
  have HO2 := Lib.hid ho2
  clear hb2 ho2 R1 HQ1 HL1
  go_wp2_with fail
  refine (refScan a0 _ cap0 b _ rfl (by have := HLB.out; omega) R2.out HL2.out).mono ?_
  rintro e W3 ⟨hb3, v3, rfl, ho3⟩
  have R3 := Lib.hid (R2.out.bel hb3)
  have HQ3 := Lib.hid (below_next HQ2.out hb3)
  obtain ⟨a2, c2, rfl, hi2⟩ := (HO2.out.bel hb3).pieces
  obtain ⟨a3, c3, rfl, hi3⟩ := ho3.pieces
  have HSM := Lib.hid (lawSame a2 c2 a3 c3 (scanL b).1 W3 (by have h1 := HBD.out.1; have h2 := HLB.out; omega) (fun q hq => by have h1 := HBD.out.2 q hq; have h2 := HLB.out; omega) hi2 hi3)
  have HWH := Lib.hid (fun w h => tornWhole a0 _ cap0 b w rfl (by have := HLB.out; omega) h)
  clear hb3 ho3 hi2 hi3 HO2 R2 HQ2 HL2 HBD
  generalize (scanL b).1 = ps at *
  generalize (scanL b).2 = q at *
  generalize ps.length = np at *
  go_wp2_with fail
  refine HSM.out.mono ?_
  rintro e W4 ⟨rfl, hb4⟩
  have R4 := Lib.hid (R3.out.bel hb4)
  have HQ4 := Lib.hid (below_next HQ3.out hb4)
  clear hb4 R3 HQ3 HSM
  go_wp2_with fail
  refine (HWH.out _ R4.out).mono ?_
  rintro e W5 ⟨rfl, hb5⟩
  have HQ5 := Lib.hid (below_next HQ4.out hb5)
  clear hb5
  by_cases hq : q = b.length
  · have d1 : ((q : Int) == (b.length : Int)) = true := by rw [beq_iff_eq]; omega
    rw [decide_eq_true hq]
    clear hq
    go_wp2_with fail
    go_ret
    exact ⟨rfl, HQ5.out⟩
  · have d1 : ((q : Int) == (b.length : Int)) = false := by rw [beq_eq_false_iff_ne]; omega
    rw [decide_eq_false hq]
    clear hq
    go_wp2_with fail
    go_ret
    exact ⟨rfl, HQ5.out⟩
theorem TornScans_walk (a0 : Option Addr) (len0 cap0 : Nat) (z0 : List Int) (w : World) (w0 : IsRow .u8 w a0 len0 cap0 z0) :
    LawOk Try.prog 5 #[.slice a0 len0 cap0] w := by
  obtain ⟨b, rfl, hr⟩ := w0.reads
  show Calls _ _ _ w (TsDone w)
  by_cases h : b.length ≤ 5000
  · exact scansMain a0 cap0 b w h hr
  · have d0 : decide ((5000 : Int) < (b.length : Int)) = true := by simp; omega
    clear h
    go_enter Try.func5, Try.ntmps5
    go_wp2_with fail
    refine (tornUp _).mono ?_
    rintro e W1 ⟨rfl, hb1, _⟩
    go_wp2_with fail
    go_ret
    exact ⟨rfl, hb1⟩
end Go.Proofs.Ytiihemmonncioaa
