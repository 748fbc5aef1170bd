/- The walk of RecordGets. -/
import Derived.Test.YtiihemmonncioaaRecUp
import Derived.Test.YtiihemmonncioaaRefRecs
namespace Go.Proofs.Ytiihemmonncioaa
open Go.RowKit
def GDone (w : World) (e : Ending) (w' : World) : Prop := e = .returned (.bool true) ∧ Below w.heap.size w w'
set_option maxRecDepth 100000 in
set_option maxHeartbeats 4000000 in
theorem getsMain (a0 : Option Addr) (cap0 : Nat) (b : List UInt8) (w : World) (h : b.length ≤ 25000) (hr : Reads w (.slice a0 b.length cap0) b) :
    Calls Try.prog 8 #[.slice a0 b.length cap0] w (GDone w) := by
  have d0 : decide ((25000 : Int) < (b.length : Int)) = false := by simp; omega
  have k1 := code_nil_nil
  have HR := Lib.hid hr
  have HLB := Lib.hid h
  have HC2 := Lib.hid (fun w => lawCode 2 w (by omega))
  rw [errV_code (by decide : (2 : Nat) ≠ 0)] at HC2
  clear hr h
  go_enter Try.func8, Try.ntmps8
  go_wp2_with fail
  refine (recUp _).mono ?_
  rintro e W1 ⟨rfl, hb1, hlt1⟩
  have R1 := Lib.hid (HR.out.bel hb1)
  have HQ1 := Lib.hid hb1
  have HL1 := Lib.hid (fun x (hx : a0 = some x) (hc : 0 < cap0) => show x.block + 1 < W1.heap.size by have := HR.out.low x hx hc; omega)
  clear hb1 hlt1 HR
  go_wp2_with fail
  refine (recGets a0 _ cap0 b _ rfl (by have := HLB.out; omega) R1.out).mono ?_
  rintro e W2 ⟨hb2, hcase⟩
  have R2 := Lib.hid (R1.out.bel hb2)
  have HQ2 := Lib.hid (below_next HQ1.out hb2)
  have HL2 := Lib.hid (fun x (hx : a0 = some x) (hc : 0 < cap0) => Nat.lt_of_lt_of_le (HL1.out x hx hc) hb2.size)
  clear hb2 R1 HQ1 HL1
  rcases hcase with ⟨hn, rfl⟩ | ⟨L, hs, v2, rfl, ho2⟩
  · have HN := Lib.hid hn
    clear hn
    go_wp2_with fail
    refine (refRecs a0 _ cap0 b _ rfl (by have := HLB.out; omega) R2.out HL2.out).mono ?_
    rintro e W3 ⟨hb3, ⟨_, rfl⟩ | ⟨L, hs, _⟩⟩
    rotate_left
    · rw [HN.out] at hs; cases hs
    have HQ3 := Lib.hid (below_next HQ2.out hb3)
    clear hb3
    go_wp2_with fail
    refine (HC2.out _).mono ?_
    rintro e W4 ⟨rfl, rfl⟩
    go_wp2_with fail
    go_ret
    exact ⟨rfl, HQ3.out⟩
  · have HS := Lib.hid hs
    have HALL := Lib.hid (recsOf_all b.length b (Nat.le_refl _) L hs)
    have HO2 := Lib.hid ho2
    clear hs ho2
    go_wp2_with fail
    refine (refRecs a0 _ cap0 b _ rfl (by have := HLB.out; omega) R2.out HL2.out).mono ?_
    rintro e W3 ⟨hb3, ⟨hn, _⟩ | ⟨L', hs', v3, rfl, ho3⟩⟩
    · rw [HS.out] at hn; cases hn
    rw [HS.out] at hs'
    cases hs'
    have HQ3 := Lib.hid (below_next HQ2.out hb3)
    have ho2 := HO2.out.bel hb3
    obtain ⟨a2, c2, rfl, hi2, _⟩ := ho2.recs (fun r hr => (HALL.out.1 r hr).1)
    obtain ⟨a3, c3, rfl, hi3, _⟩ := ho3.recs (fun r hr => (HALL.out.1 r hr).1)
    have HS2 := Lib.hid (recSame a2 c2 L a3 c3 L W3 (by have h1 := HALL.out.2; have h2 := HLB.out; omega) hi2 hi3)
    have hdt : decide (L = L) = true := decide_eq_true rfl
    rw [hdt] at HS2
    clear hb3 ho2 ho3 hi2 hi3 HO2 hdt
    go_wp2_with fail
    refine HS2.out.mono ?_
    rintro e W4 ⟨rfl, hb4⟩
    have HQ4 := Lib.hid (below_next HQ3.out hb4)
    clear hb4
    go_wp2_with fail
    go_ret
    exact ⟨rfl, HQ4.out⟩
theorem RecordGets_walk (a0 : Option Addr) (len0 cap0 : Nat) (z0 : List Int) (w : World) (w0 : IsRow .u8 w a0 len0 cap0 z0) :
    LawOk Try.prog 8 #[.slice a0 len0 cap0] w := by
  obtain ⟨b, rfl, hr⟩ := w0.reads
  show Calls _ _ _ w (GDone w)
  by_cases h : b.length ≤ 25000
  · exact getsMain a0 cap0 b w h hr
  · have d0 : decide ((25000 : Int) < (b.length : Int)) = true := by simp; omega
    clear h
    go_enter Try.func8, Try.ntmps8
    go_wp2_with fail
    refine (recUp _).mono ?_
    rintro e W1 ⟨rfl, hb1, _⟩
    go_wp2_with fail
    go_ret
    exact ⟨rfl, hb1⟩
end Go.Proofs.Ytiihemmonncioaa
