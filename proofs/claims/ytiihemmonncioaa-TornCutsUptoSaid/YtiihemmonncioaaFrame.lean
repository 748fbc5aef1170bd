/- Contracts of frame.Put and the reference's Frame. -/
import Derived.Test.YtiihemmonncioaaFramePure
import Derived.Test.YtiihemmonncioaaCrc
import Derived.Test.YtiihemmonncioaaPack
import Derived.Test.YtiihemmonncioaaPackRef
namespace Go.Proofs.Ytiihemmonncioaa
open Go.RowKit

theorem frameL_eq (body : List UInt8) : ([] ++ putL body.length 4 ++ putL (addN 0 body) 4) ++ body = frameL body := by
  with_unfolding_all (show _ = putL body.length 4 ++ (putL (addN 0 body) 4 ++ body))
  simp
def FramePutBad (w : World) (e : Ending) (w' : World) : Prop := e = .returned (.tuple #[.slice none 0 0, .iface 28 (.int .i64 13)]) ∧ w = w'
theorem framePut_bad (a : Option Addr) (n cap : Nat) (w : World) (h : n = 0 ∨ 20000 < n) :
    Calls Try.prog 11 #[.slice a n cap] w (FramePutBad w) := by
  by_cases h0 : n = 0
  · subst h0
    go_enter Try.func11, Try.ntmps11
    go_wp2
    go_ret2
    exact ⟨rfl, rfl⟩
  · have d1 : decide ((20000 : Int) < (n : Int)) = true := by simp; omega
    have d0 : ((n : Int) == 0) = false := by simp; omega
    go_enter Try.func11, Try.ntmps11
    go_wp2
    go_ret2
    exact ⟨rfl, rfl⟩
def FramePutOk (body : List UInt8) (w : World) (e : Ending) (w' : World) : Prop := ∃ v, e = .returned (.tuple #[v, .nilIface]) ∧ OwnB w.heap.size w' v (frameL body) ∧ Below w.heap.size w w'
set_option maxRecDepth 100000 in
set_option maxHeartbeats 1000000 in
theorem framePut_ok (a : Option Addr) (cap : Nat) (body : List UInt8) (w : World) (h1 : 1 ≤ body.length) (h2 : body.length ≤ 20000) (hb : IsBytes w a body) :
    Calls Try.prog 11 #[.slice a body.length cap] w (FramePutOk body w) := by
  have d1 : decide ((20000 : Int) < (body.length : Int)) = false := by simp; omega
  have d0 : ((body.length : Int) == 0) = false := by simp; intro h; simp [h] at h1
  have HB := Lib.hid hb
  have HS := Lib.hid (addN_lt 0 body)
  have HL := Lib.hid (frameL_eq body)
  clear hb
  go_enter Try.func11, Try.ntmps11
  go_wp2_with fail
  refine (packPut w.heap.size (.slice none 0 0) [] body.length 4 _ (OwnB.nil _ _) (Nat.le_refl _) (by simp) (by omega) (by omega) (by omega)).mono ?_
  rintro e w1 ⟨v1, rfl, ho1, hg1⟩
  have hb1 := below_of_grown (OwnB.nil w.heap.size w) (Nat.le_refl _) hg1
  have HB1 := Lib.hid (HB.out.bel hb1)
  have HQ1 := Lib.hid hb1
  have HO1 := Lib.hid ho1
  clear ho1 hg1 hb1
  go_wp2_with fail
  refine (crcSum a _ cap body _ rfl (by unfold maxLen; omega) HB1.out).mono ?_
  rintro e w2 ⟨rfl, hb2⟩
  have HB2 := Lib.hid (HB1.out.bel hb2)
  have HQ2 := Lib.hid (below_next HQ1.out hb2)
  have HO2 := Lib.hid (HO1.out.bel hb2)
  clear hb2 HB1 HQ1 HO1
  generalize addN 0 body = s at *
  have hws : IntKind.u64.wrap (s : Int) = (s : Int) := by have := HS.out; rw [IntKind.wrap_u64]; omega
  go_wp2_with fail
  clear hws
  refine (packPut w.heap.size v1 _ s 4 _ HO2.out HQ2.out.size (by simp [putL]) (by have := HS.out; omega) (by omega) (by omega)).mono ?_
  rintro e w3 ⟨v3, rfl, ho3, hg3⟩
  have hb3 := HQ2.out.trans (below_of_grown HO2.out HQ2.out.size hg3)
  have HB3 := Lib.hid (HB.out.bel hb3)
  have HQ3 := Lib.hid hb3
  have HO3 := Lib.hid ho3
  clear ho3 hg3 hb3 HB2 HQ2 HO2
  have hsz := HQ3.out.size
  go_wp2_with (at_builtin; refine wpList_append_bytes rfl (.tmp 23) (.tmp 24) 22 rfl w.heap.size v3 _ rfl HO3.out _ body rfl (SrcB.ofBytes cap HB3.out) ?c1 ?c2 ?hh1)
  case c1 => exact hsz
  case c2 => simp [putL]; omega
  intro v4 w4 ho4 hg4
  have ho4 : OwnB w.heap.size w4 v4 (frameL body) := by rw [← HL.out]; simpa using ho4
  have hb4 := HQ3.out.trans (below_of_grown HO3.out hsz hg4)
  have HX := Lib.hid (And.intro ho4 hb4)
  clear ho4 hg4 hb4
  go_wp2
  go_ret2
  exact ⟨v4, rfl, HX.out.1, HX.out.2⟩
end Go.Proofs.Ytiihemmonncioaa
