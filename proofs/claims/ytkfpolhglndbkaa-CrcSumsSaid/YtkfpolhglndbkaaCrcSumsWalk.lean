/- The walk of CrcSums. -/
import Derived.Test.YtkfpolhglndbkaaCrcRowsWalk
namespace Go.Proofs.Ytkfpolhglndbkaa
open Go.RowKit

set_option maxRecDepth 100000 in
set_option maxHeartbeats 1000000 in
theorem CrcSums_walk (a0 : Option Addr) (len0 cap0 : Nat) (z0 : List Int) (a1 : Option Addr) (len1 cap1 : Nat) (z1 : List Int) (w : World) (w0 : IsRow .u8 w a0 len0 cap0 z0) (w1 : IsRow .u8 w a1 len1 cap1 z1) :
    LawOk Try.prog 5 #[.slice a0 len0 cap0, .slice a1 len1 cap1] w := by
  obtain ⟨l0, hl0, hc0, hm0, hb0⟩ := w0.bytes
  obtain ⟨l1, hl1, hc1, hm1, hb1⟩ := w1.bytes
  unfold LawOk
  unfold maxLen at hm0 hm1
  by_cases h0 : 3000 < len0
  · go_enter Try.func5, Try.ntmps5
    go_wp2_with fail
    refine (crcUp _).mono ?_
    rintro e W1 ⟨rfl, hb⟩
    go_wp2_with fail
    go_ret
    exact ⟨rfl, hb⟩
  by_cases h1 : 3000 < len1
  · go_enter Try.func5, Try.ntmps5
    go_wp2_with fail
    refine (crcUp _).mono ?_
    rintro e W1 ⟨rfl, hb⟩
    go_wp2_with fail
    go_ret
    exact ⟨rfl, hb⟩
  subst hl0 hl1
  have d0 : decide ((3000 : Int) < (l0.length : Int)) = false := by simp; omega
  have d1 : decide ((3000 : Int) < (l1.length : Int)) = false := by simp; omega
  have HA := Lib.hid (addN_append 0 l0 l1)
  have hlt := addN_lt 0 l0
  have H0 := Lib.hid hb0
  have H1 := Lib.hid hb1
  clear hb0 hb1 w0 w1
  go_enter Try.func5, Try.ntmps5
  go_wp2_with fail
  refine (crcUp _).mono ?_
  rintro e W1 ⟨rfl, hb⟩
  have K0 := Lib.hid (H0.out.bel hb)
  have K1 := Lib.hid (H1.out.bel hb)
  go_wp2_with (at_builtin; go_must (refine wpList_append_bytes rfl (.tmp 18) (.tmp 19) 27 rfl W1.heap.size _ [] rfl (OwnB.empty _ W1 (Nat.le_refl _)) _ l0 rfl (SrcB.ofBytes cap0 (K0.out.alloc _)) ?c1 ?c2 ?_))
  case c1 => simp
  case c2 => simp; omega
  intro v2 W2 ho2 hg2
  have hb2 : Below W1.heap.size W1 W2 := ((Below.refl _ W1).alloc (Nat.le_refl _) _).trans (below_of_grown (OwnB.empty _ W1 (Nat.le_refl _)) (by simp) hg2)
  have KK0 := Lib.hid (K0.out.bel hb2)
  have KK1 := Lib.hid (K1.out.bel hb2)
  have hs2 := hb2.size
  go_wp2_with (at_builtin; go_must (refine wpList_append_bytes rfl (.tmp 20) (.tmp 21) 27 rfl W1.heap.size v2 l0 rfl ho2 (.slice a1 l1.length cap1) l1 rfl (SrcB.ofBytes cap1 KK1.out) hs2 ?c3 ?_))
  case c3 => omega
  intro v3 W3 ho3 hg3
  have hb3 : Below W1.heap.size W1 W3 := hb2.trans (below_of_grown ho2 hs2 hg3)
  have L0 := Lib.hid (K0.out.bel hb3)
  have L1 := Lib.hid (K1.out.bel hb3)
  obtain ⟨a, cap, hv, hba, hcap, hcm⟩ := ho3.out
  rw [hv]
  clear hv ho2 ho3 hg2 hg3
  have L2 := Lib.hid hba
  clear hba
  unfold maxLen at hcm
  go_wp2_with fail
  refine (refSum a _ cap (l0 ++ l1) _ (by simp) (by unfold maxLen; omega) L2.out).mono ?_
  rintro e W4 ⟨rfl, rfl⟩
  go_wp2_with fail
  refine (crcSum a _ cap (l0 ++ l1) _ (by simp) (by unfold maxLen; omega) L2.out).mono ?_
  rintro e W5 ⟨rfl, hb5⟩
  have M0 := Lib.hid (L0.out.bel hb5)
  have M1 := Lib.hid (L1.out.bel hb5)
  go_wp2_with fail
  refine (crcSum a0 _ cap0 l0 _ rfl (by unfold maxLen; omega) M0.out).mono ?_
  rintro e W6 ⟨rfl, hb6⟩
  have N1 := Lib.hid (M1.out.bel hb6)
  go_wp2_with fail
  refine (crcAdd (addN 0 l0) a1 _ cap1 l1 _ hlt rfl (by unfold maxLen; omega) N1.out).mono ?_
  rintro e W7 ⟨rfl, hb7⟩
  rw [HA.out]
  go_wp2_with fail
  go_ret
  exact ⟨by simp, below_next hb (hb3.trans ((hb5.mono hb3.size).trans ((hb6.mono (Nat.le_trans hb3.size hb5.size)).trans (hb7.mono (Nat.le_trans hb3.size (Nat.le_trans hb5.size hb6.size))))))⟩
end Go.Proofs.Ytkfpolhglndbkaa
