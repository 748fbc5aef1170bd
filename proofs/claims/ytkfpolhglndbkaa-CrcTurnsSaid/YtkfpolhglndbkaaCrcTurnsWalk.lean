/- The walk of CrcTurns. -/
import Derived.Test.YtkfpolhglndbkaaCrcRowsWalk
namespace Go.Proofs.Ytkfpolhglndbkaa
open Go.RowKit

theorem list_split_set (l : List UInt8) (j : Nat) (h : j < l.length) (y : UInt8) : l = l.take j ++ l[j] :: l.drop (j + 1) ∧ l.set j y = l.take j ++ y :: l.drop (j + 1) := by
  constructor
  · conv => lhs; rw [← List.take_append_drop j l]
    rw [List.drop_eq_getElem_cons h]
  · rw [List.set_eq_take_append_cons_drop, if_pos h]

set_option maxRecDepth 100000 in
set_option maxHeartbeats 1000000 in
theorem CrcTurns_walk (a0 : Option Addr) (len0 cap0 : Nat) (z0 : List Int) (a1 : Int) (a2 : Int) (w : World) (w0 : IsRow .u8 w a0 len0 cap0 z0) (w1 : (Lit.int .i64 a1).wf = true) (w2 : (Lit.int .u8 a2).wf = true) :
    LawOk Try.prog 7 #[.slice a0 len0 cap0, .int .i64 a1, .int .u8 a2] w := by
  obtain ⟨l0, hl0, hc0, hm0, hb0⟩ := w0.bytes
  obtain ⟨x, rfl⟩ := u8_of_wf w2
  unfold LawOk
  unfold maxLen at hm0
  subst hl0
  have hx256 := x.toNat_lt
  rcases (by omega : 3000 < l0.length ∨ (l0.length ≤ 3000 ∧ a1 < 0) ∨ (l0.length ≤ 3000 ∧ 0 ≤ a1 ∧ (l0.length : Int) ≤ a1) ∨ (l0.length ≤ 3000 ∧ 0 ≤ a1 ∧ a1 < (l0.length : Int) ∧ x.toNat = 0) ∨ (l0.length ≤ 3000 ∧ 0 ≤ a1 ∧ a1 < (l0.length : Int) ∧ 0 < x.toNat)) with h | ⟨h1, h⟩ | ⟨h1, h2, h⟩ | ⟨h1, h2, h3, h⟩ | ⟨h1, h2, h3, h⟩
  rotate_right
  · obtain ⟨j, rfl⟩ := Int.eq_ofNat_of_zero_le h2
    have hj : j < l0.length := by omega
    have d1 : decide ((3000 : Int) < (l0.length : Int)) = false := by simp; omega
    have d2 : decide ((j : Int) < 0) = false := by simp
    have d3 : decide (l0.length ≤ j) = false := by simp; omega
    have d4 : ((x.toNat : Int) == 0) = false := by simp; omega
    have hy := u8_xor_nat (l0[j]).toNat x.toNat (l0[j]).toNat_lt hx256
    have hne : l0[j] ≠ l0[j] ^^^ x := by
      intro e
      have := congrArg (l0[j] ^^^ ·) e
      simp only [← UInt8.xor_assoc, UInt8.xor_self, UInt8.zero_xor] at this
      rw [← this] at h; simp at h
    have hyt : ((l0[j]).toNat ^^^ x.toNat : Nat) = (l0[j] ^^^ x).toNat := by simp
    rw [hyt] at hy
    have HT := Lib.hid (addN_turn 0 (l0.take j) (l0.drop (j + 1)) l0[j] (l0[j] ^^^ x) hne)
    rw [← (list_split_set l0 j hj (l0[j] ^^^ x)).1, ← (list_split_set l0 j hj (l0[j] ^^^ x)).2] at HT
    have H0 := Lib.hid hb0
    clear hb0 w0 hne hyt
    generalize l0[j] ^^^ x = y at *
    go_enter Try.func7, Try.ntmps7
    go_wp2_with fail
    refine (crcUp _).mono ?_
    rintro e W1 ⟨rfl, hb⟩
    have K0 := Lib.hid (H0.out.bel hb)
    go_wp2_with (at_builtin; go_must (refine wpList_append_bytes rfl (.tmp 28) (.tmp 29) 27 rfl W1.heap.size _ [] rfl (OwnB.empty _ W1 (Nat.le_refl _)) _ l0 rfl (SrcB.ofBytes cap0 (K0.out.alloc _)) ?c1 ?c2 ?_))
    case c1 => simp
    case c2 => simp; omega
    intro v2 W2 ho2 hg2
    have hb2 : Below W1.heap.size W1 W2 := ((Below.refl _ W1).alloc (Nat.le_refl _) _).trans (below_of_grown (OwnB.empty _ W1 (Nat.le_refl _)) (by simp) hg2)
    obtain ⟨g, cap, rfl, hBg, hgs, hcap, hcm, hcell, hfr, hset⟩ := ho2.get (by omega)
    have hcj := hcell j hj
    have hfj := hfr j
    have hb3 : Below W1.heap.size W1 (W2.setCell ⟨g, j, none⟩ (.int .u8 (y.toNat : Int))) := hb2.setCell hBg _
    have KK0 := Lib.hid (K0.out.bel hb3)
    have HO := Lib.hid (hset j y hj)
    clear hset hcell hfr ho2 hg2
    unfold maxLen at hcm
    generalize l0[j] = z at *
    go_wp2_with fail
    refine (crcSum a0 _ cap0 l0 _ rfl (by unfold maxLen; omega) KK0.out).mono ?_
    rintro e W5 ⟨rfl, hb5⟩
    obtain ⟨a', cap', hv, hba, _⟩ := (HO.out.bel hb5).out
    simp only [Value.slice.injEq] at hv
    obtain ⟨rfl, hl', rfl⟩ := hv
    have HB := Lib.hid hba
    have HN : Hid ((addN 0 l0 : Int) ≠ (addN 0 (l0.set j y) : Int)) := fun e => HT.out (by omega)
    clear hba hl'
    go_wp2_with fail
    refine (crcSum _ _ cap (l0.set j y) _ (by simp) (by unfold maxLen; omega) HB.out).mono ?_
    rintro e W6 ⟨rfl, hb6⟩
    have hne : ((addN 0 l0 : Int) != (addN 0 (l0.set j y) : Int)) = true := by rw [bne_iff_ne]; exact HN.out
    go_wp2_with fail
    go_ret
    exact ⟨rfl, below_next hb (hb3.trans ((hb5.mono hb3.size).trans (hb6.mono (Nat.le_trans hb3.size hb5.size))))⟩
  · have d1 : decide ((3000 : Int) < (l0.length : Int)) = true := by simp; omega
    go_enter Try.func7, Try.ntmps7
    go_wp2_with fail
    refine (crcUp _).mono ?_
    rintro e W1 ⟨rfl, hb⟩
    go_wp2_with fail
    go_ret
    exact ⟨rfl, hb⟩
  · have d1 : decide ((3000 : Int) < (l0.length : Int)) = false := by simp; omega
    go_enter Try.func7, Try.ntmps7
    go_wp2_with fail
    refine (crcUp _).mono ?_
    rintro e W1 ⟨rfl, hb⟩
    go_wp2_with fail
    go_ret
    exact ⟨rfl, hb⟩
  · have d1 : decide ((3000 : Int) < (l0.length : Int)) = false := by simp; omega
    have d2 : decide (a1 < 0) = false := by simp; omega
    go_enter Try.func7, Try.ntmps7
    go_wp2_with fail
    refine (crcUp _).mono ?_
    rintro e W1 ⟨rfl, hb⟩
    go_wp2_with fail
    go_ret
    exact ⟨rfl, hb⟩
  · have d1 : decide ((3000 : Int) < (l0.length : Int)) = false := by simp; omega
    have d2 : decide (a1 < 0) = false := by simp; omega
    have d3 : decide ((l0.length : Int) ≤ a1) = false := by simp; omega
    rw [h]
    clear w2 hx256 h
    go_enter Try.func7, Try.ntmps7
    go_wp2_with fail
    refine (crcUp _).mono ?_
    rintro e W1 ⟨rfl, hb⟩
    go_wp2_with fail
    go_ret
    exact ⟨rfl, hb⟩
end Go.Proofs.Ytkfpolhglndbkaa
