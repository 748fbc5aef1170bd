/- Contracts of pack: Put, PutText. -/
import Derived.Test.YtiihemmonncioaaPackPure
import Derived.Test.YtiihemmonncioaaBytes
import Derived.Outline
import Derived.WalkMore
import Derived.ScopeJumps
import Derived.WalkSpells
import Derived.WalkLawsBesides
namespace Go.Proofs.Ytiihemmonncioaa
open Go.RowKit

/-- A row of bytes has become r. -/
def Puts (B : Nat) (w : World) (v : Value) (r : List UInt8) (e : Ending) (w' : World) : Prop := ∃ v', e = .returned v' ∧ OwnB B w' v' r ∧ Grew w w' v v'

def putJ (B : Nat) (w : World) (v : Value) (l : List UInt8) (n k : Nat) (a' : Act) (w' : World) : Prop :=
  ∃ (j : Nat) (v' : Value) (q i : Int) (u8 u9 u10 u11 u12 u13 u14 u15 u16 u17 u18 u19 u20 u21 u22 u23 u24 u25 u26 u27 : Value), 1 ≤ j ∧ j < k ∧ OwnB B w' v' (l ++ putL n j) ∧ Grew w w' v v' ∧ q = ((n / 256 ^ j : Nat) : Int) ∧ i = (j : Int) ∧
    a' = { tmps := #[v', .int .u64 q, .int .i64 k, undef, undef, undef, .slice none 0 0, .int .i64 i, u8, u9, u10, u11, u12, u13, u14, u15, u16, u17, u18, u19, u20, u21, u22, u23, u24, u25, u26, u27], defers := [] }
theorem u8_ofNat_val (m : Nat) : ((m : Int) % 256) = (((UInt8.ofNat m).toNat : Nat) : Int) := by simp

set_option maxHeartbeats 1000000 in
set_option maxRecDepth 100000 in
theorem packPut (B : Nat) (v : Value) (l : List UInt8) (n k : Nat) (w : World) (hv : OwnB B w v l) (hB : B ≤ w.heap.size) (hl : l.length ≤ 100000000000) (hn : n < 18446744073709551616) (hk1 : 1 ≤ k) (hk8 : k ≤ 8) :
    Calls Try.prog 33 #[v, .int .u64 n, .int .i64 k] w (Puts B w v (l ++ putL n k)) := by
  have HV := Lib.hid hv
  clear hv
  have e0 : putL n 1 = [UInt8.ofNat n] := by simp [putL]
  have E0 := Lib.hid e0
  clear e0
  go_enter Try.func33, Try.ntmps33
  go_wp2
  refine wp_scope_jumps 0 (putJ B w v l n k) (fun a' _ => (k - (intOf (a'.tmps.getD 7 undef)).toNat)) rfl ?_ ?_
  · go_wp2
    go_step3
    by_cases h1 : 1 < k
    · go_wp2_with (at_builtin; go_must (refine wpList_append_bytes rfl (.tmp 15) (.tmp 18) 22 rfl B v l rfl (HV.out.alloc _) _ [UInt8.ofNat n] rfl (srcB_one w _ _ (u8_ofNat_val n)) ?c1 ?c2 ?_))
      case c1 => simp; omega
      case c2 => simp; omega
      intro v2 w2 ho hg
      have HO := Lib.hid ho
      have HG := Lib.hid hg.after_alloc
      clear ho hg
      go_wp2
      go_step3
      exact ⟨rfl, 1, v2, _, _, _, _, _, _, _, _, _, _, _, _, _, _, _, _, _, _, _, _, _, _, Nat.le_refl _, h1, by rw [E0.out]; exact HO.out, HG.out, by simp, rfl, rfl⟩
    · obtain rfl : k = 1 := by omega
      go_wp2_with (at_builtin; go_must (refine wpList_append_bytes rfl (.tmp 15) (.tmp 18) 22 rfl B v l rfl (HV.out.alloc _) _ [UInt8.ofNat n] rfl (srcB_one w _ _ (u8_ofNat_val n)) ?d1 ?d2 ?_))
      case d1 => simp; omega
      case d2 => simp; omega
      intro v2 w2 ho hg
      have HO := Lib.hid ho
      have HG := Lib.hid hg.after_alloc
      clear ho hg
      go_wp2
      simp only [Exit.jump]
      go_ret
      exact ⟨v2, rfl, by rw [E0.out]; exact HO.out, HG.out⟩
  · rintro a' w' ⟨j, v', q, i, u8, u9, u10, u11, u12, u13, u14, u15, u16, u17, u18, u19, u20, u21, u22, u23, u24, u25, u26, u27, hj1, hjk, ho, hg, hq, hi, rfl⟩
    have hm : n / 256 ^ j < 18446744073709551616 := Nat.lt_of_le_of_lt (Nat.div_le_self _ _) hn
    have hsucc : n / 256 ^ (j + 1) = n / 256 ^ j / 256 := by rw [Nat.pow_succ, Nat.div_div_eq_div_mul]
    have hp := putL_succ n j
    have hlen : (l ++ putL n j).length ≤ 100000000010 := by simp; omega
    have hBw := Nat.le_trans hB hg.1.size
    have HS := Lib.hid hsucc
    have HP := Lib.hid hp
    clear hsucc hp
    have HO := Lib.hid ho
    have HG := Lib.hid hg
    clear ho hg
    subst hq hi
    generalize n / 256 ^ j = m at *
    by_cases h1 : j + 1 < k
    · go_wp2_with (at_builtin; go_must (refine wpList_append_bytes rfl (.tmp 15) (.tmp 18) 22 rfl B v' (l ++ putL n j) rfl (HO.out.alloc _) _ [UInt8.ofNat m] rfl (srcB_one w' _ _ (u8_ofNat_val m)) ?f1 ?f2 ?_))
      case f1 => simp; omega
      case f2 => simp; omega
      intro v2 w2 ho hg
      have HO2 := Lib.hid ho
      have HG2 := Lib.hid (HG.out.trans hg.after_alloc)
      clear ho hg
      go_wp2
      go_step3
      refine ⟨rfl, ⟨j + 1, v2, _, _, _, _, _, _, _, _, _, _, _, _, _, _, _, _, _, _, _, _, _, _, by omega, h1, by rw [HP.out]; exact HO2.out, HG2.out, by rw [HS.out]; simp, by simp, rfl⟩, by simp [intOf]; omega⟩
    · obtain rfl : k = j + 1 := by omega
      go_wp2_with (at_builtin; go_must (refine wpList_append_bytes rfl (.tmp 15) (.tmp 18) 22 rfl B v' (l ++ putL n j) rfl (HO.out.alloc _) _ [UInt8.ofNat m] rfl (srcB_one w' _ _ (u8_ofNat_val m)) ?g1 ?g2 ?_))
      case g1 => simp; omega
      case g2 => simp; omega
      intro v2 w2 ho hg
      have HO2 := Lib.hid ho
      have HG2 := Lib.hid (HG.out.trans hg.after_alloc)
      clear ho hg
      go_wp2
      simp only [Exit.jump]
      go_ret
      exact ⟨v2, rfl, by rw [HP.out]; exact HO2.out, HG2.out⟩

theorem packPut_none (v : Value) (n : Int) (k : Int) (w : World) (hk : k < 1 ∨ 8 < k) :
    Calls Try.prog 33 #[v, .int .u64 n, .int .i64 k] w fun e w' => e = .returned v ∧ w = w' := by
  rcases hk with h | h
  · go_enter Try.func33, Try.ntmps33
    go_wp2
    go_step3
    go_wp2
    rw [Exit.noGoto_ret]
    go_ret
    exact ⟨rfl, rfl⟩
  · have h' : ¬ k < 1 := by omega
    go_enter Try.func33, Try.ntmps33
    go_wp2
    go_step3
    go_wp2
    rw [Exit.noGoto_ret]
    go_ret
    exact ⟨rfl, rfl⟩

set_option maxHeartbeats 1000000 in
set_option maxRecDepth 100000 in
theorem packPutText (B : Nat) (v : Value) (l : List UInt8) (s : ByteArray) (w : World) (hv : OwnB B w v l) (hB : B ≤ w.heap.size) (hl : l.length ≤ 10000000000) (hs : s.size ≤ maxLen) :
    Calls Try.prog 59 #[v, .string s] w (Puts B w v (l ++ textL s.data.toList)) := by
  have HV := Lib.hid hv
  clear hv
  unfold maxLen at hs
  have hsz : s.data.toList.length = s.size := by simp
  by_cases h : 65535 < s.size
  · have hx : (s.extract 0 65535).size = 65535 := by rw [ByteArray.size_extract]; omega
    have ht : textL s.data.toList = putL 65535 2 ++ List.take 65535 s.data.toList := by
      unfold textL
      rw [hsz, show min s.size 65535 = 65535 by omega]
    have HT := Lib.hid ht
    clear ht hsz
    go_enter Try.func59, Try.ntmps59
    go_wp2_with fail
    refine (packPut B v l 65535 2 _ HV.out hB (by omega) (by omega) (by omega) (by omega)).mono ?_
    rintro e w1 ⟨v1, rfl, ho, hg⟩
    have hB1 := Nat.le_trans hB hg.1.size
    have HO := Lib.hid ho
    have HG := Lib.hid hg
    clear ho hg
    go_wp2_with (at_builtin; go_must (refine wpList_append_bytes rfl (.tmp 14) (.tmp 15) 9 rfl B v1 (l ++ putL 65535 2) rfl HO.out _ (s.extract 0 65535).data.toList rfl (SrcB.ofString _ _) hB1 ?c2 ?_))
    case c2 => simp; omega
    intro v2 w2 ho hg
    have HO2 := Lib.hid ho
    have HG2 := Lib.hid (HG.out.trans hg)
    clear ho hg
    go_wp2
    go_ret
    exact ⟨v2, rfl, by rw [HT.out]; exact HO2.out, HG2.out⟩
  · have ht : textL s.data.toList = putL s.size 2 ++ s.data.toList := by
      unfold textL
      rw [hsz, show min s.size 65535 = s.size by omega, List.take_of_length_le (by omega)]
    have HT := Lib.hid ht
    clear ht hsz
    go_enter Try.func59, Try.ntmps59
    go_wp2_with fail
    refine (packPut B v l s.size 2 _ HV.out hB (by omega) (by omega) (by omega) (by omega)).mono ?_
    rintro e w1 ⟨v1, rfl, ho, hg⟩
    have hB1 := Nat.le_trans hB hg.1.size
    have HO := Lib.hid ho
    have HG := Lib.hid hg
    clear ho hg
    go_wp2_with (at_builtin; go_must (refine wpList_append_bytes rfl (.tmp 14) (.tmp 15) 9 rfl B v1 (l ++ putL s.size 2) rfl HO.out _ s.data.toList rfl (SrcB.ofString _ _) hB1 ?d2 ?_))
    case d2 => simp; omega
    intro v2 w2 ho hg
    have HO2 := Lib.hid ho
    have HG2 := Lib.hid (HG.out.trans hg)
    clear ho hg
    go_wp2
    go_ret
    exact ⟨v2, rfl, by rw [HT.out]; exact HO2.out, HG2.out⟩
end Go.Proofs.Ytiihemmonncioaa
