/- Contracts of the reference's Put, Text. -/
import Derived.Test.YtiihemmonncioaaPack
namespace Go.Proofs.Ytiihemmonncioaa
open Go.RowKit

set_option maxHeartbeats 1000000 in
set_option maxRecDepth 100000 in
theorem refPut (B : Nat) (v : Value) (l : List UInt8) (n k : Nat) (w : World) (hv : OwnB B w v l) (hB : B ≤ w.heap.size) (hl : l.length ≤ 100000000000) (hn : n < 18446744073709551616) (hk8 : k ≤ 8) :
    Calls Try.prog 35 #[v, .int .u64 n, .int .i64 k] w (Puts B w v (l ++ putL n k)) := by
  have HV := Lib.hid hv
  clear hv
  have d8 : decide ((k : Int) ≤ 8) = true := by simp; omega
  go_enter Try.func35, Try.ntmps35
  go_wp2
  go_loopw [0, 1, 7] (fun x m i wr => ∃ (j : Nat) (q : Nat), j ≤ k ∧ i = .int .i64 j ∧ m = .int .u64 q ∧ q < 18446744073709551616 ∧ Hid (q = n / 256 ^ j) ∧ OwnB B wr x (l ++ putL n j) ∧ Grew w wr v x) (fun _ _ i _ => k - (intOf i).toNat)
  case atStart => exact ⟨0, n, by omega, rfl, rfl, hn, by show n = _; simp, by rw [putL_zero, List.append_nil]; exact HV.out, Grew.refl _ _⟩
  case round =>
    obtain ⟨j, q, hj, rfl, rfl, hq, HQ, ho, hg⟩ := hrel
    have hBw := Nat.le_trans hB hg.1.size
    have HO := Lib.hid ho
    have HG := Lib.hid hg
    clear ho hg
    by_cases hlt : j < k
    · have hp : putL n (j + 1) = putL n j ++ [UInt8.ofNat q] := by rw [HQ.out]; exact putL_succ n j
      have HP := Lib.hid hp
      clear hp
      go_wp2_with (at_builtin; go_must (refine wpList_append_bytes rfl (.tmp 17) (.tmp 21) 22 rfl B _ (l ++ putL n j) rfl (HO.out.alloc _) _ [UInt8.ofNat q] rfl (srcB_one wr _ _ (u8_ofNat_val q)) ?c1 ?c2 ?_))
      case c1 => simp; omega
      case c2 => simp; omega
      intro v2 w2 ho hg
      have HO2 := Lib.hid ho
      have HG2 := Lib.hid (HG.out.trans hg.after_alloc)
      clear ho hg
      go_wp2
      go_roundw
      case rel => exact ⟨j + 1, q / 256, by omega, by go_num, rfl, by omega, by show q / 256 = _; rw [HQ.out, Nat.pow_succ, Nat.div_div_eq_div_mul], by rw [HP.out]; simpa using HO2.out, HG2.out⟩
      case measure => simp [intOf]; omega
    · obtain rfl : j = k := by omega
      go_wp2
      go_ret
      exact ⟨_, rfl, HO.out, HG.out⟩

set_option maxHeartbeats 1000000 in
set_option maxRecDepth 100000 in
theorem refText (B : Nat) (v : Value) (l : List UInt8) (s : ByteArray) (w : World) (hv : OwnB B w v l) (hB : B ≤ w.heap.size) (hl : l.length ≤ 10000000000) (hs : s.size ≤ maxLen) :
    Calls Try.prog 55 #[v, .string s] w (Puts B w v (l ++ textL s.data.toList)) := by
  have HV := Lib.hid hv
  clear hv
  unfold maxLen at hs
  have hsz : s.data.toList.length = s.size := by simp
  by_cases h : 65535 < s.size
  · have hx : (s.extract 0 65535).size = 65535 := by rw [ByteArray.size_extract]; omega
    have ht : textL s.data.toList = putL 65535 2 ++ List.take 65535 s.data.toList := by
      unfold textL
      rw [hsz, show min s.size 65535 = 65535 by omega]
    have HT := Lib.hid ht
    clear ht hsz
    go_enter Try.func55, Try.ntmps55
    go_wp2_with fail
    refine (refPut B v l 65535 2 _ HV.out hB (by omega) (by omega) (by omega)).mono ?_
    rintro e w1 ⟨v1, rfl, ho, hg⟩
    have hB1 := Nat.le_trans hB hg.1.size
    have HO := Lib.hid ho
    have HG := Lib.hid hg
    clear ho hg
    go_wp2_with (at_builtin; go_must (refine wpList_append_bytes rfl (.tmp 14) (.tmp 15) 9 rfl B v1 (l ++ putL 65535 2) rfl HO.out _ (s.extract 0 65535).data.toList rfl (SrcB.ofString _ _) hB1 ?c2 ?_))
    case c2 => simp; omega
    intro v2 w2 ho hg
    have HO2 := Lib.hid ho
    have HG2 := Lib.hid (HG.out.trans hg)
    clear ho hg
    go_wp2
    go_ret
    exact ⟨v2, rfl, by rw [HT.out]; exact HO2.out, HG2.out⟩
  · have ht : textL s.data.toList = putL s.size 2 ++ s.data.toList := by
      unfold textL
      rw [hsz, show min s.size 65535 = s.size by omega, List.take_of_length_le (by omega)]
    have HT := Lib.hid ht
    clear ht hsz
    go_enter Try.func55, Try.ntmps55
    go_wp2_with fail
    refine (refPut B v l s.size 2 _ HV.out hB (by omega) (by omega) (by omega)).mono ?_
    rintro e w1 ⟨v1, rfl, ho, hg⟩
    have hB1 := Nat.le_trans hB hg.1.size
    have HO := Lib.hid ho
    have HG := Lib.hid hg
    clear ho hg
    go_wp2_with (at_builtin; go_must (refine wpList_append_bytes rfl (.tmp 14) (.tmp 15) 9 rfl B v1 (l ++ putL s.size 2) rfl HO.out _ s.data.toList rfl (SrcB.ofString _ _) hB1 ?d2 ?_))
    case d2 => simp; omega
    intro v2 w2 ho hg
    have HO2 := Lib.hid ho
    have HG2 := Lib.hid (HG.out.trans hg)
    clear ho hg
    go_wp2
    go_ret
    exact ⟨v2, rfl, by rw [HT.out]; exact HO2.out, HG2.out⟩
end Go.Proofs.Ytiihemmonncioaa
