/- The walk of PackBack. -/
import Derived.Test.YtkfpolhglndbkaaPackUp
namespace Go.Proofs.Ytkfpolhglndbkaa
open Go.RowKit

theorem rdNum_put (n k : Nat) (rest : List UInt8) (h1 : 1 ≤ k) (h8 : k ≤ 8) : rdNum k (putL n k ++ rest) false = (n % 256 ^ k, rest, false) := by
  unfold rdNum
  rw [if_neg (by omega), if_neg (by simp; omega)]
  simp only [Int.toNat_natCast]
  rw [List.take_left' (putL_length n k), List.drop_left' (putL_length n k), numL_putL]
theorem rdText_put (s rest : List UInt8) (h : s.length ≤ 65535) : rdText (textL s ++ rest) false = (s, rest, false) := by
  have e : textL s ++ rest = putL s.length 2 ++ (s ++ rest) := by
    unfold textL
    rw [show min s.length 65535 = s.length by omega, List.take_of_length_le h, List.append_assoc]
  unfold rdText
  have h2 := rdNum_put s.length 2 (s ++ rest) (by omega) (by omega)
  rw [show s.length % 256 ^ 2 = s.length by omega] at h2
  rw [e]
  simp only [show ((2 : Nat) : Int) = 2 from rfl] at h2
  rw [h2]
  simp

set_option maxRecDepth 100000 in
set_option maxHeartbeats 1000000 in
theorem PackBack_walk (a0 : Int) (a1 : ByteArray) (a2 : Int) (w : World) (w0 : (Lit.int .u64 a0).wf = true) (w1 : a1.size ≤ maxLen) (w2 : (Lit.int .u64 a2).wf = true) :
    LawOk Try.prog 12 #[.int .u64 a0, .string a1, .int .u64 a2] w := by
  obtain ⟨n, rfl, hn⟩ := u64_of_wf w0
  obtain ⟨m, rfl, hm⟩ := u64_of_wf w2
  unfold LawOk
  by_cases hlen : 65535 < a1.size
  · go_enter Try.func12, Try.ntmps12
    go_wp2_with fail
    refine (packUp _).mono ?_
    rintro e W1 ⟨rfl, hb⟩
    go_wp2_with fail
    go_ret
    exact ⟨rfl, hb⟩
  have hs : a1.data.toList.length ≤ 65535 := by simp; omega
  have e1 : rdNum 8 (putL n 8 ++ (textL a1.data.toList ++ putL m 4)) false = (n % 256 ^ 8, textL a1.data.toList ++ putL m 4, false) := rdNum_put n 8 (textL a1.data.toList ++ putL m 4) (by omega) (by omega)
  have e2 := rdText_put a1.data.toList (putL m 4) hs
  have e3 : rdNum 4 (putL m 4 ++ []) false = (m % 256 ^ 4, [], false) := rdNum_put m 4 [] (by omega) (by omega)
  rw [List.append_nil] at e3
  rw [show n % 256 ^ 8 = n by omega] at e1
  have H1 := Lib.hid e1; have H2 := Lib.hid e2; have H3 := Lib.hid e3
  have ht : (textL a1.data.toList).length ≤ 70000 := by unfold textL; simp; omega
  clear e1 e2 e3 hs
  go_enter Try.func12, Try.ntmps12
  go_wp2_with fail
  refine (packUp _).mono ?_
  rintro e W1 ⟨rfl, hb1⟩
  go_wp2_with fail
  refine (packPut W1.heap.size (.slice none 0 0) [] n 8 _ (OwnB.nil _ _) (Nat.le_refl _) (by simp) hn (by omega) (by omega)).mono ?_
  rintro e W2 ⟨v2, rfl, ho2, hg2⟩
  have hb2 : Below W1.heap.size W1 W2 := hg2.below (Nat.le_refl _) (fun k hk => by simp [Value.ownBlock] at hk)
  have HO2 := Lib.hid ho2
  have hs2 := hb2.size
  clear ho2 hg2
  go_wp2_with fail
  refine (packPutText W1.heap.size v2 ([] ++ putL n 8) a1 _ HO2.out hs2 (by simp) w1).mono ?_
  rintro e W3 ⟨v3, rfl, ho3, hg3⟩
  have hb3 : Below W1.heap.size W1 W3 := hb2.trans (below_of_grown HO2.out hs2 hg3)
  have HO3 := Lib.hid ho3
  have hs3 := hb3.size
  clear ho3 hg3
  go_wp2_with fail
  refine (packPut W1.heap.size v3 ([] ++ putL n 8 ++ textL a1.data.toList) m 4 _ HO3.out hs3 (by simp; omega) hm (by omega) (by omega)).mono ?_
  rintro e W4 ⟨v4, rfl, ho4, hg4⟩
  have hb4 : Below W1.heap.size W1 W4 := hb3.trans (below_of_grown HO3.out hs3 hg4)
  have hrd := ho4.reads
  clear ho4 hg4
  rw [List.nil_append, List.append_assoc] at hrd
  generalize hL : putL n 8 ++ (textL a1.data.toList ++ putL m 4) = L at *
  obtain ⟨a, cap, rfl, hr⟩ : ∃ a cap, v4 = .slice a L.length cap ∧ Reads W4 (.slice a L.length cap) L := by
    obtain ⟨a, cap, hv, h⟩ := hrd
    exact ⟨a, cap, hv, a, cap, rfl, h⟩
  have hr' := isReader_new hr
  have HR := Lib.hid hr'
  clear hr hr' hrd hL
  have hs4 := hb4.size
  have hb5 : Below W1.heap.size W1 (W4.alloc (.cells #[.slice a L.length cap, .bool false] 102)) := hb4.alloc hs4 _
  go_wp2_with fail
  refine (packNew _ _ _ _).mono ?_
  rintro e W5 ⟨rfl, rfl⟩
  go_wp2_with fail
  generalize hW5 : W4.alloc (.cells #[.slice a L.length cap, .bool false] 102) = W5 at HR hb5 ⊢
  clear hW5
  generalize W4.heap.size = br at *
  refine (packNumber br L false 8 _ HR.out).mono ?_
  rw [H1.out]
  rintro e W6 ⟨rfl, hr, hg⟩
  have hb6 := hb5.trans (below_grownBy hg hb5.size hs4)
  have HR6 := Lib.hid hr
  clear hr hg
  simp only at HR6
  go_wp2_with fail
  refine (packText br _ false _ HR6.out).mono ?_
  rw [H2.out]
  rintro e W7 ⟨rfl, hr, hg⟩
  have hb7 := hb6.trans (below_grownBy hg hb6.size hs4)
  have HR7 := Lib.hid hr
  clear hr hg
  simp only at HR7
  go_wp2_with fail
  refine (packNumber br _ false 4 _ HR7.out).mono ?_
  rw [H3.out]
  rintro e W8 ⟨rfl, hr, hg⟩
  have hb8 := hb7.trans (below_grownBy hg hb7.size hs4)
  have HR8 := Lib.hid hr
  clear hr hg
  simp only at HR8
  go_wp2_with fail
  refine (packLeft br [] false _ HR8.out).mono ?_
  rintro e W9 ⟨rfl, rfl⟩
  rw [show ((rdLeft [] false : Nat) : Int) = 0 from rfl]
  go_wp2_with fail
  refine (packShort br [] false _ HR8.out).mono ?_
  rintro e W9 ⟨rfl, rfl⟩
  go_wp2_with fail
  go_ret
  exact ⟨rfl, below_next hb1 hb8⟩
end Go.Proofs.Ytkfpolhglndbkaa
