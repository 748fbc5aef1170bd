/- What was put is read as it was; what is read is put as it was: plain laws of records. -/
import Derived.Test.YtiihemmonncioaaRecGet
import Derived.Test.YtiihemmonncioaaReadAll
namespace Go.Proofs.Ytiihemmonncioaa
open Go.RowKit
theorem rt_num (n k : Nat) (rest : List UInt8) (h1 : 1 ≤ k) (h8 : k ≤ 8) (hn : n < 256 ^ k) : rdNum k (putL n k ++ rest) false = (n, rest, false) := by
  unfold rdNum
  rw [if_neg (by omega), if_neg (by simp; omega)]
  simp only [Int.toNat_natCast]
  rw [List.take_left' (putL_length n k), List.drop_left' (putL_length n k), numL_putL, Nat.mod_eq_of_lt hn]
theorem rt1 (n : Nat) (rest : List UInt8) (hn : n < 256) : rdNum 1 (putL n 1 ++ rest) false = (n, rest, false) := rt_num n 1 rest (by omega) (by omega) hn
theorem rt4 (n : Nat) (rest : List UInt8) (hn : n < 4294967296) : rdNum 4 (putL n 4 ++ rest) false = (n, rest, false) := rt_num n 4 rest (by omega) (by omega) hn
theorem rt8 (n : Nat) (rest : List UInt8) (hn : n < 18446744073709551616) : rdNum 8 (putL n 8 ++ rest) false = (n, rest, false) := rt_num n 8 rest (by omega) (by omega) hn
theorem rtT (s : ByteArray) (rest : List UInt8) (h : s.size ≤ 65535) : rdText (textL s.data.toList ++ rest) false = (s.data.toList, rest, false) := by
  have hl : s.data.toList.length ≤ 65535 := by simpa using h
  generalize s.data.toList = t at *
  have e : textL t ++ rest = putL t.length 2 ++ (t ++ rest) := by
    unfold textL
    rw [show min t.length 65535 = t.length by omega, List.take_of_length_le hl, List.append_assoc]
  unfold rdText
  have h2 := rt_num t.length 2 (t ++ rest) (by omega) (by omega) (by omega)
  rw [e]
  simp only [show ((2 : Nat) : Int) = 2 from rfl] at h2
  rw [h2]
  simp
theorem txt_of (s : ByteArray) : txt s.data.toList = s := by
  unfold txt
  obtain ⟨⟨l⟩⟩ := s
  rfl
theorem wrap_nat (n : Nat) (h : n < 9223372036854775808) : IntKind.i64.wrap (n : Int) = (n : Int) := by rw [IntKind.wrap_i64]; omega
theorem wrap_back (n : Nat) (h : n < 18446744073709551616) (h0 : 0 ≤ IntKind.i64.wrap (n : Int)) : (IntKind.i64.wrap (n : Int)).toNat = n := by rw [IntKind.wrap_i64] at *; omega
theorem putL_cons (n k : Nat) : putL n (k + 1) = UInt8.ofNat n :: putL (n / 256) k := by
  unfold putL
  rw [List.range_succ_eq_map, List.map_cons, List.map_map]
  congr 1
  · simp
  · apply List.map_congr_left
    intro i _
    simp only [Function.comp]
    rw [Nat.div_div_eq_div_mul, ← Nat.pow_succ']
theorem putL_numL : ∀ t : List UInt8, putL (numL t) t.length = t
  | [] => rfl
  | b :: t => by
    have hb := b.toNat_lt
    rw [List.length_cons, putL_cons]
    simp only [numL]
    rw [show (b.toNat + 256 * numL t) / 256 = numL t by omega, putL_numL t]
    congr 1
    apply UInt8.toNat_inj.1
    simp
theorem inv_num (k : Nat) (l : List UInt8) (n : Nat) (l' : List UInt8) (h1 : 1 ≤ k) (h8 : k ≤ 8) (h : rdNum k l false = (n, l', false)) : l = putL n k ++ l' := by
  unfold rdNum at h
  rw [if_neg (by omega)] at h
  by_cases hs : false = true ∨ (l.length : Int) < (k : Int)
  · rw [if_pos hs] at h; simp at h
  · rw [if_neg hs] at h
    simp only [Int.toNat_natCast, Prod.mk.injEq] at h
    obtain ⟨rfl, rfl, _⟩ := h
    have hl : (l.take k).length = k := by simp at hs ⊢; omega
    have := putL_numL (l.take k)
    rw [hl] at this
    rw [this, List.take_append_drop]
theorem inv1 {l : List UInt8} {n : Nat} {l' : List UInt8} (h : rdNum 1 l false = (n, l', false)) : l = putL n 1 ++ l' := inv_num 1 l n l' (by omega) (by omega) h
theorem inv4 {l : List UInt8} {n : Nat} {l' : List UInt8} (h : rdNum 4 l false = (n, l', false)) : l = putL n 4 ++ l' := inv_num 4 l n l' (by omega) (by omega) h
theorem inv8 {l : List UInt8} {n : Nat} {l' : List UInt8} (h : rdNum 8 l false = (n, l', false)) : l = putL n 8 ++ l' := inv_num 8 l n l' (by omega) (by omega) h
theorem invT {l : List UInt8} {s : List UInt8} {l' : List UInt8} (h : rdText l false = (s, l', false)) : l = textL s ++ l' := by
  obtain ⟨m, r, s1, q⟩ : ∃ m r s1, rdNum 2 l false = (m, r, s1) := ⟨_, _, _, rfl⟩
  have hm : m < 65536 := by have := rdNum_ltk 2 l false; rw [show ((2 : Nat) : Int) = 2 from rfl, q] at this; exact this
  unfold rdText at h
  rw [q] at h
  simp only at h
  by_cases hs : s1 = true ∨ r.length < m
  · rw [if_pos hs] at h; simp at h
  · rw [if_neg hs] at h
    simp only [Prod.mk.injEq] at h
    obtain ⟨rfl, rfl, _⟩ := h
    have hs1 : s1 = false := by simpa using fun e => hs (.inl e)
    subst hs1
    have e := inv_num 2 l m r (by omega) (by omega) q
    have hl : (r.take m).length = m := by simp; omega
    unfold textL
    rw [hl, show min m 65535 = m by omega, List.take_of_length_le (by omega), List.append_assoc, List.take_append_drop]
    exact e
theorem numS {k : Int} {l : List UInt8} {sh : Bool} {n : Nat} {l' : List UInt8} (h1 : 1 ≤ k) (h8 : k ≤ 8) (h : rdNum k l sh = (n, l', false)) : sh = false := by
  obtain ⟨k, rfl⟩ := Int.eq_ofNat_of_zero_le (show 0 ≤ k by omega)
  exact (rdNum_step k l sh (by omega) (by omega) (by rw [h])).1
theorem txtS {l : List UInt8} {sh : Bool} {s : List UInt8} {l' : List UInt8} (h : rdText l sh = (s, l', false)) : sh = false := (rdText_step l sh (by rw [h])).1
theorem readPut1 (r : Rec) (rest : List UInt8) (hm : r.may = true) (hwf : r.wf) (h : r.kind = 1) : readRec (r.bytes ++ rest) false = (r, rest, false) := by
  obtain ⟨hk1, hk7, hb0, hb63, hgn, hbr⟩ := may_kind hm
  obtain ⟨wgen, wseq, wserial, wsecret, wversion, wexpiry⟩ := hwf
  obtain ⟨kd, hkd⟩ := Int.eq_ofNat_of_zero_le (show 0 ≤ r.kind by omega)
  obtain ⟨bk, hbk⟩ := Int.eq_ofNat_of_zero_le hb0
  obtain ⟨⟨hq1, hq2⟩, ⟨hq3, hq4⟩, ⟨hq5, hq6⟩⟩ := may_quota hm h
  obtain ⟨na, hna⟩ := Int.eq_ofNat_of_zero_le hq1
  obtain ⟨nb, hnb⟩ := Int.eq_ofNat_of_zero_le hq3
  obtain ⟨nc, hnc⟩ := Int.eq_ofNat_of_zero_le hq5
  have hbare : r = { Rec.zero with kind := r.kind, bucket := r.bucket, gen := r.gen, qk := r.qk, qb := r.qb, qg := r.qg, seq := r.seq, serial := r.serial } := by
    refine hbr.trans ?_
    unfold Rec.bare
    rw [if_pos h]
  have hbytes : r.bytes ++ rest = (putL kd 1 ++ (putL bk 1 ++ (putL r.gen 4 ++ (putL na 8 ++ (putL nb 8 ++ (putL nc 8 ++ (putL r.seq 8 ++ (putL r.serial 4 ++ rest)))))))) := by
    unfold Rec.bytes Rec.tailL
    rw [if_pos h, hkd, hbk, hna, hnb, hnc]
    simp only [List.append_assoc, Int.toNat_natCast]
  rw [hbytes]
  rw [readRec_1 (putL kd 1 ++ (putL bk 1 ++ (putL r.gen 4 ++ (putL na 8 ++ (putL nb 8 ++ (putL nc 8 ++ (putL r.seq 8 ++ (putL r.serial 4 ++ rest)))))))) false kd (putL bk 1 ++ (putL r.gen 4 ++ (putL na 8 ++ (putL nb 8 ++ (putL nc 8 ++ (putL r.seq 8 ++ (putL r.serial 4 ++ rest))))))) false bk (putL r.gen 4 ++ (putL na 8 ++ (putL nb 8 ++ (putL nc 8 ++ (putL r.seq 8 ++ (putL r.serial 4 ++ rest)))))) false r.gen (putL na 8 ++ (putL nb 8 ++ (putL nc 8 ++ (putL r.seq 8 ++ (putL r.serial 4 ++ rest))))) false na (putL nb 8 ++ (putL nc 8 ++ (putL r.seq 8 ++ (putL r.serial 4 ++ rest)))) false nb (putL nc 8 ++ (putL r.seq 8 ++ (putL r.serial 4 ++ rest))) false nc (putL r.seq 8 ++ (putL r.serial 4 ++ rest)) false r.seq (putL r.serial 4 ++ rest) false r.serial rest false (rt1 kd _ (by omega)) (rt1 bk _ (by omega)) (rt4 r.gen _ (by omega)) (rt8 na _ (by omega)) (rt8 nb _ (by omega)) (rt8 nc _ (by omega)) (rt8 r.seq _ (by omega)) (rt4 r.serial _ (by omega)) (by omega)]
  refine Prod.ext ?_ rfl
  show (⟨_, _, _, _, _, _, _, _, _, _, _, _, _, _⟩ : Rec) = r
  rw [wrap_nat na (by omega), wrap_nat nb (by omega), wrap_nat nc (by omega), ← hkd, ← hbk, ← hna, ← hnb, ← hnc]
  exact hbare.symm
theorem putRead1 (l0 : List UInt8)  (n1 : Nat) (l1 : List UInt8) (s1 : Bool) (n2 : Nat) (l2 : List UInt8) (s2 : Bool) (n3 : Nat) (l3 : List UInt8) (s3 : Bool) (n4 : Nat) (l4 : List UInt8) (s4 : Bool) (n5 : Nat) (l5 : List UInt8) (s5 : Bool) (n6 : Nat) (l6 : List UInt8) (s6 : Bool) (n7 : Nat) (l7 : List UInt8) (s7 : Bool) (n8 : Nat) (l8 : List UInt8) (s8 : Bool) (q1 : rdNum 1 l0 false = (n1, l1, s1)) (q2 : rdNum 1 l1 s1 = (n2, l2, s2)) (q3 : rdNum 4 l2 s2 = (n3, l3, s3)) (q4 : rdNum 8 l3 s3 = (n4, l4, s4)) (q5 : rdNum 8 l4 s4 = (n5, l5, s5)) (q6 : rdNum 8 l5 s5 = (n6, l6, s6)) (q7 : rdNum 8 l6 s6 = (n7, l7, s7)) (q8 : rdNum 4 l7 s7 = (n8, l8, s8)) (hk : n1 = 1) (hs : s8 = false) (hm : (readRec l0 false).1.may = true) : (readRec l0 false).1.bytes ++ l8 = l0 := by
  rw [readRec_1 l0 false n1 l1 s1 n2 l2 s2 n3 l3 s3 n4 l4 s4 n5 l5 s5 n6 l6 s6 n7 l7 s7 n8 l8 s8 q1 q2 q3 q4 q5 q6 q7 q8 hk] at hm ⊢
  simp only at hm ⊢
  subst hs
  obtain rfl : s7 = false := numS (by omega) (by omega) q8
  obtain rfl : s6 = false := numS (by omega) (by omega) q7
  obtain rfl : s5 = false := numS (by omega) (by omega) q6
  obtain rfl : s4 = false := numS (by omega) (by omega) q5
  obtain rfl : s3 = false := numS (by omega) (by omega) q4
  obtain rfl : s2 = false := numS (by omega) (by omega) q3
  obtain rfl : s1 = false := numS (by omega) (by omega) q2
  have i1 := inv1 q1
  have i2 := inv1 q2
  have i3 := inv4 q3
  have i4 := inv8 q4
  have i5 := inv8 q5
  have i6 := inv8 q6
  have i7 := inv8 q7
  have i8 := inv4 q8
  obtain ⟨⟨hq1, _⟩, ⟨hq3, _⟩, ⟨hq5, _⟩⟩ := may_quota hm (by show (n1 : Int) = 1; omega)
  have w4 := wrap_back n4 (by have := rdNum_lt 8 l3 false; rw [q4] at this; exact this) hq1
  have w5 := wrap_back n5 (by have := rdNum_lt 8 l4 false; rw [q5] at this; exact this) hq3
  have w6 := wrap_back n6 (by have := rdNum_lt 8 l5 false; rw [q6] at this; exact this) hq5
  unfold Rec.bytes Rec.tailL
  rw [if_pos (by show (n1 : Int) = 1; omega)]
  simp only [w4, w5, w6, Int.toNat_natCast, List.append_assoc]
  rw [← i8, ← i7, ← i6, ← i5, ← i4, ← i3, ← i2, ← i1]
theorem readPut3 (r : Rec) (rest : List UInt8) (hm : r.may = true) (hwf : r.wf) (h : r.kind = 3) : readRec (r.bytes ++ rest) false = (r, rest, false) := by
  obtain ⟨hk1, hk7, hb0, hb63, hgn, hbr⟩ := may_kind hm
  obtain ⟨wgen, wseq, wserial, wsecret, wversion, wexpiry⟩ := hwf
  obtain ⟨kd, hkd⟩ := Int.eq_ofNat_of_zero_le (show 0 ≤ r.kind by omega)
  obtain ⟨bk, hbk⟩ := Int.eq_ofNat_of_zero_le hb0
  have htx := may_text hm (.inl h)
  have hbare : r = { Rec.zero with kind := r.kind, bucket := r.bucket, gen := r.gen, key := r.key, val := r.val, version := r.version, expiry := r.expiry } := by
    refine hbr.trans ?_
    unfold Rec.bare
    rw [if_neg (by rw [h]; decide), if_pos h]
  have hbytes : r.bytes ++ rest = (putL kd 1 ++ (putL bk 1 ++ (putL r.gen 4 ++ (putL r.version 8 ++ (putL r.expiry 8 ++ (textL r.key.data.toList ++ (textL r.val.data.toList ++ rest))))))) := by
    unfold Rec.bytes Rec.tailL
    rw [if_neg (by rw [h]; decide), if_pos h, hkd, hbk]
    simp only [List.append_assoc, Int.toNat_natCast]
  rw [hbytes]
  rw [readRec_3 (putL kd 1 ++ (putL bk 1 ++ (putL r.gen 4 ++ (putL r.version 8 ++ (putL r.expiry 8 ++ (textL r.key.data.toList ++ (textL r.val.data.toList ++ rest))))))) false kd (putL bk 1 ++ (putL r.gen 4 ++ (putL r.version 8 ++ (putL r.expiry 8 ++ (textL r.key.data.toList ++ (textL r.val.data.toList ++ rest)))))) false bk (putL r.gen 4 ++ (putL r.version 8 ++ (putL r.expiry 8 ++ (textL r.key.data.toList ++ (textL r.val.data.toList ++ rest))))) false r.gen (putL r.version 8 ++ (putL r.expiry 8 ++ (textL r.key.data.toList ++ (textL r.val.data.toList ++ rest)))) false r.version (putL r.expiry 8 ++ (textL r.key.data.toList ++ (textL r.val.data.toList ++ rest))) false r.expiry (textL r.key.data.toList ++ (textL r.val.data.toList ++ rest)) false r.key.data.toList (textL r.val.data.toList ++ rest) false r.val.data.toList rest false (rt1 kd _ (by omega)) (rt1 bk _ (by omega)) (rt4 r.gen _ (by omega)) (rt8 r.version _ (by omega)) (rt8 r.expiry _ (by omega)) (rtT r.key _ (by omega)) (rtT r.val _ (by omega)) (by omega)]
  refine Prod.ext ?_ rfl
  simp only [txt_of]
  rw [← hkd, ← hbk]
  exact hbare.symm
theorem putRead3 (l0 : List UInt8)  (n1 : Nat) (l1 : List UInt8) (s1 : Bool) (n2 : Nat) (l2 : List UInt8) (s2 : Bool) (n3 : Nat) (l3 : List UInt8) (s3 : Bool) (n4 : Nat) (l4 : List UInt8) (s4 : Bool) (n5 : Nat) (l5 : List UInt8) (s5 : Bool) (n6 : List UInt8) (l6 : List UInt8) (s6 : Bool) (n7 : List UInt8) (l7 : List UInt8) (s7 : Bool) (q1 : rdNum 1 l0 false = (n1, l1, s1)) (q2 : rdNum 1 l1 s1 = (n2, l2, s2)) (q3 : rdNum 4 l2 s2 = (n3, l3, s3)) (q4 : rdNum 8 l3 s3 = (n4, l4, s4)) (q5 : rdNum 8 l4 s4 = (n5, l5, s5)) (q6 : rdText l5 s5 = (n6, l6, s6)) (q7 : rdText l6 s6 = (n7, l7, s7)) (hk : n1 = 3) (hs : s7 = false) (_hm : (readRec l0 false).1.may = true) : (readRec l0 false).1.bytes ++ l7 = l0 := by
  rw [readRec_3 l0 false n1 l1 s1 n2 l2 s2 n3 l3 s3 n4 l4 s4 n5 l5 s5 n6 l6 s6 n7 l7 s7 q1 q2 q3 q4 q5 q6 q7 hk]
  simp only
  subst hs
  obtain rfl : s6 = false := txtS q7
  obtain rfl : s5 = false := txtS q6
  obtain rfl : s4 = false := numS (by omega) (by omega) q5
  obtain rfl : s3 = false := numS (by omega) (by omega) q4
  obtain rfl : s2 = false := numS (by omega) (by omega) q3
  obtain rfl : s1 = false := numS (by omega) (by omega) q2
  have i1 := inv1 q1
  have i2 := inv1 q2
  have i3 := inv4 q3
  have i4 := inv8 q4
  have i5 := inv8 q5
  have i6 := invT q6
  have i7 := invT q7
  unfold Rec.bytes Rec.tailL
  rw [if_neg (by show ¬ (n1 : Int) = 1; omega), if_pos (by show (n1 : Int) = 3; omega)]
  simp only [Int.toNat_natCast, List.append_assoc]
  simp only [txt, List.toList_toArray]
  rw [← i7, ← i6, ← i5, ← i4, ← i3, ← i2, ← i1]
theorem readPut4 (r : Rec) (rest : List UInt8) (hm : r.may = true) (hwf : r.wf) (h : r.kind = 4) : readRec (r.bytes ++ rest) false = (r, rest, false) := by
  obtain ⟨hk1, hk7, hb0, hb63, hgn, hbr⟩ := may_kind hm
  obtain ⟨wgen, wseq, wserial, wsecret, wversion, wexpiry⟩ := hwf
  obtain ⟨kd, hkd⟩ := Int.eq_ofNat_of_zero_le (show 0 ≤ r.kind by omega)
  obtain ⟨bk, hbk⟩ := Int.eq_ofNat_of_zero_le hb0
  have htx := may_text hm (.inr h)
  have hbare : r = { Rec.zero with kind := r.kind, bucket := r.bucket, gen := r.gen, key := r.key, version := r.version } := by
    refine hbr.trans ?_
    unfold Rec.bare
    rw [if_neg (by rw [h]; decide), if_neg (by rw [h]; decide), if_pos h]
  have hbytes : r.bytes ++ rest = (putL kd 1 ++ (putL bk 1 ++ (putL r.gen 4 ++ (putL r.version 8 ++ (textL r.key.data.toList ++ rest))))) := by
    unfold Rec.bytes Rec.tailL
    rw [if_neg (by rw [h]; decide), if_neg (by rw [h]; decide), if_pos h, hkd, hbk]
    simp only [List.append_assoc, Int.toNat_natCast]
  rw [hbytes]
  rw [readRec_4 (putL kd 1 ++ (putL bk 1 ++ (putL r.gen 4 ++ (putL r.version 8 ++ (textL r.key.data.toList ++ rest))))) false kd (putL bk 1 ++ (putL r.gen 4 ++ (putL r.version 8 ++ (textL r.key.data.toList ++ rest)))) false bk (putL r.gen 4 ++ (putL r.version 8 ++ (textL r.key.data.toList ++ rest))) false r.gen (putL r.version 8 ++ (textL r.key.data.toList ++ rest)) false r.version (textL r.key.data.toList ++ rest) false r.key.data.toList rest false (rt1 kd _ (by omega)) (rt1 bk _ (by omega)) (rt4 r.gen _ (by omega)) (rt8 r.version _ (by omega)) (rtT r.key _ (by omega)) (by omega)]
  refine Prod.ext ?_ rfl
  simp only [txt_of]
  rw [← hkd, ← hbk]
  exact hbare.symm
theorem putRead4 (l0 : List UInt8)  (n1 : Nat) (l1 : List UInt8) (s1 : Bool) (n2 : Nat) (l2 : List UInt8) (s2 : Bool) (n3 : Nat) (l3 : List UInt8) (s3 : Bool) (n4 : Nat) (l4 : List UInt8) (s4 : Bool) (n5 : List UInt8) (l5 : List UInt8) (s5 : Bool) (q1 : rdNum 1 l0 false = (n1, l1, s1)) (q2 : rdNum 1 l1 s1 = (n2, l2, s2)) (q3 : rdNum 4 l2 s2 = (n3, l3, s3)) (q4 : rdNum 8 l3 s3 = (n4, l4, s4)) (q5 : rdText l4 s4 = (n5, l5, s5)) (hk : n1 = 4) (hs : s5 = false) (_hm : (readRec l0 false).1.may = true) : (readRec l0 false).1.bytes ++ l5 = l0 := by
  rw [readRec_4 l0 false n1 l1 s1 n2 l2 s2 n3 l3 s3 n4 l4 s4 n5 l5 s5 q1 q2 q3 q4 q5 hk]
  simp only
  subst hs
  obtain rfl : s4 = false := txtS q5
  obtain rfl : s3 = false := numS (by omega) (by omega) q4
  obtain rfl : s2 = false := numS (by omega) (by omega) q3
  obtain rfl : s1 = false := numS (by omega) (by omega) q2
  have i1 := inv1 q1
  have i2 := inv1 q2
  have i3 := inv4 q3
  have i4 := inv8 q4
  have i5 := invT q5
  unfold Rec.bytes Rec.tailL
  rw [if_neg (by show ¬ (n1 : Int) = 1; omega), if_neg (by show ¬ (n1 : Int) = 3; omega), if_pos (by show (n1 : Int) = 4; omega)]
  simp only [Int.toNat_natCast, List.append_assoc]
  simp only [txt, List.toList_toArray]
  rw [← i5, ← i4, ← i3, ← i2, ← i1]
theorem readPut5 (r : Rec) (rest : List UInt8) (hm : r.may = true) (hwf : r.wf) (h : r.kind = 5) : readRec (r.bytes ++ rest) false = (r, rest, false) := by
  obtain ⟨hk1, hk7, hb0, hb63, hgn, hbr⟩ := may_kind hm
  obtain ⟨wgen, wseq, wserial, wsecret, wversion, wexpiry⟩ := hwf
  obtain ⟨kd, hkd⟩ := Int.eq_ofNat_of_zero_le (show 0 ≤ r.kind by omega)
  obtain ⟨bk, hbk⟩ := Int.eq_ofNat_of_zero_le hb0
  obtain ⟨hr1, hr7⟩ := may_rights hm h
  obtain ⟨nr, hnr⟩ := Int.eq_ofNat_of_zero_le (show 0 ≤ r.rights by omega)
  have hbare : r = { Rec.zero with kind := r.kind, bucket := r.bucket, gen := r.gen, serial := r.serial, rights := r.rights, secret := r.secret } := by
    refine hbr.trans ?_
    unfold Rec.bare
    rw [if_neg (by rw [h]; decide), if_neg (by rw [h]; decide), if_neg (by rw [h]; decide), if_pos h]
  have hbytes : r.bytes ++ rest = (putL kd 1 ++ (putL bk 1 ++ (putL r.gen 4 ++ (putL r.serial 4 ++ (putL nr 1 ++ (putL r.secret 8 ++ rest)))))) := by
    unfold Rec.bytes Rec.tailL
    rw [if_neg (by rw [h]; decide), if_neg (by rw [h]; decide), if_neg (by rw [h]; decide), if_pos h, hkd, hbk, hnr]
    simp only [List.append_assoc, Int.toNat_natCast]
  rw [hbytes]
  rw [readRec_5 (putL kd 1 ++ (putL bk 1 ++ (putL r.gen 4 ++ (putL r.serial 4 ++ (putL nr 1 ++ (putL r.secret 8 ++ rest)))))) false kd (putL bk 1 ++ (putL r.gen 4 ++ (putL r.serial 4 ++ (putL nr 1 ++ (putL r.secret 8 ++ rest))))) false bk (putL r.gen 4 ++ (putL r.serial 4 ++ (putL nr 1 ++ (putL r.secret 8 ++ rest)))) false r.gen (putL r.serial 4 ++ (putL nr 1 ++ (putL r.secret 8 ++ rest))) false r.serial (putL nr 1 ++ (putL r.secret 8 ++ rest)) false nr (putL r.secret 8 ++ rest) false r.secret rest false (rt1 kd _ (by omega)) (rt1 bk _ (by omega)) (rt4 r.gen _ (by omega)) (rt4 r.serial _ (by omega)) (rt1 nr _ (by omega)) (rt8 r.secret _ (by omega)) (by omega)]
  refine Prod.ext ?_ rfl
  show (⟨_, _, _, _, _, _, _, _, _, _, _, _, _, _⟩ : Rec) = r
  rw [← hkd, ← hbk, ← hnr]
  exact hbare.symm
theorem putRead5 (l0 : List UInt8)  (n1 : Nat) (l1 : List UInt8) (s1 : Bool) (n2 : Nat) (l2 : List UInt8) (s2 : Bool) (n3 : Nat) (l3 : List UInt8) (s3 : Bool) (n4 : Nat) (l4 : List UInt8) (s4 : Bool) (n5 : Nat) (l5 : List UInt8) (s5 : Bool) (n6 : Nat) (l6 : List UInt8) (s6 : Bool) (q1 : rdNum 1 l0 false = (n1, l1, s1)) (q2 : rdNum 1 l1 s1 = (n2, l2, s2)) (q3 : rdNum 4 l2 s2 = (n3, l3, s3)) (q4 : rdNum 4 l3 s3 = (n4, l4, s4)) (q5 : rdNum 1 l4 s4 = (n5, l5, s5)) (q6 : rdNum 8 l5 s5 = (n6, l6, s6)) (hk : n1 = 5) (hs : s6 = false) (_hm : (readRec l0 false).1.may = true) : (readRec l0 false).1.bytes ++ l6 = l0 := by
  rw [readRec_5 l0 false n1 l1 s1 n2 l2 s2 n3 l3 s3 n4 l4 s4 n5 l5 s5 n6 l6 s6 q1 q2 q3 q4 q5 q6 hk]
  simp only
  subst hs
  obtain rfl : s5 = false := numS (by omega) (by omega) q6
  obtain rfl : s4 = false := numS (by omega) (by omega) q5
  obtain rfl : s3 = false := numS (by omega) (by omega) q4
  obtain rfl : s2 = false := numS (by omega) (by omega) q3
  obtain rfl : s1 = false := numS (by omega) (by omega) q2
  have i1 := inv1 q1
  have i2 := inv1 q2
  have i3 := inv4 q3
  have i4 := inv4 q4
  have i5 := inv1 q5
  have i6 := inv8 q6
  unfold Rec.bytes Rec.tailL
  rw [if_neg (by show ¬ (n1 : Int) = 1; omega), if_neg (by show ¬ (n1 : Int) = 3; omega), if_neg (by show ¬ (n1 : Int) = 4; omega), if_pos (by show (n1 : Int) = 5; omega)]
  simp only [Int.toNat_natCast, List.append_assoc]
  rw [← i6, ← i5, ← i4, ← i3, ← i2, ← i1]
theorem readPut6 (r : Rec) (rest : List UInt8) (hm : r.may = true) (hwf : r.wf) (h : r.kind = 6) : readRec (r.bytes ++ rest) false = (r, rest, false) := by
  obtain ⟨hk1, hk7, hb0, hb63, hgn, hbr⟩ := may_kind hm
  obtain ⟨wgen, wseq, wserial, wsecret, wversion, wexpiry⟩ := hwf
  obtain ⟨kd, hkd⟩ := Int.eq_ofNat_of_zero_le (show 0 ≤ r.kind by omega)
  obtain ⟨bk, hbk⟩ := Int.eq_ofNat_of_zero_le hb0
  have hbare : r = { Rec.zero with kind := r.kind, bucket := r.bucket, gen := r.gen, serial := r.serial } := by
    refine hbr.trans ?_
    unfold Rec.bare
    rw [if_neg (by rw [h]; decide), if_neg (by rw [h]; decide), if_neg (by rw [h]; decide), if_neg (by rw [h]; decide), if_pos h]
  have hbytes : r.bytes ++ rest = (putL kd 1 ++ (putL bk 1 ++ (putL r.gen 4 ++ (putL r.serial 4 ++ rest)))) := by
    unfold Rec.bytes Rec.tailL
    rw [if_neg (by rw [h]; decide), if_neg (by rw [h]; decide), if_neg (by rw [h]; decide), if_neg (by rw [h]; decide), if_pos h, hkd, hbk]
    simp only [List.append_assoc, Int.toNat_natCast]
  rw [hbytes]
  rw [readRec_6 (putL kd 1 ++ (putL bk 1 ++ (putL r.gen 4 ++ (putL r.serial 4 ++ rest)))) false kd (putL bk 1 ++ (putL r.gen 4 ++ (putL r.serial 4 ++ rest))) false bk (putL r.gen 4 ++ (putL r.serial 4 ++ rest)) false r.gen (putL r.serial 4 ++ rest) false r.serial rest false (rt1 kd _ (by omega)) (rt1 bk _ (by omega)) (rt4 r.gen _ (by omega)) (rt4 r.serial _ (by omega)) (by omega)]
  refine Prod.ext ?_ rfl
  show (⟨_, _, _, _, _, _, _, _, _, _, _, _, _, _⟩ : Rec) = r
  rw [← hkd, ← hbk]
  exact hbare.symm
theorem putRead6 (l0 : List UInt8)  (n1 : Nat) (l1 : List UInt8) (s1 : Bool) (n2 : Nat) (l2 : List UInt8) (s2 : Bool) (n3 : Nat) (l3 : List UInt8) (s3 : Bool) (n4 : Nat) (l4 : List UInt8) (s4 : Bool) (q1 : rdNum 1 l0 false = (n1, l1, s1)) (q2 : rdNum 1 l1 s1 = (n2, l2, s2)) (q3 : rdNum 4 l2 s2 = (n3, l3, s3)) (q4 : rdNum 4 l3 s3 = (n4, l4, s4)) (hk : n1 = 6) (hs : s4 = false) (_hm : (readRec l0 false).1.may = true) : (readRec l0 false).1.bytes ++ l4 = l0 := by
  rw [readRec_6 l0 false n1 l1 s1 n2 l2 s2 n3 l3 s3 n4 l4 s4 q1 q2 q3 q4 hk]
  simp only
  subst hs
  obtain rfl : s3 = false := numS (by omega) (by omega) q4
  obtain rfl : s2 = false := numS (by omega) (by omega) q3
  obtain rfl : s1 = false := numS (by omega) (by omega) q2
  have i1 := inv1 q1
  have i2 := inv1 q2
  have i3 := inv4 q3
  have i4 := inv4 q4
  unfold Rec.bytes Rec.tailL
  rw [if_neg (by show ¬ (n1 : Int) = 1; omega), if_neg (by show ¬ (n1 : Int) = 3; omega), if_neg (by show ¬ (n1 : Int) = 4; omega), if_neg (by show ¬ (n1 : Int) = 5; omega), if_pos (by show (n1 : Int) = 6; omega)]
  simp only [Int.toNat_natCast, List.append_assoc]
  rw [← i4, ← i3, ← i2, ← i1]
theorem readPut0 (r : Rec) (rest : List UInt8) (hm : r.may = true) (hwf : r.wf) (g1 : r.kind ≠ 1) (g3 : r.kind ≠ 3) (g4 : r.kind ≠ 4) (g5 : r.kind ≠ 5) (g6 : r.kind ≠ 6) : readRec (r.bytes ++ rest) false = (r, rest, false) := by
  obtain ⟨hk1, hk7, hb0, hb63, hgn, hbr⟩ := may_kind hm
  obtain ⟨wgen, wseq, wserial, wsecret, wversion, wexpiry⟩ := hwf
  obtain ⟨kd, hkd⟩ := Int.eq_ofNat_of_zero_le (show 0 ≤ r.kind by omega)
  obtain ⟨bk, hbk⟩ := Int.eq_ofNat_of_zero_le hb0
  have hbare : r = { Rec.zero with kind := r.kind, bucket := r.bucket, gen := r.gen } := by
    refine hbr.trans ?_
    unfold Rec.bare
    rw [if_neg g1, if_neg g3, if_neg g4, if_neg g5, if_neg g6]
  have hbytes : r.bytes ++ rest = (putL kd 1 ++ (putL bk 1 ++ (putL r.gen 4 ++ rest))) := by
    unfold Rec.bytes Rec.tailL
    rw [if_neg g1, if_neg g3, if_neg g4, if_neg g5, if_neg g6, hkd, hbk]
    simp only [List.append_assoc, Int.toNat_natCast, List.nil_append]
  rw [hbytes]
  rw [readRec_0 (putL kd 1 ++ (putL bk 1 ++ (putL r.gen 4 ++ rest))) false kd (putL bk 1 ++ (putL r.gen 4 ++ rest)) false bk (putL r.gen 4 ++ rest) false r.gen rest false (rt1 kd _ (by omega)) (rt1 bk _ (by omega)) (rt4 r.gen _ (by omega)) (by omega) (by omega) (by omega) (by omega) (by omega)]
  refine Prod.ext ?_ rfl
  show (⟨_, _, _, _, _, _, _, _, _, _, _, _, _, _⟩ : Rec) = r
  rw [← hkd, ← hbk]
  exact hbare.symm
theorem putRead0 (l0 : List UInt8)  (n1 : Nat) (l1 : List UInt8) (s1 : Bool) (n2 : Nat) (l2 : List UInt8) (s2 : Bool) (n3 : Nat) (l3 : List UInt8) (s3 : Bool) (q1 : rdNum 1 l0 false = (n1, l1, s1)) (q2 : rdNum 1 l1 s1 = (n2, l2, s2)) (q3 : rdNum 4 l2 s2 = (n3, l3, s3)) (g1 : n1 ≠ 1) (g3 : n1 ≠ 3) (g4 : n1 ≠ 4) (g5 : n1 ≠ 5) (g6 : n1 ≠ 6) (hs : s3 = false) (_hm : (readRec l0 false).1.may = true) : (readRec l0 false).1.bytes ++ l3 = l0 := by
  rw [readRec_0 l0 false n1 l1 s1 n2 l2 s2 n3 l3 s3 q1 q2 q3 g1 g3 g4 g5 g6]
  simp only
  subst hs
  obtain rfl : s2 = false := numS (by omega) (by omega) q3
  obtain rfl : s1 = false := numS (by omega) (by omega) q2
  have i1 := inv1 q1
  have i2 := inv1 q2
  have i3 := inv4 q3
  unfold Rec.bytes Rec.tailL
  rw [if_neg (by show ¬ (n1 : Int) = 1; omega), if_neg (by show ¬ (n1 : Int) = 3; omega), if_neg (by show ¬ (n1 : Int) = 4; omega), if_neg (by show ¬ (n1 : Int) = 5; omega), if_neg (by show ¬ (n1 : Int) = 6; omega)]
  simp only [Int.toNat_natCast, List.append_assoc, List.nil_append]
  rw [← i3, ← i2, ← i1]
theorem readPut (r : Rec) (rest : List UInt8) (hm : r.may = true) (hwf : r.wf) : readRec (r.bytes ++ rest) false = (r, rest, false) := by
  by_cases h1 : r.kind = 1
  · exact readPut1 r rest hm hwf h1
  by_cases h3 : r.kind = 3
  · exact readPut3 r rest hm hwf h3
  by_cases h4 : r.kind = 4
  · exact readPut4 r rest hm hwf h4
  by_cases h5 : r.kind = 5
  · exact readPut5 r rest hm hwf h5
  by_cases h6 : r.kind = 6
  · exact readPut6 r rest hm hwf h6
  exact readPut0 r rest hm hwf h1 h3 h4 h5 h6
theorem putRead (l : List UInt8) (hs : (readRec l false).2.2 = false) (hm : (readRec l false).1.may = true) : (readRec l false).1.bytes ++ (readRec l false).2.1 = l := by
  obtain ⟨n1, l1, s1, q1⟩ : ∃ a b c, rdNum 1 l false = (a, b, c) := ⟨_, _, _, rfl⟩
  obtain ⟨n2, l2, s2, q2⟩ : ∃ a b c, rdNum 1 l1 s1 = (a, b, c) := ⟨_, _, _, rfl⟩
  obtain ⟨n3, l3, s3, q3⟩ : ∃ a b c, rdNum 4 l2 s2 = (a, b, c) := ⟨_, _, _, rfl⟩
  by_cases k1 : n1 = 1
  · obtain ⟨n4, l4, s4, q4⟩ : ∃ a b c, rdNum 8 l3 s3 = (a, b, c) := ⟨_, _, _, rfl⟩
    obtain ⟨n5, l5, s5, q5⟩ : ∃ a b c, rdNum 8 l4 s4 = (a, b, c) := ⟨_, _, _, rfl⟩
    obtain ⟨n6, l6, s6, q6⟩ : ∃ a b c, rdNum 8 l5 s5 = (a, b, c) := ⟨_, _, _, rfl⟩
    obtain ⟨n7, l7, s7, q7⟩ : ∃ a b c, rdNum 8 l6 s6 = (a, b, c) := ⟨_, _, _, rfl⟩
    obtain ⟨n8, l8, s8, q8⟩ : ∃ a b c, rdNum 4 l7 s7 = (a, b, c) := ⟨_, _, _, rfl⟩
    have e := readRec_1 l false n1 l1 s1 n2 l2 s2 n3 l3 s3 n4 l4 s4 n5 l5 s5 n6 l6 s6 n7 l7 s7 n8 l8 s8 q1 q2 q3 q4 q5 q6 q7 q8 k1
    have e2 : (readRec l false).2 = (l8, s8) := by rw [e]
    rw [e2] at hs ⊢
    exact putRead1 l n1 l1 s1 n2 l2 s2 n3 l3 s3 n4 l4 s4 n5 l5 s5 n6 l6 s6 n7 l7 s7 n8 l8 s8 q1 q2 q3 q4 q5 q6 q7 q8 k1 hs hm
  by_cases k3 : n1 = 3
  · obtain ⟨n4, l4, s4, q4⟩ : ∃ a b c, rdNum 8 l3 s3 = (a, b, c) := ⟨_, _, _, rfl⟩
    obtain ⟨n5, l5, s5, q5⟩ : ∃ a b c, rdNum 8 l4 s4 = (a, b, c) := ⟨_, _, _, rfl⟩
    obtain ⟨n6, l6, s6, q6⟩ : ∃ a b c, rdText l5 s5 = (a, b, c) := ⟨_, _, _, rfl⟩
    obtain ⟨n7, l7, s7, q7⟩ : ∃ a b c, rdText l6 s6 = (a, b, c) := ⟨_, _, _, rfl⟩
    have e := readRec_3 l false n1 l1 s1 n2 l2 s2 n3 l3 s3 n4 l4 s4 n5 l5 s5 n6 l6 s6 n7 l7 s7 q1 q2 q3 q4 q5 q6 q7 k3
    have e2 : (readRec l false).2 = (l7, s7) := by rw [e]
    rw [e2] at hs ⊢
    exact putRead3 l n1 l1 s1 n2 l2 s2 n3 l3 s3 n4 l4 s4 n5 l5 s5 n6 l6 s6 n7 l7 s7 q1 q2 q3 q4 q5 q6 q7 k3 hs hm
  by_cases k4 : n1 = 4
  · obtain ⟨n4, l4, s4, q4⟩ : ∃ a b c, rdNum 8 l3 s3 = (a, b, c) := ⟨_, _, _, rfl⟩
    obtain ⟨n5, l5, s5, q5⟩ : ∃ a b c, rdText l4 s4 = (a, b, c) := ⟨_, _, _, rfl⟩
    have e := readRec_4 l false n1 l1 s1 n2 l2 s2 n3 l3 s3 n4 l4 s4 n5 l5 s5 q1 q2 q3 q4 q5 k4
    have e2 : (readRec l false).2 = (l5, s5) := by rw [e]
    rw [e2] at hs ⊢
    exact putRead4 l n1 l1 s1 n2 l2 s2 n3 l3 s3 n4 l4 s4 n5 l5 s5 q1 q2 q3 q4 q5 k4 hs hm
  by_cases k5 : n1 = 5
  · obtain ⟨n4, l4, s4, q4⟩ : ∃ a b c, rdNum 4 l3 s3 = (a, b, c) := ⟨_, _, _, rfl⟩
    obtain ⟨n5, l5, s5, q5⟩ : ∃ a b c, rdNum 1 l4 s4 = (a, b, c) := ⟨_, _, _, rfl⟩
    obtain ⟨n6, l6, s6, q6⟩ : ∃ a b c, rdNum 8 l5 s5 = (a, b, c) := ⟨_, _, _, rfl⟩
    have e := readRec_5 l false n1 l1 s1 n2 l2 s2 n3 l3 s3 n4 l4 s4 n5 l5 s5 n6 l6 s6 q1 q2 q3 q4 q5 q6 k5
    have e2 : (readRec l false).2 = (l6, s6) := by rw [e]
    rw [e2] at hs ⊢
    exact putRead5 l n1 l1 s1 n2 l2 s2 n3 l3 s3 n4 l4 s4 n5 l5 s5 n6 l6 s6 q1 q2 q3 q4 q5 q6 k5 hs hm
  by_cases k6 : n1 = 6
  · obtain ⟨n4, l4, s4, q4⟩ : ∃ a b c, rdNum 4 l3 s3 = (a, b, c) := ⟨_, _, _, rfl⟩
    have e := readRec_6 l false n1 l1 s1 n2 l2 s2 n3 l3 s3 n4 l4 s4 q1 q2 q3 q4 k6
    have e2 : (readRec l false).2 = (l4, s4) := by rw [e]
    rw [e2] at hs ⊢
    exact putRead6 l n1 l1 s1 n2 l2 s2 n3 l3 s3 n4 l4 s4 q1 q2 q3 q4 k6 hs hm
  have e := readRec_0 l false n1 l1 s1 n2 l2 s2 n3 l3 s3 q1 q2 q3 k1 k3 k4 k5 k6
  have e2 : (readRec l false).2 = (l3, s3) := by rw [e]
  rw [e2] at hs ⊢
  exact putRead0 l n1 l1 s1 n2 l2 s2 n3 l3 s3 q1 q2 q3 k1 k3 k4 k5 k6 hs hm
theorem recsOf_recsL : ∀ l : List Rec, l ≠ [] → (∀ r ∈ l, r.may = true ∧ r.wf) → recsOf (recsL l) = some l
  | [], h, _ => absurd rfl h
  | r :: l, _, h => by
    obtain ⟨hm, hwf⟩ := h r (by simp)
    have e : recsL (r :: l) = r.bytes ++ recsL l := rfl
    have hr := readPut r (recsL l) hm hwf
    rw [e]
    cases l with
    | nil =>
      have h0 : recsL [] = [] := rfl
      rw [h0] at hr ⊢
      rw [recsOf_last (by rw [hr]) (by rw [hr]; exact hm) (by rw [hr]; rfl), hr]
    | cons r2 l2 =>
      have ih := recsOf_recsL (r2 :: l2) (by simp) (fun x hx => h x (by simp [List.mem_cons] at hx ⊢; exact .inr hx))
      have hl : (recsL (r2 :: l2)).length ≠ 0 := by
        have e2 : recsL (r2 :: l2) = r2.bytes ++ recsL l2 := rfl
        rw [e2, List.length_append]
        have := (bytes_len r2).1
        omega
      rw [recsOf_more (by rw [hr]) (by rw [hr]; exact hm) (by rw [hr]; exact hl), hr, ih]
      rfl
theorem recsL_recsOf : ∀ (n : Nat) (b : List UInt8), b.length ≤ n → ∀ L, recsOf b = some L → recsL L = b
  | n, b, hn, L, hL => by
    by_cases h1 : (readRec b false).2.2 = true ∨ (readRec b false).1.may = false
    · rw [recsOf_bad h1] at hL; cases hL
    have hs : (readRec b false).2.2 = false := by simpa using fun e => h1 (.inl e)
    have hm : (readRec b false).1.may = true := by simpa using fun e => h1 (.inr e)
    have h2 := (readRec_step b false hs).2
    have hp := putRead b hs hm
    by_cases h0 : (readRec b false).2.1.length = 0
    · rw [recsOf_last hs hm h0] at hL
      cases hL
      rw [List.eq_nil_of_length_eq_zero h0] at hp
      exact hp
    · rw [recsOf_more hs hm h0] at hL
      cases hq : recsOf (readRec b false).2.1 with
      | none => rw [hq] at hL; cases hL
      | some L' =>
        rw [hq] at hL
        cases hL
        cases n with
        | zero => omega
        | succ n =>
          have ih := recsL_recsOf n _ (by omega) L' hq
          show (readRec b false).1.bytes ++ recsL L' = b
          rw [ih]
          exact hp
/-- All costs together. -/
def costs (l : List Rec) : Nat := (l.map Rec.cost).sum
theorem costs_take (l : List Rec) (j : Nat) (h : j < l.length) : costs (l.take (j + 1)) = costs (l.take j) + l[j].cost := by
  unfold costs
  rw [List.take_succ_eq_append_getElem h, List.map_append, List.sum_append]
  simp
theorem costs_le (l : List Rec) : costs l ≤ 140008 * l.length := by
  induction l with
  | nil => simp [costs]
  | cons r l ih =>
    have h : r.cost ≤ 140008 := by unfold Rec.cost; have := (bytes_len r).2; split <;> omega
    unfold costs at *
    simp only [List.map_cons, List.sum_cons, List.length_cons]
    omega
theorem costs_ge : ∀ l : List Rec, l.all Rec.may = true → (recsL l).length + 8 * l.length = costs l
  | [], _ => rfl
  | r :: l, h => by
    rw [List.all_cons, Bool.and_eq_true] at h
    have ih := costs_ge l h.2
    have e : recsL (r :: l) = r.bytes ++ recsL l := rfl
    have hc : r.cost = 8 + r.bytes.length := if_pos h.1
    unfold costs at *
    rw [e, List.length_append, List.map_cons, List.sum_cons, hc, List.length_cons]
    omega
theorem putOk_all {l : List Rec} (h : putOk l = true) : l.all Rec.may = true ∧ 0 < (recsL l).length ∧ (recsL l).length ≤ 20000 ∧ l ≠ [] := by
  unfold putOk at h
  simp only [Bool.and_eq_true, decide_eq_true_eq] at h
  refine ⟨h.1, h.2.1, h.2.2, ?_⟩
  rintro rfl
  simp [recsL] at h
end Go.Proofs.Ytiihemmonncioaa
