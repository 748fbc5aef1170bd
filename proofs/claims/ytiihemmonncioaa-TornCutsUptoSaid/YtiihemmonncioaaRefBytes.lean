/- The contract of the reference's Bytes. -/
import Derived.Test.YtiihemmonncioaaRecPuts
import Derived.Test.YtiihemmonncioaaPackRef
namespace Go.Proofs.Ytiihemmonncioaa
open Go.RowKit
theorem putL_byte (x : UInt8) : putL x.toNat 1 = [x] := by
  show [UInt8.ofNat (x.toNat / 256 ^ 0)] = [x]
  simp
theorem isBytes_at (w : World) (C : Array Value) (e : TypeId) (fr : Nat × Nat) (l : List UInt8) (g : Nat) (hg : g = w.heap.size) (hC : C = (l.map u8V).toArray) : IsBytes (w.alloc (.cells C e fr)) (some ⟨g, 0, none⟩) l := by
  subst hg
  exact isBytes_new w C e fr l hC
theorem row_alloc {w : World} {b : Nat} {x : Obj} (h : w.heap[b]? = some x) (o : Obj) : (w.alloc o).heap[b]? = some x := by
  rw [Below.heap_alloc w o b (Array.getElem?_eq_some_iff.1 h).1]
  exact h
theorem byte_of (n : Nat) (h : n < 256) : ∃ x : UInt8, n = x.toNat := ⟨UInt8.ofNat n, by simp; omega⟩
set_option maxRecDepth 100000 in
set_option maxHeartbeats 4000000 in
theorem refBytes1 (B : Nat) (v : Value) (l : List UInt8) (r : Rec) (w : World) (hv : OwnB B w v l) (hB : B ≤ w.heap.size) (hl : l.length ≤ 2000000000) (hm : r.may = true) (hwf : r.wf) (h : r.kind = 1) :
    Calls Try.prog 44 #[v, r.v] w (PutsB B w (l ++ r.bytes)) := by
  obtain ⟨hk1, hk7, hb0, hb63, hgn, hbr⟩ := may_kind hm
  clear hgn hbr
  obtain ⟨wgen, wseq, wserial, wsecret, wversion, wexpiry⟩ := hwf
  obtain ⟨kd', hkd'⟩ := Int.eq_ofNat_of_zero_le (show 0 ≤ r.kind by omega)
  obtain ⟨bk', hbk'⟩ := Int.eq_ofNat_of_zero_le hb0
  obtain ⟨kd, hkd⟩ : ∃ x : UInt8, r.kind = (x.toNat : Int) := by
    obtain ⟨x, hx⟩ := byte_of kd' (by omega)
    exact ⟨x, by rw [hkd', hx]⟩
  obtain ⟨bk, hbk⟩ : ∃ x : UInt8, r.bucket = (x.toNat : Int) := by
    obtain ⟨x, hx⟩ := byte_of bk' (by omega)
    exact ⟨x, by rw [hbk', hx]⟩
  clear hkd' hbk'
  obtain ⟨⟨hq1, hq2⟩, ⟨hq3, hq4⟩, ⟨hq5, hq6⟩⟩ := may_quota hm h
  obtain ⟨na, hna⟩ := Int.eq_ofNat_of_zero_le hq1
  obtain ⟨nb, hnb⟩ := Int.eq_ofNat_of_zero_le hq3
  obtain ⟨nc, hnc⟩ := Int.eq_ofNat_of_zero_le hq5
  have hw_kind : IntKind.u8.wrap (kd.toNat : Int) = (kd.toNat : Int) := by have := kd.toNat_lt; rw [IntKind.wrap_u8]; omega
  have hw_bucket : IntKind.u8.wrap (bk.toNat : Int) = (bk.toNat : Int) := by have := bk.toNat_lt; rw [IntKind.wrap_u8]; omega
  have hw_gen : IntKind.u64.wrap (r.gen : Int) = (r.gen : Int) := by rw [IntKind.wrap_u64]; omega
  have hw_qk : IntKind.u64.wrap (na : Int) = (na : Int) := by rw [IntKind.wrap_u64]; omega
  have hw_qb : IntKind.u64.wrap (nb : Int) = (nb : Int) := by rw [IntKind.wrap_u64]; omega
  have hw_qg : IntKind.u64.wrap (nc : Int) = (nc : Int) := by rw [IntKind.wrap_u64]; omega
  have hw_serial : IntKind.u64.wrap (r.serial : Int) = (r.serial : Int) := by rw [IntKind.wrap_u64]; omega
  have HBD := Lib.hid (show r.gen < 18446744073709551616 ∧ na < 18446744073709551616 ∧ nb < 18446744073709551616 ∧ nc < 18446744073709551616 ∧ r.seq < 18446744073709551616 ∧ r.serial < 18446744073709551616 from by refine ⟨?_, ?_, ?_, ?_, ?_, ?_⟩ <;> omega)
  have heq : l ++ [kd, bk] ++ putL r.gen 4 ++ putL na 8 ++ putL nb 8 ++ putL nc 8 ++ putL r.seq 8 ++ putL r.serial 4 = l ++ r.bytes := by
    unfold Rec.bytes Rec.tailL
    rw [if_pos h, hkd, hbk, hna, hnb, hnc]
    simp only [List.append_assoc, Int.toNat_natCast, putL_byte, List.cons_append, List.nil_append]
  have HEQ := Lib.hid heq
  have e1 : ((kd.toNat : Int) == 1) = true := by simp; omega
  unfold Rec.v
  have hc_kind : r.cells[0]? = some (.int .i64 (kd.toNat : Int)) := by show some (Value.int .i64 r.kind) = _; rw [hkd]
  have hc_bucket : r.cells[1]? = some (.int .i64 (bk.toNat : Int)) := by show some (Value.int .i64 r.bucket) = _; rw [hbk]
  have hc_gen : r.cells[2]? = some (.int .u32 (r.gen : Int)) := rfl
  have hc_qk : r.cells[3]? = some (.int .i64 (na : Int)) := by show some (Value.int .i64 r.qk) = _; rw [hna]
  have hc_qb : r.cells[4]? = some (.int .i64 (nb : Int)) := by show some (Value.int .i64 r.qb) = _; rw [hnb]
  have hc_qg : r.cells[5]? = some (.int .i64 (nc : Int)) := by show some (Value.int .i64 r.qg) = _; rw [hnc]
  have hc_seq : r.cells[6]? = some (.int .u64 (r.seq : Int)) := rfl
  have hc_serial : r.cells[7]? = some (.int .u32 (r.serial : Int)) := rfl
  generalize r.cells = C at *
  have Hhc_kind := Lib.hid hc_kind
  have Hhc_bucket := Lib.hid hc_bucket
  have Hhc_gen := Lib.hid hc_gen
  have Hhc_qk := Lib.hid hc_qk
  have Hhc_qb := Lib.hid hc_qb
  have Hhc_qg := Lib.hid hc_qg
  have Hhc_seq := Lib.hid hc_seq
  have Hhc_serial := Lib.hid hc_serial
  have HV := Lib.hid hv
  clear hv hm hk1 hk7 hb0 hb63 hkd hbk wgen wseq wserial wsecret wversion wexpiry heq h hq1 hq2 hq3 hq4 hq5 hq6 hna hnb hnc hc_gen hc_qk hc_qb hc_qg hc_seq hc_serial
  have HROW0 := Lib.hid (heap_alloc_new w (.cells C 61))
  have HBB := Lib.hid hB
  have HBW0 := Lib.hid ((Below.refl B w).alloc hB (.cells C 61))
  obtain ⟨L0, hL0⟩ : ∃ L0, L0 = l := ⟨l, rfl⟩
  have HL0 := Lib.hid hL0
  have HLEN0 := Lib.hid (show L0.length ≤ 2000000000 by rw [hL0]; exact hl)
  have HO0 : Hid (OwnB B (w.alloc (.cells C 61)) v L0) := by rw [hL0]; exact HV.out.alloc _
  clear hL0 hl HV hB
  go_enter Try.func44, Try.ntmps44
  go_wp2_with (at_builtin; refine wpList_append_bytes rfl (.tmp 5) (.tmp 12) 22 rfl B v L0 rfl (HO0.out.alloc _) _ [kd, bk] rfl (SrcB.ofBytes 2 (isBytes_at _ _ _ _ [kd, bk] _ (by simp) rfl)) ?c1 ?c2 ?hh1)
  case c1 => exact Nat.le_trans HBB.out (Nat.le_trans HBW0.out.size (by simp))
  case c2 => have := HLEN0.out; simp; omega
  intro v1 W1 ho hg
  have hrow := keep_row (t := 61) (HO0.out.alloc (.cells #[.int .u8 (kd.toNat : Int), .int .u8 (bk.toNat : Int)] 5)) hg (by decide) (row_alloc HROW0.out _)
  have HROW1 := Lib.hid hrow
  have HBW1 := Lib.hid (HBW0.out.trans (((Below.refl B _).alloc (Nat.le_trans HBB.out HBW0.out.size) _).trans (below_of_grown (HO0.out.alloc _) (Nat.le_trans HBB.out (Nat.le_trans HBW0.out.size (by simp))) hg)))
  obtain ⟨L1, hL, hlen⟩ : ∃ L1, L1 = L0 ++ [kd, bk] ∧ L1.length ≤ 2000000008 := ⟨_, rfl, by have := HLEN0.out; rw [List.length_append]; simp; omega⟩
  rw [← hL] at ho
  have HL1 := Lib.hid (hL.trans (congrArg (· ++ [kd, bk]) HL0.out))
  have HLEN1 := Lib.hid hlen
  have HO1 := Lib.hid ho
  clear hrow hg ho hL hlen HROW0 HBW0 HL0 HLEN0 HO0 hw_kind hw_bucket hc_kind hc_bucket
  clear L0
  have hcl := (cell_of_row _ w.heap.size 2 C _ _ HROW1.out).trans Hhc_gen.out
  go_wp2_with fail
  clear hcl
  refine (refPut B v1 L1 r.gen 4 _ HO1.out (Nat.le_trans HBB.out HBW1.out.size) (by have := HLEN1.out; omega) HBD.out.1 (by omega)).mono ?_
  rintro e W2 ⟨v2, rfl, ho, hg⟩
  have HROW2 := Lib.hid (keep_row HO1.out hg (by decide) HROW1.out)
  have HBW2 := Lib.hid (HBW1.out.trans (below_of_grown HO1.out (Nat.le_trans HBB.out HBW1.out.size) hg))
  obtain ⟨L2, hL, hlen⟩ : ∃ L2, L2 = L1 ++ putL r.gen 4 ∧ L2.length ≤ 2000000016 := ⟨_, rfl, by have := HLEN1.out; rw [List.length_append]; rw [putL_length]; omega⟩
  rw [← hL] at ho
  have HL2 := Lib.hid (hL.trans (congrArg (· ++ putL r.gen 4) HL1.out))
  have HLEN2 := Lib.hid hlen
  have HO2 := Lib.hid ho
  clear ho hg hL hlen HROW1 HBW1 HL1 HLEN1 HO1 hw_gen
  clear L1
  have hcl := (cell_of_row _ w.heap.size 3 C _ _ HROW2.out).trans Hhc_qk.out
  have hckind := (cell_of_row _ w.heap.size 0 C _ _ HROW2.out).trans Hhc_kind.out
  go_wp2_with fail
  clear hcl
  refine (refPut B v2 L2 na 8 _ HO2.out (Nat.le_trans HBB.out HBW2.out.size) (by have := HLEN2.out; omega) HBD.out.2.1 (by omega)).mono ?_
  rintro e W3 ⟨v3, rfl, ho, hg⟩
  have HROW3 := Lib.hid (keep_row HO2.out hg (by decide) HROW2.out)
  have HBW3 := Lib.hid (HBW2.out.trans (below_of_grown HO2.out (Nat.le_trans HBB.out HBW2.out.size) hg))
  obtain ⟨L3, hL, hlen⟩ : ∃ L3, L3 = L2 ++ putL na 8 ∧ L3.length ≤ 2000000024 := ⟨_, rfl, by have := HLEN2.out; rw [List.length_append]; rw [putL_length]; omega⟩
  rw [← hL] at ho
  have HL3 := Lib.hid (hL.trans (congrArg (· ++ putL na 8) HL2.out))
  have HLEN3 := Lib.hid hlen
  have HO3 := Lib.hid ho
  clear ho hg hL hlen HROW2 HBW2 HL2 HLEN2 HO2 hw_qk
  clear L2
  clear hckind e1
  have hcl := (cell_of_row _ w.heap.size 4 C _ _ HROW3.out).trans Hhc_qb.out
  go_wp2_with fail
  clear hcl
  refine (refPut B v3 L3 nb 8 _ HO3.out (Nat.le_trans HBB.out HBW3.out.size) (by have := HLEN3.out; omega) HBD.out.2.2.1 (by omega)).mono ?_
  rintro e W4 ⟨v4, rfl, ho, hg⟩
  have HROW4 := Lib.hid (keep_row HO3.out hg (by decide) HROW3.out)
  have HBW4 := Lib.hid (HBW3.out.trans (below_of_grown HO3.out (Nat.le_trans HBB.out HBW3.out.size) hg))
  obtain ⟨L4, hL, hlen⟩ : ∃ L4, L4 = L3 ++ putL nb 8 ∧ L4.length ≤ 2000000032 := ⟨_, rfl, by have := HLEN3.out; rw [List.length_append]; rw [putL_length]; omega⟩
  rw [← hL] at ho
  have HL4 := Lib.hid (hL.trans (congrArg (· ++ putL nb 8) HL3.out))
  have HLEN4 := Lib.hid hlen
  have HO4 := Lib.hid ho
  clear ho hg hL hlen HROW3 HBW3 HL3 HLEN3 HO3 hw_qb
  clear L3
  have hcl := (cell_of_row _ w.heap.size 5 C _ _ HROW4.out).trans Hhc_qg.out
  go_wp2_with fail
  clear hcl
  refine (refPut B v4 L4 nc 8 _ HO4.out (Nat.le_trans HBB.out HBW4.out.size) (by have := HLEN4.out; omega) HBD.out.2.2.2.1 (by omega)).mono ?_
  rintro e W5 ⟨v5, rfl, ho, hg⟩
  have HROW5 := Lib.hid (keep_row HO4.out hg (by decide) HROW4.out)
  have HBW5 := Lib.hid (HBW4.out.trans (below_of_grown HO4.out (Nat.le_trans HBB.out HBW4.out.size) hg))
  obtain ⟨L5, hL, hlen⟩ : ∃ L5, L5 = L4 ++ putL nc 8 ∧ L5.length ≤ 2000000040 := ⟨_, rfl, by have := HLEN4.out; rw [List.length_append]; rw [putL_length]; omega⟩
  rw [← hL] at ho
  have HL5 := Lib.hid (hL.trans (congrArg (· ++ putL nc 8) HL4.out))
  have HLEN5 := Lib.hid hlen
  have HO5 := Lib.hid ho
  clear ho hg hL hlen HROW4 HBW4 HL4 HLEN4 HO4 hw_qg
  clear L4
  have hcl := (cell_of_row _ w.heap.size 6 C _ _ HROW5.out).trans Hhc_seq.out
  go_wp2_with fail
  clear hcl
  refine (refPut B v5 L5 r.seq 8 _ HO5.out (Nat.le_trans HBB.out HBW5.out.size) (by have := HLEN5.out; omega) HBD.out.2.2.2.2.1 (by omega)).mono ?_
  rintro e W6 ⟨v6, rfl, ho, hg⟩
  have HROW6 := Lib.hid (keep_row HO5.out hg (by decide) HROW5.out)
  have HBW6 := Lib.hid (HBW5.out.trans (below_of_grown HO5.out (Nat.le_trans HBB.out HBW5.out.size) hg))
  obtain ⟨L6, hL, hlen⟩ : ∃ L6, L6 = L5 ++ putL r.seq 8 ∧ L6.length ≤ 2000000048 := ⟨_, rfl, by have := HLEN5.out; rw [List.length_append]; rw [putL_length]; omega⟩
  rw [← hL] at ho
  have HL6 := Lib.hid (hL.trans (congrArg (· ++ putL r.seq 8) HL5.out))
  have HLEN6 := Lib.hid hlen
  have HO6 := Lib.hid ho
  clear ho hg hL hlen HROW5 HBW5 HL5 HLEN5 HO5
  clear L5
  have hcl := (cell_of_row _ w.heap.size 7 C _ _ HROW6.out).trans Hhc_serial.out
  go_wp2_with fail
  clear hcl
  refine (refPut B v6 L6 r.serial 4 _ HO6.out (Nat.le_trans HBB.out HBW6.out.size) (by have := HLEN6.out; omega) HBD.out.2.2.2.2.2 (by omega)).mono ?_
  rintro e W7 ⟨v7, rfl, ho, hg⟩
  have HROW7 := Lib.hid (keep_row HO6.out hg (by decide) HROW6.out)
  have HBW7 := Lib.hid (HBW6.out.trans (below_of_grown HO6.out (Nat.le_trans HBB.out HBW6.out.size) hg))
  obtain ⟨L7, hL, hlen⟩ : ∃ L7, L7 = L6 ++ putL r.serial 4 ∧ L7.length ≤ 2000000056 := ⟨_, rfl, by have := HLEN6.out; rw [List.length_append]; rw [putL_length]; omega⟩
  rw [← hL] at ho
  have HL7 := Lib.hid (hL.trans (congrArg (· ++ putL r.serial 4) HL6.out))
  have HLEN7 := Lib.hid hlen
  have HO7 := Lib.hid ho
  clear ho hg hL hlen HROW6 HBW6 HL6 HLEN6 HO6 hw_serial
  clear L6
  go_wp2
  go_ret
  exact ⟨v7, rfl, by rw [← HEQ.out, ← HL7.out]; exact HO7.out, HBW7.out⟩
set_option maxRecDepth 100000 in
set_option maxHeartbeats 4000000 in
theorem refBytes3 (B : Nat) (v : Value) (l : List UInt8) (r : Rec) (w : World) (hv : OwnB B w v l) (hB : B ≤ w.heap.size) (hl : l.length ≤ 2000000000) (hm : r.may = true) (hwf : r.wf) (h : r.kind = 3) :
    Calls Try.prog 44 #[v, r.v] w (PutsB B w (l ++ r.bytes)) := by
  obtain ⟨hk1, hk7, hb0, hb63, hgn, hbr⟩ := may_kind hm
  clear hgn hbr
  obtain ⟨wgen, wseq, wserial, wsecret, wversion, wexpiry⟩ := hwf
  obtain ⟨kd', hkd'⟩ := Int.eq_ofNat_of_zero_le (show 0 ≤ r.kind by omega)
  obtain ⟨bk', hbk'⟩ := Int.eq_ofNat_of_zero_le hb0
  obtain ⟨kd, hkd⟩ : ∃ x : UInt8, r.kind = (x.toNat : Int) := by
    obtain ⟨x, hx⟩ := byte_of kd' (by omega)
    exact ⟨x, by rw [hkd', hx]⟩
  obtain ⟨bk, hbk⟩ : ∃ x : UInt8, r.bucket = (x.toNat : Int) := by
    obtain ⟨x, hx⟩ := byte_of bk' (by omega)
    exact ⟨x, by rw [hbk', hx]⟩
  clear hkd' hbk'
  have htx := may_text hm (.inl h)
  have hw_kind : IntKind.u8.wrap (kd.toNat : Int) = (kd.toNat : Int) := by have := kd.toNat_lt; rw [IntKind.wrap_u8]; omega
  have hw_bucket : IntKind.u8.wrap (bk.toNat : Int) = (bk.toNat : Int) := by have := bk.toNat_lt; rw [IntKind.wrap_u8]; omega
  have hw_gen : IntKind.u64.wrap (r.gen : Int) = (r.gen : Int) := by rw [IntKind.wrap_u64]; omega
  have HBD := Lib.hid (show r.gen < 18446744073709551616 ∧ r.version < 18446744073709551616 ∧ r.expiry < 18446744073709551616 from by refine ⟨?_, ?_, ?_⟩ <;> omega)
  have heq : l ++ [kd, bk] ++ putL r.gen 4 ++ putL r.version 8 ++ putL r.expiry 8 ++ textL r.key.data.toList ++ textL r.val.data.toList = l ++ r.bytes := by
    unfold Rec.bytes Rec.tailL
    rw [if_neg (by rw [h]; decide), if_pos h, hkd, hbk]
    simp only [List.append_assoc, Int.toNat_natCast, putL_byte, List.cons_append, List.nil_append]
  have HEQ := Lib.hid heq
  have e1 : ((kd.toNat : Int) == 1) = false := by simp; omega
  have e3 : ((kd.toNat : Int) == 3) = true := by simp; omega
  unfold Rec.v
  have hc_kind : r.cells[0]? = some (.int .i64 (kd.toNat : Int)) := by show some (Value.int .i64 r.kind) = _; rw [hkd]
  have hc_bucket : r.cells[1]? = some (.int .i64 (bk.toNat : Int)) := by show some (Value.int .i64 r.bucket) = _; rw [hbk]
  have hc_gen : r.cells[2]? = some (.int .u32 (r.gen : Int)) := rfl
  have hc_version : r.cells[12]? = some (.int .u64 (r.version : Int)) := rfl
  have hc_expiry : r.cells[13]? = some (.int .u64 (r.expiry : Int)) := rfl
  have hc_key : r.cells[10]? = some (.string r.key) := rfl
  have hc_val : r.cells[11]? = some (.string r.val) := rfl
  have HTX := Lib.hid htx
  generalize r.cells = C at *
  have Hhc_kind := Lib.hid hc_kind
  have Hhc_bucket := Lib.hid hc_bucket
  have Hhc_gen := Lib.hid hc_gen
  have Hhc_version := Lib.hid hc_version
  have Hhc_expiry := Lib.hid hc_expiry
  have Hhc_key := Lib.hid hc_key
  have Hhc_val := Lib.hid hc_val
  have HV := Lib.hid hv
  clear hv hm hk1 hk7 hb0 hb63 hkd hbk wgen wseq wserial wsecret wversion wexpiry heq h htx hc_gen hc_version hc_expiry hc_key hc_val
  have HROW0 := Lib.hid (heap_alloc_new w (.cells C 61))
  have HBB := Lib.hid hB
  have HBW0 := Lib.hid ((Below.refl B w).alloc hB (.cells C 61))
  obtain ⟨L0, hL0⟩ : ∃ L0, L0 = l := ⟨l, rfl⟩
  have HL0 := Lib.hid hL0
  have HLEN0 := Lib.hid (show L0.length ≤ 2000000000 by rw [hL0]; exact hl)
  have HO0 : Hid (OwnB B (w.alloc (.cells C 61)) v L0) := by rw [hL0]; exact HV.out.alloc _
  clear hL0 hl HV hB
  go_enter Try.func44, Try.ntmps44
  go_wp2_with (at_builtin; refine wpList_append_bytes rfl (.tmp 5) (.tmp 12) 22 rfl B v L0 rfl (HO0.out.alloc _) _ [kd, bk] rfl (SrcB.ofBytes 2 (isBytes_at _ _ _ _ [kd, bk] _ (by simp) rfl)) ?c1 ?c2 ?hh1)
  case c1 => exact Nat.le_trans HBB.out (Nat.le_trans HBW0.out.size (by simp))
  case c2 => have := HLEN0.out; simp; omega
  intro v1 W1 ho hg
  have hrow := keep_row (t := 61) (HO0.out.alloc (.cells #[.int .u8 (kd.toNat : Int), .int .u8 (bk.toNat : Int)] 5)) hg (by decide) (row_alloc HROW0.out _)
  have HROW1 := Lib.hid hrow
  have HBW1 := Lib.hid (HBW0.out.trans (((Below.refl B _).alloc (Nat.le_trans HBB.out HBW0.out.size) _).trans (below_of_grown (HO0.out.alloc _) (Nat.le_trans HBB.out (Nat.le_trans HBW0.out.size (by simp))) hg)))
  obtain ⟨L1, hL, hlen⟩ : ∃ L1, L1 = L0 ++ [kd, bk] ∧ L1.length ≤ 2000000008 := ⟨_, rfl, by have := HLEN0.out; rw [List.length_append]; simp; omega⟩
  rw [← hL] at ho
  have HL1 := Lib.hid (hL.trans (congrArg (· ++ [kd, bk]) HL0.out))
  have HLEN1 := Lib.hid hlen
  have HO1 := Lib.hid ho
  clear hrow hg ho hL hlen HROW0 HBW0 HL0 HLEN0 HO0 hw_kind hw_bucket hc_kind hc_bucket
  clear L0
  have hcl := (cell_of_row _ w.heap.size 2 C _ _ HROW1.out).trans Hhc_gen.out
  go_wp2_with fail
  clear hcl
  refine (refPut B v1 L1 r.gen 4 _ HO1.out (Nat.le_trans HBB.out HBW1.out.size) (by have := HLEN1.out; omega) HBD.out.1 (by omega)).mono ?_
  rintro e W2 ⟨v2, rfl, ho, hg⟩
  have HROW2 := Lib.hid (keep_row HO1.out hg (by decide) HROW1.out)
  have HBW2 := Lib.hid (HBW1.out.trans (below_of_grown HO1.out (Nat.le_trans HBB.out HBW1.out.size) hg))
  obtain ⟨L2, hL, hlen⟩ : ∃ L2, L2 = L1 ++ putL r.gen 4 ∧ L2.length ≤ 2000000016 := ⟨_, rfl, by have := HLEN1.out; rw [List.length_append]; rw [putL_length]; omega⟩
  rw [← hL] at ho
  have HL2 := Lib.hid (hL.trans (congrArg (· ++ putL r.gen 4) HL1.out))
  have HLEN2 := Lib.hid hlen
  have HO2 := Lib.hid ho
  clear ho hg hL hlen HROW1 HBW1 HL1 HLEN1 HO1 hw_gen
  clear L1
  have hcl := (cell_of_row _ w.heap.size 12 C _ _ HROW2.out).trans Hhc_version.out
  have hckind := (cell_of_row _ w.heap.size 0 C _ _ HROW2.out).trans Hhc_kind.out
  go_wp2_with fail
  clear hcl
  refine (refPut B v2 L2 r.version 8 _ HO2.out (Nat.le_trans HBB.out HBW2.out.size) (by have := HLEN2.out; omega) HBD.out.2.1 (by omega)).mono ?_
  rintro e W3 ⟨v3, rfl, ho, hg⟩
  have HROW3 := Lib.hid (keep_row HO2.out hg (by decide) HROW2.out)
  have HBW3 := Lib.hid (HBW2.out.trans (below_of_grown HO2.out (Nat.le_trans HBB.out HBW2.out.size) hg))
  obtain ⟨L3, hL, hlen⟩ : ∃ L3, L3 = L2 ++ putL r.version 8 ∧ L3.length ≤ 2000000024 := ⟨_, rfl, by have := HLEN2.out; rw [List.length_append]; rw [putL_length]; omega⟩
  rw [← hL] at ho
  have HL3 := Lib.hid (hL.trans (congrArg (· ++ putL r.version 8) HL2.out))
  have HLEN3 := Lib.hid hlen
  have HO3 := Lib.hid ho
  clear ho hg hL hlen HROW2 HBW2 HL2 HLEN2 HO2
  clear L2
  clear hckind e1 e3
  have hcl := (cell_of_row _ w.heap.size 13 C _ _ HROW3.out).trans Hhc_expiry.out
  go_wp2_with fail
  clear hcl
  refine (refPut B v3 L3 r.expiry 8 _ HO3.out (Nat.le_trans HBB.out HBW3.out.size) (by have := HLEN3.out; omega) HBD.out.2.2 (by omega)).mono ?_
  rintro e W4 ⟨v4, rfl, ho, hg⟩
  have HROW4 := Lib.hid (keep_row HO3.out hg (by decide) HROW3.out)
  have HBW4 := Lib.hid (HBW3.out.trans (below_of_grown HO3.out (Nat.le_trans HBB.out HBW3.out.size) hg))
  obtain ⟨L4, hL, hlen⟩ : ∃ L4, L4 = L3 ++ putL r.expiry 8 ∧ L4.length ≤ 2000000032 := ⟨_, rfl, by have := HLEN3.out; rw [List.length_append]; rw [putL_length]; omega⟩
  rw [← hL] at ho
  have HL4 := Lib.hid (hL.trans (congrArg (· ++ putL r.expiry 8) HL3.out))
  have HLEN4 := Lib.hid hlen
  have HO4 := Lib.hid ho
  clear ho hg hL hlen HROW3 HBW3 HL3 HLEN3 HO3
  clear L3
  have hcl := (cell_of_row _ w.heap.size 10 C _ _ HROW4.out).trans Hhc_key.out
  go_wp2_with fail
  clear hcl
  refine (refText B v4 L4 r.key _ HO4.out (Nat.le_trans HBB.out HBW4.out.size) (by have := HLEN4.out; omega) (by have := HTX.out; unfold maxLen; omega)).mono ?_
  rintro e W5 ⟨v5, rfl, ho, hg⟩
  have HROW5 := Lib.hid (keep_row HO4.out hg (by decide) HROW4.out)
  have HBW5 := Lib.hid (HBW4.out.trans (below_of_grown HO4.out (Nat.le_trans HBB.out HBW4.out.size) hg))
  obtain ⟨L5, hL, hlen⟩ : ∃ L5, L5 = L4 ++ textL r.key.data.toList ∧ L5.length ≤ 2000350000 := ⟨_, rfl, by have := HLEN4.out; have := textL_len r.key.data.toList; rw [List.length_append]; omega⟩
  rw [← hL] at ho
  have HL5 := Lib.hid (hL.trans (congrArg (· ++ textL r.key.data.toList) HL4.out))
  have HLEN5 := Lib.hid hlen
  have HO5 := Lib.hid ho
  clear ho hg hL hlen HROW4 HBW4 HL4 HLEN4 HO4
  clear L4
  have hcl := (cell_of_row _ w.heap.size 11 C _ _ HROW5.out).trans Hhc_val.out
  go_wp2_with fail
  clear hcl
  refine (refText B v5 L5 r.val _ HO5.out (Nat.le_trans HBB.out HBW5.out.size) (by have := HLEN5.out; omega) (by have := HTX.out; unfold maxLen; omega)).mono ?_
  rintro e W6 ⟨v6, rfl, ho, hg⟩
  have HROW6 := Lib.hid (keep_row HO5.out hg (by decide) HROW5.out)
  have HBW6 := Lib.hid (HBW5.out.trans (below_of_grown HO5.out (Nat.le_trans HBB.out HBW5.out.size) hg))
  obtain ⟨L6, hL, hlen⟩ : ∃ L6, L6 = L5 ++ textL r.val.data.toList ∧ L6.length ≤ 2000420000 := ⟨_, rfl, by have := HLEN5.out; have := textL_len r.val.data.toList; rw [List.length_append]; omega⟩
  rw [← hL] at ho
  have HL6 := Lib.hid (hL.trans (congrArg (· ++ textL r.val.data.toList) HL5.out))
  have HLEN6 := Lib.hid hlen
  have HO6 := Lib.hid ho
  clear ho hg hL hlen HROW5 HBW5 HL5 HLEN5 HO5
  clear L5
  go_wp2
  go_ret
  exact ⟨v6, rfl, by rw [← HEQ.out, ← HL6.out]; exact HO6.out, HBW6.out⟩
set_option maxRecDepth 100000 in
set_option maxHeartbeats 4000000 in
theorem refBytes4 (B : Nat) (v : Value) (l : List UInt8) (r : Rec) (w : World) (hv : OwnB B w v l) (hB : B ≤ w.heap.size) (hl : l.length ≤ 2000000000) (hm : r.may = true) (hwf : r.wf) (h : r.kind = 4) :
    Calls Try.prog 44 #[v, r.v] w (PutsB B w (l ++ r.bytes)) := by
  obtain ⟨hk1, hk7, hb0, hb63, hgn, hbr⟩ := may_kind hm
  clear hgn hbr
  obtain ⟨wgen, wseq, wserial, wsecret, wversion, wexpiry⟩ := hwf
  obtain ⟨kd', hkd'⟩ := Int.eq_ofNat_of_zero_le (show 0 ≤ r.kind by omega)
  obtain ⟨bk', hbk'⟩ := Int.eq_ofNat_of_zero_le hb0
  obtain ⟨kd, hkd⟩ : ∃ x : UInt8, r.kind = (x.toNat : Int) := by
    obtain ⟨x, hx⟩ := byte_of kd' (by omega)
    exact ⟨x, by rw [hkd', hx]⟩
  obtain ⟨bk, hbk⟩ : ∃ x : UInt8, r.bucket = (x.toNat : Int) := by
    obtain ⟨x, hx⟩ := byte_of bk' (by omega)
    exact ⟨x, by rw [hbk', hx]⟩
  clear hkd' hbk'
  have htx := may_text hm (.inr h)
  have hw_kind : IntKind.u8.wrap (kd.toNat : Int) = (kd.toNat : Int) := by have := kd.toNat_lt; rw [IntKind.wrap_u8]; omega
  have hw_bucket : IntKind.u8.wrap (bk.toNat : Int) = (bk.toNat : Int) := by have := bk.toNat_lt; rw [IntKind.wrap_u8]; omega
  have hw_gen : IntKind.u64.wrap (r.gen : Int) = (r.gen : Int) := by rw [IntKind.wrap_u64]; omega
  have HBD := Lib.hid (show r.gen < 18446744073709551616 ∧ r.version < 18446744073709551616 from by refine ⟨?_, ?_⟩ <;> omega)
  have heq : l ++ [kd, bk] ++ putL r.gen 4 ++ putL r.version 8 ++ textL r.key.data.toList = l ++ r.bytes := by
    unfold Rec.bytes Rec.tailL
    rw [if_neg (by rw [h]; decide), if_neg (by rw [h]; decide), if_pos h, hkd, hbk]
    simp only [List.append_assoc, Int.toNat_natCast, putL_byte, List.cons_append, List.nil_append]
  have HEQ := Lib.hid heq
  have e1 : ((kd.toNat : Int) == 1) = false := by simp; omega
  have e3 : ((kd.toNat : Int) == 3) = false := by simp; omega
  have e4 : ((kd.toNat : Int) == 4) = true := by simp; omega
  unfold Rec.v
  have hc_kind : r.cells[0]? = some (.int .i64 (kd.toNat : Int)) := by show some (Value.int .i64 r.kind) = _; rw [hkd]
  have hc_bucket : r.cells[1]? = some (.int .i64 (bk.toNat : Int)) := by show some (Value.int .i64 r.bucket) = _; rw [hbk]
  have hc_gen : r.cells[2]? = some (.int .u32 (r.gen : Int)) := rfl
  have hc_version : r.cells[12]? = some (.int .u64 (r.version : Int)) := rfl
  have hc_key : r.cells[10]? = some (.string r.key) := rfl
  have HTX := Lib.hid htx
  generalize r.cells = C at *
  have Hhc_kind := Lib.hid hc_kind
  have Hhc_bucket := Lib.hid hc_bucket
  have Hhc_gen := Lib.hid hc_gen
  have Hhc_version := Lib.hid hc_version
  have Hhc_key := Lib.hid hc_key
  have HV := Lib.hid hv
  clear hv hm hk1 hk7 hb0 hb63 hkd hbk wgen wseq wserial wsecret wversion wexpiry heq h htx hc_gen hc_version hc_key
  have HROW0 := Lib.hid (heap_alloc_new w (.cells C 61))
  have HBB := Lib.hid hB
  have HBW0 := Lib.hid ((Below.refl B w).alloc hB (.cells C 61))
  obtain ⟨L0, hL0⟩ : ∃ L0, L0 = l := ⟨l, rfl⟩
  have HL0 := Lib.hid hL0
  have HLEN0 := Lib.hid (show L0.length ≤ 2000000000 by rw [hL0]; exact hl)
  have HO0 : Hid (OwnB B (w.alloc (.cells C 61)) v L0) := by rw [hL0]; exact HV.out.alloc _
  clear hL0 hl HV hB
  go_enter Try.func44, Try.ntmps44
  go_wp2_with (at_builtin; refine wpList_append_bytes rfl (.tmp 5) (.tmp 12) 22 rfl B v L0 rfl (HO0.out.alloc _) _ [kd, bk] rfl (SrcB.ofBytes 2 (isBytes_at _ _ _ _ [kd, bk] _ (by simp) rfl)) ?c1 ?c2 ?hh1)
  case c1 => exact Nat.le_trans HBB.out (Nat.le_trans HBW0.out.size (by simp))
  case c2 => have := HLEN0.out; simp; omega
  intro v1 W1 ho hg
  have hrow := keep_row (t := 61) (HO0.out.alloc (.cells #[.int .u8 (kd.toNat : Int), .int .u8 (bk.toNat : Int)] 5)) hg (by decide) (row_alloc HROW0.out _)
  have HROW1 := Lib.hid hrow
  have HBW1 := Lib.hid (HBW0.out.trans (((Below.refl B _).alloc (Nat.le_trans HBB.out HBW0.out.size) _).trans (below_of_grown (HO0.out.alloc _) (Nat.le_trans HBB.out (Nat.le_trans HBW0.out.size (by simp))) hg)))
  obtain ⟨L1, hL, hlen⟩ : ∃ L1, L1 = L0 ++ [kd, bk] ∧ L1.length ≤ 2000000008 := ⟨_, rfl, by have := HLEN0.out; rw [List.length_append]; simp; omega⟩
  rw [← hL] at ho
  have HL1 := Lib.hid (hL.trans (congrArg (· ++ [kd, bk]) HL0.out))
  have HLEN1 := Lib.hid hlen
  have HO1 := Lib.hid ho
  clear hrow hg ho hL hlen HROW0 HBW0 HL0 HLEN0 HO0 hw_kind hw_bucket hc_kind hc_bucket
  clear L0
  have hcl := (cell_of_row _ w.heap.size 2 C _ _ HROW1.out).trans Hhc_gen.out
  go_wp2_with fail
  clear hcl
  refine (refPut B v1 L1 r.gen 4 _ HO1.out (Nat.le_trans HBB.out HBW1.out.size) (by have := HLEN1.out; omega) HBD.out.1 (by omega)).mono ?_
  rintro e W2 ⟨v2, rfl, ho, hg⟩
  have HROW2 := Lib.hid (keep_row HO1.out hg (by decide) HROW1.out)
  have HBW2 := Lib.hid (HBW1.out.trans (below_of_grown HO1.out (Nat.le_trans HBB.out HBW1.out.size) hg))
  obtain ⟨L2, hL, hlen⟩ : ∃ L2, L2 = L1 ++ putL r.gen 4 ∧ L2.length ≤ 2000000016 := ⟨_, rfl, by have := HLEN1.out; rw [List.length_append]; rw [putL_length]; omega⟩
  rw [← hL] at ho
  have HL2 := Lib.hid (hL.trans (congrArg (· ++ putL r.gen 4) HL1.out))
  have HLEN2 := Lib.hid hlen
  have HO2 := Lib.hid ho
  clear ho hg hL hlen HROW1 HBW1 HL1 HLEN1 HO1 hw_gen
  clear L1
  have hcl := (cell_of_row _ w.heap.size 12 C _ _ HROW2.out).trans Hhc_version.out
  have hckind := (cell_of_row _ w.heap.size 0 C _ _ HROW2.out).trans Hhc_kind.out
  go_wp2_with fail
  clear hcl
  refine (refPut B v2 L2 r.version 8 _ HO2.out (Nat.le_trans HBB.out HBW2.out.size) (by have := HLEN2.out; omega) HBD.out.2 (by omega)).mono ?_
  rintro e W3 ⟨v3, rfl, ho, hg⟩
  have HROW3 := Lib.hid (keep_row HO2.out hg (by decide) HROW2.out)
  have HBW3 := Lib.hid (HBW2.out.trans (below_of_grown HO2.out (Nat.le_trans HBB.out HBW2.out.size) hg))
  obtain ⟨L3, hL, hlen⟩ : ∃ L3, L3 = L2 ++ putL r.version 8 ∧ L3.length ≤ 2000000024 := ⟨_, rfl, by have := HLEN2.out; rw [List.length_append]; rw [putL_length]; omega⟩
  rw [← hL] at ho
  have HL3 := Lib.hid (hL.trans (congrArg (· ++ putL r.version 8) HL2.out))
  have HLEN3 := Lib.hid hlen
  have HO3 := Lib.hid ho
  clear ho hg hL hlen HROW2 HBW2 HL2 HLEN2 HO2
  clear L2
  clear hckind e1 e3 e4
  have hcl := (cell_of_row _ w.heap.size 10 C _ _ HROW3.out).trans Hhc_key.out
  go_wp2_with fail
  clear hcl
  refine (refText B v3 L3 r.key _ HO3.out (Nat.le_trans HBB.out HBW3.out.size) (by have := HLEN3.out; omega) (by have := HTX.out; unfold maxLen; omega)).mono ?_
  rintro e W4 ⟨v4, rfl, ho, hg⟩
  have HROW4 := Lib.hid (keep_row HO3.out hg (by decide) HROW3.out)
  have HBW4 := Lib.hid (HBW3.out.trans (below_of_grown HO3.out (Nat.le_trans HBB.out HBW3.out.size) hg))
  obtain ⟨L4, hL, hlen⟩ : ∃ L4, L4 = L3 ++ textL r.key.data.toList ∧ L4.length ≤ 2000280000 := ⟨_, rfl, by have := HLEN3.out; have := textL_len r.key.data.toList; rw [List.length_append]; omega⟩
  rw [← hL] at ho
  have HL4 := Lib.hid (hL.trans (congrArg (· ++ textL r.key.data.toList) HL3.out))
  have HLEN4 := Lib.hid hlen
  have HO4 := Lib.hid ho
  clear ho hg hL hlen HROW3 HBW3 HL3 HLEN3 HO3
  clear L3
  go_wp2
  go_ret
  exact ⟨v4, rfl, by rw [← HEQ.out, ← HL4.out]; exact HO4.out, HBW4.out⟩
set_option maxRecDepth 100000 in
set_option maxHeartbeats 4000000 in
theorem refBytes5 (B : Nat) (v : Value) (l : List UInt8) (r : Rec) (w : World) (hv : OwnB B w v l) (hB : B ≤ w.heap.size) (hl : l.length ≤ 2000000000) (hm : r.may = true) (hwf : r.wf) (h : r.kind = 5) :
    Calls Try.prog 44 #[v, r.v] w (PutsB B w (l ++ r.bytes)) := by
  obtain ⟨hk1, hk7, hb0, hb63, hgn, hbr⟩ := may_kind hm
  clear hgn hbr
  obtain ⟨wgen, wseq, wserial, wsecret, wversion, wexpiry⟩ := hwf
  obtain ⟨kd', hkd'⟩ := Int.eq_ofNat_of_zero_le (show 0 ≤ r.kind by omega)
  obtain ⟨bk', hbk'⟩ := Int.eq_ofNat_of_zero_le hb0
  obtain ⟨kd, hkd⟩ : ∃ x : UInt8, r.kind = (x.toNat : Int) := by
    obtain ⟨x, hx⟩ := byte_of kd' (by omega)
    exact ⟨x, by rw [hkd', hx]⟩
  obtain ⟨bk, hbk⟩ : ∃ x : UInt8, r.bucket = (x.toNat : Int) := by
    obtain ⟨x, hx⟩ := byte_of bk' (by omega)
    exact ⟨x, by rw [hbk', hx]⟩
  clear hkd' hbk'
  obtain ⟨hr1, hr7⟩ := may_rights hm h
  obtain ⟨nr', hnr'⟩ := Int.eq_ofNat_of_zero_le (show 0 ≤ r.rights by omega)
  obtain ⟨nr, hnr⟩ : ∃ x : UInt8, r.rights = (x.toNat : Int) := by
    obtain ⟨x, hx⟩ := byte_of nr' (by omega)
    exact ⟨x, by rw [hnr', hx]⟩
  clear hnr'
  have hw_kind : IntKind.u8.wrap (kd.toNat : Int) = (kd.toNat : Int) := by have := kd.toNat_lt; rw [IntKind.wrap_u8]; omega
  have hw_bucket : IntKind.u8.wrap (bk.toNat : Int) = (bk.toNat : Int) := by have := bk.toNat_lt; rw [IntKind.wrap_u8]; omega
  have hw_gen : IntKind.u64.wrap (r.gen : Int) = (r.gen : Int) := by rw [IntKind.wrap_u64]; omega
  have hw_serial : IntKind.u64.wrap (r.serial : Int) = (r.serial : Int) := by rw [IntKind.wrap_u64]; omega
  have hw_rights : IntKind.u8.wrap (nr.toNat : Int) = (nr.toNat : Int) := by have := nr.toNat_lt; rw [IntKind.wrap_u8]; omega
  have HBD := Lib.hid (show r.gen < 18446744073709551616 ∧ r.serial < 18446744073709551616 ∧ r.secret < 18446744073709551616 from by refine ⟨?_, ?_, ?_⟩ <;> omega)
  have heq : l ++ [kd, bk] ++ putL r.gen 4 ++ putL r.serial 4 ++ [nr] ++ putL r.secret 8 = l ++ r.bytes := by
    unfold Rec.bytes Rec.tailL
    rw [if_neg (by rw [h]; decide), if_neg (by rw [h]; decide), if_neg (by rw [h]; decide), if_pos h, hkd, hbk, hnr]
    simp only [List.append_assoc, Int.toNat_natCast, putL_byte, List.cons_append, List.nil_append]
  have HEQ := Lib.hid heq
  have e1 : ((kd.toNat : Int) == 1) = false := by simp; omega
  have e3 : ((kd.toNat : Int) == 3) = false := by simp; omega
  have e4 : ((kd.toNat : Int) == 4) = false := by simp; omega
  have e5 : ((kd.toNat : Int) == 5) = true := by simp; omega
  unfold Rec.v
  have hc_kind : r.cells[0]? = some (.int .i64 (kd.toNat : Int)) := by show some (Value.int .i64 r.kind) = _; rw [hkd]
  have hc_bucket : r.cells[1]? = some (.int .i64 (bk.toNat : Int)) := by show some (Value.int .i64 r.bucket) = _; rw [hbk]
  have hc_gen : r.cells[2]? = some (.int .u32 (r.gen : Int)) := rfl
  have hc_serial : r.cells[7]? = some (.int .u32 (r.serial : Int)) := rfl
  have hc_rights : r.cells[8]? = some (.int .i64 (nr.toNat : Int)) := by show some (Value.int .i64 r.rights) = _; rw [hnr]
  have hc_secret : r.cells[9]? = some (.int .u64 (r.secret : Int)) := rfl
  generalize r.cells = C at *
  have Hhc_kind := Lib.hid hc_kind
  have Hhc_bucket := Lib.hid hc_bucket
  have Hhc_gen := Lib.hid hc_gen
  have Hhc_serial := Lib.hid hc_serial
  have Hhc_rights := Lib.hid hc_rights
  have Hhc_secret := Lib.hid hc_secret
  have HV := Lib.hid hv
  clear hv hm hk1 hk7 hb0 hb63 hkd hbk wgen wseq wserial wsecret wversion wexpiry heq h hr1 hr7 hnr hc_gen hc_serial hc_rights hc_secret
  have HROW0 := Lib.hid (heap_alloc_new w (.cells C 61))
  have HBB := Lib.hid hB
  have HBW0 := Lib.hid ((Below.refl B w).alloc hB (.cells C 61))
  obtain ⟨L0, hL0⟩ : ∃ L0, L0 = l := ⟨l, rfl⟩
  have HL0 := Lib.hid hL0
  have HLEN0 := Lib.hid (show L0.length ≤ 2000000000 by rw [hL0]; exact hl)
  have HO0 : Hid (OwnB B (w.alloc (.cells C 61)) v L0) := by rw [hL0]; exact HV.out.alloc _
  clear hL0 hl HV hB
  go_enter Try.func44, Try.ntmps44
  go_wp2_with (at_builtin; refine wpList_append_bytes rfl (.tmp 5) (.tmp 12) 22 rfl B v L0 rfl (HO0.out.alloc _) _ [kd, bk] rfl (SrcB.ofBytes 2 (isBytes_at _ _ _ _ [kd, bk] _ (by simp) rfl)) ?c1 ?c2 ?hh1)
  case c1 => exact Nat.le_trans HBB.out (Nat.le_trans HBW0.out.size (by simp))
  case c2 => have := HLEN0.out; simp; omega
  intro v1 W1 ho hg
  have hrow := keep_row (t := 61) (HO0.out.alloc (.cells #[.int .u8 (kd.toNat : Int), .int .u8 (bk.toNat : Int)] 5)) hg (by decide) (row_alloc HROW0.out _)
  have HROW1 := Lib.hid hrow
  have HBW1 := Lib.hid (HBW0.out.trans (((Below.refl B _).alloc (Nat.le_trans HBB.out HBW0.out.size) _).trans (below_of_grown (HO0.out.alloc _) (Nat.le_trans HBB.out (Nat.le_trans HBW0.out.size (by simp))) hg)))
  obtain ⟨L1, hL, hlen⟩ : ∃ L1, L1 = L0 ++ [kd, bk] ∧ L1.length ≤ 2000000008 := ⟨_, rfl, by have := HLEN0.out; rw [List.length_append]; simp; omega⟩
  rw [← hL] at ho
  have HL1 := Lib.hid (hL.trans (congrArg (· ++ [kd, bk]) HL0.out))
  have HLEN1 := Lib.hid hlen
  have HO1 := Lib.hid ho
  clear hrow hg ho hL hlen HROW0 HBW0 HL0 HLEN0 HO0 hw_kind hw_bucket hc_kind hc_bucket
  clear L0
  have hcl := (cell_of_row _ w.heap.size 2 C _ _ HROW1.out).trans Hhc_gen.out
  go_wp2_with fail
  clear hcl
  refine (refPut B v1 L1 r.gen 4 _ HO1.out (Nat.le_trans HBB.out HBW1.out.size) (by have := HLEN1.out; omega) HBD.out.1 (by omega)).mono ?_
  rintro e W2 ⟨v2, rfl, ho, hg⟩
  have HROW2 := Lib.hid (keep_row HO1.out hg (by decide) HROW1.out)
  have HBW2 := Lib.hid (HBW1.out.trans (below_of_grown HO1.out (Nat.le_trans HBB.out HBW1.out.size) hg))
  obtain ⟨L2, hL, hlen⟩ : ∃ L2, L2 = L1 ++ putL r.gen 4 ∧ L2.length ≤ 2000000016 := ⟨_, rfl, by have := HLEN1.out; rw [List.length_append]; rw [putL_length]; omega⟩
  rw [← hL] at ho
  have HL2 := Lib.hid (hL.trans (congrArg (· ++ putL r.gen 4) HL1.out))
  have HLEN2 := Lib.hid hlen
  have HO2 := Lib.hid ho
  clear ho hg hL hlen HROW1 HBW1 HL1 HLEN1 HO1 hw_gen
  clear L1
  have hcl := (cell_of_row _ w.heap.size 7 C _ _ HROW2.out).trans Hhc_serial.out
  have hckind := (cell_of_row _ w.heap.size 0 C _ _ HROW2.out).trans Hhc_kind.out
  go_wp2_with fail
  clear hcl
  refine (refPut B v2 L2 r.serial 4 _ HO2.out (Nat.le_trans HBB.out HBW2.out.size) (by have := HLEN2.out; omega) HBD.out.2.1 (by omega)).mono ?_
  rintro e W3 ⟨v3, rfl, ho, hg⟩
  have HROW3 := Lib.hid (keep_row HO2.out hg (by decide) HROW2.out)
  have HBW3 := Lib.hid (HBW2.out.trans (below_of_grown HO2.out (Nat.le_trans HBB.out HBW2.out.size) hg))
  obtain ⟨L3, hL, hlen⟩ : ∃ L3, L3 = L2 ++ putL r.serial 4 ∧ L3.length ≤ 2000000024 := ⟨_, rfl, by have := HLEN2.out; rw [List.length_append]; rw [putL_length]; omega⟩
  rw [← hL] at ho
  have HL3 := Lib.hid (hL.trans (congrArg (· ++ putL r.serial 4) HL2.out))
  have HLEN3 := Lib.hid hlen
  have HO3 := Lib.hid ho
  clear ho hg hL hlen HROW2 HBW2 HL2 HLEN2 HO2 hw_serial
  clear L2
  clear hckind e1 e3 e4 e5
  have hcl := (cell_of_row _ w.heap.size 8 C _ _ HROW3.out).trans Hhc_rights.out
  go_wp2_with (at_builtin; refine wpList_append_bytes rfl (.tmp 85) (.tmp 89) 22 rfl B v3 L3 rfl (HO3.out.alloc _) _ [nr] rfl (SrcB.ofBytes 1 (isBytes_at _ _ _ _ [nr] _ (by simp) rfl)) ?c3 ?c4 ?hh2)
  case c3 => exact Nat.le_trans HBB.out (Nat.le_trans HBW3.out.size (by simp))
  case c4 => have := HLEN3.out; simp; omega
  clear hcl
  intro v4 W4 ho hg
  have HROW4 := Lib.hid (keep_row (t := 61) (HO3.out.alloc (.cells #[.int .u8 (nr.toNat : Int)] 5)) hg (by decide) (row_alloc HROW3.out _))
  have HBW4 := Lib.hid (HBW3.out.trans (((Below.refl B _).alloc (Nat.le_trans HBB.out HBW3.out.size) _).trans (below_of_grown (HO3.out.alloc _) (Nat.le_trans HBB.out (Nat.le_trans HBW3.out.size (by simp))) hg)))
  obtain ⟨L4, hL, hlen⟩ : ∃ L4, L4 = L3 ++ [nr] ∧ L4.length ≤ 2000000032 := ⟨_, rfl, by have := HLEN3.out; rw [List.length_append]; simp; omega⟩
  rw [← hL] at ho
  have HL4 := Lib.hid (hL.trans (congrArg (· ++ [nr]) HL3.out))
  have HLEN4 := Lib.hid hlen
  have HO4 := Lib.hid ho
  clear ho hg hL hlen HROW3 HBW3 HL3 HLEN3 HO3 hw_rights
  clear L3
  have hcl := (cell_of_row _ w.heap.size 9 C _ _ HROW4.out).trans Hhc_secret.out
  go_wp2_with fail
  clear hcl
  refine (refPut B v4 L4 r.secret 8 _ HO4.out (Nat.le_trans HBB.out HBW4.out.size) (by have := HLEN4.out; omega) HBD.out.2.2 (by omega)).mono ?_
  rintro e W5 ⟨v5, rfl, ho, hg⟩
  have HROW5 := Lib.hid (keep_row HO4.out hg (by decide) HROW4.out)
  have HBW5 := Lib.hid (HBW4.out.trans (below_of_grown HO4.out (Nat.le_trans HBB.out HBW4.out.size) hg))
  obtain ⟨L5, hL, hlen⟩ : ∃ L5, L5 = L4 ++ putL r.secret 8 ∧ L5.length ≤ 2000000040 := ⟨_, rfl, by have := HLEN4.out; rw [List.length_append]; rw [putL_length]; omega⟩
  rw [← hL] at ho
  have HL5 := Lib.hid (hL.trans (congrArg (· ++ putL r.secret 8) HL4.out))
  have HLEN5 := Lib.hid hlen
  have HO5 := Lib.hid ho
  clear ho hg hL hlen HROW4 HBW4 HL4 HLEN4 HO4
  clear L4
  go_wp2
  go_ret
  exact ⟨v5, rfl, by rw [← HEQ.out, ← HL5.out]; exact HO5.out, HBW5.out⟩
set_option maxRecDepth 100000 in
set_option maxHeartbeats 4000000 in
theorem refBytes6 (B : Nat) (v : Value) (l : List UInt8) (r : Rec) (w : World) (hv : OwnB B w v l) (hB : B ≤ w.heap.size) (hl : l.length ≤ 2000000000) (hm : r.may = true) (hwf : r.wf) (h : r.kind = 6) :
    Calls Try.prog 44 #[v, r.v] w (PutsB B w (l ++ r.bytes)) := by
  obtain ⟨hk1, hk7, hb0, hb63, hgn, hbr⟩ := may_kind hm
  clear hgn hbr
  obtain ⟨wgen, wseq, wserial, wsecret, wversion, wexpiry⟩ := hwf
  obtain ⟨kd', hkd'⟩ := Int.eq_ofNat_of_zero_le (show 0 ≤ r.kind by omega)
  obtain ⟨bk', hbk'⟩ := Int.eq_ofNat_of_zero_le hb0
  obtain ⟨kd, hkd⟩ : ∃ x : UInt8, r.kind = (x.toNat : Int) := by
    obtain ⟨x, hx⟩ := byte_of kd' (by omega)
    exact ⟨x, by rw [hkd', hx]⟩
  obtain ⟨bk, hbk⟩ : ∃ x : UInt8, r.bucket = (x.toNat : Int) := by
    obtain ⟨x, hx⟩ := byte_of bk' (by omega)
    exact ⟨x, by rw [hbk', hx]⟩
  clear hkd' hbk'
  have hw_kind : IntKind.u8.wrap (kd.toNat : Int) = (kd.toNat : Int) := by have := kd.toNat_lt; rw [IntKind.wrap_u8]; omega
  have hw_bucket : IntKind.u8.wrap (bk.toNat : Int) = (bk.toNat : Int) := by have := bk.toNat_lt; rw [IntKind.wrap_u8]; omega
  have hw_gen : IntKind.u64.wrap (r.gen : Int) = (r.gen : Int) := by rw [IntKind.wrap_u64]; omega
  have hw_serial : IntKind.u64.wrap (r.serial : Int) = (r.serial : Int) := by rw [IntKind.wrap_u64]; omega
  have HBD := Lib.hid (show r.gen < 18446744073709551616 ∧ r.serial < 18446744073709551616 from by refine ⟨?_, ?_⟩ <;> omega)
  have heq : l ++ [kd, bk] ++ putL r.gen 4 ++ putL r.serial 4 = l ++ r.bytes := by
    unfold Rec.bytes Rec.tailL
    rw [if_neg (by rw [h]; decide), if_neg (by rw [h]; decide), if_neg (by rw [h]; decide), if_neg (by rw [h]; decide), if_pos h, hkd, hbk]
    simp only [List.append_assoc, Int.toNat_natCast, putL_byte, List.cons_append, List.nil_append]
  have HEQ := Lib.hid heq
  have e1 : ((kd.toNat : Int) == 1) = false := by simp; omega
  have e3 : ((kd.toNat : Int) == 3) = false := by simp; omega
  have e4 : ((kd.toNat : Int) == 4) = false := by simp; omega
  have e5 : ((kd.toNat : Int) == 5) = false := by simp; omega
  have e6 : ((kd.toNat : Int) == 6) = true := by simp; omega
  unfold Rec.v
  have hc_kind : r.cells[0]? = some (.int .i64 (kd.toNat : Int)) := by show some (Value.int .i64 r.kind) = _; rw [hkd]
  have hc_bucket : r.cells[1]? = some (.int .i64 (bk.toNat : Int)) := by show some (Value.int .i64 r.bucket) = _; rw [hbk]
  have hc_gen : r.cells[2]? = some (.int .u32 (r.gen : Int)) := rfl
  have hc_serial : r.cells[7]? = some (.int .u32 (r.serial : Int)) := rfl
  generalize r.cells = C at *
  have Hhc_kind := Lib.hid hc_kind
  have Hhc_bucket := Lib.hid hc_bucket
  have Hhc_gen := Lib.hid hc_gen
  have Hhc_serial := Lib.hid hc_serial
  have HV := Lib.hid hv
  clear hv hm hk1 hk7 hb0 hb63 hkd hbk wgen wseq wserial wsecret wversion wexpiry heq h hc_gen hc_serial
  have HROW0 := Lib.hid (heap_alloc_new w (.cells C 61))
  have HBB := Lib.hid hB
  have HBW0 := Lib.hid ((Below.refl B w).alloc hB (.cells C 61))
  obtain ⟨L0, hL0⟩ : ∃ L0, L0 = l := ⟨l, rfl⟩
  have HL0 := Lib.hid hL0
  have HLEN0 := Lib.hid (show L0.length ≤ 2000000000 by rw [hL0]; exact hl)
  have HO0 : Hid (OwnB B (w.alloc (.cells C 61)) v L0) := by rw [hL0]; exact HV.out.alloc _
  clear hL0 hl HV hB
  go_enter Try.func44, Try.ntmps44
  go_wp2_with (at_builtin; refine wpList_append_bytes rfl (.tmp 5) (.tmp 12) 22 rfl B v L0 rfl (HO0.out.alloc _) _ [kd, bk] rfl (SrcB.ofBytes 2 (isBytes_at _ _ _ _ [kd, bk] _ (by simp) rfl)) ?c1 ?c2 ?hh1)
  case c1 => exact Nat.le_trans HBB.out (Nat.le_trans HBW0.out.size (by simp))
  case c2 => have := HLEN0.out; simp; omega
  intro v1 W1 ho hg
  have hrow := keep_row (t := 61) (HO0.out.alloc (.cells #[.int .u8 (kd.toNat : Int), .int .u8 (bk.toNat : Int)] 5)) hg (by decide) (row_alloc HROW0.out _)
  have HROW1 := Lib.hid hrow
  have HBW1 := Lib.hid (HBW0.out.trans (((Below.refl B _).alloc (Nat.le_trans HBB.out HBW0.out.size) _).trans (below_of_grown (HO0.out.alloc _) (Nat.le_trans HBB.out (Nat.le_trans HBW0.out.size (by simp))) hg)))
  obtain ⟨L1, hL, hlen⟩ : ∃ L1, L1 = L0 ++ [kd, bk] ∧ L1.length ≤ 2000000008 := ⟨_, rfl, by have := HLEN0.out; rw [List.length_append]; simp; omega⟩
  rw [← hL] at ho
  have HL1 := Lib.hid (hL.trans (congrArg (· ++ [kd, bk]) HL0.out))
  have HLEN1 := Lib.hid hlen
  have HO1 := Lib.hid ho
  clear hrow hg ho hL hlen HROW0 HBW0 HL0 HLEN0 HO0 hw_kind hw_bucket hc_kind hc_bucket
  clear L0
  have hcl := (cell_of_row _ w.heap.size 2 C _ _ HROW1.out).trans Hhc_gen.out
  go_wp2_with fail
  clear hcl
  refine (refPut B v1 L1 r.gen 4 _ HO1.out (Nat.le_trans HBB.out HBW1.out.size) (by have := HLEN1.out; omega) HBD.out.1 (by omega)).mono ?_
  rintro e W2 ⟨v2, rfl, ho, hg⟩
  have HROW2 := Lib.hid (keep_row HO1.out hg (by decide) HROW1.out)
  have HBW2 := Lib.hid (HBW1.out.trans (below_of_grown HO1.out (Nat.le_trans HBB.out HBW1.out.size) hg))
  obtain ⟨L2, hL, hlen⟩ : ∃ L2, L2 = L1 ++ putL r.gen 4 ∧ L2.length ≤ 2000000016 := ⟨_, rfl, by have := HLEN1.out; rw [List.length_append]; rw [putL_length]; omega⟩
  rw [← hL] at ho
  have HL2 := Lib.hid (hL.trans (congrArg (· ++ putL r.gen 4) HL1.out))
  have HLEN2 := Lib.hid hlen
  have HO2 := Lib.hid ho
  clear ho hg hL hlen HROW1 HBW1 HL1 HLEN1 HO1 hw_gen
  clear L1
  have hcl := (cell_of_row _ w.heap.size 7 C _ _ HROW2.out).trans Hhc_serial.out
  have hckind := (cell_of_row _ w.heap.size 0 C _ _ HROW2.out).trans Hhc_kind.out
  go_wp2_with fail
  clear hcl
  refine (refPut B v2 L2 r.serial 4 _ HO2.out (Nat.le_trans HBB.out HBW2.out.size) (by have := HLEN2.out; omega) HBD.out.2 (by omega)).mono ?_
  rintro e W3 ⟨v3, rfl, ho, hg⟩
  have HROW3 := Lib.hid (keep_row HO2.out hg (by decide) HROW2.out)
  have HBW3 := Lib.hid (HBW2.out.trans (below_of_grown HO2.out (Nat.le_trans HBB.out HBW2.out.size) hg))
  obtain ⟨L3, hL, hlen⟩ : ∃ L3, L3 = L2 ++ putL r.serial 4 ∧ L3.length ≤ 2000000024 := ⟨_, rfl, by have := HLEN2.out; rw [List.length_append]; rw [putL_length]; omega⟩
  rw [← hL] at ho
  have HL3 := Lib.hid (hL.trans (congrArg (· ++ putL r.serial 4) HL2.out))
  have HLEN3 := Lib.hid hlen
  have HO3 := Lib.hid ho
  clear ho hg hL hlen HROW2 HBW2 HL2 HLEN2 HO2 hw_serial
  clear L2
  clear hckind e1 e3 e4 e5 e6
  go_wp2
  go_ret
  exact ⟨v3, rfl, by rw [← HEQ.out, ← HL3.out]; exact HO3.out, HBW3.out⟩
set_option maxRecDepth 100000 in
set_option maxHeartbeats 4000000 in
theorem refBytes0 (B : Nat) (v : Value) (l : List UInt8) (r : Rec) (w : World) (hv : OwnB B w v l) (hB : B ≤ w.heap.size) (hl : l.length ≤ 2000000000) (hm : r.may = true) (hwf : r.wf) (g1 : r.kind ≠ 1) (g3 : r.kind ≠ 3) (g4 : r.kind ≠ 4) (g5 : r.kind ≠ 5) (g6 : r.kind ≠ 6) :
    Calls Try.prog 44 #[v, r.v] w (PutsB B w (l ++ r.bytes)) := by
  obtain ⟨hk1, hk7, hb0, hb63, hgn, hbr⟩ := may_kind hm
  clear hgn hbr
  obtain ⟨wgen, wseq, wserial, wsecret, wversion, wexpiry⟩ := hwf
  obtain ⟨kd', hkd'⟩ := Int.eq_ofNat_of_zero_le (show 0 ≤ r.kind by omega)
  obtain ⟨bk', hbk'⟩ := Int.eq_ofNat_of_zero_le hb0
  obtain ⟨kd, hkd⟩ : ∃ x : UInt8, r.kind = (x.toNat : Int) := by
    obtain ⟨x, hx⟩ := byte_of kd' (by omega)
    exact ⟨x, by rw [hkd', hx]⟩
  obtain ⟨bk, hbk⟩ : ∃ x : UInt8, r.bucket = (x.toNat : Int) := by
    obtain ⟨x, hx⟩ := byte_of bk' (by omega)
    exact ⟨x, by rw [hbk', hx]⟩
  clear hkd' hbk'
  have hw_kind : IntKind.u8.wrap (kd.toNat : Int) = (kd.toNat : Int) := by have := kd.toNat_lt; rw [IntKind.wrap_u8]; omega
  have hw_bucket : IntKind.u8.wrap (bk.toNat : Int) = (bk.toNat : Int) := by have := bk.toNat_lt; rw [IntKind.wrap_u8]; omega
  have hw_gen : IntKind.u64.wrap (r.gen : Int) = (r.gen : Int) := by rw [IntKind.wrap_u64]; omega
  have HBD := Lib.hid (show r.gen < 18446744073709551616 from by omega)
  have heq : l ++ [kd, bk] ++ putL r.gen 4 = l ++ r.bytes := by
    unfold Rec.bytes Rec.tailL
    rw [if_neg g1, if_neg g3, if_neg g4, if_neg g5, if_neg g6, hkd, hbk]
    simp only [List.append_assoc, Int.toNat_natCast, putL_byte, List.cons_append, List.nil_append, List.append_nil]
  have HEQ := Lib.hid heq
  have e1 : ((kd.toNat : Int) == 1) = false := by simp; omega
  have e3 : ((kd.toNat : Int) == 3) = false := by simp; omega
  have e4 : ((kd.toNat : Int) == 4) = false := by simp; omega
  have e5 : ((kd.toNat : Int) == 5) = false := by simp; omega
  have e6 : ((kd.toNat : Int) == 6) = false := by simp; omega
  unfold Rec.v
  have hc_kind : r.cells[0]? = some (.int .i64 (kd.toNat : Int)) := by show some (Value.int .i64 r.kind) = _; rw [hkd]
  have hc_bucket : r.cells[1]? = some (.int .i64 (bk.toNat : Int)) := by show some (Value.int .i64 r.bucket) = _; rw [hbk]
  have hc_gen : r.cells[2]? = some (.int .u32 (r.gen : Int)) := rfl
  generalize r.cells = C at *
  have Hhc_kind := Lib.hid hc_kind
  have Hhc_bucket := Lib.hid hc_bucket
  have Hhc_gen := Lib.hid hc_gen
  have HV := Lib.hid hv
  clear hv hm hk1 hk7 hb0 hb63 hkd hbk wgen wseq wserial wsecret wversion wexpiry heq g1 g3 g4 g5 g6 hc_gen
  have HROW0 := Lib.hid (heap_alloc_new w (.cells C 61))
  have HBB := Lib.hid hB
  have HBW0 := Lib.hid ((Below.refl B w).alloc hB (.cells C 61))
  obtain ⟨L0, hL0⟩ : ∃ L0, L0 = l := ⟨l, rfl⟩
  have HL0 := Lib.hid hL0
  have HLEN0 := Lib.hid (show L0.length ≤ 2000000000 by rw [hL0]; exact hl)
  have HO0 : Hid (OwnB B (w.alloc (.cells C 61)) v L0) := by rw [hL0]; exact HV.out.alloc _
  clear hL0 hl HV hB
  go_enter Try.func44, Try.ntmps44
  go_wp2_with (at_builtin; refine wpList_append_bytes rfl (.tmp 5) (.tmp 12) 22 rfl B v L0 rfl (HO0.out.alloc _) _ [kd, bk] rfl (SrcB.ofBytes 2 (isBytes_at _ _ _ _ [kd, bk] _ (by simp) rfl)) ?c1 ?c2 ?hh1)
  case c1 => exact Nat.le_trans HBB.out (Nat.le_trans HBW0.out.size (by simp))
  case c2 => have := HLEN0.out; simp; omega
  intro v1 W1 ho hg
  have hrow := keep_row (t := 61) (HO0.out.alloc (.cells #[.int .u8 (kd.toNat : Int), .int .u8 (bk.toNat : Int)] 5)) hg (by decide) (row_alloc HROW0.out _)
  have HROW1 := Lib.hid hrow
  have HBW1 := Lib.hid (HBW0.out.trans (((Below.refl B _).alloc (Nat.le_trans HBB.out HBW0.out.size) _).trans (below_of_grown (HO0.out.alloc _) (Nat.le_trans HBB.out (Nat.le_trans HBW0.out.size (by simp))) hg)))
  obtain ⟨L1, hL, hlen⟩ : ∃ L1, L1 = L0 ++ [kd, bk] ∧ L1.length ≤ 2000000008 := ⟨_, rfl, by have := HLEN0.out; rw [List.length_append]; simp; omega⟩
  rw [← hL] at ho
  have HL1 := Lib.hid (hL.trans (congrArg (· ++ [kd, bk]) HL0.out))
  have HLEN1 := Lib.hid hlen
  have HO1 := Lib.hid ho
  clear hrow hg ho hL hlen HROW0 HBW0 HL0 HLEN0 HO0 hw_kind hw_bucket hc_kind hc_bucket
  clear L0
  have hcl := (cell_of_row _ w.heap.size 2 C _ _ HROW1.out).trans Hhc_gen.out
  go_wp2_with fail
  clear hcl
  refine (refPut B v1 L1 r.gen 4 _ HO1.out (Nat.le_trans HBB.out HBW1.out.size) (by have := HLEN1.out; omega) HBD.out (by omega)).mono ?_
  rintro e W2 ⟨v2, rfl, ho, hg⟩
  have HROW2 := Lib.hid (keep_row HO1.out hg (by decide) HROW1.out)
  have HBW2 := Lib.hid (HBW1.out.trans (below_of_grown HO1.out (Nat.le_trans HBB.out HBW1.out.size) hg))
  obtain ⟨L2, hL, hlen⟩ : ∃ L2, L2 = L1 ++ putL r.gen 4 ∧ L2.length ≤ 2000000016 := ⟨_, rfl, by have := HLEN1.out; rw [List.length_append]; rw [putL_length]; omega⟩
  rw [← hL] at ho
  have HL2 := Lib.hid (hL.trans (congrArg (· ++ putL r.gen 4) HL1.out))
  have HLEN2 := Lib.hid hlen
  have HO2 := Lib.hid ho
  clear ho hg hL hlen HROW1 HBW1 HL1 HLEN1 HO1 hw_gen
  clear L1
  have hckind := (cell_of_row _ w.heap.size 0 C _ _ HROW2.out).trans Hhc_kind.out
  go_wp2
  go_ret
  exact ⟨v2, rfl, by rw [← HEQ.out, ← HL2.out]; exact HO2.out, HBW2.out⟩
theorem refBytes (B : Nat) (v : Value) (l : List UInt8) (r : Rec) (w : World) (hv : OwnB B w v l) (hB : B ≤ w.heap.size) (hl : l.length ≤ 2000000000) (hm : r.may = true) (hwf : r.wf) :
    Calls Try.prog 44 #[v, r.v] w (PutsB B w (l ++ r.bytes)) := by
  by_cases h1 : r.kind = 1
  · exact refBytes1 B v l r w hv hB hl hm hwf h1
  by_cases h3 : r.kind = 3
  · exact refBytes3 B v l r w hv hB hl hm hwf h3
  by_cases h4 : r.kind = 4
  · exact refBytes4 B v l r w hv hB hl hm hwf h4
  by_cases h5 : r.kind = 5
  · exact refBytes5 B v l r w hv hB hl hm hwf h5
  by_cases h6 : r.kind = 6
  · exact refBytes6 B v l r w hv hB hl hm hwf h6
  exact refBytes0 B v l r w hv hB hl hm hwf h1 h3 h4 h5 h6
end Go.Proofs.Ytiihemmonncioaa
