/- The contract of record.put. -/
import Derived.Test.YtiihemmonncioaaRecPure
import Derived.Test.YtiihemmonncioaaRecPut
import Derived.BigQuiet
namespace Go.Proofs.Ytiihemmonncioaa
open Go.RowKit
theorem Reg.upd_ne3 {L : Nat → Bool} {k i : Nat} (h : i ≠ k) : Reg.upd L k i = L i := by
  have : (i == k) = false := by simpa using h
  simp [Reg.upd, this]
def PutsB (B : Nat) (w : World) (l : List UInt8) (e : Ending) (w' : World) : Prop := ∃ v', e = .returned v' ∧ OwnB B w' v' l ∧ Below B w w'
/-- What holds in the region that puts two texts. -/
def putsJ (B bo b3 : Nat) (C : Array Value) (vb : Value) (L0 L1 L2 : List UInt8) : Reg.Env → (Nat → Bool) → World → Prop := fun e L w =>
  w.heap[b3]? = some (.cells C 61 (0, 0)) ∧ (L 7 = false → w.heap[bo]? = some (.cells #[vb] 22 (0, 0))) ∧ (L 3 = false → OwnB B w vb L0) ∧
  (L 3 = true → L 6 = false → OwnB B w (e 3) L1) ∧ (L 6 = true → L 7 = false → OwnB B w (e 6) L2) ∧ (L 7 = true → OutB B bo w L2)
section
variable {B bo b3 : Nat} {C : Array Value} {vb : Value} {L0 L1 L2 : List UInt8}
theorem putsJ_other {e e' : Reg.Env} {L : Nat → Bool} {w : World} {k : Nat} (h3 : 3 ≠ k) (h6 : 6 ≠ k) (h7 : 7 ≠ k) (q3 : e' 3 = e 3) (q6 : e' 6 = e 6) (h : putsJ B bo b3 C vb L0 L1 L2 e L w) : putsJ B bo b3 C vb L0 L1 L2 e' (Reg.upd L k) w := by
  unfold putsJ at *
  rw [Reg.upd_ne3 h3, Reg.upd_ne3 h6, Reg.upd_ne3 h7, q3, q6]
  exact h
theorem putSeg {P : Program} {ops : Array Oper} {R : World → World → Prop} {w0 : World} {Q : Exit → Act → World → Prop} {fs : List (Nat × (Reg.Env → World → Prop))} (n : Nat) {l : List Oper} (k : Nat) {A : Reg.Env → Act} (hp : (l.take n).all Reg.plainB = true) (hn : (l.take n).length = n)
    (h3 : 3 < k ∨ k + n ≤ 3) (h6 : 6 < k ∨ k + n ≤ 6) (h7 : 7 < k ∨ k + n ≤ 7)
    (h : ∃ A', (∀ e, wpQuiet P ops (fun w => R w0 w) (fun a' => a' = A' e) (l.take n) (A e)) ∧ Reg.Steps P ops R (putsJ B bo b3 C vb L0 L1 L2) w0 Q (l.drop n) (k + n) A' fs) : Reg.Steps P ops R (putsJ B bo b3 C vb L0 L1 L2) w0 Q l k A fs := by
  obtain ⟨A', h, hs⟩ := h
  have := Reg.steps_seg (P := P) (ops := ops) (R := R) (J := putsJ B bo b3 C vb L0 L1 L2) (w0 := w0) (Q := Q) (rest := l.drop n) (A' := A') (fs := fs) (l.take n) k A (by rw [hn]; exact fun q h1 h2 e L w hj => putsJ_other (by omega) (by omega) (by omega) rfl rfl hj) hp h (by rw [hn]; exact hs)
  rw [List.take_append_drop] at this
  exact this
theorem putsJ_three {e : Reg.Env} {L : Nat → Bool} {w w' : World} {v' : Value} (hJ : putsJ B bo b3 C vb L0 L1 L2 e L w) (h6 : L 6 = false) (h7 : L 7 = false) (ho : OwnB B w vb L0) (hg : Grew w w' vb v') (ho1 : OwnB B w' v' L1) : putsJ B bo b3 C vb L0 L1 L2 (Reg.setE e 3 v') (Reg.upd L 3) w' := by
  unfold putsJ
  rw [Reg.upd_ne3 (show 6 ≠ 3 by decide), Reg.upd_ne3 (show 7 ≠ 3 by decide), h6, h7]
  exact ⟨keep_row ho hg (by decide) hJ.1, fun _ => keep_row ho hg (by decide) (hJ.2.1 h7), fun h => (by simp [Reg.upd] at h), fun _ _ => ho1, fun h => (by cases h), fun h => (by cases h)⟩
theorem putsJ_six {e : Reg.Env} {L : Nat → Bool} {w w' : World} {v' : Value} (hJ : putsJ B bo b3 C vb L0 L1 L2 e L w) (h3 : L 3 = true) (h7 : L 7 = false) (ho : OwnB B w (e 3) L1) (hg : Grew w w' (e 3) v') (ho1 : OwnB B w' v' L2) : putsJ B bo b3 C vb L0 L1 L2 (Reg.setE e 6 v') (Reg.upd L 6) w' := by
  unfold putsJ
  rw [Reg.upd_ne3 (show 3 ≠ 6 by decide), Reg.upd_ne3 (show 7 ≠ 6 by decide), h3, h7]
  exact ⟨keep_row ho hg (by decide) hJ.1, fun _ => keep_row ho hg (by decide) (hJ.2.1 h7), fun h => (by cases h), fun _ h => (by simp [Reg.upd] at h), fun _ _ => ho1, fun h => (by cases h)⟩
theorem putsJ_seven {e : Reg.Env} {L : Nat → Bool} {w : World} {u : Value} (hJ : putsJ B bo b3 C vb L0 L1 L2 e L w) (h3 : L 3 = true) (h6 : L 6 = true) (ho : OwnB B w (e 6) L2) (hb : w.heap[bo]? = some (.cells #[vb] 22 (0, 0))) : putsJ B bo b3 C vb L0 L1 L2 (Reg.setE e 7 u) (Reg.upd L 7) (w.setCell ⟨bo, 0, none⟩ (e 6)) := by
  unfold putsJ
  rw [Reg.upd_ne3 (show 3 ≠ 7 by decide), Reg.upd_ne3 (show 6 ≠ 7 by decide), h3, h6]
  refine ⟨?_, fun h => (by simp [Reg.upd] at h), fun h => (by cases h), fun _ h => (by cases h), fun _ h => (by simp [Reg.upd] at h), fun _ => outB_set hb ho⟩
  by_cases hne : b3 = bo
  · subst hne
    have := hJ.1
    rw [hb] at this
    simp at this
  · exact keepR_set bo w _ b3 C _ _ hne (by decide) hJ.1
end
set_option maxRecDepth 100000 in
set_option maxHeartbeats 4000000 in
theorem recPut1 (B : Nat) (v : Value) (l : List UInt8) (r : Rec) (w : World) (hv : OwnB B w v l) (hB : B ≤ w.heap.size) (hl : l.length ≤ 1000000000) (hm : r.may = true) (hwf : r.wf) (h : r.kind = 1) :
    Calls Try.prog 48 #[v, r.v] w (PutsB B w (l ++ r.bytes)) := by
  obtain ⟨hk1, hk7, hb0, hb63, hgn, hbr⟩ := may_kind hm
  clear hgn hbr
  obtain ⟨wgen, wseq, wserial, wsecret, wversion, wexpiry⟩ := hwf
  obtain ⟨kd, hkd⟩ := Int.eq_ofNat_of_zero_le (show 0 ≤ r.kind by omega)
  obtain ⟨bk, hbk⟩ := Int.eq_ofNat_of_zero_le hb0
  obtain ⟨⟨hq1, hq2⟩, ⟨hq3, hq4⟩, ⟨hq5, hq6⟩⟩ := may_quota hm h
  obtain ⟨na, hna⟩ := Int.eq_ofNat_of_zero_le hq1
  obtain ⟨nb, hnb⟩ := Int.eq_ofNat_of_zero_le hq3
  obtain ⟨nc, hnc⟩ := Int.eq_ofNat_of_zero_le hq5
  have hw_kind : IntKind.u64.wrap (kd : Int) = (kd : Int) := by rw [IntKind.wrap_u64]; omega
  have hw_bucket : IntKind.u64.wrap (bk : Int) = (bk : Int) := by rw [IntKind.wrap_u64]; omega
  have hw_gen : IntKind.u64.wrap (r.gen : Int) = (r.gen : Int) := by rw [IntKind.wrap_u64]; omega
  have hw_qk : IntKind.u64.wrap (na : Int) = (na : Int) := by rw [IntKind.wrap_u64]; omega
  have hw_qb : IntKind.u64.wrap (nb : Int) = (nb : Int) := by rw [IntKind.wrap_u64]; omega
  have hw_qg : IntKind.u64.wrap (nc : Int) = (nc : Int) := by rw [IntKind.wrap_u64]; omega
  have hw_serial : IntKind.u64.wrap (r.serial : Int) = (r.serial : Int) := by rw [IntKind.wrap_u64]; omega
  have HBD := Lib.hid (show kd < 18446744073709551616 ∧ bk < 18446744073709551616 ∧ r.gen < 18446744073709551616 ∧ na < 18446744073709551616 ∧ nb < 18446744073709551616 ∧ nc < 18446744073709551616 ∧ r.seq < 18446744073709551616 ∧ r.serial < 18446744073709551616 from by refine ⟨?_, ?_, ?_, ?_, ?_, ?_, ?_, ?_⟩ <;> omega)
  have heq : l ++ putL kd 1 ++ putL bk 1 ++ putL r.gen 4 ++ putL na 8 ++ putL nb 8 ++ putL nc 8 ++ putL r.seq 8 ++ putL r.serial 4 = l ++ r.bytes := by
    unfold Rec.bytes Rec.tailL
    rw [if_pos h, hkd, hbk, hna, hnb, hnc]
    simp only [List.append_assoc, Int.toNat_natCast]
  have HEQ := Lib.hid heq
  have e1 : ((kd : Int) == 1) = true := by simp; omega
  unfold Rec.v
  have hc_kind : r.cells[0]? = some (.int .i64 (kd : Int)) := by show some (Value.int .i64 r.kind) = _; rw [hkd]
  have hc_bucket : r.cells[1]? = some (.int .i64 (bk : Int)) := by show some (Value.int .i64 r.bucket) = _; rw [hbk]
  have hc_gen : r.cells[2]? = some (.int .u32 (r.gen : Int)) := rfl
  have hc_qk : r.cells[3]? = some (.int .i64 (na : Int)) := by show some (Value.int .i64 r.qk) = _; rw [hna]
  have hc_qb : r.cells[4]? = some (.int .i64 (nb : Int)) := by show some (Value.int .i64 r.qb) = _; rw [hnb]
  have hc_qg : r.cells[5]? = some (.int .i64 (nc : Int)) := by show some (Value.int .i64 r.qg) = _; rw [hnc]
  have hc_seq : r.cells[6]? = some (.int .u64 (r.seq : Int)) := rfl
  have hc_serial : r.cells[7]? = some (.int .u32 (r.serial : Int)) := rfl
  obtain ⟨a0, cap0, rfl, hcapl⟩ := (show ∃ a cap, v = .slice a l.length cap ∧ l.length ≤ cap from by obtain ⟨a, cap, h1, _, h3, _⟩ := hv.out; exact ⟨a, cap, h1, h3⟩)
  generalize r.cells = C at *
  have Hhc_kind := Lib.hid hc_kind
  have Hhc_bucket := Lib.hid hc_bucket
  have Hhc_gen := Lib.hid hc_gen
  have Hhc_qk := Lib.hid hc_qk
  have Hhc_qb := Lib.hid hc_qb
  have Hhc_qg := Lib.hid hc_qg
  have Hhc_seq := Lib.hid hc_seq
  have Hhc_serial := Lib.hid hc_serial
  have HV := Lib.hid hv
  clear hv hm hk1 hk7 hb0 hb63 hkd hbk wgen wseq wserial wsecret wversion wexpiry heq hcapl h hq1 hq2 hq3 hq4 hq5 hq6 hna hnb hnc hc_kind hc_bucket hc_gen hc_qk hc_qb hc_qg hc_seq hc_serial
  have hmf : ∀ (fn : Fn) (first cap : Array Value) (w : World), (Instr.makeFunc fn first cap).run Try.prog w = .ok (.func fn first cap) w := fun _ _ _ _ => rfl
  have hw0 : ∀ b0 : Array Value, Below B w ((w.alloc (.cells b0 22)).alloc (.cells C 61)) := fun b0 => ((Below.refl B w).alloc hB _).alloc (by simp; omega) _
  have HW0 := Lib.hid hw0
  have HOUT := Lib.hid (show OutB B w.heap.size ((w.alloc (.cells #[.slice a0 l.length cap0] 22)).alloc (.cells C 61)) l from ⟨_, heap_alloc2_old w _ _, (HV.out.alloc _).alloc _⟩)
  have HROW := Lib.hid (show ((w.alloc (.cells #[.slice a0 l.length cap0] 22)).alloc (.cells C 61)).heap[w.heap.size + 1]? = some (.cells C 61 (0, 0)) from heap_alloc2_new w _ _)
  have HBB := Lib.hid hB
  have HBW := Lib.hid (HW0.out #[.slice a0 l.length cap0])
  clear hw0 HW0 HV hB
  go_enter Try.func48, Try.ntmps48
  obtain ⟨L0, hL0⟩ : ∃ L0, L0 = l := ⟨l, rfl⟩
  have HL0 := Lib.hid hL0
  have HLEN0 := Lib.hid (show L0.length ≤ 1000000000 by rw [hL0]; exact hl)
  have HOUT0 : Hid (OutB B w.heap.size ((w.alloc (.cells #[.slice a0 l.length cap0] 22)).alloc (.cells C 61)) L0) := by rw [hL0]; exact HOUT
  clear hL0 hl HOUT
  have hcl := Hhc_kind.out
  go_wp2_with fail
  clear hcl
  generalize World.alloc (World.alloc w (.cells #[.slice a0 l.length cap0] 22)) (.cells C 61) = W0 at *
  have HROW0 := HROW
  have HBW0 := HBW
  clear HROW HBW
  refine (numPut B w.heap.size L0 kd 1 _ HOUT0.out (Nat.le_trans HBB.out HBW0.out.size) HBB.out (by have := HLEN0.out; omega) HBD.out.1 (by omega) (by omega)).mono ?_
  rintro e W1 ⟨rfl, ho, hb, hk⟩
  have HROW1 := Lib.hid (hk (w.heap.size + 1) C _ _ (by omega) (by decide) HROW0.out)
  have HBW1 := Lib.hid (HBW0.out.trans hb)
  obtain ⟨L1, hL, hlen⟩ : ∃ L1, L1 = L0 ++ putL kd 1 ∧ L1.length ≤ 1000000000 + 8 := ⟨_, rfl, by have := HLEN0.out; rw [List.length_append, putL_length]; omega⟩
  rw [← hL] at ho
  have HL1 := Lib.hid (hL.trans (congrArg (· ++ putL kd 1) HL0.out))
  have HLEN1 := Lib.hid hlen
  have HOUT1 := Lib.hid ho
  clear ho hb hk hL hlen HROW0 HBW0 HL0 HLEN0 HOUT0 hw_kind
  clear L0 W0
  have hcl := (cell_of_row _ (w.heap.size + 1) 1 C _ _ HROW1.out).trans Hhc_bucket.out
  go_wp2_with fail
  clear hcl
  refine (numPut B w.heap.size L1 bk 1 _ HOUT1.out (Nat.le_trans HBB.out HBW1.out.size) HBB.out (by have := HLEN1.out; omega) HBD.out.2.1 (by omega) (by omega)).mono ?_
  rintro e W2 ⟨rfl, ho, hb, hk⟩
  have HROW2 := Lib.hid (hk (w.heap.size + 1) C _ _ (by omega) (by decide) HROW1.out)
  have HBW2 := Lib.hid (HBW1.out.trans hb)
  obtain ⟨L2, hL, hlen⟩ : ∃ L2, L2 = L1 ++ putL bk 1 ∧ L2.length ≤ 1000000000 + 16 := ⟨_, rfl, by have := HLEN1.out; rw [List.length_append, putL_length]; omega⟩
  rw [← hL] at ho
  have HL2 := Lib.hid (hL.trans (congrArg (· ++ putL bk 1) HL1.out))
  have HLEN2 := Lib.hid hlen
  have HOUT2 := Lib.hid ho
  clear ho hb hk hL hlen HROW1 HBW1 HL1 HLEN1 HOUT1 hw_bucket
  clear L1 W1
  have hcl := (cell_of_row _ (w.heap.size + 1) 2 C _ _ HROW2.out).trans Hhc_gen.out
  go_wp2_with fail
  clear hcl
  refine (numPut B w.heap.size L2 r.gen 4 _ HOUT2.out (Nat.le_trans HBB.out HBW2.out.size) HBB.out (by have := HLEN2.out; omega) HBD.out.2.2.1 (by omega) (by omega)).mono ?_
  rintro e W3 ⟨rfl, ho, hb, hk⟩
  have HROW3 := Lib.hid (hk (w.heap.size + 1) C _ _ (by omega) (by decide) HROW2.out)
  have HBW3 := Lib.hid (HBW2.out.trans hb)
  obtain ⟨L3, hL, hlen⟩ : ∃ L3, L3 = L2 ++ putL r.gen 4 ∧ L3.length ≤ 1000000000 + 24 := ⟨_, rfl, by have := HLEN2.out; rw [List.length_append, putL_length]; omega⟩
  rw [← hL] at ho
  have HL3 := Lib.hid (hL.trans (congrArg (· ++ putL r.gen 4) HL2.out))
  have HLEN3 := Lib.hid hlen
  have HOUT3 := Lib.hid ho
  clear ho hb hk hL hlen HROW2 HBW2 HL2 HLEN2 HOUT2 hw_gen
  clear L2 W2
  have hckind := (cell_of_row _ (w.heap.size + 1) 0 C _ _ HROW3.out).trans Hhc_kind.out
  have hcl := (cell_of_row _ (w.heap.size + 1) 3 C _ _ HROW3.out).trans Hhc_qk.out
  go_wp2_with fail
  clear hcl
  clear hckind e1
  refine (numPut B w.heap.size L3 na 8 _ HOUT3.out (Nat.le_trans HBB.out HBW3.out.size) HBB.out (by have := HLEN3.out; omega) HBD.out.2.2.2.1 (by omega) (by omega)).mono ?_
  rintro e W4 ⟨rfl, ho, hb, hk⟩
  have HROW4 := Lib.hid (hk (w.heap.size + 1) C _ _ (by omega) (by decide) HROW3.out)
  have HBW4 := Lib.hid (HBW3.out.trans hb)
  obtain ⟨L4, hL, hlen⟩ : ∃ L4, L4 = L3 ++ putL na 8 ∧ L4.length ≤ 1000000000 + 32 := ⟨_, rfl, by have := HLEN3.out; rw [List.length_append, putL_length]; omega⟩
  rw [← hL] at ho
  have HL4 := Lib.hid (hL.trans (congrArg (· ++ putL na 8) HL3.out))
  have HLEN4 := Lib.hid hlen
  have HOUT4 := Lib.hid ho
  clear ho hb hk hL hlen HROW3 HBW3 HL3 HLEN3 HOUT3 hw_qk
  clear L3 W3
  have hcl := (cell_of_row _ (w.heap.size + 1) 4 C _ _ HROW4.out).trans Hhc_qb.out
  go_wp2_with fail
  clear hcl
  refine (numPut B w.heap.size L4 nb 8 _ HOUT4.out (Nat.le_trans HBB.out HBW4.out.size) HBB.out (by have := HLEN4.out; omega) HBD.out.2.2.2.2.1 (by omega) (by omega)).mono ?_
  rintro e W5 ⟨rfl, ho, hb, hk⟩
  have HROW5 := Lib.hid (hk (w.heap.size + 1) C _ _ (by omega) (by decide) HROW4.out)
  have HBW5 := Lib.hid (HBW4.out.trans hb)
  obtain ⟨L5, hL, hlen⟩ : ∃ L5, L5 = L4 ++ putL nb 8 ∧ L5.length ≤ 1000000000 + 40 := ⟨_, rfl, by have := HLEN4.out; rw [List.length_append, putL_length]; omega⟩
  rw [← hL] at ho
  have HL5 := Lib.hid (hL.trans (congrArg (· ++ putL nb 8) HL4.out))
  have HLEN5 := Lib.hid hlen
  have HOUT5 := Lib.hid ho
  clear ho hb hk hL hlen HROW4 HBW4 HL4 HLEN4 HOUT4 hw_qb
  clear L4 W4
  have hcl := (cell_of_row _ (w.heap.size + 1) 5 C _ _ HROW5.out).trans Hhc_qg.out
  go_wp2_with fail
  clear hcl
  refine (numPut B w.heap.size L5 nc 8 _ HOUT5.out (Nat.le_trans HBB.out HBW5.out.size) HBB.out (by have := HLEN5.out; omega) HBD.out.2.2.2.2.2.1 (by omega) (by omega)).mono ?_
  rintro e W6 ⟨rfl, ho, hb, hk⟩
  have HROW6 := Lib.hid (hk (w.heap.size + 1) C _ _ (by omega) (by decide) HROW5.out)
  have HBW6 := Lib.hid (HBW5.out.trans hb)
  obtain ⟨L6, hL, hlen⟩ : ∃ L6, L6 = L5 ++ putL nc 8 ∧ L6.length ≤ 1000000000 + 48 := ⟨_, rfl, by have := HLEN5.out; rw [List.length_append, putL_length]; omega⟩
  rw [← hL] at ho
  have HL6 := Lib.hid (hL.trans (congrArg (· ++ putL nc 8) HL5.out))
  have HLEN6 := Lib.hid hlen
  have HOUT6 := Lib.hid ho
  clear ho hb hk hL hlen HROW5 HBW5 HL5 HLEN5 HOUT5 hw_qg
  clear L5 W5
  have hcl := (cell_of_row _ (w.heap.size + 1) 6 C _ _ HROW6.out).trans Hhc_seq.out
  go_wp2_with fail
  clear hcl
  refine (numPut B w.heap.size L6 r.seq 8 _ HOUT6.out (Nat.le_trans HBB.out HBW6.out.size) HBB.out (by have := HLEN6.out; omega) HBD.out.2.2.2.2.2.2.1 (by omega) (by omega)).mono ?_
  rintro e W7 ⟨rfl, ho, hb, hk⟩
  have HROW7 := Lib.hid (hk (w.heap.size + 1) C _ _ (by omega) (by decide) HROW6.out)
  have HBW7 := Lib.hid (HBW6.out.trans hb)
  obtain ⟨L7, hL, hlen⟩ : ∃ L7, L7 = L6 ++ putL r.seq 8 ∧ L7.length ≤ 1000000000 + 56 := ⟨_, rfl, by have := HLEN6.out; rw [List.length_append, putL_length]; omega⟩
  rw [← hL] at ho
  have HL7 := Lib.hid (hL.trans (congrArg (· ++ putL r.seq 8) HL6.out))
  have HLEN7 := Lib.hid hlen
  have HOUT7 := Lib.hid ho
  clear ho hb hk hL hlen HROW6 HBW6 HL6 HLEN6 HOUT6
  clear L6 W6
  have hcl := (cell_of_row _ (w.heap.size + 1) 7 C _ _ HROW7.out).trans Hhc_serial.out
  go_wp2_with fail
  clear hcl
  refine (numPut B w.heap.size L7 r.serial 4 _ HOUT7.out (Nat.le_trans HBB.out HBW7.out.size) HBB.out (by have := HLEN7.out; omega) HBD.out.2.2.2.2.2.2.2 (by omega) (by omega)).mono ?_
  rintro e W8 ⟨rfl, ho, hb, hk⟩
  have HROW8 := Lib.hid (hk (w.heap.size + 1) C _ _ (by omega) (by decide) HROW7.out)
  have HBW8 := Lib.hid (HBW7.out.trans hb)
  obtain ⟨L8, hL, hlen⟩ : ∃ L8, L8 = L7 ++ putL r.serial 4 ∧ L8.length ≤ 1000000000 + 64 := ⟨_, rfl, by have := HLEN7.out; rw [List.length_append, putL_length]; omega⟩
  rw [← hL] at ho
  have HL8 := Lib.hid (hL.trans (congrArg (· ++ putL r.serial 4) HL7.out))
  have HLEN8 := Lib.hid hlen
  have HOUT8 := Lib.hid ho
  clear ho hb hk hL hlen HROW7 HBW7 HL7 HLEN7 HOUT7 hw_serial
  clear L7 W7
  obtain ⟨vb, hbox, hown⟩ := HOUT8.out
  have hcb := cell_of_row _ w.heap.size 0 _ _ _ hbox
  simp at hcb
  have HOWN := Lib.hid hown
  clear hbox hown
  go_wp2
  go_ret
  exact ⟨vb, rfl, by rw [← HEQ.out, ← HL8.out]; exact HOWN.out, HBW8.out⟩
set_option maxRecDepth 100000 in
set_option maxHeartbeats 4000000 in
theorem recPut3 (B : Nat) (v : Value) (l : List UInt8) (r : Rec) (w : World) (hv : OwnB B w v l) (hB : B ≤ w.heap.size) (hl : l.length ≤ 1000000000) (hm : r.may = true) (hwf : r.wf) (h : r.kind = 3) :
    Calls Try.prog 48 #[v, r.v] w (PutsB B w (l ++ r.bytes)) := by
  obtain ⟨hk1, hk7, hb0, hb63, hgn, hbr⟩ := may_kind hm
  clear hgn hbr
  obtain ⟨wgen, wseq, wserial, wsecret, wversion, wexpiry⟩ := hwf
  obtain ⟨kd, hkd⟩ := Int.eq_ofNat_of_zero_le (show 0 ≤ r.kind by omega)
  obtain ⟨bk, hbk⟩ := Int.eq_ofNat_of_zero_le hb0
  have htx := may_text hm (.inl h)
  have hw_kind : IntKind.u64.wrap (kd : Int) = (kd : Int) := by rw [IntKind.wrap_u64]; omega
  have hw_bucket : IntKind.u64.wrap (bk : Int) = (bk : Int) := by rw [IntKind.wrap_u64]; omega
  have hw_gen : IntKind.u64.wrap (r.gen : Int) = (r.gen : Int) := by rw [IntKind.wrap_u64]; omega
  have HBD := Lib.hid (show kd < 18446744073709551616 ∧ bk < 18446744073709551616 ∧ r.gen < 18446744073709551616 ∧ r.version < 18446744073709551616 ∧ r.expiry < 18446744073709551616 from by refine ⟨?_, ?_, ?_, ?_, ?_⟩ <;> omega)
  have heq : l ++ putL kd 1 ++ putL bk 1 ++ putL r.gen 4 ++ putL r.version 8 ++ putL r.expiry 8 ++ textL r.key.data.toList ++ textL r.val.data.toList = l ++ r.bytes := by
    unfold Rec.bytes Rec.tailL
    rw [if_neg (by rw [h]; decide), if_pos h, hkd, hbk]
    simp only [List.append_assoc, Int.toNat_natCast]
  have HEQ := Lib.hid heq
  have e1 : ((kd : Int) == 1) = false := by simp; omega
  have e3 : ((kd : Int) == 3) = true := by simp; omega
  unfold Rec.v
  have hc_kind : r.cells[0]? = some (.int .i64 (kd : Int)) := by show some (Value.int .i64 r.kind) = _; rw [hkd]
  have hc_bucket : r.cells[1]? = some (.int .i64 (bk : Int)) := by show some (Value.int .i64 r.bucket) = _; rw [hbk]
  have hc_gen : r.cells[2]? = some (.int .u32 (r.gen : Int)) := rfl
  have hc_version : r.cells[12]? = some (.int .u64 (r.version : Int)) := rfl
  have hc_expiry : r.cells[13]? = some (.int .u64 (r.expiry : Int)) := rfl
  have hc_key : r.cells[10]? = some (.string r.key) := rfl
  have hc_val : r.cells[11]? = some (.string r.val) := rfl
  have HTX := Lib.hid htx
  obtain ⟨a0, cap0, rfl, hcapl⟩ := (show ∃ a cap, v = .slice a l.length cap ∧ l.length ≤ cap from by obtain ⟨a, cap, h1, _, h3, _⟩ := hv.out; exact ⟨a, cap, h1, h3⟩)
  generalize r.cells = C at *
  have Hhc_kind := Lib.hid hc_kind
  have Hhc_bucket := Lib.hid hc_bucket
  have Hhc_gen := Lib.hid hc_gen
  have Hhc_version := Lib.hid hc_version
  have Hhc_expiry := Lib.hid hc_expiry
  have Hhc_key := Lib.hid hc_key
  have Hhc_val := Lib.hid hc_val
  have HV := Lib.hid hv
  clear hv hm hk1 hk7 hb0 hb63 hkd hbk wgen wseq wserial wsecret wversion wexpiry heq hcapl h htx hc_kind hc_bucket hc_gen hc_version hc_expiry hc_key hc_val
  have hmf : ∀ (fn : Fn) (first cap : Array Value) (w : World), (Instr.makeFunc fn first cap).run Try.prog w = .ok (.func fn first cap) w := fun _ _ _ _ => rfl
  have hw0 : ∀ b0 : Array Value, Below B w ((w.alloc (.cells b0 22)).alloc (.cells C 61)) := fun b0 => ((Below.refl B w).alloc hB _).alloc (by simp; omega) _
  have HW0 := Lib.hid hw0
  have HOUT := Lib.hid (show OutB B w.heap.size ((w.alloc (.cells #[.slice a0 l.length cap0] 22)).alloc (.cells C 61)) l from ⟨_, heap_alloc2_old w _ _, (HV.out.alloc _).alloc _⟩)
  have HROW := Lib.hid (show ((w.alloc (.cells #[.slice a0 l.length cap0] 22)).alloc (.cells C 61)).heap[w.heap.size + 1]? = some (.cells C 61 (0, 0)) from heap_alloc2_new w _ _)
  have HBB := Lib.hid hB
  have HBW := Lib.hid (HW0.out #[.slice a0 l.length cap0])
  clear hw0 HW0 HV hB
  go_enter Try.func48, Try.ntmps48
  obtain ⟨L0, hL0⟩ : ∃ L0, L0 = l := ⟨l, rfl⟩
  have HL0 := Lib.hid hL0
  have HLEN0 := Lib.hid (show L0.length ≤ 1000000000 by rw [hL0]; exact hl)
  have HOUT0 : Hid (OutB B w.heap.size ((w.alloc (.cells #[.slice a0 l.length cap0] 22)).alloc (.cells C 61)) L0) := by rw [hL0]; exact HOUT
  clear hL0 hl HOUT
  have hcl := Hhc_kind.out
  go_wp2_with fail
  clear hcl
  generalize World.alloc (World.alloc w (.cells #[.slice a0 l.length cap0] 22)) (.cells C 61) = W0 at *
  have HROW0 := HROW
  have HBW0 := HBW
  clear HROW HBW
  refine (numPut B w.heap.size L0 kd 1 _ HOUT0.out (Nat.le_trans HBB.out HBW0.out.size) HBB.out (by have := HLEN0.out; omega) HBD.out.1 (by omega) (by omega)).mono ?_
  rintro e W1 ⟨rfl, ho, hb, hk⟩
  have HROW1 := Lib.hid (hk (w.heap.size + 1) C _ _ (by omega) (by decide) HROW0.out)
  have HBW1 := Lib.hid (HBW0.out.trans hb)
  obtain ⟨L1, hL, hlen⟩ : ∃ L1, L1 = L0 ++ putL kd 1 ∧ L1.length ≤ 1000000000 + 8 := ⟨_, rfl, by have := HLEN0.out; rw [List.length_append, putL_length]; omega⟩
  rw [← hL] at ho
  have HL1 := Lib.hid (hL.trans (congrArg (· ++ putL kd 1) HL0.out))
  have HLEN1 := Lib.hid hlen
  have HOUT1 := Lib.hid ho
  clear ho hb hk hL hlen HROW0 HBW0 HL0 HLEN0 HOUT0 hw_kind
  clear L0 W0
  have hcl := (cell_of_row _ (w.heap.size + 1) 1 C _ _ HROW1.out).trans Hhc_bucket.out
  go_wp2_with fail
  clear hcl
  refine (numPut B w.heap.size L1 bk 1 _ HOUT1.out (Nat.le_trans HBB.out HBW1.out.size) HBB.out (by have := HLEN1.out; omega) HBD.out.2.1 (by omega) (by omega)).mono ?_
  rintro e W2 ⟨rfl, ho, hb, hk⟩
  have HROW2 := Lib.hid (hk (w.heap.size + 1) C _ _ (by omega) (by decide) HROW1.out)
  have HBW2 := Lib.hid (HBW1.out.trans hb)
  obtain ⟨L2, hL, hlen⟩ : ∃ L2, L2 = L1 ++ putL bk 1 ∧ L2.length ≤ 1000000000 + 16 := ⟨_, rfl, by have := HLEN1.out; rw [List.length_append, putL_length]; omega⟩
  rw [← hL] at ho
  have HL2 := Lib.hid (hL.trans (congrArg (· ++ putL bk 1) HL1.out))
  have HLEN2 := Lib.hid hlen
  have HOUT2 := Lib.hid ho
  clear ho hb hk hL hlen HROW1 HBW1 HL1 HLEN1 HOUT1 hw_bucket
  clear L1 W1
  have hcl := (cell_of_row _ (w.heap.size + 1) 2 C _ _ HROW2.out).trans Hhc_gen.out
  go_wp2_with fail
  clear hcl
  refine (numPut B w.heap.size L2 r.gen 4 _ HOUT2.out (Nat.le_trans HBB.out HBW2.out.size) HBB.out (by have := HLEN2.out; omega) HBD.out.2.2.1 (by omega) (by omega)).mono ?_
  rintro e W3 ⟨rfl, ho, hb, hk⟩
  have HROW3 := Lib.hid (hk (w.heap.size + 1) C _ _ (by omega) (by decide) HROW2.out)
  have HBW3 := Lib.hid (HBW2.out.trans hb)
  obtain ⟨L3, hL, hlen⟩ : ∃ L3, L3 = L2 ++ putL r.gen 4 ∧ L3.length ≤ 1000000000 + 24 := ⟨_, rfl, by have := HLEN2.out; rw [List.length_append, putL_length]; omega⟩
  rw [← hL] at ho
  have HL3 := Lib.hid (hL.trans (congrArg (· ++ putL r.gen 4) HL2.out))
  have HLEN3 := Lib.hid hlen
  have HOUT3 := Lib.hid ho
  clear ho hb hk hL hlen HROW2 HBW2 HL2 HLEN2 HOUT2 hw_gen
  clear L2 W2
  have hckind := (cell_of_row _ (w.heap.size + 1) 0 C _ _ HROW3.out).trans Hhc_kind.out
  have hcl := (cell_of_row _ (w.heap.size + 1) 12 C _ _ HROW3.out).trans Hhc_version.out
  go_wp2_with fail
  clear hcl
  clear hckind e1 e3
  refine (numPut B w.heap.size L3 r.version 8 _ HOUT3.out (Nat.le_trans HBB.out HBW3.out.size) HBB.out (by have := HLEN3.out; omega) HBD.out.2.2.2.1 (by omega) (by omega)).mono ?_
  rintro e W4 ⟨rfl, ho, hb, hk⟩
  have HROW4 := Lib.hid (hk (w.heap.size + 1) C _ _ (by omega) (by decide) HROW3.out)
  have HBW4 := Lib.hid (HBW3.out.trans hb)
  obtain ⟨L4, hL, hlen⟩ : ∃ L4, L4 = L3 ++ putL r.version 8 ∧ L4.length ≤ 1000000000 + 32 := ⟨_, rfl, by have := HLEN3.out; rw [List.length_append, putL_length]; omega⟩
  rw [← hL] at ho
  have HL4 := Lib.hid (hL.trans (congrArg (· ++ putL r.version 8) HL3.out))
  have HLEN4 := Lib.hid hlen
  have HOUT4 := Lib.hid ho
  clear ho hb hk hL hlen HROW3 HBW3 HL3 HLEN3 HOUT3
  clear L3 W3
  have hcl := (cell_of_row _ (w.heap.size + 1) 13 C _ _ HROW4.out).trans Hhc_expiry.out
  go_wp2_with fail
  clear hcl
  refine (numPut B w.heap.size L4 r.expiry 8 _ HOUT4.out (Nat.le_trans HBB.out HBW4.out.size) HBB.out (by have := HLEN4.out; omega) HBD.out.2.2.2.2 (by omega) (by omega)).mono ?_
  rintro e W5 ⟨rfl, ho, hb, hk⟩
  have HROW5 := Lib.hid (hk (w.heap.size + 1) C _ _ (by omega) (by decide) HROW4.out)
  have HBW5 := Lib.hid (HBW4.out.trans hb)
  obtain ⟨L5, hL, hlen⟩ : ∃ L5, L5 = L4 ++ putL r.expiry 8 ∧ L5.length ≤ 1000000000 + 40 := ⟨_, rfl, by have := HLEN4.out; rw [List.length_append, putL_length]; omega⟩
  rw [← hL] at ho
  have HL5 := Lib.hid (hL.trans (congrArg (· ++ putL r.expiry 8) HL4.out))
  have HLEN5 := Lib.hid hlen
  have HOUT5 := Lib.hid ho
  clear ho hb hk hL hlen HROW4 HBW4 HL4 HLEN4 HOUT4
  clear L4 W4
  obtain ⟨vb, hbox, hown⟩ := HOUT5.out
  have HBOX := Lib.hid hbox
  have HOWN := Lib.hid hown
  have HBM := Lib.hid (Nat.le_trans HBB.out HBW5.out.size)
  have HLX := Lib.hid (show L5.length ≤ 1000000100 by have := HLEN5.out; omega)
  clear hbox hown
  obtain ⟨LA, hLA⟩ : ∃ LA, LA = L5 ++ textL r.key.data.toList := ⟨_, rfl⟩
  obtain ⟨LB, hLB⟩ : ∃ LB, LB = LA ++ textL r.val.data.toList := ⟨_, rfl⟩
  have HLA := Lib.hid hLA
  have HLB := Lib.hid hLB
  have HEQ3 : Hid (LB = l ++ r.bytes) := by have := HEQ.out; rw [← HL5.out, ← hLA, ← hLB] at this; exact this
  clear hLA hLB
  go_wp2_with fail
  refine Reg.wp_region_facts (Reg.belB B) (putsJ B w.heap.size (w.heap.size + 1) C vb L5 LA LB) (by kernel_rfl) (by kernel_rfl) (Below.refl _ _) (fun _ _ _ h k => Below.trans h k)
    (fun _ => ⟨HROW5.out, fun _ => HBOX.out, fun _ => HOWN.out.bel ((Below.refl _ _).drew), fun h => (by cases h), fun h => (by cases h), fun h => (by cases h)⟩) ?_
  refine Reg.steps_const vb (fun e W L hN hR hJ hf => ⟨by rfl, ?_⟩) ?_
  · have hcb := cell_of_row _ w.heap.size 0 _ _ _ (hJ.2.1 (hN.2.2 7 (by kernel_rfl)))
    simp at hcb
    have hj2 := putsJ_other (e' := Reg.setE e 0 vb) (k := 0) (by decide) (by decide) (by decide) rfl rfl hJ
    unfold Reg.gives
    clear hf
    go_simp
    exact Below.refl _ _
  simp only [Act.put, List.setIfInBounds_toArray, List.set_cons_zero, List.set_cons_succ, Nat.reduceAdd]
  refine putSeg 1 1 (by kernel_rfl) rfl (by decide) (by decide) (by decide) ?_
  apply Exists.intro
  refine ⟨fun e => ?_, ?_⟩
  · simp only [List.take_succ_cons, List.take_zero]
    repeat (go_big_quiet_step ((intro _; rfl)))
    refine wpQuiet_nil ?_
    exact rfl
  simp only [List.drop_succ_cons, List.drop_zero, Nat.reduceAdd]
  refine Reg.steps_const (.string r.key) (fun e W L hN hR hJ hf => ⟨by rfl, ?_⟩) ?_
  · have hcb := (cell_of_row _ (w.heap.size + 1) 10 C _ _ hJ.1).trans Hhc_key.out
    have hj2 := putsJ_other (e' := Reg.setE e 2 (.string r.key)) (k := 2) (by decide) (by decide) (by decide) rfl rfl hJ
    unfold Reg.gives
    clear hf
    go_simp
    exact Below.refl _ _
  simp only [Act.put, List.setIfInBounds_toArray, List.set_cons_zero, List.set_cons_succ, Nat.reduceAdd]
  refine Reg.steps_fact (fun _ _ => True) (fun _ _ _ _ _ => trivial) (fun e W L hN hR hJ hf => ⟨by rfl, ?_⟩) ?_
  · have h6 := hN.2.2 6 (by kernel_rfl)
    have h7 := hN.2.2 7 (by kernel_rfl)
    have ho := hJ.2.2.1 hN.1
    unfold Reg.gives
    clear hf
    go_simp
    refine (packPutText B vb L5 r.key W ho (Nat.le_trans HBM.out hR.size) (by have := HLX.out; omega) (by have := HTX.out; unfold maxLen; omega)).mono ?_
    rintro en w' ⟨v', rfl, ho1, hg1⟩
    rw [← HLA.out] at ho1
    exact ⟨v', rfl, below_of_grown ho (Nat.le_trans HBM.out hR.size) hg1, putsJ_three hJ h6 h7 ho hg1 ho1⟩
  simp only [Act.put, List.setIfInBounds_toArray, List.set_cons_zero, List.set_cons_succ, Nat.reduceAdd]
  refine putSeg 1 4 (by kernel_rfl) rfl (by decide) (by decide) (by decide) ?_
  apply Exists.intro
  refine ⟨fun e => ?_, ?_⟩
  · simp only [List.take_succ_cons, List.take_zero]
    repeat (go_big_quiet_step ((intro _; rfl)))
    refine wpQuiet_nil ?_
    exact rfl
  simp only [List.drop_succ_cons, List.drop_zero, Nat.reduceAdd]
  refine Reg.steps_const (.string r.val) (fun e W L hN hR hJ hf => ⟨by rfl, ?_⟩) ?_
  · have hcb := (cell_of_row _ (w.heap.size + 1) 11 C _ _ hJ.1).trans Hhc_val.out
    have hj2 := putsJ_other (e' := Reg.setE e 5 (.string r.val)) (k := 5) (by decide) (by decide) (by decide) rfl rfl hJ
    unfold Reg.gives
    clear hf
    go_simp
    exact Below.refl _ _
  simp only [Act.put, List.setIfInBounds_toArray, List.set_cons_zero, List.set_cons_succ, Nat.reduceAdd]
  refine Reg.steps_fact (fun _ _ => True) (fun _ _ _ _ _ => trivial) (fun e W L hN hR hJ hf => ⟨by rfl, ?_⟩) ?_
  · have h3 := hN.2.1 3 (by kernel_rfl)
    have h7 := hN.2.2 7 (by kernel_rfl)
    have ho := hJ.2.2.2.1 h3 hN.1
    have htl := textL_len r.key.data.toList
    unfold Reg.gives
    clear hf
    go_simp
    refine (packPutText B (e 3) _ r.val W ho (Nat.le_trans HBM.out hR.size) (by have := HLX.out; rw [HLA.out, List.length_append]; omega) (by have := HTX.out; unfold maxLen; omega)).mono ?_
    rintro en w' ⟨v', rfl, ho1, hg1⟩
    rw [← HLB.out] at ho1
    exact ⟨v', rfl, below_of_grown ho (Nat.le_trans HBM.out hR.size) hg1, putsJ_six hJ h3 h7 ho hg1 ho1⟩
  simp only [Act.put, List.setIfInBounds_toArray, List.set_cons_zero, List.set_cons_succ, Nat.reduceAdd]
  refine Reg.steps_fact (fun _ _ => True) (fun _ _ _ _ _ => trivial) (fun e W L hN hR hJ hf => ⟨by rfl, ?_⟩) ?_
  · have h3 := hN.2.1 3 (by kernel_rfl)
    have h6 := hN.2.1 6 (by kernel_rfl)
    have ho := hJ.2.2.2.2.1 h6 hN.1
    have hbx := hJ.2.1 hN.1
    obtain ⟨a1, cap1, hv, _⟩ := ho.out
    have hj := fun u => putsJ_seven (u := u) hJ h3 h6 ho hbx
    have hbb : Below B W (W.setCell ⟨w.heap.size, 0, none⟩ (e 6)) := (Below.refl _ _).setCell (p := ⟨w.heap.size, 0, none⟩) HBB.out _
    have HJ := Lib.hid (And.intro hbb hj)
    have hcb := cell_of_row _ w.heap.size 0 _ _ _ hbx
    have hfz := frozen_of_row _ w.heap.size 0 _ _ hbx
    simp at hcb
    clear hj hbb ho hbx
    generalize e 6 = v6 at *
    subst hv
    generalize LB.length = mm at *
    unfold Reg.gives
    clear hf hJ
    go_simp
    exact ⟨HJ.out.1, HJ.out.2 _⟩
  intro e W9 hR hJ hf
  have HX := Lib.hid (And.intro (hJ.2.2.2.2.2 rfl) (HBW5.out.trans (((Below.refl _ _).drew).trans hR)))
  clear hR hJ hf
  obtain ⟨vc, hbox, hown⟩ := HX.out.1
  have hcb := cell_of_row _ w.heap.size 0 _ _ _ hbox
  simp at hcb
  have HOWN2 := Lib.hid hown
  clear hbox hown
  simp only [Act.put]
  go_wp2
  go_ret
  exact ⟨vc, rfl, by rw [← HEQ3.out]; exact HOWN2.out, HX.out.2⟩
set_option maxRecDepth 100000 in
set_option maxHeartbeats 4000000 in
theorem recPut4 (B : Nat) (v : Value) (l : List UInt8) (r : Rec) (w : World) (hv : OwnB B w v l) (hB : B ≤ w.heap.size) (hl : l.length ≤ 1000000000) (hm : r.may = true) (hwf : r.wf) (h : r.kind = 4) :
    Calls Try.prog 48 #[v, r.v] w (PutsB B w (l ++ r.bytes)) := by
  obtain ⟨hk1, hk7, hb0, hb63, hgn, hbr⟩ := may_kind hm
  clear hgn hbr
  obtain ⟨wgen, wseq, wserial, wsecret, wversion, wexpiry⟩ := hwf
  obtain ⟨kd, hkd⟩ := Int.eq_ofNat_of_zero_le (show 0 ≤ r.kind by omega)
  obtain ⟨bk, hbk⟩ := Int.eq_ofNat_of_zero_le hb0
  have htx := may_text hm (.inr h)
  have hw_kind : IntKind.u64.wrap (kd : Int) = (kd : Int) := by rw [IntKind.wrap_u64]; omega
  have hw_bucket : IntKind.u64.wrap (bk : Int) = (bk : Int) := by rw [IntKind.wrap_u64]; omega
  have hw_gen : IntKind.u64.wrap (r.gen : Int) = (r.gen : Int) := by rw [IntKind.wrap_u64]; omega
  have HBD := Lib.hid (show kd < 18446744073709551616 ∧ bk < 18446744073709551616 ∧ r.gen < 18446744073709551616 ∧ r.version < 18446744073709551616 from by refine ⟨?_, ?_, ?_, ?_⟩ <;> omega)
  have heq : l ++ putL kd 1 ++ putL bk 1 ++ putL r.gen 4 ++ putL r.version 8 ++ textL r.key.data.toList = l ++ r.bytes := by
    unfold Rec.bytes Rec.tailL
    rw [if_neg (by rw [h]; decide), if_neg (by rw [h]; decide), if_pos h, hkd, hbk]
    simp only [List.append_assoc, Int.toNat_natCast]
  have HEQ := Lib.hid heq
  have e1 : ((kd : Int) == 1) = false := by simp; omega
  have e3 : ((kd : Int) == 3) = false := by simp; omega
  have e4 : ((kd : Int) == 4) = true := by simp; omega
  unfold Rec.v
  have hc_kind : r.cells[0]? = some (.int .i64 (kd : Int)) := by show some (Value.int .i64 r.kind) = _; rw [hkd]
  have hc_bucket : r.cells[1]? = some (.int .i64 (bk : Int)) := by show some (Value.int .i64 r.bucket) = _; rw [hbk]
  have hc_gen : r.cells[2]? = some (.int .u32 (r.gen : Int)) := rfl
  have hc_version : r.cells[12]? = some (.int .u64 (r.version : Int)) := rfl
  have hc_key : r.cells[10]? = some (.string r.key) := rfl
  have HTX := Lib.hid htx
  obtain ⟨a0, cap0, rfl, hcapl⟩ := (show ∃ a cap, v = .slice a l.length cap ∧ l.length ≤ cap from by obtain ⟨a, cap, h1, _, h3, _⟩ := hv.out; exact ⟨a, cap, h1, h3⟩)
  generalize r.cells = C at *
  have Hhc_kind := Lib.hid hc_kind
  have Hhc_bucket := Lib.hid hc_bucket
  have Hhc_gen := Lib.hid hc_gen
  have Hhc_version := Lib.hid hc_version
  have Hhc_key := Lib.hid hc_key
  have HV := Lib.hid hv
  clear hv hm hk1 hk7 hb0 hb63 hkd hbk wgen wseq wserial wsecret wversion wexpiry heq hcapl h htx hc_kind hc_bucket hc_gen hc_version hc_key
  have hmf : ∀ (fn : Fn) (first cap : Array Value) (w : World), (Instr.makeFunc fn first cap).run Try.prog w = .ok (.func fn first cap) w := fun _ _ _ _ => rfl
  have hw0 : ∀ b0 : Array Value, Below B w ((w.alloc (.cells b0 22)).alloc (.cells C 61)) := fun b0 => ((Below.refl B w).alloc hB _).alloc (by simp; omega) _
  have HW0 := Lib.hid hw0
  have HOUT := Lib.hid (show OutB B w.heap.size ((w.alloc (.cells #[.slice a0 l.length cap0] 22)).alloc (.cells C 61)) l from ⟨_, heap_alloc2_old w _ _, (HV.out.alloc _).alloc _⟩)
  have HROW := Lib.hid (show ((w.alloc (.cells #[.slice a0 l.length cap0] 22)).alloc (.cells C 61)).heap[w.heap.size + 1]? = some (.cells C 61 (0, 0)) from heap_alloc2_new w _ _)
  have HBB := Lib.hid hB
  have HBW := Lib.hid (HW0.out #[.slice a0 l.length cap0])
  clear hw0 HW0 HV hB
  go_enter Try.func48, Try.ntmps48
  obtain ⟨L0, hL0⟩ : ∃ L0, L0 = l := ⟨l, rfl⟩
  have HL0 := Lib.hid hL0
  have HLEN0 := Lib.hid (show L0.length ≤ 1000000000 by rw [hL0]; exact hl)
  have HOUT0 : Hid (OutB B w.heap.size ((w.alloc (.cells #[.slice a0 l.length cap0] 22)).alloc (.cells C 61)) L0) := by rw [hL0]; exact HOUT
  clear hL0 hl HOUT
  have hcl := Hhc_kind.out
  go_wp2_with fail
  clear hcl
  generalize World.alloc (World.alloc w (.cells #[.slice a0 l.length cap0] 22)) (.cells C 61) = W0 at *
  have HROW0 := HROW
  have HBW0 := HBW
  clear HROW HBW
  refine (numPut B w.heap.size L0 kd 1 _ HOUT0.out (Nat.le_trans HBB.out HBW0.out.size) HBB.out (by have := HLEN0.out; omega) HBD.out.1 (by omega) (by omega)).mono ?_
  rintro e W1 ⟨rfl, ho, hb, hk⟩
  have HROW1 := Lib.hid (hk (w.heap.size + 1) C _ _ (by omega) (by decide) HROW0.out)
  have HBW1 := Lib.hid (HBW0.out.trans hb)
  obtain ⟨L1, hL, hlen⟩ : ∃ L1, L1 = L0 ++ putL kd 1 ∧ L1.length ≤ 1000000000 + 8 := ⟨_, rfl, by have := HLEN0.out; rw [List.length_append, putL_length]; omega⟩
  rw [← hL] at ho
  have HL1 := Lib.hid (hL.trans (congrArg (· ++ putL kd 1) HL0.out))
  have HLEN1 := Lib.hid hlen
  have HOUT1 := Lib.hid ho
  clear ho hb hk hL hlen HROW0 HBW0 HL0 HLEN0 HOUT0 hw_kind
  clear L0 W0
  have hcl := (cell_of_row _ (w.heap.size + 1) 1 C _ _ HROW1.out).trans Hhc_bucket.out
  go_wp2_with fail
  clear hcl
  refine (numPut B w.heap.size L1 bk 1 _ HOUT1.out (Nat.le_trans HBB.out HBW1.out.size) HBB.out (by have := HLEN1.out; omega) HBD.out.2.1 (by omega) (by omega)).mono ?_
  rintro e W2 ⟨rfl, ho, hb, hk⟩
  have HROW2 := Lib.hid (hk (w.heap.size + 1) C _ _ (by omega) (by decide) HROW1.out)
  have HBW2 := Lib.hid (HBW1.out.trans hb)
  obtain ⟨L2, hL, hlen⟩ : ∃ L2, L2 = L1 ++ putL bk 1 ∧ L2.length ≤ 1000000000 + 16 := ⟨_, rfl, by have := HLEN1.out; rw [List.length_append, putL_length]; omega⟩
  rw [← hL] at ho
  have HL2 := Lib.hid (hL.trans (congrArg (· ++ putL bk 1) HL1.out))
  have HLEN2 := Lib.hid hlen
  have HOUT2 := Lib.hid ho
  clear ho hb hk hL hlen HROW1 HBW1 HL1 HLEN1 HOUT1 hw_bucket
  clear L1 W1
  have hcl := (cell_of_row _ (w.heap.size + 1) 2 C _ _ HROW2.out).trans Hhc_gen.out
  go_wp2_with fail
  clear hcl
  refine (numPut B w.heap.size L2 r.gen 4 _ HOUT2.out (Nat.le_trans HBB.out HBW2.out.size) HBB.out (by have := HLEN2.out; omega) HBD.out.2.2.1 (by omega) (by omega)).mono ?_
  rintro e W3 ⟨rfl, ho, hb, hk⟩
  have HROW3 := Lib.hid (hk (w.heap.size + 1) C _ _ (by omega) (by decide) HROW2.out)
  have HBW3 := Lib.hid (HBW2.out.trans hb)
  obtain ⟨L3, hL, hlen⟩ : ∃ L3, L3 = L2 ++ putL r.gen 4 ∧ L3.length ≤ 1000000000 + 24 := ⟨_, rfl, by have := HLEN2.out; rw [List.length_append, putL_length]; omega⟩
  rw [← hL] at ho
  have HL3 := Lib.hid (hL.trans (congrArg (· ++ putL r.gen 4) HL2.out))
  have HLEN3 := Lib.hid hlen
  have HOUT3 := Lib.hid ho
  clear ho hb hk hL hlen HROW2 HBW2 HL2 HLEN2 HOUT2 hw_gen
  clear L2 W2
  have hckind := (cell_of_row _ (w.heap.size + 1) 0 C _ _ HROW3.out).trans Hhc_kind.out
  have hcl := (cell_of_row _ (w.heap.size + 1) 12 C _ _ HROW3.out).trans Hhc_version.out
  go_wp2_with fail
  clear hcl
  clear hckind e1 e3 e4
  refine (numPut B w.heap.size L3 r.version 8 _ HOUT3.out (Nat.le_trans HBB.out HBW3.out.size) HBB.out (by have := HLEN3.out; omega) HBD.out.2.2.2 (by omega) (by omega)).mono ?_
  rintro e W4 ⟨rfl, ho, hb, hk⟩
  have HROW4 := Lib.hid (hk (w.heap.size + 1) C _ _ (by omega) (by decide) HROW3.out)
  have HBW4 := Lib.hid (HBW3.out.trans hb)
  obtain ⟨L4, hL, hlen⟩ : ∃ L4, L4 = L3 ++ putL r.version 8 ∧ L4.length ≤ 1000000000 + 32 := ⟨_, rfl, by have := HLEN3.out; rw [List.length_append, putL_length]; omega⟩
  rw [← hL] at ho
  have HL4 := Lib.hid (hL.trans (congrArg (· ++ putL r.version 8) HL3.out))
  have HLEN4 := Lib.hid hlen
  have HOUT4 := Lib.hid ho
  clear ho hb hk hL hlen HROW3 HBW3 HL3 HLEN3 HOUT3
  clear L3 W3
  obtain ⟨vb, hbox, hown⟩ := HOUT4.out
  have hcb := cell_of_row _ w.heap.size 0 _ _ _ hbox
  simp at hcb
  have hck := (cell_of_row _ (w.heap.size + 1) 10 C _ _ HROW4.out).trans Hhc_key.out
  have HBOX := Lib.hid hbox
  have HOWN := Lib.hid hown
  clear hbox hown
  go_wp2_with fail
  refine (packPutText B vb L4 r.key _ HOWN.out (Nat.le_trans HBB.out HBW4.out.size) (by have := HLEN4.out; omega) (by have := HTX.out; unfold maxLen; omega)).mono ?_
  rintro e W9 ⟨v1, rfl, ho1, hg1⟩
  obtain ⟨a1, cap1, rfl, _, _⟩ := ho1.out
  have HEQ2 : Hid (L4 ++ textL r.key.data.toList = l ++ r.bytes) := by have := HEQ.out; rw [← HL4.out] at this; exact this
  generalize (L4 ++ textL r.key.data.toList).length = mm at *
  have hrow := keep_row HOWN.out hg1 (by decide) HBOX.out
  have hcb1 := cell_of_row _ w.heap.size 0 _ _ _ hrow
  have hf1 := frozen_of_row _ w.heap.size 0 _ _ hrow
  simp at hcb1
  have HX := Lib.hid (And.intro (own_setCell (u := .slice a1 mm cap1) ho1 (by decide) hrow 0) (HBW4.out.trans ((below_of_grown HOWN.out (Nat.le_trans HBB.out HBW4.out.size) hg1).setCell (p := ⟨w.heap.size, 0, none⟩) HBB.out (.slice a1 mm cap1))))
  clear hrow ho1 hg1 hcb hck
  go_wp2
  go_ret
  exact ⟨_, rfl, by rw [← HEQ2.out]; exact HX.out.1, HX.out.2⟩
set_option maxRecDepth 100000 in
set_option maxHeartbeats 4000000 in
theorem recPut5 (B : Nat) (v : Value) (l : List UInt8) (r : Rec) (w : World) (hv : OwnB B w v l) (hB : B ≤ w.heap.size) (hl : l.length ≤ 1000000000) (hm : r.may = true) (hwf : r.wf) (h : r.kind = 5) :
    Calls Try.prog 48 #[v, r.v] w (PutsB B w (l ++ r.bytes)) := by
  obtain ⟨hk1, hk7, hb0, hb63, hgn, hbr⟩ := may_kind hm
  clear hgn hbr
  obtain ⟨wgen, wseq, wserial, wsecret, wversion, wexpiry⟩ := hwf
  obtain ⟨kd, hkd⟩ := Int.eq_ofNat_of_zero_le (show 0 ≤ r.kind by omega)
  obtain ⟨bk, hbk⟩ := Int.eq_ofNat_of_zero_le hb0
  obtain ⟨hr1, hr7⟩ := may_rights hm h
  obtain ⟨nr, hnr⟩ := Int.eq_ofNat_of_zero_le (show 0 ≤ r.rights by omega)
  have hw_kind : IntKind.u64.wrap (kd : Int) = (kd : Int) := by rw [IntKind.wrap_u64]; omega
  have hw_bucket : IntKind.u64.wrap (bk : Int) = (bk : Int) := by rw [IntKind.wrap_u64]; omega
  have hw_gen : IntKind.u64.wrap (r.gen : Int) = (r.gen : Int) := by rw [IntKind.wrap_u64]; omega
  have hw_serial : IntKind.u64.wrap (r.serial : Int) = (r.serial : Int) := by rw [IntKind.wrap_u64]; omega
  have hw_rights : IntKind.u64.wrap (nr : Int) = (nr : Int) := by rw [IntKind.wrap_u64]; omega
  have HBD := Lib.hid (show kd < 18446744073709551616 ∧ bk < 18446744073709551616 ∧ r.gen < 18446744073709551616 ∧ r.serial < 18446744073709551616 ∧ nr < 18446744073709551616 ∧ r.secret < 18446744073709551616 from by refine ⟨?_, ?_, ?_, ?_, ?_, ?_⟩ <;> omega)
  have heq : l ++ putL kd 1 ++ putL bk 1 ++ putL r.gen 4 ++ putL r.serial 4 ++ putL nr 1 ++ putL r.secret 8 = l ++ r.bytes := by
    unfold Rec.bytes Rec.tailL
    rw [if_neg (by rw [h]; decide), if_neg (by rw [h]; decide), if_neg (by rw [h]; decide), if_pos h, hkd, hbk, hnr]
    simp only [List.append_assoc, Int.toNat_natCast]
  have HEQ := Lib.hid heq
  have e1 : ((kd : Int) == 1) = false := by simp; omega
  have e3 : ((kd : Int) == 3) = false := by simp; omega
  have e4 : ((kd : Int) == 4) = false := by simp; omega
  have e5 : ((kd : Int) == 5) = true := by simp; omega
  unfold Rec.v
  have hc_kind : r.cells[0]? = some (.int .i64 (kd : Int)) := by show some (Value.int .i64 r.kind) = _; rw [hkd]
  have hc_bucket : r.cells[1]? = some (.int .i64 (bk : Int)) := by show some (Value.int .i64 r.bucket) = _; rw [hbk]
  have hc_gen : r.cells[2]? = some (.int .u32 (r.gen : Int)) := rfl
  have hc_serial : r.cells[7]? = some (.int .u32 (r.serial : Int)) := rfl
  have hc_rights : r.cells[8]? = some (.int .i64 (nr : Int)) := by show some (Value.int .i64 r.rights) = _; rw [hnr]
  have hc_secret : r.cells[9]? = some (.int .u64 (r.secret : Int)) := rfl
  obtain ⟨a0, cap0, rfl, hcapl⟩ := (show ∃ a cap, v = .slice a l.length cap ∧ l.length ≤ cap from by obtain ⟨a, cap, h1, _, h3, _⟩ := hv.out; exact ⟨a, cap, h1, h3⟩)
  generalize r.cells = C at *
  have Hhc_kind := Lib.hid hc_kind
  have Hhc_bucket := Lib.hid hc_bucket
  have Hhc_gen := Lib.hid hc_gen
  have Hhc_serial := Lib.hid hc_serial
  have Hhc_rights := Lib.hid hc_rights
  have Hhc_secret := Lib.hid hc_secret
  have HV := Lib.hid hv
  clear hv hm hk1 hk7 hb0 hb63 hkd hbk wgen wseq wserial wsecret wversion wexpiry heq hcapl h hr1 hr7 hnr hc_kind hc_bucket hc_gen hc_serial hc_rights hc_secret
  have hmf : ∀ (fn : Fn) (first cap : Array Value) (w : World), (Instr.makeFunc fn first cap).run Try.prog w = .ok (.func fn first cap) w := fun _ _ _ _ => rfl
  have hw0 : ∀ b0 : Array Value, Below B w ((w.alloc (.cells b0 22)).alloc (.cells C 61)) := fun b0 => ((Below.refl B w).alloc hB _).alloc (by simp; omega) _
  have HW0 := Lib.hid hw0
  have HOUT := Lib.hid (show OutB B w.heap.size ((w.alloc (.cells #[.slice a0 l.length cap0] 22)).alloc (.cells C 61)) l from ⟨_, heap_alloc2_old w _ _, (HV.out.alloc _).alloc _⟩)
  have HROW := Lib.hid (show ((w.alloc (.cells #[.slice a0 l.length cap0] 22)).alloc (.cells C 61)).heap[w.heap.size + 1]? = some (.cells C 61 (0, 0)) from heap_alloc2_new w _ _)
  have HBB := Lib.hid hB
  have HBW := Lib.hid (HW0.out #[.slice a0 l.length cap0])
  clear hw0 HW0 HV hB
  go_enter Try.func48, Try.ntmps48
  obtain ⟨L0, hL0⟩ : ∃ L0, L0 = l := ⟨l, rfl⟩
  have HL0 := Lib.hid hL0
  have HLEN0 := Lib.hid (show L0.length ≤ 1000000000 by rw [hL0]; exact hl)
  have HOUT0 : Hid (OutB B w.heap.size ((w.alloc (.cells #[.slice a0 l.length cap0] 22)).alloc (.cells C 61)) L0) := by rw [hL0]; exact HOUT
  clear hL0 hl HOUT
  have hcl := Hhc_kind.out
  go_wp2_with fail
  clear hcl
  generalize World.alloc (World.alloc w (.cells #[.slice a0 l.length cap0] 22)) (.cells C 61) = W0 at *
  have HROW0 := HROW
  have HBW0 := HBW
  clear HROW HBW
  refine (numPut B w.heap.size L0 kd 1 _ HOUT0.out (Nat.le_trans HBB.out HBW0.out.size) HBB.out (by have := HLEN0.out; omega) HBD.out.1 (by omega) (by omega)).mono ?_
  rintro e W1 ⟨rfl, ho, hb, hk⟩
  have HROW1 := Lib.hid (hk (w.heap.size + 1) C _ _ (by omega) (by decide) HROW0.out)
  have HBW1 := Lib.hid (HBW0.out.trans hb)
  obtain ⟨L1, hL, hlen⟩ : ∃ L1, L1 = L0 ++ putL kd 1 ∧ L1.length ≤ 1000000000 + 8 := ⟨_, rfl, by have := HLEN0.out; rw [List.length_append, putL_length]; omega⟩
  rw [← hL] at ho
  have HL1 := Lib.hid (hL.trans (congrArg (· ++ putL kd 1) HL0.out))
  have HLEN1 := Lib.hid hlen
  have HOUT1 := Lib.hid ho
  clear ho hb hk hL hlen HROW0 HBW0 HL0 HLEN0 HOUT0 hw_kind
  clear L0 W0
  have hcl := (cell_of_row _ (w.heap.size + 1) 1 C _ _ HROW1.out).trans Hhc_bucket.out
  go_wp2_with fail
  clear hcl
  refine (numPut B w.heap.size L1 bk 1 _ HOUT1.out (Nat.le_trans HBB.out HBW1.out.size) HBB.out (by have := HLEN1.out; omega) HBD.out.2.1 (by omega) (by omega)).mono ?_
  rintro e W2 ⟨rfl, ho, hb, hk⟩
  have HROW2 := Lib.hid (hk (w.heap.size + 1) C _ _ (by omega) (by decide) HROW1.out)
  have HBW2 := Lib.hid (HBW1.out.trans hb)
  obtain ⟨L2, hL, hlen⟩ : ∃ L2, L2 = L1 ++ putL bk 1 ∧ L2.length ≤ 1000000000 + 16 := ⟨_, rfl, by have := HLEN1.out; rw [List.length_append, putL_length]; omega⟩
  rw [← hL] at ho
  have HL2 := Lib.hid (hL.trans (congrArg (· ++ putL bk 1) HL1.out))
  have HLEN2 := Lib.hid hlen
  have HOUT2 := Lib.hid ho
  clear ho hb hk hL hlen HROW1 HBW1 HL1 HLEN1 HOUT1 hw_bucket
  clear L1 W1
  have hcl := (cell_of_row _ (w.heap.size + 1) 2 C _ _ HROW2.out).trans Hhc_gen.out
  go_wp2_with fail
  clear hcl
  refine (numPut B w.heap.size L2 r.gen 4 _ HOUT2.out (Nat.le_trans HBB.out HBW2.out.size) HBB.out (by have := HLEN2.out; omega) HBD.out.2.2.1 (by omega) (by omega)).mono ?_
  rintro e W3 ⟨rfl, ho, hb, hk⟩
  have HROW3 := Lib.hid (hk (w.heap.size + 1) C _ _ (by omega) (by decide) HROW2.out)
  have HBW3 := Lib.hid (HBW2.out.trans hb)
  obtain ⟨L3, hL, hlen⟩ : ∃ L3, L3 = L2 ++ putL r.gen 4 ∧ L3.length ≤ 1000000000 + 24 := ⟨_, rfl, by have := HLEN2.out; rw [List.length_append, putL_length]; omega⟩
  rw [← hL] at ho
  have HL3 := Lib.hid (hL.trans (congrArg (· ++ putL r.gen 4) HL2.out))
  have HLEN3 := Lib.hid hlen
  have HOUT3 := Lib.hid ho
  clear ho hb hk hL hlen HROW2 HBW2 HL2 HLEN2 HOUT2 hw_gen
  clear L2 W2
  have hckind := (cell_of_row _ (w.heap.size + 1) 0 C _ _ HROW3.out).trans Hhc_kind.out
  have hcl := (cell_of_row _ (w.heap.size + 1) 7 C _ _ HROW3.out).trans Hhc_serial.out
  go_wp2_with fail
  clear hcl
  clear hckind e1 e3 e4 e5
  refine (numPut B w.heap.size L3 r.serial 4 _ HOUT3.out (Nat.le_trans HBB.out HBW3.out.size) HBB.out (by have := HLEN3.out; omega) HBD.out.2.2.2.1 (by omega) (by omega)).mono ?_
  rintro e W4 ⟨rfl, ho, hb, hk⟩
  have HROW4 := Lib.hid (hk (w.heap.size + 1) C _ _ (by omega) (by decide) HROW3.out)
  have HBW4 := Lib.hid (HBW3.out.trans hb)
  obtain ⟨L4, hL, hlen⟩ : ∃ L4, L4 = L3 ++ putL r.serial 4 ∧ L4.length ≤ 1000000000 + 32 := ⟨_, rfl, by have := HLEN3.out; rw [List.length_append, putL_length]; omega⟩
  rw [← hL] at ho
  have HL4 := Lib.hid (hL.trans (congrArg (· ++ putL r.serial 4) HL3.out))
  have HLEN4 := Lib.hid hlen
  have HOUT4 := Lib.hid ho
  clear ho hb hk hL hlen HROW3 HBW3 HL3 HLEN3 HOUT3 hw_serial
  clear L3 W3
  have hcl := (cell_of_row _ (w.heap.size + 1) 8 C _ _ HROW4.out).trans Hhc_rights.out
  go_wp2_with fail
  clear hcl
  refine (numPut B w.heap.size L4 nr 1 _ HOUT4.out (Nat.le_trans HBB.out HBW4.out.size) HBB.out (by have := HLEN4.out; omega) HBD.out.2.2.2.2.1 (by omega) (by omega)).mono ?_
  rintro e W5 ⟨rfl, ho, hb, hk⟩
  have HROW5 := Lib.hid (hk (w.heap.size + 1) C _ _ (by omega) (by decide) HROW4.out)
  have HBW5 := Lib.hid (HBW4.out.trans hb)
  obtain ⟨L5, hL, hlen⟩ : ∃ L5, L5 = L4 ++ putL nr 1 ∧ L5.length ≤ 1000000000 + 40 := ⟨_, rfl, by have := HLEN4.out; rw [List.length_append, putL_length]; omega⟩
  rw [← hL] at ho
  have HL5 := Lib.hid (hL.trans (congrArg (· ++ putL nr 1) HL4.out))
  have HLEN5 := Lib.hid hlen
  have HOUT5 := Lib.hid ho
  clear ho hb hk hL hlen HROW4 HBW4 HL4 HLEN4 HOUT4 hw_rights
  clear L4 W4
  have hcl := (cell_of_row _ (w.heap.size + 1) 9 C _ _ HROW5.out).trans Hhc_secret.out
  go_wp2_with fail
  clear hcl
  refine (numPut B w.heap.size L5 r.secret 8 _ HOUT5.out (Nat.le_trans HBB.out HBW5.out.size) HBB.out (by have := HLEN5.out; omega) HBD.out.2.2.2.2.2 (by omega) (by omega)).mono ?_
  rintro e W6 ⟨rfl, ho, hb, hk⟩
  have HROW6 := Lib.hid (hk (w.heap.size + 1) C _ _ (by omega) (by decide) HROW5.out)
  have HBW6 := Lib.hid (HBW5.out.trans hb)
  obtain ⟨L6, hL, hlen⟩ : ∃ L6, L6 = L5 ++ putL r.secret 8 ∧ L6.length ≤ 1000000000 + 48 := ⟨_, rfl, by have := HLEN5.out; rw [List.length_append, putL_length]; omega⟩
  rw [← hL] at ho
  have HL6 := Lib.hid (hL.trans (congrArg (· ++ putL r.secret 8) HL5.out))
  have HLEN6 := Lib.hid hlen
  have HOUT6 := Lib.hid ho
  clear ho hb hk hL hlen HROW5 HBW5 HL5 HLEN5 HOUT5
  clear L5 W5
  obtain ⟨vb, hbox, hown⟩ := HOUT6.out
  have hcb := cell_of_row _ w.heap.size 0 _ _ _ hbox
  simp at hcb
  have HOWN := Lib.hid hown
  clear hbox hown
  go_wp2
  go_ret
  exact ⟨vb, rfl, by rw [← HEQ.out, ← HL6.out]; exact HOWN.out, HBW6.out⟩
set_option maxRecDepth 100000 in
set_option maxHeartbeats 4000000 in
theorem recPut6 (B : Nat) (v : Value) (l : List UInt8) (r : Rec) (w : World) (hv : OwnB B w v l) (hB : B ≤ w.heap.size) (hl : l.length ≤ 1000000000) (hm : r.may = true) (hwf : r.wf) (h : r.kind = 6) :
    Calls Try.prog 48 #[v, r.v] w (PutsB B w (l ++ r.bytes)) := by
  obtain ⟨hk1, hk7, hb0, hb63, hgn, hbr⟩ := may_kind hm
  clear hgn hbr
  obtain ⟨wgen, wseq, wserial, wsecret, wversion, wexpiry⟩ := hwf
  obtain ⟨kd, hkd⟩ := Int.eq_ofNat_of_zero_le (show 0 ≤ r.kind by omega)
  obtain ⟨bk, hbk⟩ := Int.eq_ofNat_of_zero_le hb0
  have hw_kind : IntKind.u64.wrap (kd : Int) = (kd : Int) := by rw [IntKind.wrap_u64]; omega
  have hw_bucket : IntKind.u64.wrap (bk : Int) = (bk : Int) := by rw [IntKind.wrap_u64]; omega
  have hw_gen : IntKind.u64.wrap (r.gen : Int) = (r.gen : Int) := by rw [IntKind.wrap_u64]; omega
  have hw_serial : IntKind.u64.wrap (r.serial : Int) = (r.serial : Int) := by rw [IntKind.wrap_u64]; omega
  have HBD := Lib.hid (show kd < 18446744073709551616 ∧ bk < 18446744073709551616 ∧ r.gen < 18446744073709551616 ∧ r.serial < 18446744073709551616 from by refine ⟨?_, ?_, ?_, ?_⟩ <;> omega)
  have heq : l ++ putL kd 1 ++ putL bk 1 ++ putL r.gen 4 ++ putL r.serial 4 = l ++ r.bytes := by
    unfold Rec.bytes Rec.tailL
    rw [if_neg (by rw [h]; decide), if_neg (by rw [h]; decide), if_neg (by rw [h]; decide), if_neg (by rw [h]; decide), if_pos h, hkd, hbk]
    simp only [List.append_assoc, Int.toNat_natCast]
  have HEQ := Lib.hid heq
  have e1 : ((kd : Int) == 1) = false := by simp; omega
  have e3 : ((kd : Int) == 3) = false := by simp; omega
  have e4 : ((kd : Int) == 4) = false := by simp; omega
  have e5 : ((kd : Int) == 5) = false := by simp; omega
  have e6 : ((kd : Int) == 6) = true := by simp; omega
  unfold Rec.v
  have hc_kind : r.cells[0]? = some (.int .i64 (kd : Int)) := by show some (Value.int .i64 r.kind) = _; rw [hkd]
  have hc_bucket : r.cells[1]? = some (.int .i64 (bk : Int)) := by show some (Value.int .i64 r.bucket) = _; rw [hbk]
  have hc_gen : r.cells[2]? = some (.int .u32 (r.gen : Int)) := rfl
  have hc_serial : r.cells[7]? = some (.int .u32 (r.serial : Int)) := rfl
  obtain ⟨a0, cap0, rfl, hcapl⟩ := (show ∃ a cap, v = .slice a l.length cap ∧ l.length ≤ cap from by obtain ⟨a, cap, h1, _, h3, _⟩ := hv.out; exact ⟨a, cap, h1, h3⟩)
  generalize r.cells = C at *
  have Hhc_kind := Lib.hid hc_kind
  have Hhc_bucket := Lib.hid hc_bucket
  have Hhc_gen := Lib.hid hc_gen
  have Hhc_serial := Lib.hid hc_serial
  have HV := Lib.hid hv
  clear hv hm hk1 hk7 hb0 hb63 hkd hbk wgen wseq wserial wsecret wversion wexpiry heq hcapl h hc_kind hc_bucket hc_gen hc_serial
  have hmf : ∀ (fn : Fn) (first cap : Array Value) (w : World), (Instr.makeFunc fn first cap).run Try.prog w = .ok (.func fn first cap) w := fun _ _ _ _ => rfl
  have hw0 : ∀ b0 : Array Value, Below B w ((w.alloc (.cells b0 22)).alloc (.cells C 61)) := fun b0 => ((Below.refl B w).alloc hB _).alloc (by simp; omega) _
  have HW0 := Lib.hid hw0
  have HOUT := Lib.hid (show OutB B w.heap.size ((w.alloc (.cells #[.slice a0 l.length cap0] 22)).alloc (.cells C 61)) l from ⟨_, heap_alloc2_old w _ _, (HV.out.alloc _).alloc _⟩)
  have HROW := Lib.hid (show ((w.alloc (.cells #[.slice a0 l.length cap0] 22)).alloc (.cells C 61)).heap[w.heap.size + 1]? = some (.cells C 61 (0, 0)) from heap_alloc2_new w _ _)
  have HBB := Lib.hid hB
  have HBW := Lib.hid (HW0.out #[.slice a0 l.length cap0])
  clear hw0 HW0 HV hB
  go_enter Try.func48, Try.ntmps48
  obtain ⟨L0, hL0⟩ : ∃ L0, L0 = l := ⟨l, rfl⟩
  have HL0 := Lib.hid hL0
  have HLEN0 := Lib.hid (show L0.length ≤ 1000000000 by rw [hL0]; exact hl)
  have HOUT0 : Hid (OutB B w.heap.size ((w.alloc (.cells #[.slice a0 l.length cap0] 22)).alloc (.cells C 61)) L0) := by rw [hL0]; exact HOUT
  clear hL0 hl HOUT
  have hcl := Hhc_kind.out
  go_wp2_with fail
  clear hcl
  generalize World.alloc (World.alloc w (.cells #[.slice a0 l.length cap0] 22)) (.cells C 61) = W0 at *
  have HROW0 := HROW
  have HBW0 := HBW
  clear HROW HBW
  refine (numPut B w.heap.size L0 kd 1 _ HOUT0.out (Nat.le_trans HBB.out HBW0.out.size) HBB.out (by have := HLEN0.out; omega) HBD.out.1 (by omega) (by omega)).mono ?_
  rintro e W1 ⟨rfl, ho, hb, hk⟩
  have HROW1 := Lib.hid (hk (w.heap.size + 1) C _ _ (by omega) (by decide) HROW0.out)
  have HBW1 := Lib.hid (HBW0.out.trans hb)
  obtain ⟨L1, hL, hlen⟩ : ∃ L1, L1 = L0 ++ putL kd 1 ∧ L1.length ≤ 1000000000 + 8 := ⟨_, rfl, by have := HLEN0.out; rw [List.length_append, putL_length]; omega⟩
  rw [← hL] at ho
  have HL1 := Lib.hid (hL.trans (congrArg (· ++ putL kd 1) HL0.out))
  have HLEN1 := Lib.hid hlen
  have HOUT1 := Lib.hid ho
  clear ho hb hk hL hlen HROW0 HBW0 HL0 HLEN0 HOUT0 hw_kind
  clear L0 W0
  have hcl := (cell_of_row _ (w.heap.size + 1) 1 C _ _ HROW1.out).trans Hhc_bucket.out
  go_wp2_with fail
  clear hcl
  refine (numPut B w.heap.size L1 bk 1 _ HOUT1.out (Nat.le_trans HBB.out HBW1.out.size) HBB.out (by have := HLEN1.out; omega) HBD.out.2.1 (by omega) (by omega)).mono ?_
  rintro e W2 ⟨rfl, ho, hb, hk⟩
  have HROW2 := Lib.hid (hk (w.heap.size + 1) C _ _ (by omega) (by decide) HROW1.out)
  have HBW2 := Lib.hid (HBW1.out.trans hb)
  obtain ⟨L2, hL, hlen⟩ : ∃ L2, L2 = L1 ++ putL bk 1 ∧ L2.length ≤ 1000000000 + 16 := ⟨_, rfl, by have := HLEN1.out; rw [List.length_append, putL_length]; omega⟩
  rw [← hL] at ho
  have HL2 := Lib.hid (hL.trans (congrArg (· ++ putL bk 1) HL1.out))
  have HLEN2 := Lib.hid hlen
  have HOUT2 := Lib.hid ho
  clear ho hb hk hL hlen HROW1 HBW1 HL1 HLEN1 HOUT1 hw_bucket
  clear L1 W1
  have hcl := (cell_of_row _ (w.heap.size + 1) 2 C _ _ HROW2.out).trans Hhc_gen.out
  go_wp2_with fail
  clear hcl
  refine (numPut B w.heap.size L2 r.gen 4 _ HOUT2.out (Nat.le_trans HBB.out HBW2.out.size) HBB.out (by have := HLEN2.out; omega) HBD.out.2.2.1 (by omega) (by omega)).mono ?_
  rintro e W3 ⟨rfl, ho, hb, hk⟩
  have HROW3 := Lib.hid (hk (w.heap.size + 1) C _ _ (by omega) (by decide) HROW2.out)
  have HBW3 := Lib.hid (HBW2.out.trans hb)
  obtain ⟨L3, hL, hlen⟩ : ∃ L3, L3 = L2 ++ putL r.gen 4 ∧ L3.length ≤ 1000000000 + 24 := ⟨_, rfl, by have := HLEN2.out; rw [List.length_append, putL_length]; omega⟩
  rw [← hL] at ho
  have HL3 := Lib.hid (hL.trans (congrArg (· ++ putL r.gen 4) HL2.out))
  have HLEN3 := Lib.hid hlen
  have HOUT3 := Lib.hid ho
  clear ho hb hk hL hlen HROW2 HBW2 HL2 HLEN2 HOUT2 hw_gen
  clear L2 W2
  have hckind := (cell_of_row _ (w.heap.size + 1) 0 C _ _ HROW3.out).trans Hhc_kind.out
  have hcl := (cell_of_row _ (w.heap.size + 1) 7 C _ _ HROW3.out).trans Hhc_serial.out
  go_wp2_with fail
  clear hcl
  clear hckind e1 e3 e4 e5 e6
  refine (numPut B w.heap.size L3 r.serial 4 _ HOUT3.out (Nat.le_trans HBB.out HBW3.out.size) HBB.out (by have := HLEN3.out; omega) HBD.out.2.2.2 (by omega) (by omega)).mono ?_
  rintro e W4 ⟨rfl, ho, hb, hk⟩
  have HROW4 := Lib.hid (hk (w.heap.size + 1) C _ _ (by omega) (by decide) HROW3.out)
  have HBW4 := Lib.hid (HBW3.out.trans hb)
  obtain ⟨L4, hL, hlen⟩ : ∃ L4, L4 = L3 ++ putL r.serial 4 ∧ L4.length ≤ 1000000000 + 32 := ⟨_, rfl, by have := HLEN3.out; rw [List.length_append, putL_length]; omega⟩
  rw [← hL] at ho
  have HL4 := Lib.hid (hL.trans (congrArg (· ++ putL r.serial 4) HL3.out))
  have HLEN4 := Lib.hid hlen
  have HOUT4 := Lib.hid ho
  clear ho hb hk hL hlen HROW3 HBW3 HL3 HLEN3 HOUT3 hw_serial
  clear L3 W3
  obtain ⟨vb, hbox, hown⟩ := HOUT4.out
  have hcb := cell_of_row _ w.heap.size 0 _ _ _ hbox
  simp at hcb
  have HOWN := Lib.hid hown
  clear hbox hown
  go_wp2
  go_ret
  exact ⟨vb, rfl, by rw [← HEQ.out, ← HL4.out]; exact HOWN.out, HBW4.out⟩
set_option maxRecDepth 100000 in
set_option maxHeartbeats 4000000 in
theorem recPut0 (B : Nat) (v : Value) (l : List UInt8) (r : Rec) (w : World) (hv : OwnB B w v l) (hB : B ≤ w.heap.size) (hl : l.length ≤ 1000000000) (hm : r.may = true) (hwf : r.wf) (g1 : r.kind ≠ 1) (g3 : r.kind ≠ 3) (g4 : r.kind ≠ 4) (g5 : r.kind ≠ 5) (g6 : r.kind ≠ 6) :
    Calls Try.prog 48 #[v, r.v] w (PutsB B w (l ++ r.bytes)) := by
  obtain ⟨hk1, hk7, hb0, hb63, hgn, hbr⟩ := may_kind hm
  clear hgn hbr
  obtain ⟨wgen, wseq, wserial, wsecret, wversion, wexpiry⟩ := hwf
  obtain ⟨kd, hkd⟩ := Int.eq_ofNat_of_zero_le (show 0 ≤ r.kind by omega)
  obtain ⟨bk, hbk⟩ := Int.eq_ofNat_of_zero_le hb0
  have hw_kind : IntKind.u64.wrap (kd : Int) = (kd : Int) := by rw [IntKind.wrap_u64]; omega
  have hw_bucket : IntKind.u64.wrap (bk : Int) = (bk : Int) := by rw [IntKind.wrap_u64]; omega
  have hw_gen : IntKind.u64.wrap (r.gen : Int) = (r.gen : Int) := by rw [IntKind.wrap_u64]; omega
  have HBD := Lib.hid (show kd < 18446744073709551616 ∧ bk < 18446744073709551616 ∧ r.gen < 18446744073709551616 from by refine ⟨?_, ?_, ?_⟩ <;> omega)
  have heq : l ++ putL kd 1 ++ putL bk 1 ++ putL r.gen 4 = l ++ r.bytes := by
    unfold Rec.bytes Rec.tailL
    rw [if_neg g1, if_neg g3, if_neg g4, if_neg g5, if_neg g6, hkd, hbk]
    simp only [List.append_assoc, Int.toNat_natCast, List.append_nil]
  have HEQ := Lib.hid heq
  have e1 : ((kd : Int) == 1) = false := by simp; omega
  have e3 : ((kd : Int) == 3) = false := by simp; omega
  have e4 : ((kd : Int) == 4) = false := by simp; omega
  have e5 : ((kd : Int) == 5) = false := by simp; omega
  have e6 : ((kd : Int) == 6) = false := by simp; omega
  unfold Rec.v
  have hc_kind : r.cells[0]? = some (.int .i64 (kd : Int)) := by show some (Value.int .i64 r.kind) = _; rw [hkd]
  have hc_bucket : r.cells[1]? = some (.int .i64 (bk : Int)) := by show some (Value.int .i64 r.bucket) = _; rw [hbk]
  have hc_gen : r.cells[2]? = some (.int .u32 (r.gen : Int)) := rfl
  obtain ⟨a0, cap0, rfl, hcapl⟩ := (show ∃ a cap, v = .slice a l.length cap ∧ l.length ≤ cap from by obtain ⟨a, cap, h1, _, h3, _⟩ := hv.out; exact ⟨a, cap, h1, h3⟩)
  generalize r.cells = C at *
  have Hhc_kind := Lib.hid hc_kind
  have Hhc_bucket := Lib.hid hc_bucket
  have Hhc_gen := Lib.hid hc_gen
  have HV := Lib.hid hv
  clear hv hm hk1 hk7 hb0 hb63 hkd hbk wgen wseq wserial wsecret wversion wexpiry heq hcapl g1 g3 g4 g5 g6 hc_kind hc_bucket hc_gen
  have hmf : ∀ (fn : Fn) (first cap : Array Value) (w : World), (Instr.makeFunc fn first cap).run Try.prog w = .ok (.func fn first cap) w := fun _ _ _ _ => rfl
  have hw0 : ∀ b0 : Array Value, Below B w ((w.alloc (.cells b0 22)).alloc (.cells C 61)) := fun b0 => ((Below.refl B w).alloc hB _).alloc (by simp; omega) _
  have HW0 := Lib.hid hw0
  have HOUT := Lib.hid (show OutB B w.heap.size ((w.alloc (.cells #[.slice a0 l.length cap0] 22)).alloc (.cells C 61)) l from ⟨_, heap_alloc2_old w _ _, (HV.out.alloc _).alloc _⟩)
  have HROW := Lib.hid (show ((w.alloc (.cells #[.slice a0 l.length cap0] 22)).alloc (.cells C 61)).heap[w.heap.size + 1]? = some (.cells C 61 (0, 0)) from heap_alloc2_new w _ _)
  have HBB := Lib.hid hB
  have HBW := Lib.hid (HW0.out #[.slice a0 l.length cap0])
  clear hw0 HW0 HV hB
  go_enter Try.func48, Try.ntmps48
  obtain ⟨L0, hL0⟩ : ∃ L0, L0 = l := ⟨l, rfl⟩
  have HL0 := Lib.hid hL0
  have HLEN0 := Lib.hid (show L0.length ≤ 1000000000 by rw [hL0]; exact hl)
  have HOUT0 : Hid (OutB B w.heap.size ((w.alloc (.cells #[.slice a0 l.length cap0] 22)).alloc (.cells C 61)) L0) := by rw [hL0]; exact HOUT
  clear hL0 hl HOUT
  have hcl := Hhc_kind.out
  go_wp2_with fail
  clear hcl
  generalize World.alloc (World.alloc w (.cells #[.slice a0 l.length cap0] 22)) (.cells C 61) = W0 at *
  have HROW0 := HROW
  have HBW0 := HBW
  clear HROW HBW
  refine (numPut B w.heap.size L0 kd 1 _ HOUT0.out (Nat.le_trans HBB.out HBW0.out.size) HBB.out (by have := HLEN0.out; omega) HBD.out.1 (by omega) (by omega)).mono ?_
  rintro e W1 ⟨rfl, ho, hb, hk⟩
  have HROW1 := Lib.hid (hk (w.heap.size + 1) C _ _ (by omega) (by decide) HROW0.out)
  have HBW1 := Lib.hid (HBW0.out.trans hb)
  obtain ⟨L1, hL, hlen⟩ : ∃ L1, L1 = L0 ++ putL kd 1 ∧ L1.length ≤ 1000000000 + 8 := ⟨_, rfl, by have := HLEN0.out; rw [List.length_append, putL_length]; omega⟩
  rw [← hL] at ho
  have HL1 := Lib.hid (hL.trans (congrArg (· ++ putL kd 1) HL0.out))
  have HLEN1 := Lib.hid hlen
  have HOUT1 := Lib.hid ho
  clear ho hb hk hL hlen HROW0 HBW0 HL0 HLEN0 HOUT0 hw_kind
  clear L0 W0
  have hcl := (cell_of_row _ (w.heap.size + 1) 1 C _ _ HROW1.out).trans Hhc_bucket.out
  go_wp2_with fail
  clear hcl
  refine (numPut B w.heap.size L1 bk 1 _ HOUT1.out (Nat.le_trans HBB.out HBW1.out.size) HBB.out (by have := HLEN1.out; omega) HBD.out.2.1 (by omega) (by omega)).mono ?_
  rintro e W2 ⟨rfl, ho, hb, hk⟩
  have HROW2 := Lib.hid (hk (w.heap.size + 1) C _ _ (by omega) (by decide) HROW1.out)
  have HBW2 := Lib.hid (HBW1.out.trans hb)
  obtain ⟨L2, hL, hlen⟩ : ∃ L2, L2 = L1 ++ putL bk 1 ∧ L2.length ≤ 1000000000 + 16 := ⟨_, rfl, by have := HLEN1.out; rw [List.length_append, putL_length]; omega⟩
  rw [← hL] at ho
  have HL2 := Lib.hid (hL.trans (congrArg (· ++ putL bk 1) HL1.out))
  have HLEN2 := Lib.hid hlen
  have HOUT2 := Lib.hid ho
  clear ho hb hk hL hlen HROW1 HBW1 HL1 HLEN1 HOUT1 hw_bucket
  clear L1 W1
  have hcl := (cell_of_row _ (w.heap.size + 1) 2 C _ _ HROW2.out).trans Hhc_gen.out
  go_wp2_with fail
  clear hcl
  refine (numPut B w.heap.size L2 r.gen 4 _ HOUT2.out (Nat.le_trans HBB.out HBW2.out.size) HBB.out (by have := HLEN2.out; omega) HBD.out.2.2 (by omega) (by omega)).mono ?_
  rintro e W3 ⟨rfl, ho, hb, hk⟩
  have HROW3 := Lib.hid (hk (w.heap.size + 1) C _ _ (by omega) (by decide) HROW2.out)
  have HBW3 := Lib.hid (HBW2.out.trans hb)
  obtain ⟨L3, hL, hlen⟩ : ∃ L3, L3 = L2 ++ putL r.gen 4 ∧ L3.length ≤ 1000000000 + 24 := ⟨_, rfl, by have := HLEN2.out; rw [List.length_append, putL_length]; omega⟩
  rw [← hL] at ho
  have HL3 := Lib.hid (hL.trans (congrArg (· ++ putL r.gen 4) HL2.out))
  have HLEN3 := Lib.hid hlen
  have HOUT3 := Lib.hid ho
  clear ho hb hk hL hlen HROW2 HBW2 HL2 HLEN2 HOUT2 hw_gen
  clear L2 W2
  have hckind := (cell_of_row _ (w.heap.size + 1) 0 C _ _ HROW3.out).trans Hhc_kind.out
  obtain ⟨vb, hbox, hown⟩ := HOUT3.out
  have hcb := cell_of_row _ w.heap.size 0 _ _ _ hbox
  simp at hcb
  have HOWN := Lib.hid hown
  clear hbox hown
  go_wp2
  go_ret
  exact ⟨vb, rfl, by rw [← HEQ.out, ← HL3.out]; exact HOWN.out, HBW3.out⟩
theorem recPut (B : Nat) (v : Value) (l : List UInt8) (r : Rec) (w : World) (hv : OwnB B w v l) (hB : B ≤ w.heap.size) (hl : l.length ≤ 1000000000) (hm : r.may = true) (hwf : r.wf) :
    Calls Try.prog 48 #[v, r.v] w (PutsB B w (l ++ r.bytes)) := by
  by_cases h1 : r.kind = 1
  · exact recPut1 B v l r w hv hB hl hm hwf h1
  by_cases h3 : r.kind = 3
  · exact recPut3 B v l r w hv hB hl hm hwf h3
  by_cases h4 : r.kind = 4
  · exact recPut4 B v l r w hv hB hl hm hwf h4
  by_cases h5 : r.kind = 5
  · exact recPut5 B v l r w hv hB hl hm hwf h5
  by_cases h6 : r.kind = 6
  · exact recPut6 B v l r w hv hB hl hm hwf h6
  exact recPut0 B v l r w hv hB hl hm hwf h1 h3 h4 h5 h6
end Go.Proofs.Ytiihemmonncioaa
