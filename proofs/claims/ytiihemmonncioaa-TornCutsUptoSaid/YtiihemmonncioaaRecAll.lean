/- Contracts of record.Put and the reference's Body. -/
import Derived.Test.YtiihemmonncioaaRecCost
import Derived.Test.YtiihemmonncioaaCode
namespace Go.Proofs.Ytiihemmonncioaa
open Go.RowKit
/-- Many records' bytes. -/
def recsL (l : List Rec) : List UInt8 := l.flatMap Rec.bytes
theorem recsL_take (l : List Rec) (j : Nat) (h : j < l.length) : recsL (l.take (j + 1)) = recsL (l.take j) ++ l[j].bytes := by
  unfold recsL
  rw [List.take_succ_eq_append_getElem h, List.flatMap_append]
  simp
theorem recsL_len (l : List Rec) : (recsL l).length ≤ 140000 * l.length := by
  induction l with
  | nil => simp [recsL]
  | cons r l ih =>
    have := (bytes_len r).2
    simp only [recsL, List.flatMap_cons, List.length_append, List.length_cons] at *
    omega
theorem recsL_le (l : List Rec) (j : Nat) : (recsL (l.take j)).length ≤ (recsL l).length := by
  conv => rhs; rw [← List.take_append_drop j l]
  unfold recsL
  rw [List.flatMap_append, List.length_append]
  omega
/-- May these be put? -/
def putOk (l : List Rec) : Bool := l.all Rec.may && (decide (0 < (recsL l).length) && decide ((recsL l).length ≤ 20000))
def RecPutOk (l : List Rec) (w : World) (e : Ending) (w' : World) : Prop := Below w.heap.size w w' ∧
  (putOk l = true ∧ (∃ v, e = .returned (.tuple #[v, .nilIface]) ∧ OwnB w.heap.size w' v (recsL l)) ∨ putOk l = false ∧ e = .returned (.tuple #[.slice none 0 0, .iface 28 (.int .i64 1)]))
theorem putOk_bad {l : List Rec} {j : Nat} (h : j < l.length) (hm : l[j].may = false) : putOk l = false := by
  unfold putOk
  have : l.all Rec.may = false := by
    rw [List.all_eq_false]
    exact ⟨l[j], List.getElem_mem h, by rw [hm]; decide⟩
  rw [this]
  rfl
theorem putOk_long {l : List Rec} (h : 20000 < (recsL l).length) : putOk l = false := by
  unfold putOk
  rw [decide_eq_false (show ¬ (recsL l).length ≤ 20000 by omega), Bool.and_false, Bool.and_false]
theorem putOk_none {l : List Rec} (h : (recsL l).length = 0) : putOk l = false := by
  unfold putOk
  rw [decide_eq_false (show ¬ 0 < (recsL l).length by omega), Bool.false_and, Bool.and_false]
theorem putOk_yes {l : List Rec} (h : l.all Rec.may = true) (h1 : 0 < (recsL l).length) (h2 : (recsL l).length ≤ 20000) : putOk l = true := by
  unfold putOk
  rw [h, decide_eq_true h1, decide_eq_true h2]
  rfl
theorem all_take_succ {l : List Rec} {j : Nat} (h : j < l.length) (ha : (l.take j).all Rec.may = true) (hm : l[j].may = true) : (l.take (j + 1)).all Rec.may = true := by
  rw [List.take_succ_eq_append_getElem h, List.all_append, ha]
  simp [hm]
set_option maxRecDepth 100000 in
set_option maxHeartbeats 4000000 in
theorem recPutAll (a : Option Addr) (cap : Nat) (l : List Rec) (w : World) (hl : l.length ≤ 5000) (h : IsRecs w a l) :
    Calls Try.prog 30 #[.slice a l.length cap] w (RecPutOk l w) := by
  have HI := Lib.hid h
  have HLL := Lib.hid hl
  have HSZ := Lib.hid rec_size
  clear h hl
  go_enter Try.func30, Try.ntmps30
  go_wp2
  go_loopw [4, 9] (fun o i wr => ∃ (j : Nat) (L : List UInt8), j ≤ l.length ∧ i = .int .i64 j ∧ L.length ≤ 700000000 ∧ Hid (L = recsL (l.take j)) ∧ Hid (OwnB w.heap.size wr o L) ∧ Hid ((l.take j).all Rec.may = true) ∧ Hid (Below w.heap.size w wr)) (fun _ i _ => l.length - (intOf i).toNat)
  case atStart => exact ⟨0, [], Nat.zero_le _, rfl, by simp, rfl, OwnB.nil _ _, rfl, Below.refl _ _⟩
  case round =>
    obtain ⟨j, L, hj, rfl, hLn, HL, HO, HA, HB⟩ := hrel
    obtain ⟨ao, capo, rfl, hoc⟩ : ∃ (ao : Option Addr) (capo : Nat), u4 = Value.slice ao L.length capo ∧ L.length ≤ capo := by
      obtain ⟨a, c, h1, _, h3, _⟩ := HO.out.out
      exact ⟨a, c, h1, h3⟩
    clear hoc
    by_cases hlt : j < l.length
    · obtain ⟨b, off, rfl, hbl, hrec, hwf⟩ := HI.out j hlt
      have hrec' : RecAt wr b (off + j * 14) l[j] := fun q hq => by rw [← hrec q hq]; exact HB.out.cell (p := ⟨b, off + j * 14 + q, none⟩) hbl
      have HLD := Lib.hid (run_load_rec wr b (off + j * 14) l[j] hrec')
      have HX := Lib.hid (And.intro hwf (And.intro (recsL_take l j hlt) (fun hm => all_take_succ hlt HA.out hm)))
      have HBAD := Lib.hid (fun (hm : l[j].may = false) => putOk_bad hlt hm)
      clear hrec hwf hrec' hbl
      generalize l[j] = r at *
      have HM := Lib.hid (fun w => recMay r w)
      have HP := Lib.hid (fun B v L w hv hB hl hm => recPut B v L r w hv hB hl hm HX.out.1)
      have HCS := Lib.hid (rec_sizeC r)
      have hcs : r.cells = #[.int .i64 r.kind, .int .i64 r.bucket, .int .u32 r.gen, .int .i64 r.qk, .int .i64 r.qb, .int .i64 r.qg, .int .u64 r.seq, .int .u32 r.serial, .int .i64 r.rights, .int .u64 r.secret, .string r.key, .string r.val, .int .u64 r.version, .int .u64 r.expiry] := rfl
      unfold Rec.v at HLD HM HP
      rw [hcs] at HLD
      have HCE := Lib.hid hcs
      clear hcs
      go_wp2_with (refine wpList_load_by rfl 61 (.tmp 11) rfl _ _ rfl HLD.out ?_)
      rw [← HCE.out]
      generalize r.cells = C at *
      have hb0 : Below wr.heap.size wr (wr.alloc (.cells C 61)) := (Below.refl _ _).alloc (Nat.le_refl _) _
      have hg0 : (wr.alloc (.cells C 61)).heap[wr.heap.size]? = some (.cells C 61 (0, 0)) := heap_alloc_new wr _
      have hlt0 : wr.heap.size < (wr.alloc (.cells C 61)).heap.size := by simp
      have HO0 := Lib.hid (HO.out.alloc (.cells C 61))
      have HB0 := Lib.hid (HB.out.trans (hb0.mono HB.out.size))
      generalize wr.alloc (.cells C 61) = W0 at *
      have HG0 := Lib.hid (And.intro hg0 hlt0)
      clear hb0 hg0 hlt0 HLD HO HB HCE
      refine (HM.out _).mono ?_
      rintro e W1 ⟨rfl, hb1⟩
      have HB1 := Lib.hid (HB0.out.trans (hb1.mono HB0.out.size))
      have HO1 := Lib.hid (HO0.out.bel hb1)
      have HG1 := Lib.hid (show W1.heap[wr.heap.size]? = some (.cells C 61 (0, 0)) from by rw [hb1.block _ HG0.out.2]; exact HG0.out.1)
      clear hb1 HG0 HB0 HO0 HM W0
      by_cases hm : r.may = true
      · have HMY := Lib.hid hm
        rw [hm]
        clear hm HBAD
        by_cases hL : 20000 < L.length
        · have HBAD := Lib.hid (putOk_long (l := l) (by have := recsL_le l j; rw [← HL.out] at this; omega))
          have d1 : decide ((20000 : Int) < (L.length : Int)) = true := by simp; omega
          clear hL
          go_wp2
          go_ret2
          exact ⟨HB1.out, .inr ⟨HBAD.out, rfl⟩⟩
        · have d1 : decide ((20000 : Int) < (L.length : Int)) = false := by simp; omega
          go_wp2_with (refine wpList_load_row rfl 61 (.tmp 6) rfl wr.heap.size rfl 61 C (0, 0) _ HG1.out Try.underlying61 rfl HCS.out ?_)
          refine (HP.out w.heap.size _ L W1 HO1.out HB1.out.size (by omega) HMY.out).mono ?_
          rintro e W2 ⟨v2, rfl, ho2, hb2⟩
          have HO2 := Lib.hid ho2
          have HB2 := Lib.hid (HB1.out.trans hb2)
          have HLN := Lib.hid (bytes_len r).2
          have HL2 : Hid (L ++ r.bytes = recsL (l.take (j + 1))) := by have := HX.out.2.1; rw [this, ← HL.out]; rfl
          have HA2 := Lib.hid (HX.out.2.2 HMY.out)
          clear ho2 hb2 HL HA HX
          have hll := HLL.out
          go_wp2_with fail
          go_roundw
          case rel => exact ⟨j + 1, L ++ r.bytes, by omega, by go_num, by have := HLN.out; rw [List.length_append]; omega, HL2, HO2, HA2, HB2⟩
          case measure => simp [intOf]; omega
      · have hmf : r.may = false := by simpa using hm
        have HBD := Lib.hid (HBAD.out hmf)
        rw [hmf]
        clear hm hmf HBAD
        go_wp2
        go_ret2
        exact ⟨HB1.out, .inr ⟨HBD.out, rfl⟩⟩
    · obtain rfl : j = l.length := by omega
      have HE : Hid (L = recsL l) := by have := HL.out; rw [List.take_length] at this; exact this
      have HAA : Hid (l.all Rec.may = true) := by have := HA.out; rw [List.take_length] at this; exact this
      clear HL HA hlt hj
      by_cases h0 : L.length = 0
      · have HBD := Lib.hid (putOk_none (l := l) (by rw [← HE.out]; exact h0))
        have d0 : ((L.length : Int) == 0) = true := by simp; exact List.eq_nil_of_length_eq_zero h0
        rw [h0]
        clear h0 d0
        go_wp2
        go_ret2
        exact ⟨HB.out, .inr ⟨HBD.out, rfl⟩⟩
      by_cases h1 : 20000 < L.length
      · have HBD := Lib.hid (putOk_long (l := l) (by rw [← HE.out]; exact h1))
        have d1 : decide ((20000 : Int) < (L.length : Int)) = true := by simp; omega
        have d0 : ((L.length : Int) == 0) = false := by rw [beq_eq_false_iff_ne]; omega
        clear h0 h1
        go_wp2
        go_ret2
        exact ⟨HB.out, .inr ⟨HBD.out, rfl⟩⟩
      · have HOK := Lib.hid (putOk_yes HAA.out (by rw [← HE.out]; omega) (by rw [← HE.out]; omega))
        have d1 : decide ((20000 : Int) < (L.length : Int)) = false := by simp; omega
        have d0 : ((L.length : Int) == 0) = false := by rw [beq_eq_false_iff_ne]; omega
        clear h0 h1
        go_wp2
        go_ret2
        exact ⟨HB.out, .inl ⟨HOK.out, _, rfl, by rw [← HE.out]; exact HO.out⟩⟩
def RefBodyOk (l : List Rec) (w : World) (e : Ending) (w' : World) : Prop := Below w.heap.size w w' ∧
  (l.all Rec.may = true ∧ (∃ v, e = .returned (.tuple #[v, .bool (putOk l)]) ∧ OwnB w.heap.size w' v (recsL l)) ∨ l.all Rec.may = false ∧ e = .returned (.tuple #[.slice none 0 0, .bool false]))
set_option maxRecDepth 100000 in
set_option maxHeartbeats 4000000 in
theorem refBody (a : Option Addr) (cap : Nat) (l : List Rec) (w : World) (hl : l.length ≤ 5000) (h : IsRecs w a l) :
    Calls Try.prog 23 #[.slice a l.length cap] w (RefBodyOk l w) := by
  have HI := Lib.hid h
  have HLL := Lib.hid hl
  clear h hl
  go_enter Try.func23, Try.ntmps23
  go_wp2
  go_loopw [4, 5] (fun o i wr => ∃ (j : Nat) (L : List UInt8), j ≤ l.length ∧ i = .int .i64 j ∧ Hid (L.length ≤ 140000 * j) ∧ Hid (L = recsL (l.take j)) ∧ Hid (OwnB w.heap.size wr o L) ∧ Hid ((l.take j).all Rec.may = true) ∧ Hid (Below w.heap.size w wr)) (fun _ i _ => l.length - (intOf i).toNat)
  case atStart => exact ⟨0, [], Nat.zero_le _, rfl, by show _ ≤ _; simp, rfl, OwnB.nil _ _, rfl, Below.refl _ _⟩
  case round =>
    obtain ⟨j, L, hj, rfl, HLn, HL, HO, HA, HB⟩ := hrel
    obtain ⟨ao, capo, rfl, hoc⟩ : ∃ (ao : Option Addr) (capo : Nat), u4 = Value.slice ao L.length capo ∧ L.length ≤ capo := by
      obtain ⟨a, c, h1, _, h3, _⟩ := HO.out.out
      exact ⟨a, c, h1, h3⟩
    clear hoc
    by_cases hlt : j < l.length
    · obtain ⟨b, off, rfl, hbl, hrec, hwf⟩ := HI.out j hlt
      have HLD := Lib.hid (fun (w2 : World) (hb2 : Below w.heap.size w w2) => run_load_rec w2 b (off + j * 14) l[j] (fun q hq => by rw [← hrec q hq]; exact hb2.cell (p := ⟨b, off + j * 14 + q, none⟩) hbl))
      have HX := Lib.hid (And.intro hwf (And.intro (recsL_take l j hlt) (fun hm => all_take_succ hlt HA.out hm)))
      have HBAD := Lib.hid (fun (hm : l[j].may = false) => show l.all Rec.may = false from by rw [List.all_eq_false]; exact ⟨l[j], List.getElem_mem hlt, by rw [hm]; decide⟩)
      clear hrec hwf hbl
      generalize l[j] = r at *
      have HM := Lib.hid (fun w => refMay r w)
      have HP := Lib.hid (fun B v L w hv hB hl hm => refBytes B v L r w hv hB hl hm HX.out.1)
      unfold Rec.v at HLD HM HP
      generalize r.cells = C at *
      go_wp2_with (refine wpList_load_by rfl 61 (.tmp 15) rfl _ _ rfl (HLD.out _ HB.out) ?_)
      refine (HM.out _).mono ?_
      rintro e W1 ⟨rfl, hb1⟩
      have HB1 := Lib.hid (below_next HB.out hb1)
      have HO1 := Lib.hid (HO.out.bel hb1)
      clear hb1 HB HO HM
      by_cases hm : r.may = true
      · have HMY := Lib.hid hm
        rw [hm]
        clear hm HBAD
        go_wp2_with (refine wpList_load_by rfl 61 (.tmp 23) rfl _ _ rfl (HLD.out _ HB1.out) ?_)
        refine (HP.out w.heap.size _ L W1 HO1.out HB1.out.size (by have := HLn.out; have := HLL.out; omega) HMY.out).mono ?_
        rintro e W2 ⟨v2, rfl, ho2, hb2⟩
        have HO2 := Lib.hid ho2
        have HB2 := Lib.hid (HB1.out.trans hb2)
        have HL2 : Hid (L ++ r.bytes = recsL (l.take (j + 1))) := by have := HX.out.2.1; rw [this, ← HL.out]; rfl
        have HLn2 : Hid ((L ++ r.bytes).length ≤ 140000 * (j + 1)) := by have h1 := (bytes_len r).2; have h2 := HLn.out; show _ ≤ _; rw [List.length_append]; omega
        have HA2 := Lib.hid (HX.out.2.2 HMY.out)
        clear ho2 hb2 HL HA HX
        have hll := HLL.out
        go_wp2_with fail
        go_roundw
        case rel => exact ⟨j + 1, L ++ r.bytes, by omega, by go_num, HLn2, HL2, HO2, HA2, HB2⟩
        case measure => simp [intOf]; omega
      · have hmf : r.may = false := by simpa using hm
        have HBD := Lib.hid (HBAD.out hmf)
        rw [hmf]
        clear hm hmf HBAD
        go_wp2
        go_ret2
        exact ⟨HB1.out, .inr ⟨HBD.out, rfl⟩⟩
    · obtain rfl : j = l.length := by omega
      have HE : Hid (L = recsL l) := by have := HL.out; rw [List.take_length] at this; exact this
      have HAA : Hid (l.all Rec.may = true) := by have := HA.out; rw [List.take_length] at this; exact this
      have hputs : putOk l = (decide (0 < L.length) && decide (L.length ≤ 20000)) := by unfold putOk; rw [HAA.out, HE.out]; rfl
      have HPU := Lib.hid hputs
      have hll := HLL.out
      have HLB := Lib.hid (show L.length ≤ 1000000000 by have := HLn.out; omega)
      clear HL HA hlt hj hputs
      by_cases h0 : L.length = 0
      · have hL0 : L = [] := List.eq_nil_of_length_eq_zero h0
        subst hL0
        clear h0
        simp only [List.length_nil]
        go_wp2
        go_ret2
        exact ⟨HB.out, .inl ⟨HAA.out, _, by rw [HPU.out]; rfl, by rw [← HE.out]; exact HO.out⟩⟩
      · have d0 : decide ((0 : Int) < (L.length : Int)) = true := by rw [decide_eq_true_eq]; omega
        have d1 : decide (0 < L.length) = true := by rw [decide_eq_true_eq]; omega
        have HD0 := Lib.hid d1
        clear h0
        go_wp2
        go_ret2
        refine ⟨HB.out, .inl ⟨HAA.out, _, ?_, by rw [← HE.out]; exact HO.out⟩⟩
        rw [HPU.out, HD0.out, Bool.true_and, ← dec_le L.length 20000]
        rfl
end Go.Proofs.Ytiihemmonncioaa
