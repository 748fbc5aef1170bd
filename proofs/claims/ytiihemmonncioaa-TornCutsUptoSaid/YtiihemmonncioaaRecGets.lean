/- The contract of record.Get. -/
import Derived.Test.YtiihemmonncioaaReadAll
import Derived.Test.YtiihemmonncioaaRecGet
import Derived.Test.YtiihemmonncioaaRecRow
import Derived.Test.YtiihemmonncioaaReads
namespace Go.Proofs.Ytiihemmonncioaa
open Go.RowKit
def RecGetOk (b : List UInt8) (w : World) (e : Ending) (w' : World) : Prop := Below w.heap.size w w' ∧
  ((recsOf b = none ∧ e = .returned (.tuple #[.slice none 0 0, .iface 28 (.int .i64 2)])) ∨ ∃ L, recsOf b = some L ∧ ∃ v, e = .returned (.tuple #[v, .nilIface]) ∧ OwnR w.heap.size w' v L)
theorem IsReader.below {B : Nat} {w w' : World} {br : Nat} {l : List UInt8} {sh : Bool} (h : IsReader w br l sh) (hb : Below B w w') (hbr : br < B) : IsReader w' br l sh := by
  obtain ⟨a, cap, hg, h0, h1, h2, h3, h4, h5⟩ := h
  refine ⟨a, cap, by rw [hb.block br hbr]; exact hg, fun i hi => ?_, h1, h2, h3, h4, fun x hx hc => ⟨(h5 x hx hc).1, Nat.lt_of_lt_of_le (h5 x hx hc).2 hb.size⟩⟩
  obtain ⟨b, off, e1, e2, e3⟩ := h0 i hi
  have hlt := h3 b off e1 (by omega)
  exact ⟨b, off, e1, Nat.lt_of_lt_of_le e2 hb.size, by rw [← e3]; exact hb.cell (p := ⟨b, off + i, none⟩) (show b < B by omega)⟩
theorem OwnR.shape {B : Nat} {w : World} {v : Value} {l : List Rec} (h : OwnR B w v l) : ∃ (a : Option Addr) (cap : Nat), v = Value.slice a l.length cap := by
  rcases h.2 with ⟨h1, h2⟩ | ⟨g, c, cur, h1, _⟩
  · exact ⟨none, 0, by rw [h1, h2]⟩
  · exact ⟨_, _, h1⟩
theorem OwnR.weak {B C : Nat} {w : World} {v : Value} {l : List Rec} (h : OwnR C w v l) (hB : B ≤ C) : OwnR B w v l := by
  refine ⟨h.1, ?_⟩
  rcases h.2 with h2 | ⟨g, cap, cur, hv, hbg, hr⟩
  · exact .inl h2
  · exact .inr ⟨g, cap, cur, hv, Nat.le_trans hB hbg, hr⟩
/-- A record loaded, whatever guard is met. -/
theorem wpList_load_recG {ops : Array Oper} {rest : List Oper} {o : Oper} {a : Act} {w : World} {Q : Exit → Act → World → Prop} (x : Operand) (ho : o.op = .load 61 x) (g : Nat) (hx : a.eval x = .pointer (some ⟨g, 0, none⟩)) (C : Array Value) (fr : Nat × Nat)
    (hg : w.heap[g]? = some (.cells C 61 fr)) (hs : (Try.prog.info? 61).map (·.size) = some C.size) (hw : Region.wanted o (yielded ops a.tmps) = true)
    (h : wpList Try.prog ops Q rest (a.put o.dst (.agg C)) w) : wpList Try.prog ops Q (o :: rest) a w := by
  rw [wpList, if_pos hw]
  exact .inl (wp_load_row 61 x ho g hx 61 C fr _ hg Try.underlying61 rfl hs h)
def lenV : Value → Nat
  | .slice _ n _ => n
  | _ => 0
theorem recsOf_acc {b l : List UInt8} {L : List Rec} (h : recsOf b = (recsOf l).map (L ++ ·)) :
    (((readRec l false).2.2 = true ∨ (readRec l false).1.may = false) → recsOf b = none) ∧
    ((readRec l false).2.2 = false → (readRec l false).1.may = true → ((readRec l false).2.1.length = 0 → recsOf b = some (L ++ [(readRec l false).1])) ∧
      ((readRec l false).2.1.length ≠ 0 → recsOf b = (recsOf (readRec l false).2.1).map ((L ++ [(readRec l false).1]) ++ ·))) := by
  refine ⟨fun hb => by rw [h, recsOf_bad hb]; rfl, fun hs hm => ⟨fun h0 => by rw [h, recsOf_last hs hm h0]; rfl, fun h0 => ?_⟩⟩
  rw [h, recsOf_more hs hm h0, Option.map_map]
  congr 1
  funext x
  simp
set_option maxRecDepth 100000 in
set_option maxHeartbeats 4000000 in
theorem recGets (a : Option Addr) (n cap : Nat) (b : List UInt8) (w : World) (hn : b.length = n) (hl : b.length ≤ 1000000000) (hr : Reads w (.slice a n cap) b) :
    Calls Try.prog 31 #[.slice a n cap] w (RecGetOk b w) := by
  subst hn
  have HRD := Lib.hid (isReader_new hr)
  have HLL := Lib.hid hl
  have HB0 := Lib.hid ((Below.refl w.heap.size w).alloc (Nat.le_refl _) (.cells #[.slice a b.length cap, .bool false] 91))
  have HLT := Lib.hid (show w.heap.size < (w.alloc (.cells #[.slice a b.length cap, .bool false] 91)).heap.size by simp)
  clear hr hl
  go_enter Try.func31, Try.ntmps31
  go_wp2_with fail
  refine (packNew _ _ _ _).mono ?_
  rintro e w1 ⟨rfl, rfl⟩
  generalize hW1 : World.alloc w _ = W1 at HRD HB0 HLT ⊢
  clear hW1
  go_wp2_with fail
  go_loopw [5, 6] (fun o m wr => ∃ (L : List Rec) (l : List UInt8) (mb : Bool), m = .bool mb ∧ Hid (IsReader wr w.heap.size l false) ∧ Hid (OwnR W1.heap.size wr o L) ∧ Hid (Below w.heap.size w wr) ∧ Hid (W1.heap.size ≤ wr.heap.size) ∧ Hid (6 * L.length + l.length ≤ b.length) ∧
    Hid (mb = true → recsOf b = (recsOf l).map (L ++ ·)) ∧ Hid (mb = false → recsOf b = some L)) (fun o _ _ => b.length + 1 - lenV o)
  case atStart => exact ⟨[], b, true, rfl, HRD, OwnR.nil _ _, HB0, Nat.le_refl _, by show _ ≤ _; simp, fun _ => by simp, fun h => by cases h⟩
  case round =>
    obtain ⟨L, l, mb, rfl, HR, HO, HB, HSZ, HLN, HT, HF⟩ := hrel
    obtain ⟨ao, capo, rfl⟩ := HO.out.shape
    cases mb with
    | false =>
      have HFF := Lib.hid (HF.out rfl)
      clear HF HT
      go_wp2
      go_ret2
      exact ⟨HB.out, .inr ⟨L, HFF.out, _, rfl, HO.out.weak (Nat.le_of_lt HLT.out)⟩⟩
    | true =>
      have HACC := Lib.hid (recsOf_acc (HT.out rfl))
      have HSTEP := Lib.hid (readRec_step l false)
      have HWF := Lib.hid (readRec_wf l false)
      clear HF HT
      go_wp2_with fail
      refine (recGet w.heap.size l false _ HR.out).mono ?_
      generalize readRec l false = q at *
      obtain ⟨r, l2, s2⟩ := q
      rintro e W2 ⟨rfl, hr2, hg2⟩
      simp only at hr2 HACC HSTEP HWF ⊢
      have HB2 := Lib.hid (HB.out.trans (below_grownBy hg2 HB.out.size (Nat.le_refl _)))
      have HO2 := Lib.hid (HO.out.keep hg2 HLT.out)
      have HSZ2 := Lib.hid (Nat.le_trans HSZ.out hg2.size)
      have HR2 := Lib.hid hr2
      clear hr2 hg2 HR HO HB HSZ
      have hcs : r.cells = #[.int .i64 r.kind, .int .i64 r.bucket, .int .u32 r.gen, .int .i64 r.qk, .int .i64 r.qb, .int .i64 r.qg, .int .u64 r.seq, .int .u32 r.serial, .int .i64 r.rights, .int .u64 r.secret, .string r.key, .string r.val, .int .u64 r.version, .int .u64 r.expiry] := rfl
      have HCE := Lib.hid hcs
      unfold Rec.v
      rw [hcs]
      clear hcs
      go_wp2_with fail
      rw [← HCE.out]
      have HCS := Lib.hid (rec_sizeC r)
      have HM := Lib.hid (fun w => recMay r w)
      unfold Rec.v at HM
      have HSRC := Lib.hid (fun w g hg => src_rec w g r.cells r rfl (0, 0) hg)
      have HCL := Lib.hid (show r.cells.toList = r.cells.toList from rfl)
      have hlt3 : W2.heap.size < (W2.alloc (.cells r.cells 61)).heap.size := by simp
      have HG3 := Lib.hid (And.intro (heap_alloc_new W2 (.cells r.cells 61)) hlt3)
      have hb3 : Below W2.heap.size W2 (W2.alloc (.cells r.cells 61)) := (Below.refl _ _).alloc (Nat.le_refl _) _
      have HR3 := Lib.hid (HR2.out.bel hb3)
      have HO3 := Lib.hid (HO2.out.bel hb3)
      have HB3 := Lib.hid (below_next HB2.out hb3)
      have HSZ3 := Lib.hid (Nat.le_trans HSZ2.out hb3.size)
      clear hlt3 hb3 HR2 HO2 HB2 HSZ2 HCL
      generalize W2.alloc (.cells r.cells 61) = W3 at *
      generalize W2.heap.size = g3 at *
      refine (packShort w.heap.size l2 s2 _ HR3.out).mono ?_
      rintro e W3' ⟨rfl, rfl⟩
      cases s2 with
      | true =>
        have HBD := Lib.hid (HACC.out.1 (.inl rfl))
        clear HACC HSTEP HCE
        go_wp2_with fail
        go_ret2
        exact ⟨HB3.out, .inl ⟨HBD.out, rfl⟩⟩
      | false =>
        have HST := Lib.hid (HSTEP.out rfl).2
        clear HSTEP
        go_wp2_with (refine wpList_load_recG (.tmp 7) rfl g3 rfl r.cells (0, 0) HG3.out.1 HCS.out rfl ?_)
        refine (HM.out _).mono ?_
        rintro e W4 ⟨rfl, hb4⟩
        have HR4 := Lib.hid (HR3.out.bel hb4)
        have HO4 := Lib.hid (HO3.out.bel hb4)
        have HB4 := Lib.hid (below_next HB3.out hb4)
        have HSZ4 := Lib.hid (Nat.le_trans HSZ3.out hb4.size)
        have HG4 := Lib.hid (show W4.heap[g3]? = some (.cells r.cells 61 (0, 0)) from by rw [hb4.block _ HG3.out.2]; exact HG3.out.1)
        clear hb4 HR3 HO3 HB3 HSZ3 HG3 HM
        by_cases hm : r.may = true
        · have HMY := Lib.hid hm
          rw [hm]
          clear hm
          have hgl := HG4.out
          have hsl := HCS.out
          have hsr := fun w g hg => src_rec w g r.cells r rfl (0, 0) hg
          rw [HCE.out] at hgl hsl hsr
          have HGL := Lib.hid hgl
          have HSL := Lib.hid hsl
          have HSR := Lib.hid hsr
          have HCT : Hid (r.cells.toList = (#[.int .i64 r.kind, .int .i64 r.bucket, .int .u32 r.gen, .int .i64 r.qk, .int .i64 r.qb, .int .i64 r.qg, .int .u64 r.seq, .int .u32 r.serial, .int .i64 r.rights, .int .u64 r.secret, .string r.key, .string r.val, .int .u64 r.version, .int .u64 r.expiry] : Array Value).toList) := rfl
          clear hgl hsl hsr HG4 HCS HSRC
          go_wp2_with (first | (refine wpList_load_recG (.tmp 7) rfl g3 rfl _ (0, 0) HGL.out HSL.out rfl ?_) | (at_builtin; refine wpList_append_rec rfl (.tmp 24) (.tmp 26) rfl W1.heap.size _ L rfl (HO4.out.alloc _) _ r rfl (HSR.out W4 _ rfl) ?c1 ?c2 ?hh1))
          case c1 => have := HSZ4.out; simp; omega
          case c2 => have := HLN.out; have := HLL.out; omega
          intro v5 W5 ho5 hg5
          have hz4 : W1.heap.size ≤ (W4.alloc (.cells #[.int .i64 r.kind, .int .i64 r.bucket, .int .u32 r.gen, .int .i64 r.qk, .int .i64 r.qb, .int .i64 r.qg, .int .u64 r.seq, .int .u32 r.serial, .int .i64 r.rights, .int .u64 r.secret, .string r.key, .string r.val, .int .u64 r.version, .int .u64 r.expiry] 61)).heap.size := by have := HSZ4.out; simp; omega
          have hb5 : Below W1.heap.size W4 W5 := ((Below.refl W1.heap.size W4).alloc HSZ4.out _).trans (below_of_grownR (HO4.out.alloc _) hz4 hg5)
          have HR5 := Lib.hid (HR4.out.below hb5 HLT.out)
          have HB5 := Lib.hid (HB4.out.trans (hb5.mono (Nat.le_of_lt HLT.out)))
          have HSZ5 := Lib.hid (Nat.le_trans HSZ4.out hb5.size)
          have HO5 := Lib.hid ho5
          obtain ⟨a5, cap5, rfl⟩ := ho5.shape
          have HACC2 := Lib.hid (HACC.out.2 (by simp) HMY.out)
          have hll2 : (L ++ [r]).length = L.length + 1 := by simp
          have HLL2 := Lib.hid hll2
          rw [hll2] at HO5 ⊢
          clear ho5 hg5 hb5 hz4 HR4 HO4 HB4 HSZ4 HACC HGL HSL HSR HCT hll2
          go_wp2_with fail
          refine (packLeft w.heap.size l2 false _ HR5.out).mono ?_
          rintro e W6 ⟨rfl, rfl⟩
          have hrl : rdLeft l2 false = l2.length := rfl
          rw [hrl]
          clear hrl
          have hmeas : b.length + 1 - lenV (.slice a5 (L.length + 1) cap5) < b.length + 1 - lenV (.slice ao L.length capo) := by
            show b.length + 1 - (L.length + 1) < b.length + 1 - L.length
            have := HLN.out
            omega
          have HME := Lib.hid hmeas
          have hln2 : 6 * (L ++ [r]).length + l2.length ≤ b.length := by rw [HLL2.out]; have h1 := HLN.out; have h2 := HST.out; omega
          have HLN2 := Lib.hid hln2
          clear hmeas hln2
          by_cases h0 : l2.length = 0
          · have HE := Lib.hid (HACC2.out.1 h0)
            have d0 : decide ((0 : Int) < (l2.length : Int)) = false := by rw [decide_eq_false_iff_not]; omega
            have d1 : decide (0 < l2.length) = false := by rw [decide_eq_false_iff_not]; omega
            clear h0
            go_wp2_with fail
            go_roundw
            case rel => exact ⟨L ++ [r], l2, false, rfl, HR5, HO5, HB5, HSZ5, HLN2, fun h => (by cases h), fun _ => HE.out⟩
            case measure => exact HME.out
          · have HE := Lib.hid (HACC2.out.2 h0)
            have d0 : decide ((0 : Int) < (l2.length : Int)) = true := by rw [decide_eq_true_eq]; omega
            have d1 : decide (0 < l2.length) = true := by rw [decide_eq_true_eq]; omega
            clear h0
            go_wp2_with fail
            go_roundw
            case rel => exact ⟨L ++ [r], l2, true, rfl, HR5, HO5, HB5, HSZ5, HLN2, fun _ => HE.out, fun h => (by cases h)⟩
            case measure => exact HME.out
        · have hmf : r.may = false := by simpa using hm
          have HBD := Lib.hid (HACC.out.1 (.inr hmf))
          rw [hmf]
          clear hm hmf HACC
          go_wp2_with fail
          go_ret2
          exact ⟨HB4.out, .inl ⟨HBD.out, rfl⟩⟩
end Go.Proofs.Ytiihemmonncioaa
