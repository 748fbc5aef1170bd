/- The contract of the reference's Records. -/
import Derived.Test.YtiihemmonncioaaRecGets
import Derived.Test.YtiihemmonncioaaRefOne
import Derived.Test.YtiihemmonncioaaRefGet
namespace Go.Proofs.Ytiihemmonncioaa
open Go.RowKit
theorem IsRef.below {B : Nat} {w w' : World} {bm : Nat} {b : List UInt8} {p : Nat} {sh : Bool} (h : IsRef w bm b p sh) (hb : Below B w w') (hbr : bm < B) : IsRef w' bm b p sh := by
  obtain ⟨a, cap, hg, h0, h1, h2, h6, h3, h4, h5⟩ := h
  refine ⟨a, cap, by rw [hb.block bm hbr]; exact hg, fun i hi => ?_, h1, h2, h6, h3, h4, fun x hx hc => ⟨(h5 x hx hc).1, Nat.lt_of_lt_of_le (h5 x hx hc).2 hb.size⟩⟩
  obtain ⟨bb, off, e1, e2, e3⟩ := h0 i hi
  have hlt := h3 bb off e1 (by omega)
  exact ⟨bb, off, e1, Nat.lt_of_lt_of_le e2 hb.size, by rw [← e3]; exact hb.cell (p := ⟨bb, off + i, none⟩) (show bb < B by omega)⟩
def RefRecsOk (b : List UInt8) (w : World) (e : Ending) (w' : World) : Prop := Below w.heap.size w w' ∧
  ((recsOf b = none ∧ e = .returned (.tuple #[.slice none 0 0, .bool false])) ∨ ∃ L, recsOf b = some L ∧ ∃ v, e = .returned (.tuple #[v, .bool true]) ∧ OwnR w.heap.size w' v L)
set_option maxRecDepth 100000 in
set_option maxHeartbeats 4000000 in
theorem refRecs (a : Option Addr) (n cap : Nat) (b : List UInt8) (w : World) (hn : b.length = n) (hl : b.length ≤ 1000000000) (hr : Reads w (.slice a n cap) b) (hlow : ∀ x, a = some x → 0 < cap → x.block + 1 < w.heap.size) :
    Calls Try.prog 32 #[.slice a n cap] w (RefRecsOk b w) := by
  subst hn
  have HRD := Lib.hid (isRef_new hr hlow)
  have HLL := Lib.hid hl
  have HB0 := Lib.hid ((Below.refl w.heap.size w).alloc (Nat.le_refl _) (.cells #[.slice a b.length cap, .int .i64 0, .bool false] 79))
  have HLT := Lib.hid (show w.heap.size < (w.alloc (.cells #[.slice a b.length cap, .int .i64 0, .bool false] 79)).heap.size by simp)
  clear hr hl hlow
  go_enter Try.func32, Try.ntmps32
  go_wp2_with fail
  generalize hW1 : World.alloc w _ = W1 at HRD HB0 HLT ⊢
  clear hW1
  go_loopw [5] (fun o wr => ∃ (L : List Rec) (p : Nat), Hid (IsRef wr w.heap.size b p false) ∧ Hid (OwnR W1.heap.size wr o L) ∧ Hid (Below w.heap.size w wr) ∧ Hid (W1.heap.size ≤ wr.heap.size) ∧ Hid (6 * L.length + (b.drop p).length ≤ b.length) ∧
    Hid (recsOf b = (recsOf (b.drop p)).map (L ++ ·))) (fun o _ => b.length + 1 - lenV o)
  case atStart => exact ⟨[], 0, HRD, OwnR.nil _ _, HB0, Nat.le_refl _, by show _ ≤ _; simp, by show _ = _; simp⟩
  case round =>
    obtain ⟨L, p, HR, HO, HB, HSZ, HLN, HT⟩ := hrel
    obtain ⟨ao, capo, rfl⟩ := HO.out.shape
    have HACC := Lib.hid (recsOf_acc HT.out)
    have HSTEP := Lib.hid (readRec_step (b.drop p) false)
    have HWF := Lib.hid (readRec_wf (b.drop p) false)
    clear HT
    go_wp2_with fail
    refine (refOne w.heap.size b p false _ HR.out (by have := HLL.out; omega)).mono ?_
    generalize readRec (b.drop p) false = q at *
    obtain ⟨r, l2, s2⟩ := q
    rintro e W2 ⟨rfl, p2, hl2, hr2, hg2⟩
    simp only at hl2 hr2 HACC HSTEP HWF ⊢
    have HB2 := Lib.hid (HB.out.trans (below_grownBy hg2 HB.out.size (Nat.le_refl _)))
    have HO2 := Lib.hid (HO.out.keep hg2 HLT.out)
    have HSZ2 := Lib.hid (Nat.le_trans HSZ.out hg2.size)
    have HR2 := Lib.hid hr2
    have HL2 := Lib.hid hl2
    clear hr2 hg2 hl2 HR HO HB HSZ
    have hcs : r.cells = #[.int .i64 r.kind, .int .i64 r.bucket, .int .u32 r.gen, .int .i64 r.qk, .int .i64 r.qb, .int .i64 r.qg, .int .u64 r.seq, .int .u32 r.serial, .int .i64 r.rights, .int .u64 r.secret, .string r.key, .string r.val, .int .u64 r.version, .int .u64 r.expiry] := rfl
    have HCE := Lib.hid hcs
    have hgl : (W2.alloc (.cells r.cells 61)).heap[W2.heap.size]? = some (.cells r.cells 61 (0, 0)) := heap_alloc_new W2 _
    have hsl := rec_sizeC r
    have hsr := fun w g hg => src_rec w g r.cells r rfl (0, 0) hg
    have hb3 : Below W2.heap.size W2 (W2.alloc (.cells r.cells 61)) := (Below.refl _ _).alloc (Nat.le_refl _) _
    have HR3 := Lib.hid (HR2.out.bel hb3)
    have HO3 := Lib.hid (HO2.out.bel hb3)
    have HB3 := Lib.hid (below_next HB2.out hb3)
    have HSZ3 := Lib.hid (Nat.le_trans HSZ2.out hb3.size)
    unfold Rec.v
    rw [hcs] at hgl hsl hsr HR3 HO3 HB3 HSZ3 ⊢
    have HGL := Lib.hid hgl
    have HSL := Lib.hid hsl
    have HSR := Lib.hid hsr
    have HCT : Hid (r.cells.toList = (#[.int .i64 r.kind, .int .i64 r.bucket, .int .u32 r.gen, .int .i64 r.qk, .int .i64 r.qb, .int .i64 r.qg, .int .u64 r.seq, .int .u32 r.serial, .int .i64 r.rights, .int .u64 r.secret, .string r.key, .string r.val, .int .u64 r.version, .int .u64 r.expiry] : Array Value).toList) := rfl
    clear hcs hb3 hgl hsl hsr HR2 HO2 HB2 HSZ2
    by_cases hbad : s2 = true ∨ r.may = false
    · have HBD := Lib.hid (HACC.out.1 hbad)
      have hbf : (r.may && !s2) = false := by rcases hbad with h | h <;> rw [h] <;> simp
      rw [hbf]
      clear hbad hbf HACC HSTEP
      go_wp2_with fail
      go_ret2
      exact ⟨HB3.out, .inl ⟨HBD.out, rfl⟩⟩
    · obtain ⟨rfl, hmy⟩ : s2 = false ∧ r.may = true := by
        constructor
        · simpa using fun h => hbad (.inl h)
        · simpa using fun h => hbad (.inr h)
      have hbt : (r.may && !false) = true := by rw [hmy]; rfl
      rw [hbt]
      have HACC2 := Lib.hid (HACC.out.2 rfl hmy)
      have HST := Lib.hid (HSTEP.out rfl).2
      clear hbad hbt hmy HACC HSTEP
      go_wp2_with (first | (refine wpList_load_recG (.tmp 6) rfl W2.heap.size rfl _ (0, 0) HGL.out HSL.out rfl ?_) | (at_builtin; refine wpList_append_rec rfl (.tmp 18) (.tmp 20) rfl W1.heap.size _ L rfl (HO3.out.alloc _) _ r rfl (HSR.out _ _ (by simp)) ?c1 ?c2 ?hh1))
      case c1 => have := HSZ3.out; simp at this ⊢; omega
      case c2 => have := HLN.out; have := HLL.out; omega
      intro v5 W5 ho5 hg5
      have hz4 := HSZ3.out
      have hb5 := ((Below.refl W1.heap.size _).alloc hz4 (.cells #[.int .i64 r.kind, .int .i64 r.bucket, .int .u32 r.gen, .int .i64 r.qk, .int .i64 r.qb, .int .i64 r.qg, .int .u64 r.seq, .int .u32 r.serial, .int .i64 r.rights, .int .u64 r.secret, .string r.key, .string r.val, .int .u64 r.version, .int .u64 r.expiry] 61)).trans (below_of_grownR (HO3.out.alloc _) (by simp at hz4 ⊢; omega) hg5)
      have HR5 := Lib.hid (HR3.out.below hb5 HLT.out)
      have HB5 := Lib.hid (HB3.out.trans (hb5.mono (Nat.le_of_lt HLT.out)))
      have HSZ5 := Lib.hid (Nat.le_trans HSZ3.out hb5.size)
      have HO5 := Lib.hid ho5
      obtain ⟨a5, cap5, rfl⟩ := ho5.shape
      have hll2 : (L ++ [r]).length = L.length + 1 := by simp
      have HLL2 := Lib.hid hll2
      rw [hll2] at HO5 ⊢
      have HLF : Hid (∀ w, IsRef w w.heap.size b p2 false → True) := fun _ _ => trivial
      clear HLF ho5 hg5 hb5 hz4 HR3 HO3 HB3 HSZ3 HGL HSL HSR HCT hll2
      have hmeas : b.length + 1 - lenV (.slice a5 (L.length + 1) cap5) < b.length + 1 - lenV (.slice ao L.length capo) := by
        show b.length + 1 - (L.length + 1) < b.length + 1 - L.length
        have := HLN.out
        have := HST.out
        omega
      have HME := Lib.hid hmeas
      have hln2 : 6 * (L ++ [r]).length + (b.drop p2).length ≤ b.length := by rw [HLL2.out, ← HL2.out]; have h1 := HLN.out; have h2 := HST.out; omega
      have HLN2 := Lib.hid hln2
      clear hmeas hln2
      go_wp2_with fail
      refine (refLeft w.heap.size b p2 false _ HR5.out (by have := HLL.out; omega)).mono ?_
      rintro e W6 ⟨rfl, nq, rfl⟩
      have hrl : rdLeft (b.drop p2) false = (b.drop p2).length := rfl
      rw [hrl, ← HL2.out]
      rw [← HL2.out] at HLN2
      have hbd : Below W5.heap.size W5 (W5.drewN nq) := below_drewN (Below.refl _ _) nq
      have HR6 := Lib.hid (HR5.out.bel hbd)
      have HO6 := Lib.hid (HO5.out.bel hbd)
      have HB6 := Lib.hid (below_next HB5.out hbd)
      have HSZ6 := Lib.hid (Nat.le_trans HSZ5.out hbd.size)
      clear hrl hbd HR5 HO5 HB5 HSZ5
      generalize W5.drewN nq = W6 at *
      by_cases h0 : l2.length = 0
      · have HE := Lib.hid (HACC2.out.1 h0)
        have d0 : ((l2.length : Int) == 0) = true := by rw [beq_iff_eq]; omega
        clear HACC2
        rw [h0] at d0 ⊢
        clear h0 d0
        go_wp2_with fail
        go_ret2
        exact ⟨HB6.out, .inr ⟨_, HE.out, _, rfl, HO6.out.weak (Nat.le_of_lt HLT.out)⟩⟩
      · have hE := HACC2.out.2 h0
        rw [HL2.out] at hE
        have HE := Lib.hid hE
        have d0 : ((l2.length : Int) == 0) = false := by rw [beq_eq_false_iff_ne]; omega
        have HLN3 : Hid (6 * (L ++ [r]).length + (b.drop p2).length ≤ b.length) := by rw [← HL2.out]; exact HLN2.out
        clear h0 hE HACC2
        go_wp2_with fail
        go_roundw
        case rel => exact ⟨L ++ [r], p2, HR6, HO6, HB6, HSZ6, HLN3, HE⟩
        case measure => exact HME.out
end Go.Proofs.Ytiihemmonncioaa
