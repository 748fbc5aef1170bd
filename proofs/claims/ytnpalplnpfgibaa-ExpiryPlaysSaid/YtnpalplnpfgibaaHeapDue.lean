/- Contract of expiry's Due. -/
import Derived.Test.YtnpalplnpfgibaaHeapPop
namespace Go.Proofs.Ytnpalplnpfgibaa
open Go.RowKit
def sliceLen : Value → Nat | .slice _ n _ => n | _ => 0
def DueL (now : Int) (m d ms : List It) : Prop := m = d ++ ms ∧ (∀ a ∈ d, a.t ≤ now) ∧ ∀ x r, ms = x :: r → now < x.t
def HDue (bh : Nat) (v : Value) (m : List It) (now : Int) (w : World) (e : Ending) (w' : World) : Prop := ∃ ov v' l' d ms, e = .returned ov ∧ IsHeap w' bh v' l' ∧ HGrew bh w w' v v' ∧ Hm l' ms ∧ OwnT w.heap.size w' ov d ∧ DueL now m d ms ∧ ov.ownBlock ≠ some bh ∧ (∀ k, ov.ownBlock = some k → v'.ownBlock ≠ some k)
structure DueInv (bh : Nat) (w : World) (v0 : Value) (m : List It) (now : Int) (ov v : Value) (l d ms : List It) (wr : World) : Prop where
  heap : IsHeap wr bh v l
  own : OwnT w.heap.size wr ov d
  hm : Hm l ms
  eq : m = d ++ ms
  le : ∀ a ∈ d, a.t ≤ now
  grew : HGrew bh w wr v0 v
  apart : ∀ k, ov.ownBlock = some k → v.ownBlock ≠ some k
theorem DueInv.pop {bh : Nat} {w : World} {v0 : Value} {m : List It} {now : Int} {ov v v1 : Value} {l l1 d ms : List It} {wr w1 : World} {x : It} (h : DueInv bh w v0 m now ov v l d (x :: ms) wr) (h0 : 0 < l.length) (hbh : bh < w.heap.size) (h1 : IsHeap w1 bh v1 l1) (hg : HGrew bh wr w1 v v1) (hh : HeapL l1) (hp : l1.Perm (popL l h0)) :
    IsHeap w1 bh v1 l1 ∧ OwnT w.heap.size w1 ov d ∧ Hm l1 ms ∧ HGrew bh w w1 v0 v1 ∧ ∀ k, ov.ownBlock = some k → v1.ownBlock ≠ some k := by
  refine ⟨h1, h.own.kept fun k hk => hg.block k (h.own.block k hk).2 (fun e => by have := (h.own.block k hk).1; omega) (h.apart k hk), h.hm.pop h0 hh hp, h.grew.trans hg, fun k hk e => ?_⟩
  rcases hg.own k e with h2 | h2
  · exact h.apart k hk h2
  · have := (h.own.block k hk).2; omega
theorem DueInv.app {bh : Nat} {w : World} {v0 : Value} {m : List It} {now : Int} {ov ov2 v1 : Value} {l1 d ms : List It} {w1 w2 : World} {x : It} (he : m = d ++ x :: ms) (hle : ∀ a ∈ d, a.t ≤ now) (hx : x.t ≤ now) (hbh : bh < w.heap.size)
    (h : IsHeap w1 bh v1 l1 ∧ OwnT w.heap.size w1 ov d ∧ Hm l1 ms ∧ HGrew bh w w1 v0 v1 ∧ ∀ k, ov.ownBlock = some k → v1.ownBlock ≠ some k) (ho : OwnT w.heap.size w2 ov2 (d ++ [x])) (hg : Grew w1 w2 ov ov2) : DueInv bh w v0 m now ov2 v1 l1 (d ++ [x]) ms w2 := by
  obtain ⟨h1, h2, h3, h4, h5⟩ := h
  have hob : ∀ k, ov.ownBlock = some k → w.heap.size ≤ k := fun k hk => (h2.block k hk).1
  refine ⟨⟨?_, ?_, h1.wf⟩, ho, h3, by rw [he]; simp, fun a ha => ?_, ?_, fun k hk e => ?_⟩
  · rw [hg.1.block bh h1.lt (fun e => by have := hob bh e.symm; omega)]; exact h1.box
  · exact h1.own.kept fun k hk => hg.1.block k (h1.own.block k hk).2 (fun e => h5 k e.symm hk)
  · rcases List.mem_append.1 ha with h6 | h6
    · exact hle a h6
    · simp at h6; subst h6; exact hx
  · exact ⟨hg.1.os.trans h4.os, hg.1.tape.trans h4.tape, hg.1.output.trans h4.output, Nat.le_trans h4.size hg.1.size, fun k hk a b => by rw [hg.1.block k (Nat.lt_of_lt_of_le hk h4.size) (fun e => by have := hob k e.symm; omega)]; exact h4.block k hk a b, h4.own⟩
  · rcases hg.2 k hk with h6 | h6
    · exact h5 k h6 e
    · have := (h1.own.block k e).2; omega
set_option maxRecDepth 100000 in
set_option maxHeartbeats 8000000 in
theorem heapDue (bh : Nat) (v : Value) (l m : List It) (now : Int) (w : World) (h : IsHeap w bh v l) (hm : Hm l m) (hsz : l.length ≤ 1000000000) :
    Calls Try.prog 18 #[.pointer (some ⟨bh, 0, none⟩), .int .u64 now] w (HDue bh v m now w) := by
  have HB := Lib.hid h.lt
  have HI0 := Lib.hid (show DueInv bh w v m now (.slice none 0 0) v l [] m w from ⟨h, OwnT.nil _ _, hm, rfl, fun _ h => (by cases h), HGrew.refl _ _ _, fun _ h => (by cases h)⟩)
  have HN := Lib.hid (show m.length ≤ 1000000000 by have := hm.len; omega)
  clear h hm hsz
  go_enter Try.func18, Try.ntmps18
  go_wp2
  go_loopw [5] (fun ov wr => ∃ v' l' d ms, Hid (DueInv bh w v m now ov v' l' d ms wr)) (fun ov _ => m.length - sliceLen ov)
  case atStart => exact ⟨v, l, [], m, HI0⟩
  case round =>
    obtain ⟨v', l', d, ms, HI⟩ := hrel
    have HBW := Lib.hid (show bh < wr.heap.size from HI.out.heap.lt)
    have hc := HI.out.heap.cell
    obtain ⟨oa, oc, hov⟩ := HI.out.own.slice
    by_cases h0 : l'.length = 0
    · obtain ⟨a, cap, hv⟩ := HI.out.heap.own.slice
      have hms : ms = [] := List.eq_nil_of_length_eq_zero (by rw [HI.out.hm.len]; exact h0)
      have HF := Lib.hid (show HDue bh v m now w (.returned u5) wr from ⟨_, v', l', d, ms, rfl, HI.out.heap, HI.out.grew, HI.out.hm, HI.out.own, ⟨HI.out.eq, HI.out.le, fun x r e => by rw [hms] at e; cases e⟩, fun e => by have := (HI.out.own.block _ e).1; have := HB.out; omega, HI.out.apart⟩)
      rw [hv, h0] at hc
      clear hv hms h0 hov
      go_wp2
      go_ret
      exact HF.out
    · obtain ⟨g, cap, hv, hg1, hg2, hlc, hcm, hcl, _⟩ := HI.out.heap.own.get (by omega)
      obtain ⟨hx0, hx1⟩ := hcl 0 (by omega)
      have bl : (0 : Int) < (l'.length : Int) := by omega
      have bl0 : 0 < l'.length := by omega
      have bl2 : l'.length ≤ 1000000001 := by have := HN.out; have h2 := HI.out.eq; have h3 := HI.out.hm.len; rw [h2] at this; simp at this; omega
      have hx0' : wr.cell? ⟨g, 0, none⟩ = some (.int .u64 l'[0].t) := by simpa using hx0
      rw [hv] at hc
      have HV := Lib.hid hv
      have HOV := Lib.hid hov
      clear hv hov hcl hx0 hx1
      by_cases hle : l'[0].t ≤ now
      · obtain ⟨ms', hms⟩ := HI.out.hm.top bl0
        subst hms
        have d1 : decide (l'[0].t ≤ now) = true := by simp; omega
        have HLE := Lib.hid hle
        clear hle h0
        obtain ⟨x, hx⟩ : ∃ x, x = l'[0] := ⟨_, rfl⟩
        have HX := Lib.hid hx
        have HBL := Lib.hid bl0
        rw [← hx] at d1 hx0'
        have HLE2 := Lib.hid (show x.t ≤ now by rw [hx]; exact HLE.out)
        have HI2 := Lib.hid (show DueInv bh w v m now u5 v' l' d (x :: ms') wr by rw [hx]; exact HI.out)
        clear hx HI
        have HI := HI2
        clear HI2
        go_wp2_with fail
        refine (heapPopYes bh v' l' _ HI.out.heap HI.out.hm.heap HBL.out (by omega)).mono ?_
        rintro e1 W1 ⟨rfl, v1, l1, h1, hg1', hh1, hp1⟩
        simp only [← HX.out]
        have HP := Lib.hid (HI.out.pop HBL.out HB.out h1 hg1' hh1 hp1)
        have HE := Lib.hid (And.intro HI.out.eq HI.out.le)
        have hbx := (Below.refl W1.heap.size W1).alloc (Nat.le_refl _) (.cells #[.int .u64 x.t, .string x.k] 30)
        have HBX := Lib.hid (hbx.alloc (by simp) (.cells #[.int .u64 x.t, .string x.k] 30))
        have HDL := Lib.hid (show d.length ≤ 1000000000 by have := HN.out; have h2 := HE.out.1; rw [h2] at this; simp at this; omega)
        have HSZ := Lib.hid (show w.heap.size ≤ W1.heap.size from HP.out.2.2.2.1.size)
        clear h1 hg1' hh1 hp1 HI hbx hc hx0' hlc hcm hg1 hg2
        go_wp2_with (at_builtin; refine wpList_append_it rfl (.tmp 30) (.tmp 32) rfl w.heap.size u5 d rfl (HP.out.2.1.bel HBX.out) _ x rfl (src_it _ _ x _ (by simp)) (by simp; have := HSZ.out; omega) HDL.out ?_)
        intro ov2 W2 ho2 hg2
        have HD2 := Lib.hid (DueInv.app HE.out.1 HE.out.2 HLE2.out HB.out HP.out ho2 (hg2.after_alloc.after_alloc))
        clear ho2 hg2 HP HE
        go_wp2
        go_roundw
        case rel => exact ⟨v1, l1, d ++ [x], ms', HD2⟩
        case measure =>
          obtain ⟨a2, c2, e2⟩ := HD2.out.own.slice
          have e3 : m.length = (d ++ [x] ++ ms').length := by rw [← HD2.out.eq]
          show m.length - sliceLen ov2 < m.length - sliceLen u5
          rw [e2, HOV.out]
          simp only [sliceLen]
          simp at e3 ⊢
          omega
      · obtain ⟨ms', hms⟩ := HI.out.hm.top bl0
        have HF := Lib.hid (show HDue bh v m now w (.returned u5) wr from ⟨_, v', l', d, ms, rfl, HI.out.heap, HI.out.grew, HI.out.hm, HI.out.own, ⟨HI.out.eq, HI.out.le, fun x r e => by rw [hms] at e; cases e; omega⟩, fun e => by have := (HI.out.own.block _ e).1; have := HB.out; omega, HI.out.apart⟩)
        have d1 : decide (l'[0].t ≤ now) = false := by simp; omega
        clear hms hle h0
        go_wp2
        go_ret
        exact HF.out
end Go.Proofs.Ytnpalplnpfgibaa
