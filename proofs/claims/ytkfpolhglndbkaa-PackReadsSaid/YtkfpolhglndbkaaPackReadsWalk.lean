/- The walk of PackReads. -/
import Derived.Test.YtkfpolhglndbkaaTwo
import Derived.Test.YtkfpolhglndbkaaInts
import Derived.Test.YtkfpolhglndbkaaPackUp
import Derived.BigQuiet
namespace Go.Proofs.Ytkfpolhglndbkaa
open Go.RowKit

def RDone (w : World) (e : Ending) (w' : World) : Prop := e = .returned (.bool true) ∧ Below w.heap.size w w'
theorem IsRow.more {k : IntKind} {w : World} {a : Option Addr} {len cap : Nat} {zs : List Int} (h : IsRow k w a len cap zs) : (a = none → cap = 0) ∧ ∀ x, a = some x → 0 < cap → x.spot = none ∧ x.block < w.heap.size := by
  rcases h with ⟨rfl, rfl, rfl, rfl⟩ | ⟨x, rfl, h1, h2, h3, h4, h5⟩
  · exact ⟨fun _ => rfl, fun x hx => (by cases hx)⟩
  · refine ⟨fun e => (by cases e), fun y hy hc => ?_⟩
    cases hy
    obtain ⟨b, off, sp⟩ := x
    have hc0 := h4 0 (by omega)
    have h0 := World.cell?_spot hc0
    simp [Addr.add] at h0
    subst h0
    have hadd : (⟨b, off, none⟩ : Addr).add 0 = ⟨b, off, none⟩ := by unfold Addr.add; simp
    rw [hadd] at hc0
    exact ⟨rfl, heap_lt_of_cell hc0⟩
theorem IsRef.short {w : World} {bm : Nat} {b : List UInt8} {at_ : Nat} {sh : Bool} (h : IsRef w bm b at_ sh) : w.cell? ⟨bm, 2, none⟩ = some (.bool sh) := by
  obtain ⟨a, cap, hg, _⟩ := h
  have := cell_of_row w bm 2 _ _ _ hg
  simpa using this

set_option maxRecDepth 100000 in
set_option maxHeartbeats 2000000 in
theorem readsHead (a0 : Option Addr) (m cap0 : Nat) (a1 : Option Addr) (q cap1 : Nat) (w : World) (h0 : 2000 < m ∨ 100 < q) :
    Calls Try.prog 11 #[.slice a0 m cap0, .slice a1 q cap1] w (RDone w) := by
  by_cases d0 : 2000 < m
  · have e0 : decide ((2000 : Int) < (m : Int)) = true := by simp; omega
    go_enter Try.func11, Try.ntmps11
    go_wp2_with fail
    refine (packUp _).mono ?_
    rintro e W1 ⟨rfl, hb⟩
    go_wp2_with fail
    go_ret
    exact ⟨rfl, hb⟩
  have e0 : decide ((2000 : Int) < (m : Int)) = false := by simp; omega
  have e1 : decide ((100 : Int) < (q : Int)) = true := by simp; omega
  go_enter Try.func11, Try.ntmps11
  go_wp2_with fail
  refine (packUp _).mono ?_
  rintro e W1 ⟨rfl, hb⟩
  go_wp2_with fail
  go_ret
  exact ⟨rfl, hb⟩

set_option maxRecDepth 100000 in
set_option maxHeartbeats 4000000 in
theorem readsMain (a0 : Option Addr) (cap0 : Nat) (b : List UInt8) (a1 : Option Addr) (cap1 : Nat) (ll : List Int) (w : World) (h0 : b.length ≤ 2000) (h1 : ll.length ≤ 100) (hbc : b.length ≤ cap0) (hcm : cap0 ≤ maxLen)
    (hb0 : IsBytes w a0 b) (hl0 : IsInts w a1 ll) (hn0 : a0 = none → cap0 = 0) (hs0 : ∀ x, a0 = some x → 0 < cap0 → x.spot = none ∧ x.block < w.heap.size) :
    Calls Try.prog 11 #[.slice a0 b.length cap0, .slice a1 ll.length cap1] w (RDone w) := by
  have HI := Lib.hid hb0
  have HL := Lib.hid hl0
  have HX := Lib.hid (And.intro hbc (And.intro hcm (And.intro hn0 hs0)))
  clear hb0 hl0 hbc hcm hn0 hs0
  have hbl : b.length ≤ 100000000000 := by omega
  have e0 : decide ((2000 : Int) < (b.length : Int)) = false := by simp; omega
  have e1 : decide ((100 : Int) < (ll.length : Int)) = false := by simp; omega
  go_enter Try.func11, Try.ntmps11
  go_wp2_with fail
  refine (packUp _).mono ?_
  rintro e W1 ⟨rfl, hb1⟩
  have I1 := Lib.hid (HI.out.bel hb1)
  have L1 := Lib.hid (HL.out.bel hb1)
  have HQ1 := Lib.hid hb1
  have hs1 : ∀ x, a0 = some x → 0 < cap0 → x.spot = none ∧ x.block < W1.heap.size := fun x hx hc => ⟨(HX.out.2.2.2 x hx hc).1, Nat.lt_of_lt_of_le (HX.out.2.2.2 x hx hc).2 hb1.size⟩
  have HS1 := Lib.hid hs1
  clear hb1 hs1 HI HL
  go_wp2_with fail
  refine (packNew _ _ _ _).mono ?_
  rintro e W2 ⟨rfl, rfl⟩
  have HRd := Lib.hid ((isReader_new (⟨a0, cap0, rfl, I1.out, HX.out.1, HX.out.2.1, HX.out.2.2.1, HS1.out⟩ : Reads W1 (.slice a0 b.length cap0) b)).bel ((Below.refl _ _).alloc (Nat.le_refl _) (.cells #[.slice a0 b.length cap0, .int .i64 0, .bool false] 61)))
  have HRf := Lib.hid (show IsRef ((W1.alloc (.cells #[.slice a0 b.length cap0, .bool false] 102)).alloc (.cells #[.slice a0 b.length cap0, .int .i64 0, .bool false] 61)) (W1.heap.size + 1) b 0 false from
    ⟨a0, cap0, by have := heap_alloc_new (W1.alloc (.cells #[.slice a0 b.length cap0, .bool false] 102)) (.cells #[.slice a0 b.length cap0, .int .i64 0, .bool false] 61); simpa using this, (I1.out.alloc _).alloc _, HX.out.1, HX.out.2.1, Nat.zero_le _, fun x off e hc => (by have := (HS1.out _ e hc).2; simp at this; omega), HX.out.2.2.1, fun x hx hc => ⟨(HS1.out x hx hc).1, by have := (HS1.out x hx hc).2; simp; omega⟩⟩)
  have HBB := Lib.hid (show Below W1.heap.size W1 ((W1.alloc (.cells #[.slice a0 b.length cap0, .bool false] 102)).alloc (.cells #[.slice a0 b.length cap0, .int .i64 0, .bool false] 61)) from ((Below.refl _ W1).alloc (Nat.le_refl _) _).alloc (by simp) _)
  clear HS1 HX I1
  go_wp2_with fail
  go_loopw [8] (fun i wr => ∃ (j at_ : Nat) (sh : Bool), j ≤ ll.length ∧ i = .int .i64 j ∧ at_ ≤ b.length ∧ Hid (IsReader wr W1.heap.size (b.drop at_) sh) ∧ Hid (IsRef wr (W1.heap.size + 1) b at_ sh) ∧ Hid (Below W1.heap.size W1 wr)) (fun i _ => ll.length - (intOf i).toNat)
  case atStart => exact ⟨0, 0, false, Nat.zero_le _, rfl, Nat.zero_le _, HRd, HRf, HBB⟩
  case round =>
    obtain ⟨j, at_, sh, hj, rfl, hat, HR, HF, HB⟩ := hrel
    clear HRd HRf HBB
    by_cases hlt : j < ll.length
    · obtain ⟨bx, off, hax, hbx, hcell⟩ := L1.out j hlt
      have HC0 := Lib.hid (fun w (hb : Below W1.heap.size W1 w) => ((hb.cell (p := ⟨bx, off + j, none⟩) hbx).trans hcell))
      clear hcell
      rw [hax]
      generalize ll[j] = x at *
      clear e0 e1
      by_cases hx0 : x = 0
      · subst hx0
        have hcx := HC0.out _ HB.out
        obtain ⟨hTT, hTle⟩ := refTxt_rdText b at_ sh hat
        have hpt := packText W1.heap.size (b.drop at_) sh wr HR.out
        rw [hTT] at hpt
        have hrt := fun w2 h2 => refReadText (W1.heap.size + 1) b at_ sh w2 h2 hbl
        generalize refTxt b at_ sh = r at *
        obtain ⟨tx, at2, sh2⟩ := r
        simp only at hpt hrt hTle
        have HPT := Lib.hid hpt
        have HRT := Lib.hid hrt
        have hat2 := hTle
        clear hTT hpt hrt hTle
        go_wp2_with fail
        refine HPT.out.mono ?_
        rintro e w2 ⟨rfl, hr, hg⟩
        have HF2 := Lib.hid (HF.out.keep hg rfl)
        have HP2 := Lib.hid hr
        have HB2 := Lib.hid (HB.out.trans (below_grownBy hg HB.out.size (Nat.le_refl _)))
        clear hr hg HB HR HF HPT hcx
        go_wp2_with fail
        refine (HRT.out _ HF2.out).mono ?_
        rintro e w3 ⟨rfl, hr, hg⟩
        have HP := Lib.hid (HP2.out.keep hg (Nat.lt_succ_self _))
        have HM := Lib.hid hr
        have HB := Lib.hid (HB2.out.trans (below_grownBy hg HB2.out.size (Nat.le_succ _)))
        clear hr hg HB2 HP2 HF2 HRT
        go_wp2_with fail
        refine Reg.wp_region0 (by kernel_rfl) (by kernel_rfl) ?_
        refine Reg.seg0 1 (by kernel_rfl) rfl ?_
        apply Exists.intro
        refine ⟨fun e => ?_, ?_⟩
        · simp only [List.take_succ_cons, List.take_zero]
          repeat (go_big_quiet_step ((intro _; rfl)))
          refine wpQuiet_nil ?_
          exact rfl
        simp only [List.drop_succ_cons, List.drop_zero, Nat.reduceAdd]
        refine Reg.const0 (.int .i64 (rdLeft (b.drop at2) sh2 : Nat)) (fun e w hR hf => ⟨by rfl, ?_⟩) ?_
        · unfold Reg.gives
          clear hf
          go_simp
          exact (packLeft W1.heap.size (b.drop at2) sh2 w (HP.out.bel (((Below.refl _ w3).drew).trans hR))).mono fun e w' h => ⟨h.1, by rw [← h.2]; exact Reg.bel_refl _⟩
        simp only [Act.put, List.setIfInBounds_toArray, List.set_cons_zero, List.set_cons_succ, Nat.reduceAdd]
        refine Reg.seg0 1 (by kernel_rfl) rfl ?_
        apply Exists.intro
        refine ⟨fun e => ?_, ?_⟩
        · simp only [List.take_succ_cons, List.take_zero]
          repeat (go_big_quiet_step ((intro _; rfl)))
          refine wpQuiet_nil ?_
          exact rfl
        simp only [List.drop_succ_cons, List.drop_zero, Nat.reduceAdd]
        refine Reg.const0 (.int .i64 (rdLeft (b.drop at2) sh2 : Nat)) (fun e w hR hf => ⟨by rfl, ?_⟩) ?_
        · unfold Reg.gives
          clear hf
          go_simp
          exact (refLeft (W1.heap.size + 1) b at2 sh2 w (HM.out.bel (((Below.refl _ w3).drew).trans hR)) hbl).mono fun e w' h => ⟨h.1, by obtain ⟨q, rfl⟩ := h.2; exact below_drewN (Below.refl _ _) q⟩
        simp only [Act.put, List.setIfInBounds_toArray, List.set_cons_zero, List.set_cons_succ, Nat.reduceAdd]
        refine Reg.seg0 3 (by kernel_rfl) rfl ?_
        apply Exists.intro
        refine ⟨fun e => ?_, ?_⟩
        · simp only [List.take_succ_cons, List.take_zero]
          repeat (go_big_quiet_step ((intro _; rfl)))
          refine wpQuiet_nil ?_
          exact rfl
        simp only [List.drop_succ_cons, List.drop_zero, Nat.reduceAdd]
        refine Reg.const0 (.bool sh2) (fun e w hR hf => ⟨by rfl, ?_⟩) ?_
        · unfold Reg.gives
          clear hf
          go_simp
          exact (packShort W1.heap.size (b.drop at2) sh2 w (HP.out.bel (((Below.refl _ w3).drew).trans hR))).mono fun e w' h => ⟨h.1, by rw [← h.2]; exact Reg.bel_refl _⟩
        simp only [Act.put, List.setIfInBounds_toArray, List.set_cons_zero, List.set_cons_succ, Nat.reduceAdd]
        refine Reg.seg0 1 (by kernel_rfl) rfl ?_
        apply Exists.intro
        refine ⟨fun e => ?_, ?_⟩
        · simp only [List.take_succ_cons, List.take_zero]
          repeat (go_big_quiet_step ((intro _; rfl)))
          refine wpQuiet_nil ?_
          exact rfl
        simp only [List.drop_succ_cons, List.drop_zero, Nat.reduceAdd]
        refine Reg.const0 (.pointer (some ⟨W1.heap.size + 1, 0, none⟩)) (fun e w hR hf => ⟨by rfl, ?_⟩) ?_
        · unfold Reg.gives
          clear hf
          go_simp
          exact Reg.bel_refl _
        simp only [Act.put, List.setIfInBounds_toArray, List.set_cons_zero, List.set_cons_succ, Nat.reduceAdd]
        refine Reg.seg0 1 (by kernel_rfl) rfl ?_
        apply Exists.intro
        refine ⟨fun e => ?_, ?_⟩
        · simp only [List.take_succ_cons, List.take_zero]
          repeat (go_big_quiet_step ((intro _; rfl)))
          refine wpQuiet_nil ?_
          exact rfl
        simp only [List.drop_succ_cons, List.drop_zero, Nat.reduceAdd]
        refine Reg.const0 (.bool sh2) (fun e w hR hf => ⟨by rfl, ?_⟩) ?_
        · have hcs := (HM.out.bel (((Below.refl _ w3).drew).trans hR)).short
          unfold Reg.gives
          clear hf
          go_simp
          exact Reg.bel_refl _
        simp only [Act.put, List.setIfInBounds_toArray, List.set_cons_zero, List.set_cons_succ, Nat.reduceAdd]
        refine Reg.seg0 2 (by kernel_rfl) rfl ?_
        apply Exists.intro
        refine ⟨fun e => ?_, ?_⟩
        · simp only [List.take_succ_cons, List.take_zero]
          repeat (go_big_quiet_step ((intro _; rfl)))
          refine wpQuiet_nil ?_
          exact rfl
        simp only [List.drop_succ_cons, List.drop_zero, Nat.reduceAdd]
        intro e W9 hR hJ hf
        have HPn := Lib.hid (HP.out.bel (((Below.refl _ w3).drew).trans hR))
        have HMn := Lib.hid (HM.out.bel (((Below.refl _ w3).drew).trans hR))
        have HBn := Lib.hid (below_next HB.out (((Below.refl _ w3).drew).trans hR))
        clear hR hJ hf
        go_wp2
        go_roundw
        case rel => exact ⟨j + 1, at2, sh2, by omega, by go_num, hat2, HPn, HMn, HBn⟩
        case measure => simp [intOf]; omega
      · obtain ⟨hQ, hQle⟩ := refNum_rdNum x b at_ sh hat
        have hpt := fun w2 h2 => packNumber W1.heap.size (b.drop at_) sh x w2 h2
        rw [hQ] at hpt
        have hrt := fun w2 h2 => refNumber (W1.heap.size + 1) b at_ sh x w2 h2 hbl
        generalize refNum x b at_ sh = r at *
        obtain ⟨v, at2, sh2⟩ := r
        simp only at hpt hrt hQle
        have HPT := Lib.hid hpt
        have HRT := Lib.hid hrt
        have hat2 := hQle
        clear hQ hpt hrt hQle
        have hcx := HC0.out _ HB.out
        have d0 : (x == 0) = false := by simpa using hx0
        have HX0 := Lib.hid hx0
        clear hx0
        go_wp2_with fail
        have HC := Lib.hid (fun (w : World) (hR : Reg.belB W1.heap.size wr.drew w) => HC0.out w (HB.out.trans (((Below.refl _ wr).drew).trans hR)))
        refine Reg.wp_regionT W1.heap.size 5 11 (fun w => IsReader w W1.heap.size (b.drop at_) sh) (fun w => IsReader w W1.heap.size (b.drop at2) sh2) (fun w => IsRef w (W1.heap.size + 1) b at_ sh) (fun w => IsRef w (W1.heap.size + 1) b at2 sh2) (by kernel_rfl) (by kernel_rfl) (HR.out.bel (Below.refl _ _).drew) (HF.out.bel (Below.refl _ _).drew) ?_
        refine Reg.segT 4 (by kernel_rfl) rfl (by kernel_rfl) ?_
        apply Exists.intro
        refine ⟨fun e => ?_, ?_⟩
        · simp only [List.take_succ_cons, List.take_zero]
          repeat (go_big_quiet_step ((intro _; rfl)))
          refine wpQuiet_nil ?_
          exact rfl
        simp only [List.drop_succ_cons, List.drop_zero, Nat.reduceAdd]
        refine Reg.stillT (.int .i64 x) (fun _ => Below.refl _ _) (by decide) (by decide) (fun e w hR => ⟨by rfl, ?_⟩) ?_
        · have hcx := HC.out w hR
          unfold Reg.gives
          go_simp
        simp only [Act.put, List.setIfInBounds_toArray, List.set_cons_zero, List.set_cons_succ, Nat.reduceAdd]
        refine Reg.oneT (.int .u64 (v : Int)) (by decide) (fun e w hR hP => ⟨by rfl, ?_⟩) ?_
        · have hnn := HPT.out w hP
          unfold Reg.gives
          go_simp
          refine hnn.mono ?_
          rintro e w' ⟨he, hr, hg⟩
          exact ⟨_, he, rfl, below_grownBy hg (Nat.le_trans (Nat.le_of_lt HR.out.lt) hR.size) (Nat.le_refl _), hr, fun h => h.keep hg rfl, fun h => h.keep hg rfl⟩
        simp only [Act.put, List.setIfInBounds_toArray, List.set_cons_zero, List.set_cons_succ, Nat.reduceAdd]
        refine Reg.segT 4 (by kernel_rfl) rfl (by kernel_rfl) ?_
        apply Exists.intro
        refine ⟨fun e => ?_, ?_⟩
        · simp only [List.take_succ_cons, List.take_zero]
          repeat (go_big_quiet_step ((intro _; rfl)))
          refine wpQuiet_nil ?_
          exact rfl
        simp only [List.drop_succ_cons, List.drop_zero, Nat.reduceAdd]
        refine Reg.stillT (.int .i64 x) (fun _ => Below.refl _ _) (by decide) (by decide) (fun e w hR => ⟨by rfl, ?_⟩) ?_
        · have hcx := HC.out w hR
          unfold Reg.gives
          go_simp
        simp only [Act.put, List.setIfInBounds_toArray, List.set_cons_zero, List.set_cons_succ, Nat.reduceAdd]
        refine Reg.twoT (.int .u64 (v : Int)) (by decide) (fun e w hR hP => ⟨by rfl, ?_⟩) ?_
        · have hnn := HRT.out w hP
          unfold Reg.gives
          go_simp
          refine hnn.mono ?_
          rintro e w' ⟨he, hr, hg⟩
          exact ⟨_, he, rfl, below_grownBy hg (Nat.le_trans (Nat.le_of_lt HR.out.lt) hR.size) (Nat.le_succ _), hr, fun h => h.keep hg (Nat.lt_succ_self _), fun h => h.keep hg (Nat.lt_succ_self _)⟩
        simp only [Act.put, List.setIfInBounds_toArray, List.set_cons_zero, List.set_cons_succ, Nat.reduceAdd]
        refine Reg.segT 1 (by kernel_rfl) rfl (by kernel_rfl) ?_
        apply Exists.intro
        refine ⟨fun e => ?_, ?_⟩
        · simp only [List.take_succ_cons, List.take_zero]
          repeat (go_big_quiet_step ((intro _; rfl)))
          refine wpQuiet_nil ?_
          exact rfl
        simp only [List.drop_succ_cons, List.drop_zero, Nat.reduceAdd]
        intro e w3 hR hJ hf
        have HP := Lib.hid (hJ.2.1 (by decide))
        have HM := Lib.hid (hJ.2.2.2 (by decide))
        have HBw := Lib.hid (HB.out.trans (((Below.refl _ wr).drew).trans hR))
        clear hR hJ hf HB HR HF HC
        have HB := HBw
        clear HBw
        go_wp2_with fail
        refine Reg.wp_region0 (by kernel_rfl) (by kernel_rfl) ?_
        refine Reg.seg0 1 (by kernel_rfl) rfl ?_
        apply Exists.intro
        refine ⟨fun e => ?_, ?_⟩
        · simp only [List.take_succ_cons, List.take_zero]
          repeat (go_big_quiet_step ((intro _; rfl)))
          refine wpQuiet_nil ?_
          exact rfl
        simp only [List.drop_succ_cons, List.drop_zero, Nat.reduceAdd]
        refine Reg.const0 (.int .i64 (rdLeft (b.drop at2) sh2 : Nat)) (fun e w hR hf => ⟨by rfl, ?_⟩) ?_
        · unfold Reg.gives
          clear hf
          go_simp
          exact (packLeft W1.heap.size (b.drop at2) sh2 w (HP.out.bel (((Below.refl _ w3).drew).trans hR))).mono fun e w' h => ⟨h.1, by rw [← h.2]; exact Reg.bel_refl _⟩
        simp only [Act.put, List.setIfInBounds_toArray, List.set_cons_zero, List.set_cons_succ, Nat.reduceAdd]
        refine Reg.seg0 1 (by kernel_rfl) rfl ?_
        apply Exists.intro
        refine ⟨fun e => ?_, ?_⟩
        · simp only [List.take_succ_cons, List.take_zero]
          repeat (go_big_quiet_step ((intro _; rfl)))
          refine wpQuiet_nil ?_
          exact rfl
        simp only [List.drop_succ_cons, List.drop_zero, Nat.reduceAdd]
        refine Reg.const0 (.int .i64 (rdLeft (b.drop at2) sh2 : Nat)) (fun e w hR hf => ⟨by rfl, ?_⟩) ?_
        · unfold Reg.gives
          clear hf
          go_simp
          exact (refLeft (W1.heap.size + 1) b at2 sh2 w (HM.out.bel (((Below.refl _ w3).drew).trans hR)) hbl).mono fun e w' h => ⟨h.1, by obtain ⟨q, rfl⟩ := h.2; exact below_drewN (Below.refl _ _) q⟩
        simp only [Act.put, List.setIfInBounds_toArray, List.set_cons_zero, List.set_cons_succ, Nat.reduceAdd]
        refine Reg.seg0 3 (by kernel_rfl) rfl ?_
        apply Exists.intro
        refine ⟨fun e => ?_, ?_⟩
        · simp only [List.take_succ_cons, List.take_zero]
          repeat (go_big_quiet_step ((intro _; rfl)))
          refine wpQuiet_nil ?_
          exact rfl
        simp only [List.drop_succ_cons, List.drop_zero, Nat.reduceAdd]
        refine Reg.const0 (.bool sh2) (fun e w hR hf => ⟨by rfl, ?_⟩) ?_
        · unfold Reg.gives
          clear hf
          go_simp
          exact (packShort W1.heap.size (b.drop at2) sh2 w (HP.out.bel (((Below.refl _ w3).drew).trans hR))).mono fun e w' h => ⟨h.1, by rw [← h.2]; exact Reg.bel_refl _⟩
        simp only [Act.put, List.setIfInBounds_toArray, List.set_cons_zero, List.set_cons_succ, Nat.reduceAdd]
        refine Reg.seg0 1 (by kernel_rfl) rfl ?_
        apply Exists.intro
        refine ⟨fun e => ?_, ?_⟩
        · simp only [List.take_succ_cons, List.take_zero]
          repeat (go_big_quiet_step ((intro _; rfl)))
          refine wpQuiet_nil ?_
          exact rfl
        simp only [List.drop_succ_cons, List.drop_zero, Nat.reduceAdd]
        refine Reg.const0 (.pointer (some ⟨W1.heap.size + 1, 0, none⟩)) (fun e w hR hf => ⟨by rfl, ?_⟩) ?_
        · unfold Reg.gives
          clear hf
          go_simp
          exact Reg.bel_refl _
        simp only [Act.put, List.setIfInBounds_toArray, List.set_cons_zero, List.set_cons_succ, Nat.reduceAdd]
        refine Reg.seg0 1 (by kernel_rfl) rfl ?_
        apply Exists.intro
        refine ⟨fun e => ?_, ?_⟩
        · simp only [List.take_succ_cons, List.take_zero]
          repeat (go_big_quiet_step ((intro _; rfl)))
          refine wpQuiet_nil ?_
          exact rfl
        simp only [List.drop_succ_cons, List.drop_zero, Nat.reduceAdd]
        refine Reg.const0 (.bool sh2) (fun e w hR hf => ⟨by rfl, ?_⟩) ?_
        · have hcs := (HM.out.bel (((Below.refl _ w3).drew).trans hR)).short
          unfold Reg.gives
          clear hf
          go_simp
          exact Reg.bel_refl _
        simp only [Act.put, List.setIfInBounds_toArray, List.set_cons_zero, List.set_cons_succ, Nat.reduceAdd]
        refine Reg.seg0 2 (by kernel_rfl) rfl ?_
        apply Exists.intro
        refine ⟨fun e => ?_, ?_⟩
        · simp only [List.take_succ_cons, List.take_zero]
          repeat (go_big_quiet_step ((intro _; rfl)))
          refine wpQuiet_nil ?_
          exact rfl
        simp only [List.drop_succ_cons, List.drop_zero, Nat.reduceAdd]
        intro e W9 hR hJ hf
        have HPn := Lib.hid (HP.out.bel (((Below.refl _ w3).drew).trans hR))
        have HMn := Lib.hid (HM.out.bel (((Below.refl _ w3).drew).trans hR))
        have HBn := Lib.hid (below_next HB.out (((Below.refl _ w3).drew).trans hR))
        clear hR hJ hf
        go_wp2
        go_roundw
        case rel => exact ⟨j + 1, at2, sh2, by omega, by go_num, hat2, HPn, HMn, HBn⟩
        case measure => simp [intOf]; omega
    · obtain rfl : j = ll.length := by omega
      have HQ := Lib.hid (below_next HQ1.out HB.out)
      go_wp2
      go_ret
      exact ⟨rfl, HQ.out⟩

theorem PackReads_walk (a0 : Option Addr) (len0 cap0 : Nat) (z0 : List Int) (a1 : Option Addr) (len1 cap1 : Nat) (z1 : List Int) (w : World) (w0 : IsRow .u8 w a0 len0 cap0 z0) (w1 : IsRow .i64 w a1 len1 cap1 z1) :
    LawOk Try.prog 11 #[.slice a0 len0 cap0, .slice a1 len1 cap1] w := by
  obtain ⟨hn, hs⟩ := w0.more
  obtain ⟨b, rfl, hbc, hcm, hI⟩ := w0.bytes
  obtain ⟨ll, rfl, _, _, hL, _⟩ := w1.ints
  show Calls _ _ _ w (RDone w)
  by_cases h0 : 2000 < b.length ∨ 100 < ll.length
  · exact readsHead a0 _ cap0 a1 _ cap1 w h0
  · exact readsMain a0 cap0 b a1 cap1 ll w (by omega) (by omega) hbc hcm hI hL hn hs
end Go.Proofs.Ytkfpolhglndbkaa
