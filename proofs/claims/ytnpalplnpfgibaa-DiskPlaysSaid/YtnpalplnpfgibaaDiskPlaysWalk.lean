/- The walk of DiskPlays. -/
import Derived.Test.YtnpalplnpfgibaaDiskPl
import Derived.Test.YtnpalplnpfgibaaCode
namespace Go.Proofs.Ytnpalplnpfgibaa
open Go.RowKit
abbrev In_DiskPlays_1.T := List Dd
def In_DiskPlays_1 (w : World) (a : Option Addr) (len _cap : Nat) (z : In_DiskPlays_1.T) : Prop := z.length = len ∧ IsRowOf ddCells (ddWf w) 6 w a z ∧ len ≤ maxLen
theorem open_DiskPlays_1 {H : Type} {enc : TypeId × Value → H} {w : World} {base : Nat} {spare : Nat → Bool} {held : Bool} {a : Option Addr} {len cap : Nat} {d : DataW H} {p : List MemPlace} (h : DataW.Trod enc Try.prog w base spare held 46 (.slice a len cap) d p) : ∃ z, In_DiskPlays_1 w a len cap z := open_dds h
def DPDone (w : World) (e : Ending) (w' : World) : Prop := e = .returned (.bool true) ∧ Below w.heap.size w w'
theorem DP.start {w W1 W2 : World} {cap : Int} (hd : IsDisk W2 W1.heap.size ⟨cap, 0, false, 0, 0, false⟩ (.map []) []) (hb1 : Below w.heap.size w W1) (hb2 : Below W1.heap.size W1 W2) (hc0 : -9223372036854775808 ≤ cap) (hc1 : cap ≤ 9223372036854775807) :
    DP w W1.heap.size W2.heap.size ⟨cap, 0, false, 0, 0, false⟩ (.map []) [] ⟨cap, 0, false, 0, 0, false⟩ (.slice none 0 0) [] 0 (W2.alloc (.cells #[.int .i64 cap, .slice none 0 0, .int .i64 0, .bool false, .int .i64 0, .int .i64 0, .bool false] 92)) := by
  have ha := (Below.refl W2.heap.size W2).alloc (Nat.le_refl _) (.cells #[.int .i64 cap, .slice none 0 0, .int .i64 0, .bool false, .int .i64 0, .int .i64 0, .bool false] 92)
  refine ⟨hd.bel ha, ⟨heap_alloc_new W2 _, OwnOf.nil _ _, fun q hq => by cases hq⟩, ⟨rfl, rfl, rfl, rfl, rfl, fun e => (by cases e), Nat.le_refl _, by simp, by simp⟩, List.Perm.refl _, List.Pairwise.nil, Nat.le_refl _, by simp [usedR], Nat.le_refl _, hc0, hc1, by simp [usedR]; omega, fun k hk hr => ?_, (below_next hb1 hb2).trans (ha.mono ?_), hb1.size, Nat.le_trans hb1.size hb2.size⟩
  · have h1 := own_lt hd hk
    rcases hr with rfl | hr | ⟨q, hq, _⟩
    · omega
    · cases hr
    · cases hq
  · exact Nat.le_trans hb1.size hb2.size
set_option maxRecDepth 100000 in
set_option maxHeartbeats 40000000 in
theorem dplaysHead (cap : Int) (a0 : Option Addr) (m cap0 : Nat) (w : World) (h : 100 < m) :
    Calls Try.prog 9 #[.int .i64 cap, .slice a0 m cap0] w (DPDone w) := by
  have e0 : decide ((100 : Int) < (m : Int)) = true := by simp; omega
  go_enter Try.func9, Try.ntmps9
  go_wp2_with fail
  refine (diskUp _).mono ?_
  rintro e W1 ⟨rfl, hb⟩
  have HX := Lib.hid hb
  clear hb
  go_wp2_with fail
  go_ret
  exact ⟨rfl, HX.out⟩
set_option maxRecDepth 100000 in
set_option maxHeartbeats 40000000 in
theorem dplaysMain (cap : Int) (a0 : Option Addr) (cap0 : Nat) (z : In_DiskPlays_1.T) (w : World) (h0 : z.length ≤ 100) (hz : IsRowOf ddCells (ddWf w) 6 w a0 z) (hcl : -9223372036854775808 ≤ cap) (hch : cap ≤ 9223372036854775807) :
    Calls Try.prog 9 #[.int .i64 cap, .slice a0 z.length cap0] w (DPDone w) := by
  have e0 : decide ((100 : Int) < (z.length : Int)) = false := by simp; omega
  have HZ := Lib.hid hz
  have HCL := Lib.hid hcl
  have HCH := Lib.hid hch
  have bz : (z.length : Int) ≤ 100 := by omega
  clear hz hcl hch
  go_enter Try.func9, Try.ntmps9
  go_wp2_with fail
  refine (diskUp _).mono ?_
  rintro e W1 ⟨rfl, hb⟩
  go_wp2_with fail
  refine (diskNew cap _).mono ?_
  rintro e W2 ⟨rfl, hd2, hb2⟩
  have HS := Lib.hid (DP.start hd2 hb hb2 HCL.out HCH.out)
  generalize W1.heap.size = bm at *
  clear hd2 hb hb2 e0
  obtain ⟨bx, hbx⟩ : ∃ bx, bx = W2.heap.size := ⟨_, rfl⟩
  have HBE := Lib.hid hbx
  go_wp2
  rw [← HBE.out] at HS ⊢
  clear hbx
  go_loopw [8] (fun i wr => ∃ (j : Nat) (st : DSt) (D : DataW Unit) (L : List Ent) (st' : DSt) (v : Value) (l : List RF), j ≤ z.length ∧ i = .int .i64 j ∧ Hid (DP w bm bx st D L st' v l j wr)) (fun i _ => z.length - (intOf i).toNat)
  case atStart => exact ⟨0, _, _, _, _, _, _, Nat.zero_le _, rfl, HS⟩
  case round =>
    obtain ⟨j, st, D, L, st', v, l, hj, rfl, HP⟩ := hrel
    clear HS
    have b0 : (0 : Int) ≤ (j : Int) := by omega
    by_cases hlt : j < z.length
    · have bj : (j : Int) < (z.length : Int) := by omega
      have HJ := Lib.hid (show j ≤ 100 by omega)
      have HJ1 := Lib.hid (show j + 1 ≤ 100 by omega)
      obtain ⟨b, off, hax, hbx, hcell, hyw⟩ := HZ.out j hlt
      obtain ⟨x, hx⟩ : ∃ x, x = z[j] := ⟨_, rfl⟩
      rw [← hx] at hcell hyw
      have hc0 := (HP.out.bel.cell (p := ⟨b, off + j * 6, none⟩) hbx).trans (hcell 0 (by omega))
      have hc1 := (HP.out.bel.cell (p := ⟨b, off + j * 6 + 1, none⟩) hbx).trans (hcell 1 (by omega))
      have hc2 := (HP.out.bel.cell (p := ⟨b, off + j * 6 + 2, none⟩) hbx).trans (hcell 2 (by omega))
      have hc3 := (HP.out.bel.cell (p := ⟨b, off + j * 6 + 3, none⟩) hbx).trans (hcell 3 (by omega))
      have hc4 := (HP.out.bel.cell (p := ⟨b, off + j * 6 + 4, none⟩) hbx).trans (hcell 4 (by omega))
      have hc5 := (HP.out.bel.cell (p := ⟨b, off + j * 6 + 5, none⟩) hbx).trans (hcell 5 (by omega))
      simp only [ddCells, List.getElem?_cons_zero, List.getElem?_cons_succ] at hc0 hc1 hc2 hc3 hc4 hc5
      have HXW := Lib.hid hyw
      rw [hax]
      obtain ⟨W3, hW3⟩ : ∃ W, W = wr.alloc (.cells #[.int .i64 x.what, .string x.name, .string x.to, .slice x.ba x.b.length x.bcap, .int .i64 x.n, .int .i64 x.m] 60) := ⟨_, rfl⟩
      have HP3 := Lib.hid (show DP w bm bx st D L st' v l j W3 by rw [hW3]; exact HP.out.bel' ((Below.refl _ _).alloc (Nat.le_refl _) _))
      obtain ⟨nb, hnb⟩ : ∃ nb, nb = wr.heap.size := ⟨_, rfl⟩
      have HNB := Lib.hid hnb
      have HNO := Lib.hid (show ¬ Own bm L nb from fun ho => by have := own_lt HP.out.d ho; omega)
      have HBX := Lib.hid (show W3.heap[nb]? = some (ddBox x) by rw [hW3, hnb]; exact heap_alloc_new wr _)
      have HW3 := Lib.hid hW3
      have HXB := Lib.hid (HP3.out.old hyw.by_)
      clear hax hcell hyw hx hW3 hnb
      by_cases hk1 : 100 < x.name.size
      · have dk : decide ((100 : Int) < (x.name.size : Int)) = true := by simp; omega
        clear hk1
        go_wp2
        go_ret
        exact ⟨rfl, by rw [← HW3.out]; exact HP3.out.bel⟩
      · have dk : decide ((100 : Int) < (x.name.size : Int)) = false := by simp; omega
        clear hk1
        by_cases hk2 : 100 < x.to.size
        · have dk2 : decide ((100 : Int) < (x.to.size : Int)) = true := by simp; omega
          clear hk2
          go_wp2
          go_ret
          exact ⟨rfl, by rw [← HW3.out]; exact HP3.out.bel⟩
        · have dk2 : decide ((100 : Int) < (x.to.size : Int)) = false := by simp; omega
          clear hk2
          by_cases hk3 : 1000 < x.b.length
          · have dk3 : decide ((1000 : Int) < (x.b.length : Int)) = true := by simp; omega
            clear hk3
            go_wp2
            go_ret
            exact ⟨rfl, by rw [← HW3.out]; exact HP3.out.bel⟩
          · have dk3 : decide ((1000 : Int) < (x.b.length : Int)) = false := by simp; omega
            have HBL := Lib.hid (show x.b.length ≤ 1000 by omega)
            clear hk3
            go_wp2_with fail
            refine (pickN x.what _ HXW.out.what).mono ?_
            rintro e w2 ⟨⟨p, hp0, hp10, rfl⟩, rfl⟩
            rw [← HW3.out, ← HNB.out]
            clear hc0 hc1 hc2 hc3 hc4 hc5 dk dk2 dk3
            have hp : p = 0 ∨ p = 1 ∨ p = 2 ∨ p = 3 ∨ p = 4 ∨ p = 5 ∨ p = 6 ∨ p = 7 ∨ 8 ≤ p := by omega
            clear hp0 hp10
            rcases hp with rfl | rfl | rfl | rfl | rfl | rfl | rfl | rfl | hp
            · as_aux_lemma =>
                obtain ⟨q0, q1, q2, q3, q4, q5, ql⟩ := ddBox_at HBX.out
                go_wp2_with fail
                refine (diskCreate bm st D L x.name _ HP3.out.d (HP3.out.both HJ.out).wf HXW.out.name).mono ?_
                intro e W4 ha
                obtain ⟨D4, L4, hm, hb4⟩ := HP3.out.mid ha HBX.out HNO.out
                have hret := ha.ret
                have hcc := createS_c st (fsOf L) x.name
                obtain ⟨r, hr⟩ : ∃ r, r = createS st (fsOf L) x.name := ⟨_, rfl⟩
                rw [← hr] at hret hm hcc
                have HRE := Lib.hid hr
                obtain ⟨c, hc⟩ : ∃ c, c = r.1 := ⟨_, rfl⟩
                rw [← hc] at hret hcc
                have HCE := Lib.hid hc
                have HCC := Lib.hid hcc
                have HM := Lib.hid (And.intro hm hb4)
                clear ha hm hcc hr hc q0 q1 q2 q3 q4 q5
                subst hret
                obtain ⟨q0, q1, q2, q3, q4, q5, ql4⟩ := ddBox_at hb4
                clear hb4 ql
                go_wp2_with fail
                clear q0 q1 q2 q3 q4 q5 ql4
                refine Reg.wp_regionO w.heap.size 12 (fun W => Mid w bm bx r D4 L4 st' v l W ∧ W.heap[nb]? = some (ddBox x)) (fun W => ∃ st'' v' l', DP w bm bx r.2.1 D4 L4 st'' v' l' (j + 1) W) (by kernel_rfl) (by kernel_rfl) ⟨HM.out.1.bel' (Below.refl _ _).drew, HM.out.2⟩ ?_
                refine Reg.segO 1 (by kernel_rfl) rfl (by kernel_rfl) ?_
                apply Exists.intro
                refine ⟨fun e => ?_, ?_⟩
                · simp only [List.take_succ_cons, List.take_zero]
                  repeat (go_big_quiet_step ((intro _; rfl)))
                  refine wpQuiet_nil ?_
                  exact rfl
                simp only [List.drop_succ_cons, List.drop_zero, Nat.reduceAdd]
                refine Reg.stillO (.int .i64 (c : Int)) (fun _ => Below.refl _ _) (by decide) (fun e w1 hR => ⟨by rfl, ?_⟩) ?_
                · unfold Reg.gives
                  clear hR
                  go_simp
                  exact (lawCode c _ HCC.out).mono fun e2 w2 h2 => by obtain ⟨rfl, rfl⟩ := h2; exact ⟨rfl, rfl⟩
                simp only [Act.put, List.setIfInBounds_toArray, List.set_cons_zero, List.set_cons_succ, Nat.reduceAdd]
                refine Reg.segO 3 (by kernel_rfl) rfl (by kernel_rfl) ?_
                apply Exists.intro
                refine ⟨fun e => ?_, ?_⟩
                · simp only [List.take_succ_cons, List.take_zero]
                  repeat (go_big_quiet_step ((intro _; rfl)))
                  refine wpQuiet_nil ?_
                  exact rfl
                simp only [List.drop_succ_cons, List.drop_zero, Nat.reduceAdd]
                refine Reg.readO (.string x.name) (fun _ => Below.refl _ _) (by decide) (by kernel_rfl) (fun e w1 hR hp => ⟨by rfl, ?_⟩) ?_
                · have hq := (ddBox_at hp.2).q1
                  clear hR hp
                  unfold Reg.gives
                  go_simp
                simp only [Act.put, List.setIfInBounds_toArray, List.set_cons_zero, List.set_cons_succ, Nat.reduceAdd]
                refine Reg.segO 1 (by kernel_rfl) rfl (by kernel_rfl) ?_
                apply Exists.intro
                refine ⟨fun e => ?_, ?_⟩
                · simp only [List.take_succ_cons, List.take_zero]
                  repeat (go_big_quiet_step ((intro _; rfl)))
                  refine wpQuiet_nil ?_
                  exact rfl
                simp only [List.drop_succ_cons, List.drop_zero, Nat.reduceAdd]
                refine Reg.readO (.string x.to) (fun _ => Below.refl _ _) (by decide) (by kernel_rfl) (fun e w1 hR hp => ⟨by rfl, ?_⟩) ?_
                · have hq := (ddBox_at hp.2).q2
                  clear hR hp
                  unfold Reg.gives
                  go_simp
                simp only [Act.put, List.setIfInBounds_toArray, List.set_cons_zero, List.set_cons_succ, Nat.reduceAdd]
                refine Reg.segO 1 (by kernel_rfl) rfl (by kernel_rfl) ?_
                apply Exists.intro
                refine ⟨fun e => ?_, ?_⟩
                · simp only [List.take_succ_cons, List.take_zero]
                  repeat (go_big_quiet_step ((intro _; rfl)))
                  refine wpQuiet_nil ?_
                  exact rfl
                simp only [List.drop_succ_cons, List.drop_zero, Nat.reduceAdd]
                refine Reg.readO (.slice x.ba x.b.length x.bcap) (fun _ => Below.refl _ _) (by decide) (by kernel_rfl) (fun e w1 hR hp => ⟨by rfl, ?_⟩) ?_
                · have hq := (ddBox_at hp.2).q3
                  clear hR hp
                  unfold Reg.gives
                  go_simp
                simp only [Act.put, List.setIfInBounds_toArray, List.set_cons_zero, List.set_cons_succ, Nat.reduceAdd]
                refine Reg.segO 1 (by kernel_rfl) rfl (by kernel_rfl) ?_
                apply Exists.intro
                refine ⟨fun e => ?_, ?_⟩
                · simp only [List.take_succ_cons, List.take_zero]
                  repeat (go_big_quiet_step ((intro _; rfl)))
                  refine wpQuiet_nil ?_
                  exact rfl
                simp only [List.drop_succ_cons, List.drop_zero, Nat.reduceAdd]
                refine Reg.readO (.int .i64 x.n) (fun _ => Below.refl _ _) (by decide) (by kernel_rfl) (fun e w1 hR hp => ⟨by rfl, ?_⟩) ?_
                · have hq := (ddBox_at hp.2).q4
                  clear hR hp
                  unfold Reg.gives
                  go_simp
                simp only [Act.put, List.setIfInBounds_toArray, List.set_cons_zero, List.set_cons_succ, Nat.reduceAdd]
                refine Reg.callK (.int .i64 (c : Int)) (fun e w1 hR hp => ⟨by rfl, ?_⟩) ?_
                · have HK := Lib.hid hp.1
                  clear hR hp
                  unfold Reg.gives
                  go_simp
                  refine (refCreate bx st st' v l (fsOf L) x.name x.to x.ba x.b.length x.bcap x.n w1 HK.out.rd HP3.out.like (HP3.out.both HJ.out).rwf HP3.out.perm HP3.out.rise HXW.out.name).mono ?_
                  intro e6 w6 ha
                  rw [← HRE.out] at ha
                  obtain ⟨h1, h2, h3⟩ := HP3.out.done HK.out ha
                  subst h1
                  exact ⟨_, rfl, h2, h3, by rw [HCE.out]⟩
                simp only [Act.put, List.setIfInBounds_toArray, List.set_cons_zero, List.set_cons_succ, Nat.reduceAdd]
                refine Reg.segO 1 (by kernel_rfl) rfl (by kernel_rfl) ?_
                apply Exists.intro
                refine ⟨fun e => ?_, ?_⟩
                · simp only [List.take_succ_cons, List.take_zero]
                  repeat (go_big_quiet_step ((intro _; rfl)))
                  refine wpQuiet_nil ?_
                  exact rfl
                simp only [List.drop_succ_cons, List.drop_zero, Nat.reduceAdd]
                intro eX W6 hR hJ hf
                obtain ⟨st6, v6, l6, hd6⟩ := hJ.2 rfl
                have HP6 := Lib.hid hd6
                clear hR hJ hf hd6
                have dcc : (c != c) = false := by simp
                go_wp2_with fail
                refine (sameBoth (HP6.out.both HJ1.out)).mono ?_
                rintro e W7 ⟨rfl, hb7⟩
                have HP7 := Lib.hid (HP6.out.bel' hb7)
                clear hb7
                go_wp2_with fail
                go_roundw
                case rel => exact ⟨j + 1, _, _, _, _, _, _, by omega, by go_num, HP7⟩
                case measure => simp [intOf]; omega
            · as_aux_lemma =>
                obtain ⟨q0, q1, q2, q3, q4, q5, ql⟩ := ddBox_at HBX.out
                go_wp2_with fail
                refine (diskAppend bm st D L x.name x.ba x.bcap x.b _ HP3.out.d (HP3.out.both HJ.out).wf HXW.out.name HXB.out.1 (by have := HBL.out; omega) HXB.out.2.1).mono ?_
                intro e W4 ha
                obtain ⟨D4, L4, hm, hb4⟩ := HP3.out.mid ha HBX.out HNO.out
                have hret := ha.ret
                have hcc := appendS_c st (fsOf L) x.name x.b
                obtain ⟨r, hr⟩ : ∃ r, r = appendS st (fsOf L) x.name x.b := ⟨_, rfl⟩
                rw [← hr] at hret hm hcc
                have HRE := Lib.hid hr
                obtain ⟨c, hc⟩ : ∃ c, c = r.1 := ⟨_, rfl⟩
                rw [← hc] at hret hcc
                have HCE := Lib.hid hc
                have HCC := Lib.hid hcc
                have HM := Lib.hid (And.intro hm hb4)
                clear ha hm hcc hr hc q0 q1 q2 q3 q4 q5
                subst hret
                obtain ⟨q0, q1, q2, q3, q4, q5, ql4⟩ := ddBox_at hb4
                clear hb4 ql
                go_wp2_with fail
                clear q0 q1 q2 q3 q4 q5 ql4
                refine Reg.wp_regionO w.heap.size 12 (fun W => Mid w bm bx r D4 L4 st' v l W ∧ W.heap[nb]? = some (ddBox x)) (fun W => ∃ st'' v' l', DP w bm bx r.2.1 D4 L4 st'' v' l' (j + 1) W) (by kernel_rfl) (by kernel_rfl) ⟨HM.out.1.bel' (Below.refl _ _).drew, HM.out.2⟩ ?_
                refine Reg.segO 1 (by kernel_rfl) rfl (by kernel_rfl) ?_
                apply Exists.intro
                refine ⟨fun e => ?_, ?_⟩
                · simp only [List.take_succ_cons, List.take_zero]
                  repeat (go_big_quiet_step ((intro _; rfl)))
                  refine wpQuiet_nil ?_
                  exact rfl
                simp only [List.drop_succ_cons, List.drop_zero, Nat.reduceAdd]
                refine Reg.stillO (.int .i64 (c : Int)) (fun _ => Below.refl _ _) (by decide) (fun e w1 hR => ⟨by rfl, ?_⟩) ?_
                · unfold Reg.gives
                  clear hR
                  go_simp
                  exact (lawCode c _ HCC.out).mono fun e2 w2 h2 => by obtain ⟨rfl, rfl⟩ := h2; exact ⟨rfl, rfl⟩
                simp only [Act.put, List.setIfInBounds_toArray, List.set_cons_zero, List.set_cons_succ, Nat.reduceAdd]
                refine Reg.segO 3 (by kernel_rfl) rfl (by kernel_rfl) ?_
                apply Exists.intro
                refine ⟨fun e => ?_, ?_⟩
                · simp only [List.take_succ_cons, List.take_zero]
                  repeat (go_big_quiet_step ((intro _; rfl)))
                  refine wpQuiet_nil ?_
                  exact rfl
                simp only [List.drop_succ_cons, List.drop_zero, Nat.reduceAdd]
                refine Reg.readO (.string x.name) (fun _ => Below.refl _ _) (by decide) (by kernel_rfl) (fun e w1 hR hp => ⟨by rfl, ?_⟩) ?_
                · have hq := (ddBox_at hp.2).q1
                  clear hR hp
                  unfold Reg.gives
                  go_simp
                simp only [Act.put, List.setIfInBounds_toArray, List.set_cons_zero, List.set_cons_succ, Nat.reduceAdd]
                refine Reg.segO 1 (by kernel_rfl) rfl (by kernel_rfl) ?_
                apply Exists.intro
                refine ⟨fun e => ?_, ?_⟩
                · simp only [List.take_succ_cons, List.take_zero]
                  repeat (go_big_quiet_step ((intro _; rfl)))
                  refine wpQuiet_nil ?_
                  exact rfl
                simp only [List.drop_succ_cons, List.drop_zero, Nat.reduceAdd]
                refine Reg.readO (.string x.to) (fun _ => Below.refl _ _) (by decide) (by kernel_rfl) (fun e w1 hR hp => ⟨by rfl, ?_⟩) ?_
                · have hq := (ddBox_at hp.2).q2
                  clear hR hp
                  unfold Reg.gives
                  go_simp
                simp only [Act.put, List.setIfInBounds_toArray, List.set_cons_zero, List.set_cons_succ, Nat.reduceAdd]
                refine Reg.segO 1 (by kernel_rfl) rfl (by kernel_rfl) ?_
                apply Exists.intro
                refine ⟨fun e => ?_, ?_⟩
                · simp only [List.take_succ_cons, List.take_zero]
                  repeat (go_big_quiet_step ((intro _; rfl)))
                  refine wpQuiet_nil ?_
                  exact rfl
                simp only [List.drop_succ_cons, List.drop_zero, Nat.reduceAdd]
                refine Reg.readO (.slice x.ba x.b.length x.bcap) (fun _ => Below.refl _ _) (by decide) (by kernel_rfl) (fun e w1 hR hp => ⟨by rfl, ?_⟩) ?_
                · have hq := (ddBox_at hp.2).q3
                  clear hR hp
                  unfold Reg.gives
                  go_simp
                simp only [Act.put, List.setIfInBounds_toArray, List.set_cons_zero, List.set_cons_succ, Nat.reduceAdd]
                refine Reg.segO 1 (by kernel_rfl) rfl (by kernel_rfl) ?_
                apply Exists.intro
                refine ⟨fun e => ?_, ?_⟩
                · simp only [List.take_succ_cons, List.take_zero]
                  repeat (go_big_quiet_step ((intro _; rfl)))
                  refine wpQuiet_nil ?_
                  exact rfl
                simp only [List.drop_succ_cons, List.drop_zero, Nat.reduceAdd]
                refine Reg.readO (.int .i64 x.n) (fun _ => Below.refl _ _) (by decide) (by kernel_rfl) (fun e w1 hR hp => ⟨by rfl, ?_⟩) ?_
                · have hq := (ddBox_at hp.2).q4
                  clear hR hp
                  unfold Reg.gives
                  go_simp
                simp only [Act.put, List.setIfInBounds_toArray, List.set_cons_zero, List.set_cons_succ, Nat.reduceAdd]
                refine Reg.callK (.int .i64 (c : Int)) (fun e w1 hR hp => ⟨by rfl, ?_⟩) ?_
                · have HK := Lib.hid hp.1
                  clear hR hp
                  unfold Reg.gives
                  go_simp
                  refine (refAppend bx st st' v l (fsOf L) x.name x.to x.ba x.b.length x.bcap x.n x.b w1 HK.out.rd HP3.out.like (HP3.out.both HJ.out).rwf HP3.out.perm HP3.out.rise (HXW.out.by_.below HK.out.bel (Nat.le_refl _)) HXB.out.2.2 rfl HBL.out).mono ?_
                  intro e6 w6 ha
                  rw [← HRE.out] at ha
                  obtain ⟨h1, h2, h3⟩ := HP3.out.done HK.out ha
                  subst h1
                  exact ⟨_, rfl, h2, h3, by rw [HCE.out]⟩
                simp only [Act.put, List.setIfInBounds_toArray, List.set_cons_zero, List.set_cons_succ, Nat.reduceAdd]
                refine Reg.segO 1 (by kernel_rfl) rfl (by kernel_rfl) ?_
                apply Exists.intro
                refine ⟨fun e => ?_, ?_⟩
                · simp only [List.take_succ_cons, List.take_zero]
                  repeat (go_big_quiet_step ((intro _; rfl)))
                  refine wpQuiet_nil ?_
                  exact rfl
                simp only [List.drop_succ_cons, List.drop_zero, Nat.reduceAdd]
                intro eX W6 hR hJ hf
                obtain ⟨st6, v6, l6, hd6⟩ := hJ.2 rfl
                have HP6 := Lib.hid hd6
                clear hR hJ hf hd6
                have dcc : (c != c) = false := by simp
                go_wp2_with fail
                refine (sameBoth (HP6.out.both HJ1.out)).mono ?_
                rintro e W7 ⟨rfl, hb7⟩
                have HP7 := Lib.hid (HP6.out.bel' hb7)
                clear hb7
                go_wp2_with fail
                go_roundw
                case rel => exact ⟨j + 1, _, _, _, _, _, _, by omega, by go_num, HP7⟩
                case measure => simp [intOf]; omega
            · as_aux_lemma =>
                obtain ⟨q0, q1, q2, q3, q4, q5, ql⟩ := ddBox_at HBX.out
                go_wp2_with fail
                refine (diskSync bm st D L x.name _ HP3.out.d (HP3.out.both HJ.out).wf HXW.out.name).mono ?_
                intro e W4 ha
                obtain ⟨D4, L4, hm, hb4⟩ := HP3.out.mid ha HBX.out HNO.out
                have hret := ha.ret
                have hcc := syncS_c st (fsOf L) x.name
                obtain ⟨r, hr⟩ : ∃ r, r = syncS st (fsOf L) x.name := ⟨_, rfl⟩
                rw [← hr] at hret hm hcc
                have HRE := Lib.hid hr
                obtain ⟨c, hc⟩ : ∃ c, c = r.1 := ⟨_, rfl⟩
                rw [← hc] at hret hcc
                have HCE := Lib.hid hc
                have HCC := Lib.hid hcc
                have HM := Lib.hid (And.intro hm hb4)
                clear ha hm hcc hr hc q0 q1 q2 q3 q4 q5
                subst hret
                obtain ⟨q0, q1, q2, q3, q4, q5, ql4⟩ := ddBox_at hb4
                clear hb4 ql
                go_wp2_with fail
                clear q0 q1 q2 q3 q4 q5 ql4
                refine Reg.wp_regionO w.heap.size 12 (fun W => Mid w bm bx r D4 L4 st' v l W ∧ W.heap[nb]? = some (ddBox x)) (fun W => ∃ st'' v' l', DP w bm bx r.2.1 D4 L4 st'' v' l' (j + 1) W) (by kernel_rfl) (by kernel_rfl) ⟨HM.out.1.bel' (Below.refl _ _).drew, HM.out.2⟩ ?_
                refine Reg.segO 1 (by kernel_rfl) rfl (by kernel_rfl) ?_
                apply Exists.intro
                refine ⟨fun e => ?_, ?_⟩
                · simp only [List.take_succ_cons, List.take_zero]
                  repeat (go_big_quiet_step ((intro _; rfl)))
                  refine wpQuiet_nil ?_
                  exact rfl
                simp only [List.drop_succ_cons, List.drop_zero, Nat.reduceAdd]
                refine Reg.stillO (.int .i64 (c : Int)) (fun _ => Below.refl _ _) (by decide) (fun e w1 hR => ⟨by rfl, ?_⟩) ?_
                · unfold Reg.gives
                  clear hR
                  go_simp
                  exact (lawCode c _ HCC.out).mono fun e2 w2 h2 => by obtain ⟨rfl, rfl⟩ := h2; exact ⟨rfl, rfl⟩
                simp only [Act.put, List.setIfInBounds_toArray, List.set_cons_zero, List.set_cons_succ, Nat.reduceAdd]
                refine Reg.segO 3 (by kernel_rfl) rfl (by kernel_rfl) ?_
                apply Exists.intro
                refine ⟨fun e => ?_, ?_⟩
                · simp only [List.take_succ_cons, List.take_zero]
                  repeat (go_big_quiet_step ((intro _; rfl)))
                  refine wpQuiet_nil ?_
                  exact rfl
                simp only [List.drop_succ_cons, List.drop_zero, Nat.reduceAdd]
                refine Reg.readO (.string x.name) (fun _ => Below.refl _ _) (by decide) (by kernel_rfl) (fun e w1 hR hp => ⟨by rfl, ?_⟩) ?_
                · have hq := (ddBox_at hp.2).q1
                  clear hR hp
                  unfold Reg.gives
                  go_simp
                simp only [Act.put, List.setIfInBounds_toArray, List.set_cons_zero, List.set_cons_succ, Nat.reduceAdd]
                refine Reg.segO 1 (by kernel_rfl) rfl (by kernel_rfl) ?_
                apply Exists.intro
                refine ⟨fun e => ?_, ?_⟩
                · simp only [List.take_succ_cons, List.take_zero]
                  repeat (go_big_quiet_step ((intro _; rfl)))
                  refine wpQuiet_nil ?_
                  exact rfl
                simp only [List.drop_succ_cons, List.drop_zero, Nat.reduceAdd]
                refine Reg.readO (.string x.to) (fun _ => Below.refl _ _) (by decide) (by kernel_rfl) (fun e w1 hR hp => ⟨by rfl, ?_⟩) ?_
                · have hq := (ddBox_at hp.2).q2
                  clear hR hp
                  unfold Reg.gives
                  go_simp
                simp only [Act.put, List.setIfInBounds_toArray, List.set_cons_zero, List.set_cons_succ, Nat.reduceAdd]
                refine Reg.segO 1 (by kernel_rfl) rfl (by kernel_rfl) ?_
                apply Exists.intro
                refine ⟨fun e => ?_, ?_⟩
                · simp only [List.take_succ_cons, List.take_zero]
                  repeat (go_big_quiet_step ((intro _; rfl)))
                  refine wpQuiet_nil ?_
                  exact rfl
                simp only [List.drop_succ_cons, List.drop_zero, Nat.reduceAdd]
                refine Reg.readO (.slice x.ba x.b.length x.bcap) (fun _ => Below.refl _ _) (by decide) (by kernel_rfl) (fun e w1 hR hp => ⟨by rfl, ?_⟩) ?_
                · have hq := (ddBox_at hp.2).q3
                  clear hR hp
                  unfold Reg.gives
                  go_simp
                simp only [Act.put, List.setIfInBounds_toArray, List.set_cons_zero, List.set_cons_succ, Nat.reduceAdd]
                refine Reg.segO 1 (by kernel_rfl) rfl (by kernel_rfl) ?_
                apply Exists.intro
                refine ⟨fun e => ?_, ?_⟩
                · simp only [List.take_succ_cons, List.take_zero]
                  repeat (go_big_quiet_step ((intro _; rfl)))
                  refine wpQuiet_nil ?_
                  exact rfl
                simp only [List.drop_succ_cons, List.drop_zero, Nat.reduceAdd]
                refine Reg.readO (.int .i64 x.n) (fun _ => Below.refl _ _) (by decide) (by kernel_rfl) (fun e w1 hR hp => ⟨by rfl, ?_⟩) ?_
                · have hq := (ddBox_at hp.2).q4
                  clear hR hp
                  unfold Reg.gives
                  go_simp
                simp only [Act.put, List.setIfInBounds_toArray, List.set_cons_zero, List.set_cons_succ, Nat.reduceAdd]
                refine Reg.callK (.int .i64 (c : Int)) (fun e w1 hR hp => ⟨by rfl, ?_⟩) ?_
                · have HK := Lib.hid hp.1
                  clear hR hp
                  unfold Reg.gives
                  go_simp
                  refine (refSync bx st st' v l (fsOf L) x.name x.to x.ba x.b.length x.bcap x.n w1 HK.out.rd HP3.out.like (HP3.out.both HJ.out).rwf HP3.out.perm HP3.out.rise).mono ?_
                  intro e6 w6 ha
                  rw [← HRE.out] at ha
                  obtain ⟨h1, h2, h3⟩ := HP3.out.done HK.out ha
                  subst h1
                  exact ⟨_, rfl, h2, h3, by rw [HCE.out]⟩
                simp only [Act.put, List.setIfInBounds_toArray, List.set_cons_zero, List.set_cons_succ, Nat.reduceAdd]
                refine Reg.segO 1 (by kernel_rfl) rfl (by kernel_rfl) ?_
                apply Exists.intro
                refine ⟨fun e => ?_, ?_⟩
                · simp only [List.take_succ_cons, List.take_zero]
                  repeat (go_big_quiet_step ((intro _; rfl)))
                  refine wpQuiet_nil ?_
                  exact rfl
                simp only [List.drop_succ_cons, List.drop_zero, Nat.reduceAdd]
                intro eX W6 hR hJ hf
                obtain ⟨st6, v6, l6, hd6⟩ := hJ.2 rfl
                have HP6 := Lib.hid hd6
                clear hR hJ hf hd6
                have dcc : (c != c) = false := by simp
                go_wp2_with fail
                refine (sameBoth (HP6.out.both HJ1.out)).mono ?_
                rintro e W7 ⟨rfl, hb7⟩
                have HP7 := Lib.hid (HP6.out.bel' hb7)
                clear hb7
                go_wp2_with fail
                go_roundw
                case rel => exact ⟨j + 1, _, _, _, _, _, _, by omega, by go_num, HP7⟩
                case measure => simp [intOf]; omega
            · as_aux_lemma =>
                obtain ⟨q0, q1, q2, q3, q4, q5, ql⟩ := ddBox_at HBX.out
                go_wp2_with fail
                refine (diskCut bm st D L x.name x.n _ HP3.out.d (HP3.out.both HJ.out).wf HXW.out.name).mono ?_
                intro e W4 ha
                obtain ⟨D4, L4, hm, hb4⟩ := HP3.out.mid ha HBX.out HNO.out
                have hret := ha.ret
                have hcc := cutS_c st (fsOf L) x.name x.n
                obtain ⟨r, hr⟩ : ∃ r, r = cutS st (fsOf L) x.name x.n := ⟨_, rfl⟩
                rw [← hr] at hret hm hcc
                have HRE := Lib.hid hr
                obtain ⟨c, hc⟩ : ∃ c, c = r.1 := ⟨_, rfl⟩
                rw [← hc] at hret hcc
                have HCE := Lib.hid hc
                have HCC := Lib.hid hcc
                have HM := Lib.hid (And.intro hm hb4)
                clear ha hm hcc hr hc q0 q1 q2 q3 q4 q5
                subst hret
                obtain ⟨q0, q1, q2, q3, q4, q5, ql4⟩ := ddBox_at hb4
                clear hb4 ql
                go_wp2_with fail
                clear q0 q1 q2 q3 q4 q5 ql4
                refine Reg.wp_regionO w.heap.size 12 (fun W => Mid w bm bx r D4 L4 st' v l W ∧ W.heap[nb]? = some (ddBox x)) (fun W => ∃ st'' v' l', DP w bm bx r.2.1 D4 L4 st'' v' l' (j + 1) W) (by kernel_rfl) (by kernel_rfl) ⟨HM.out.1.bel' (Below.refl _ _).drew, HM.out.2⟩ ?_
                refine Reg.segO 1 (by kernel_rfl) rfl (by kernel_rfl) ?_
                apply Exists.intro
                refine ⟨fun e => ?_, ?_⟩
                · simp only [List.take_succ_cons, List.take_zero]
                  repeat (go_big_quiet_step ((intro _; rfl)))
                  refine wpQuiet_nil ?_
                  exact rfl
                simp only [List.drop_succ_cons, List.drop_zero, Nat.reduceAdd]
                refine Reg.stillO (.int .i64 (c : Int)) (fun _ => Below.refl _ _) (by decide) (fun e w1 hR => ⟨by rfl, ?_⟩) ?_
                · unfold Reg.gives
                  clear hR
                  go_simp
                  exact (lawCode c _ HCC.out).mono fun e2 w2 h2 => by obtain ⟨rfl, rfl⟩ := h2; exact ⟨rfl, rfl⟩
                simp only [Act.put, List.setIfInBounds_toArray, List.set_cons_zero, List.set_cons_succ, Nat.reduceAdd]
                refine Reg.segO 3 (by kernel_rfl) rfl (by kernel_rfl) ?_
                apply Exists.intro
                refine ⟨fun e => ?_, ?_⟩
                · simp only [List.take_succ_cons, List.take_zero]
                  repeat (go_big_quiet_step ((intro _; rfl)))
                  refine wpQuiet_nil ?_
                  exact rfl
                simp only [List.drop_succ_cons, List.drop_zero, Nat.reduceAdd]
                refine Reg.readO (.string x.name) (fun _ => Below.refl _ _) (by decide) (by kernel_rfl) (fun e w1 hR hp => ⟨by rfl, ?_⟩) ?_
                · have hq := (ddBox_at hp.2).q1
                  clear hR hp
                  unfold Reg.gives
                  go_simp
                simp only [Act.put, List.setIfInBounds_toArray, List.set_cons_zero, List.set_cons_succ, Nat.reduceAdd]
                refine Reg.segO 1 (by kernel_rfl) rfl (by kernel_rfl) ?_
                apply Exists.intro
                refine ⟨fun e => ?_, ?_⟩
                · simp only [List.take_succ_cons, List.take_zero]
                  repeat (go_big_quiet_step ((intro _; rfl)))
                  refine wpQuiet_nil ?_
                  exact rfl
                simp only [List.drop_succ_cons, List.drop_zero, Nat.reduceAdd]
                refine Reg.readO (.string x.to) (fun _ => Below.refl _ _) (by decide) (by kernel_rfl) (fun e w1 hR hp => ⟨by rfl, ?_⟩) ?_
                · have hq := (ddBox_at hp.2).q2
                  clear hR hp
                  unfold Reg.gives
                  go_simp
                simp only [Act.put, List.setIfInBounds_toArray, List.set_cons_zero, List.set_cons_succ, Nat.reduceAdd]
                refine Reg.segO 1 (by kernel_rfl) rfl (by kernel_rfl) ?_
                apply Exists.intro
                refine ⟨fun e => ?_, ?_⟩
                · simp only [List.take_succ_cons, List.take_zero]
                  repeat (go_big_quiet_step ((intro _; rfl)))
                  refine wpQuiet_nil ?_
                  exact rfl
                simp only [List.drop_succ_cons, List.drop_zero, Nat.reduceAdd]
                refine Reg.readO (.slice x.ba x.b.length x.bcap) (fun _ => Below.refl _ _) (by decide) (by kernel_rfl) (fun e w1 hR hp => ⟨by rfl, ?_⟩) ?_
                · have hq := (ddBox_at hp.2).q3
                  clear hR hp
                  unfold Reg.gives
                  go_simp
                simp only [Act.put, List.setIfInBounds_toArray, List.set_cons_zero, List.set_cons_succ, Nat.reduceAdd]
                refine Reg.segO 1 (by kernel_rfl) rfl (by kernel_rfl) ?_
                apply Exists.intro
                refine ⟨fun e => ?_, ?_⟩
                · simp only [List.take_succ_cons, List.take_zero]
                  repeat (go_big_quiet_step ((intro _; rfl)))
                  refine wpQuiet_nil ?_
                  exact rfl
                simp only [List.drop_succ_cons, List.drop_zero, Nat.reduceAdd]
                refine Reg.readO (.int .i64 x.n) (fun _ => Below.refl _ _) (by decide) (by kernel_rfl) (fun e w1 hR hp => ⟨by rfl, ?_⟩) ?_
                · have hq := (ddBox_at hp.2).q4
                  clear hR hp
                  unfold Reg.gives
                  go_simp
                simp only [Act.put, List.setIfInBounds_toArray, List.set_cons_zero, List.set_cons_succ, Nat.reduceAdd]
                refine Reg.callK (.int .i64 (c : Int)) (fun e w1 hR hp => ⟨by rfl, ?_⟩) ?_
                · have HK := Lib.hid hp.1
                  clear hR hp
                  unfold Reg.gives
                  go_simp
                  refine (refCut bx st st' v l (fsOf L) x.name x.to x.ba x.b.length x.bcap x.n w1 HK.out.rd HP3.out.like (HP3.out.both HJ.out).rwf HP3.out.perm HP3.out.rise).mono ?_
                  intro e6 w6 ha
                  rw [← HRE.out] at ha
                  obtain ⟨h1, h2, h3⟩ := HP3.out.done HK.out ha
                  subst h1
                  exact ⟨_, rfl, h2, h3, by rw [HCE.out]⟩
                simp only [Act.put, List.setIfInBounds_toArray, List.set_cons_zero, List.set_cons_succ, Nat.reduceAdd]
                refine Reg.segO 1 (by kernel_rfl) rfl (by kernel_rfl) ?_
                apply Exists.intro
                refine ⟨fun e => ?_, ?_⟩
                · simp only [List.take_succ_cons, List.take_zero]
                  repeat (go_big_quiet_step ((intro _; rfl)))
                  refine wpQuiet_nil ?_
                  exact rfl
                simp only [List.drop_succ_cons, List.drop_zero, Nat.reduceAdd]
                intro eX W6 hR hJ hf
                obtain ⟨st6, v6, l6, hd6⟩ := hJ.2 rfl
                have HP6 := Lib.hid hd6
                clear hR hJ hf hd6
                have dcc : (c != c) = false := by simp
                go_wp2_with fail
                refine (sameBoth (HP6.out.both HJ1.out)).mono ?_
                rintro e W7 ⟨rfl, hb7⟩
                have HP7 := Lib.hid (HP6.out.bel' hb7)
                clear hb7
                go_wp2_with fail
                go_roundw
                case rel => exact ⟨j + 1, _, _, _, _, _, _, by omega, by go_num, HP7⟩
                case measure => simp [intOf]; omega
            · as_aux_lemma =>
                obtain ⟨q0, q1, q2, q3, q4, q5, ql⟩ := ddBox_at HBX.out
                go_wp2_with fail
                refine (diskRename bm st D L x.name x.to _ HP3.out.d (HP3.out.both HJ.out).wf HXW.out.name HXW.out.to).mono ?_
                intro e W4 ha
                obtain ⟨D4, L4, hm, hb4⟩ := HP3.out.mid ha HBX.out HNO.out
                have hret := ha.ret
                have hcc := renS_c st (fsOf L) x.name x.to
                obtain ⟨r, hr⟩ : ∃ r, r = renS st (fsOf L) x.name x.to := ⟨_, rfl⟩
                rw [← hr] at hret hm hcc
                have HRE := Lib.hid hr
                obtain ⟨c, hc⟩ : ∃ c, c = r.1 := ⟨_, rfl⟩
                rw [← hc] at hret hcc
                have HCE := Lib.hid hc
                have HCC := Lib.hid hcc
                have HM := Lib.hid (And.intro hm hb4)
                clear ha hm hcc hr hc q0 q1 q2 q3 q4 q5
                subst hret
                obtain ⟨q0, q1, q2, q3, q4, q5, ql4⟩ := ddBox_at hb4
                clear hb4 ql
                go_wp2_with fail
                clear q0 q1 q2 q3 q4 q5 ql4
                refine Reg.wp_regionO w.heap.size 12 (fun W => Mid w bm bx r D4 L4 st' v l W ∧ W.heap[nb]? = some (ddBox x)) (fun W => ∃ st'' v' l', DP w bm bx r.2.1 D4 L4 st'' v' l' (j + 1) W) (by kernel_rfl) (by kernel_rfl) ⟨HM.out.1.bel' (Below.refl _ _).drew, HM.out.2⟩ ?_
                refine Reg.segO 1 (by kernel_rfl) rfl (by kernel_rfl) ?_
                apply Exists.intro
                refine ⟨fun e => ?_, ?_⟩
                · simp only [List.take_succ_cons, List.take_zero]
                  repeat (go_big_quiet_step ((intro _; rfl)))
                  refine wpQuiet_nil ?_
                  exact rfl
                simp only [List.drop_succ_cons, List.drop_zero, Nat.reduceAdd]
                refine Reg.stillO (.int .i64 (c : Int)) (fun _ => Below.refl _ _) (by decide) (fun e w1 hR => ⟨by rfl, ?_⟩) ?_
                · unfold Reg.gives
                  clear hR
                  go_simp
                  exact (lawCode c _ HCC.out).mono fun e2 w2 h2 => by obtain ⟨rfl, rfl⟩ := h2; exact ⟨rfl, rfl⟩
                simp only [Act.put, List.setIfInBounds_toArray, List.set_cons_zero, List.set_cons_succ, Nat.reduceAdd]
                refine Reg.segO 3 (by kernel_rfl) rfl (by kernel_rfl) ?_
                apply Exists.intro
                refine ⟨fun e => ?_, ?_⟩
                · simp only [List.take_succ_cons, List.take_zero]
                  repeat (go_big_quiet_step ((intro _; rfl)))
                  refine wpQuiet_nil ?_
                  exact rfl
                simp only [List.drop_succ_cons, List.drop_zero, Nat.reduceAdd]
                refine Reg.readO (.string x.name) (fun _ => Below.refl _ _) (by decide) (by kernel_rfl) (fun e w1 hR hp => ⟨by rfl, ?_⟩) ?_
                · have hq := (ddBox_at hp.2).q1
                  clear hR hp
                  unfold Reg.gives
                  go_simp
                simp only [Act.put, List.setIfInBounds_toArray, List.set_cons_zero, List.set_cons_succ, Nat.reduceAdd]
                refine Reg.segO 1 (by kernel_rfl) rfl (by kernel_rfl) ?_
                apply Exists.intro
                refine ⟨fun e => ?_, ?_⟩
                · simp only [List.take_succ_cons, List.take_zero]
                  repeat (go_big_quiet_step ((intro _; rfl)))
                  refine wpQuiet_nil ?_
                  exact rfl
                simp only [List.drop_succ_cons, List.drop_zero, Nat.reduceAdd]
                refine Reg.readO (.string x.to) (fun _ => Below.refl _ _) (by decide) (by kernel_rfl) (fun e w1 hR hp => ⟨by rfl, ?_⟩) ?_
                · have hq := (ddBox_at hp.2).q2
                  clear hR hp
                  unfold Reg.gives
                  go_simp
                simp only [Act.put, List.setIfInBounds_toArray, List.set_cons_zero, List.set_cons_succ, Nat.reduceAdd]
                refine Reg.segO 1 (by kernel_rfl) rfl (by kernel_rfl) ?_
                apply Exists.intro
                refine ⟨fun e => ?_, ?_⟩
                · simp only [List.take_succ_cons, List.take_zero]
                  repeat (go_big_quiet_step ((intro _; rfl)))
                  refine wpQuiet_nil ?_
                  exact rfl
                simp only [List.drop_succ_cons, List.drop_zero, Nat.reduceAdd]
                refine Reg.readO (.slice x.ba x.b.length x.bcap) (fun _ => Below.refl _ _) (by decide) (by kernel_rfl) (fun e w1 hR hp => ⟨by rfl, ?_⟩) ?_
                · have hq := (ddBox_at hp.2).q3
                  clear hR hp
                  unfold Reg.gives
                  go_simp
                simp only [Act.put, List.setIfInBounds_toArray, List.set_cons_zero, List.set_cons_succ, Nat.reduceAdd]
                refine Reg.segO 1 (by kernel_rfl) rfl (by kernel_rfl) ?_
                apply Exists.intro
                refine ⟨fun e => ?_, ?_⟩
                · simp only [List.take_succ_cons, List.take_zero]
                  repeat (go_big_quiet_step ((intro _; rfl)))
                  refine wpQuiet_nil ?_
                  exact rfl
                simp only [List.drop_succ_cons, List.drop_zero, Nat.reduceAdd]
                refine Reg.readO (.int .i64 x.n) (fun _ => Below.refl _ _) (by decide) (by kernel_rfl) (fun e w1 hR hp => ⟨by rfl, ?_⟩) ?_
                · have hq := (ddBox_at hp.2).q4
                  clear hR hp
                  unfold Reg.gives
                  go_simp
                simp only [Act.put, List.setIfInBounds_toArray, List.set_cons_zero, List.set_cons_succ, Nat.reduceAdd]
                refine Reg.callK (.int .i64 (c : Int)) (fun e w1 hR hp => ⟨by rfl, ?_⟩) ?_
                · have HK := Lib.hid hp.1
                  clear hR hp
                  unfold Reg.gives
                  go_simp
                  refine (refRename bx st st' v l (fsOf L) x.name x.to x.ba x.b.length x.bcap x.n w1 HK.out.rd HP3.out.like (HP3.out.both HJ.out).rwf HP3.out.perm HP3.out.rise HXW.out.to).mono ?_
                  intro e6 w6 ha
                  rw [← HRE.out] at ha
                  obtain ⟨h1, h2, h3⟩ := HP3.out.done HK.out ha
                  subst h1
                  exact ⟨_, rfl, h2, h3, by rw [HCE.out]⟩
                simp only [Act.put, List.setIfInBounds_toArray, List.set_cons_zero, List.set_cons_succ, Nat.reduceAdd]
                refine Reg.segO 1 (by kernel_rfl) rfl (by kernel_rfl) ?_
                apply Exists.intro
                refine ⟨fun e => ?_, ?_⟩
                · simp only [List.take_succ_cons, List.take_zero]
                  repeat (go_big_quiet_step ((intro _; rfl)))
                  refine wpQuiet_nil ?_
                  exact rfl
                simp only [List.drop_succ_cons, List.drop_zero, Nat.reduceAdd]
                intro eX W6 hR hJ hf
                obtain ⟨st6, v6, l6, hd6⟩ := hJ.2 rfl
                have HP6 := Lib.hid hd6
                clear hR hJ hf hd6
                have dcc : (c != c) = false := by simp
                go_wp2_with fail
                refine (sameBoth (HP6.out.both HJ1.out)).mono ?_
                rintro e W7 ⟨rfl, hb7⟩
                have HP7 := Lib.hid (HP6.out.bel' hb7)
                clear hb7
                go_wp2_with fail
                go_roundw
                case rel => exact ⟨j + 1, _, _, _, _, _, _, by omega, by go_num, HP7⟩
                case measure => simp [intOf]; omega
            · as_aux_lemma =>
                obtain ⟨q0, q1, q2, q3, q4, q5, ql⟩ := ddBox_at HBX.out
                go_wp2_with fail
                refine (diskDelete bm st D L x.name _ HP3.out.d (HP3.out.both HJ.out).wf HXW.out.name).mono ?_
                intro e W4 ha
                obtain ⟨D4, L4, hm, hb4⟩ := HP3.out.mid ha HBX.out HNO.out
                have hret := ha.ret
                have hcc := delS_c st (fsOf L) x.name
                obtain ⟨r, hr⟩ : ∃ r, r = delS st (fsOf L) x.name := ⟨_, rfl⟩
                rw [← hr] at hret hm hcc
                have HRE := Lib.hid hr
                obtain ⟨c, hc⟩ : ∃ c, c = r.1 := ⟨_, rfl⟩
                rw [← hc] at hret hcc
                have HCE := Lib.hid hc
                have HCC := Lib.hid hcc
                have HM := Lib.hid (And.intro hm hb4)
                clear ha hm hcc hr hc q0 q1 q2 q3 q4 q5
                subst hret
                obtain ⟨q0, q1, q2, q3, q4, q5, ql4⟩ := ddBox_at hb4
                clear hb4 ql
                go_wp2_with fail
                clear q0 q1 q2 q3 q4 q5 ql4
                refine Reg.wp_regionO w.heap.size 12 (fun W => Mid w bm bx r D4 L4 st' v l W ∧ W.heap[nb]? = some (ddBox x)) (fun W => ∃ st'' v' l', DP w bm bx r.2.1 D4 L4 st'' v' l' (j + 1) W) (by kernel_rfl) (by kernel_rfl) ⟨HM.out.1.bel' (Below.refl _ _).drew, HM.out.2⟩ ?_
                refine Reg.segO 1 (by kernel_rfl) rfl (by kernel_rfl) ?_
                apply Exists.intro
                refine ⟨fun e => ?_, ?_⟩
                · simp only [List.take_succ_cons, List.take_zero]
                  repeat (go_big_quiet_step ((intro _; rfl)))
                  refine wpQuiet_nil ?_
                  exact rfl
                simp only [List.drop_succ_cons, List.drop_zero, Nat.reduceAdd]
                refine Reg.stillO (.int .i64 (c : Int)) (fun _ => Below.refl _ _) (by decide) (fun e w1 hR => ⟨by rfl, ?_⟩) ?_
                · unfold Reg.gives
                  clear hR
                  go_simp
                  exact (lawCode c _ HCC.out).mono fun e2 w2 h2 => by obtain ⟨rfl, rfl⟩ := h2; exact ⟨rfl, rfl⟩
                simp only [Act.put, List.setIfInBounds_toArray, List.set_cons_zero, List.set_cons_succ, Nat.reduceAdd]
                refine Reg.segO 3 (by kernel_rfl) rfl (by kernel_rfl) ?_
                apply Exists.intro
                refine ⟨fun e => ?_, ?_⟩
                · simp only [List.take_succ_cons, List.take_zero]
                  repeat (go_big_quiet_step ((intro _; rfl)))
                  refine wpQuiet_nil ?_
                  exact rfl
                simp only [List.drop_succ_cons, List.drop_zero, Nat.reduceAdd]
                refine Reg.readO (.string x.name) (fun _ => Below.refl _ _) (by decide) (by kernel_rfl) (fun e w1 hR hp => ⟨by rfl, ?_⟩) ?_
                · have hq := (ddBox_at hp.2).q1
                  clear hR hp
                  unfold Reg.gives
                  go_simp
                simp only [Act.put, List.setIfInBounds_toArray, List.set_cons_zero, List.set_cons_succ, Nat.reduceAdd]
                refine Reg.segO 1 (by kernel_rfl) rfl (by kernel_rfl) ?_
                apply Exists.intro
                refine ⟨fun e => ?_, ?_⟩
                · simp only [List.take_succ_cons, List.take_zero]
                  repeat (go_big_quiet_step ((intro _; rfl)))
                  refine wpQuiet_nil ?_
                  exact rfl
                simp only [List.drop_succ_cons, List.drop_zero, Nat.reduceAdd]
                refine Reg.readO (.string x.to) (fun _ => Below.refl _ _) (by decide) (by kernel_rfl) (fun e w1 hR hp => ⟨by rfl, ?_⟩) ?_
                · have hq := (ddBox_at hp.2).q2
                  clear hR hp
                  unfold Reg.gives
                  go_simp
                simp only [Act.put, List.setIfInBounds_toArray, List.set_cons_zero, List.set_cons_succ, Nat.reduceAdd]
                refine Reg.segO 1 (by kernel_rfl) rfl (by kernel_rfl) ?_
                apply Exists.intro
                refine ⟨fun e => ?_, ?_⟩
                · simp only [List.take_succ_cons, List.take_zero]
                  repeat (go_big_quiet_step ((intro _; rfl)))
                  refine wpQuiet_nil ?_
                  exact rfl
                simp only [List.drop_succ_cons, List.drop_zero, Nat.reduceAdd]
                refine Reg.readO (.slice x.ba x.b.length x.bcap) (fun _ => Below.refl _ _) (by decide) (by kernel_rfl) (fun e w1 hR hp => ⟨by rfl, ?_⟩) ?_
                · have hq := (ddBox_at hp.2).q3
                  clear hR hp
                  unfold Reg.gives
                  go_simp
                simp only [Act.put, List.setIfInBounds_toArray, List.set_cons_zero, List.set_cons_succ, Nat.reduceAdd]
                refine Reg.segO 1 (by kernel_rfl) rfl (by kernel_rfl) ?_
                apply Exists.intro
                refine ⟨fun e => ?_, ?_⟩
                · simp only [List.take_succ_cons, List.take_zero]
                  repeat (go_big_quiet_step ((intro _; rfl)))
                  refine wpQuiet_nil ?_
                  exact rfl
                simp only [List.drop_succ_cons, List.drop_zero, Nat.reduceAdd]
                refine Reg.readO (.int .i64 x.n) (fun _ => Below.refl _ _) (by decide) (by kernel_rfl) (fun e w1 hR hp => ⟨by rfl, ?_⟩) ?_
                · have hq := (ddBox_at hp.2).q4
                  clear hR hp
                  unfold Reg.gives
                  go_simp
                simp only [Act.put, List.setIfInBounds_toArray, List.set_cons_zero, List.set_cons_succ, Nat.reduceAdd]
                refine Reg.callK (.int .i64 (c : Int)) (fun e w1 hR hp => ⟨by rfl, ?_⟩) ?_
                · have HK := Lib.hid hp.1
                  clear hR hp
                  unfold Reg.gives
                  go_simp
                  refine (refDelete bx st st' v l (fsOf L) x.name x.to x.ba x.b.length x.bcap x.n w1 HK.out.rd HP3.out.like (HP3.out.both HJ.out).rwf HP3.out.perm HP3.out.rise).mono ?_
                  intro e6 w6 ha
                  rw [← HRE.out] at ha
                  obtain ⟨h1, h2, h3⟩ := HP3.out.done HK.out ha
                  subst h1
                  exact ⟨_, rfl, h2, h3, by rw [HCE.out]⟩
                simp only [Act.put, List.setIfInBounds_toArray, List.set_cons_zero, List.set_cons_succ, Nat.reduceAdd]
                refine Reg.segO 1 (by kernel_rfl) rfl (by kernel_rfl) ?_
                apply Exists.intro
                refine ⟨fun e => ?_, ?_⟩
                · simp only [List.take_succ_cons, List.take_zero]
                  repeat (go_big_quiet_step ((intro _; rfl)))
                  refine wpQuiet_nil ?_
                  exact rfl
                simp only [List.drop_succ_cons, List.drop_zero, Nat.reduceAdd]
                intro eX W6 hR hJ hf
                obtain ⟨st6, v6, l6, hd6⟩ := hJ.2 rfl
                have HP6 := Lib.hid hd6
                clear hR hJ hf hd6
                have dcc : (c != c) = false := by simp
                go_wp2_with fail
                refine (sameBoth (HP6.out.both HJ1.out)).mono ?_
                rintro e W7 ⟨rfl, hb7⟩
                have HP7 := Lib.hid (HP6.out.bel' hb7)
                clear hb7
                go_wp2_with fail
                go_roundw
                case rel => exact ⟨j + 1, _, _, _, _, _, _, by omega, by go_num, HP7⟩
                case measure => simp [intOf]; omega
            · as_aux_lemma =>
                obtain ⟨q0, q1, q2, q3, q4, q5, ql⟩ := ddBox_at HBX.out
                go_wp2_with fail
                refine (diskPlan bm st D L x.n x.m _ HP3.out.d).mono ?_
                rintro e W4 ⟨rfl, h4, g4⟩
                have hm := HP3.out.mid0 (r := (0, { st with planned := true, left := x.n.toNat, keep := x.m.toNat }, fsOf L)) h4 g4 (List.Perm.refl _) HBX.out HNO.out
                have HM := Lib.hid hm.1
                have hb4 := hm.2
                clear h4 g4 hm q0 q1 q2 q3 q4 q5
                obtain ⟨q0, q1, q2, q3, q4, q5, ql4⟩ := ddBox_at hb4
                clear hb4 ql
                go_wp2_with fail
                refine (refPlan bx st' v l x.n x.m _ HM.out.rd).mono ?_
                intro e W5 ha
                have HP6 := Lib.hid (HP3.out.doneR HM.out ha (HP3.out.like.plan x.n x.m (i64_of_wf HXW.out.n).2 (i64_of_wf HXW.out.m).2) rfl rfl)
                obtain rfl := ha.ret
                clear ha q0 q1 q2 q3 q4 q5 ql4
                go_wp2_with fail
                refine (sameBoth (HP6.out.both HJ1.out)).mono ?_
                rintro e W7 ⟨rfl, hb7⟩
                have HP7 := Lib.hid (HP6.out.bel' hb7)
                clear hb7
                go_wp2_with fail
                go_roundw
                case rel => exact ⟨j + 1, _, _, _, _, _, _, by omega, by go_num, HP7⟩
                case measure => simp [intOf]; omega
            · as_aux_lemma =>
                obtain ⟨q0, q1, q2, q3, q4, q5, ql⟩ := ddBox_at HBX.out
                go_wp2_with fail
                refine (diskOpen bm st D L _ HP3.out.d).mono ?_
                rintro e W4 ⟨rfl, h4, g4⟩
                have hm := HP3.out.mid0 (r := (0, { st with planned := false, down := false }, fsOf L)) h4 g4 (List.Perm.refl _) HBX.out HNO.out
                have HM := Lib.hid hm.1
                have hb4 := hm.2
                clear h4 g4 hm q0 q1 q2 q3 q4 q5
                obtain ⟨q0, q1, q2, q3, q4, q5, ql4⟩ := ddBox_at hb4
                clear hb4 ql
                go_wp2_with fail
                refine (refOpen bx st' v l _ HM.out.rd).mono ?_
                intro e W5 ha
                have HP6 := Lib.hid (HP3.out.doneR HM.out ha HP3.out.like.open_ rfl rfl)
                obtain rfl := ha.ret
                clear ha q0 q1 q2 q3 q4 q5 ql4
                go_wp2_with fail
                refine (sameBoth (HP6.out.both HJ1.out)).mono ?_
                rintro e W7 ⟨rfl, hb7⟩
                have HP7 := Lib.hid (HP6.out.bel' hb7)
                clear hb7
                go_wp2_with fail
                go_roundw
                case rel => exact ⟨j + 1, _, _, _, _, _, _, by omega, by go_num, HP7⟩
                case measure => simp [intOf]; omega
            · obtain ⟨e0, e1, e2, e3, e4, e5, e6, e7⟩ : decide (p = 0) = false ∧ decide (p = 1) = false ∧ decide (p = 2) = false ∧ decide (p = 3) = false ∧ decide (p = 4) = false ∧ decide (p = 5) = false ∧ decide (p = 6) = false ∧ decide (p = 7) = false := by refine ⟨?_, ?_, ?_, ?_, ?_, ?_, ?_, ?_⟩ <;> simp <;> omega
              obtain ⟨f0, f1, f2, f3, f4, f5, f6, f7⟩ : (p == 0) = false ∧ (p == 1) = false ∧ (p == 2) = false ∧ (p == 3) = false ∧ (p == 4) = false ∧ (p == 5) = false ∧ (p == 6) = false ∧ (p == 7) = false := by refine ⟨?_, ?_, ?_, ?_, ?_, ?_, ?_, ?_⟩ <;> simp <;> omega
              have e8 : decide (p < 6) = false := by simp; omega
              clear hp
              cases hdn : st.down with
              | true =>
                have HDN := Lib.hid hdn
                clear hdn
                as_aux_lemma =>
                  obtain ⟨q0, q1, q2, q3, q4, q5, ql⟩ := ddBox_at HBX.out
                  go_wp2_with fail
                  refine (readDown bm st D L x.name x.n x.m _ HP3.out.d HDN.out).mono ?_
                  rintro e W4 ⟨rfl, rfl⟩
                  have HP4 := HP3
                  have HB4 := HBX
                  go_wp2_with fail
                  refine (refFind bx st' _ l x.name _ HP4.out.r (by have := (HP4.out.both HJ.out).len; omega)).mono ?_
                  rintro e W5 ⟨rfl, hb5⟩
                  have HP5 := Lib.hid (HP4.out.bel' hb5)
                  have hbb := (hb5.block nb (Array.getElem?_eq_some_iff.1 HB4.out).1).trans HB4.out
                  clear hb5 q0 q1 q2 q3 q4 q5 ql
                  obtain ⟨q0, q1, q2, q3, q4, q5, ql⟩ := ddBox_at hbb
                  have c6 := HP5.out.r.cells.c6
                  rw [HP5.out.like.down, HDN.out] at c6
                  go_wp2_with fail
                  refine (lawCode 15 _ (by omega)).mono ?_
                  rintro e w8 ⟨rfl, rfl⟩
                  go_wp2_with fail
                  have HP5' := HP5
                  refine Reg.wp_region0 (by kernel_rfl) (by kernel_rfl) ?_
                  refine Reg.seg0 4 (by kernel_rfl) rfl ?_
                  apply Exists.intro
                  refine ⟨fun e => ?_, ?_⟩
                  · simp only [List.take_succ_cons, List.take_zero]
                    repeat (go_big_quiet_step ((intro _; rfl)))
                    refine wpQuiet_nil ?_
                    exact rfl
                  simp only [List.drop_succ_cons, List.drop_zero, Nat.reduceAdd]
                  refine Reg.skip0 (fun e => by rfl) ?_
                  simp only [Act.put, List.setIfInBounds_toArray, List.set_cons_zero, List.set_cons_succ, Nat.reduceAdd]
                  refine Reg.seg0 1 (by kernel_rfl) rfl ?_
                  apply Exists.intro
                  refine ⟨fun e => ?_, ?_⟩
                  · simp only [List.take_succ_cons, List.take_zero]
                    repeat (go_big_quiet_step ((intro _; rfl)))
                    refine wpQuiet_nil ?_
                    exact rfl
                  simp only [List.drop_succ_cons, List.drop_zero, Nat.reduceAdd]
                  refine Reg.skip0 (fun e => by rfl) ?_
                  simp only [Act.put, List.setIfInBounds_toArray, List.set_cons_zero, List.set_cons_succ, Nat.reduceAdd]
                  refine Reg.seg0 13 (by kernel_rfl) rfl ?_
                  apply Exists.intro
                  refine ⟨fun e => ?_, ?_⟩
                  · simp only [List.take_succ_cons, List.take_zero]
                    repeat (go_big_quiet_step ((intro _; rfl)))
                    refine wpQuiet_nil ?_
                    exact rfl
                  simp only [List.drop_succ_cons, List.drop_zero, Nat.reduceAdd]
                  refine Reg.skip0 (fun e => by rfl) ?_
                  simp only [Act.put, List.setIfInBounds_toArray, List.set_cons_zero, List.set_cons_succ, Nat.reduceAdd]
                  refine Reg.skip0 (fun e => by rfl) ?_
                  simp only [Act.put, List.setIfInBounds_toArray, List.set_cons_zero, List.set_cons_succ, Nat.reduceAdd]
                  refine Reg.seg0 2 (by kernel_rfl) rfl ?_
                  apply Exists.intro
                  refine ⟨fun e => ?_, ?_⟩
                  · simp only [List.take_succ_cons, List.take_zero]
                    repeat (go_big_quiet_step ((intro _; rfl)))
                    refine wpQuiet_nil ?_
                    exact rfl
                  simp only [List.drop_succ_cons, List.drop_zero, Nat.reduceAdd]
                  intro eY W7 hR hJ hf
                  have HP6 := Lib.hid ((HP5'.out.bel' ((Below.refl w8.heap.size w8).drew.trans hR)).more)
                  clear hR hJ hf
                  clear q0 q1 q2 q3 q4 q5 ql c6
                  go_wp2_with fail
                  refine (sameBoth (HP6.out.both HJ1.out)).mono ?_
                  rintro e W7 ⟨rfl, hb7⟩
                  have HP7 := Lib.hid (HP6.out.bel' hb7)
                  clear hb7
                  go_wp2_with fail
                  go_roundw
                  case rel => exact ⟨j + 1, _, _, _, _, _, _, by omega, by go_num, HP7⟩
                  case measure => simp [intOf]; omega
              | false =>
                have HDN := Lib.hid hdn
                clear hdn
                cases his : rfIs l x.name with
                | false =>
                  have HIS := Lib.hid his
                  have HNONE := Lib.hid (sameNone (HP3.out.both HJ.out) his)
                  clear his
                  as_aux_lemma =>
                    obtain ⟨q0, q1, q2, q3, q4, q5, ql⟩ := ddBox_at HBX.out
                    go_wp2_with fail
                    refine (readNo bm st D L x.name x.n x.m _ HP3.out.d HDN.out HNONE.out HXW.out.name).mono ?_
                    rintro e W4 ⟨rfl, rfl⟩
                    have HP4 := HP3
                    have HB4 := HBX
                    go_wp2_with fail
                    refine (refFind bx st' _ l x.name _ HP4.out.r (by have := (HP4.out.both HJ.out).len; omega)).mono ?_
                    rintro e W5 ⟨rfl, hb5⟩
                    have HP5 := Lib.hid (HP4.out.bel' hb5)
                    have hbb := (hb5.block nb (Array.getElem?_eq_some_iff.1 HB4.out).1).trans HB4.out
                    clear hb5 q0 q1 q2 q3 q4 q5 ql
                    obtain ⟨q0, q1, q2, q3, q4, q5, ql⟩ := ddBox_at hbb
                    have c6 := HP5.out.r.cells.c6
                    rw [HP5.out.like.down, HDN.out] at c6
                    rw [HIS.out]
                    go_wp2_with fail
                    refine (lawCode 5 _ (by omega)).mono ?_
                    rintro e w8 ⟨rfl, rfl⟩
                    go_wp2_with fail
                    have HP5' := HP5
                    refine Reg.wp_region0 (by kernel_rfl) (by kernel_rfl) ?_
                    refine Reg.seg0 4 (by kernel_rfl) rfl ?_
                    apply Exists.intro
                    refine ⟨fun e => ?_, ?_⟩
                    · simp only [List.take_succ_cons, List.take_zero]
                      repeat (go_big_quiet_step ((intro _; rfl)))
                      refine wpQuiet_nil ?_
                      exact rfl
                    simp only [List.drop_succ_cons, List.drop_zero, Nat.reduceAdd]
                    refine Reg.skip0 (fun e => by rfl) ?_
                    simp only [Act.put, List.setIfInBounds_toArray, List.set_cons_zero, List.set_cons_succ, Nat.reduceAdd]
                    refine Reg.seg0 1 (by kernel_rfl) rfl ?_
                    apply Exists.intro
                    refine ⟨fun e => ?_, ?_⟩
                    · simp only [List.take_succ_cons, List.take_zero]
                      repeat (go_big_quiet_step ((intro _; rfl)))
                      refine wpQuiet_nil ?_
                      exact rfl
                    simp only [List.drop_succ_cons, List.drop_zero, Nat.reduceAdd]
                    refine Reg.skip0 (fun e => by rfl) ?_
                    simp only [Act.put, List.setIfInBounds_toArray, List.set_cons_zero, List.set_cons_succ, Nat.reduceAdd]
                    refine Reg.seg0 13 (by kernel_rfl) rfl ?_
                    apply Exists.intro
                    refine ⟨fun e => ?_, ?_⟩
                    · simp only [List.take_succ_cons, List.take_zero]
                      repeat (go_big_quiet_step ((intro _; rfl)))
                      refine wpQuiet_nil ?_
                      exact rfl
                    simp only [List.drop_succ_cons, List.drop_zero, Nat.reduceAdd]
                    refine Reg.skip0 (fun e => by rfl) ?_
                    simp only [Act.put, List.setIfInBounds_toArray, List.set_cons_zero, List.set_cons_succ, Nat.reduceAdd]
                    refine Reg.skip0 (fun e => by rfl) ?_
                    simp only [Act.put, List.setIfInBounds_toArray, List.set_cons_zero, List.set_cons_succ, Nat.reduceAdd]
                    refine Reg.seg0 2 (by kernel_rfl) rfl ?_
                    apply Exists.intro
                    refine ⟨fun e => ?_, ?_⟩
                    · simp only [List.take_succ_cons, List.take_zero]
                      repeat (go_big_quiet_step ((intro _; rfl)))
                      refine wpQuiet_nil ?_
                      exact rfl
                    simp only [List.drop_succ_cons, List.drop_zero, Nat.reduceAdd]
                    intro eY W7 hR hJ hf
                    have HP6 := Lib.hid ((HP5'.out.bel' ((Below.refl w8.heap.size w8).drew.trans hR)).more)
                    clear hR hJ hf
                    clear q0 q1 q2 q3 q4 q5 ql c6
                    go_wp2_with fail
                    refine (sameBoth (HP6.out.both HJ1.out)).mono ?_
                    rintro e W7 ⟨rfl, hb7⟩
                    have HP7 := Lib.hid (HP6.out.bel' hb7)
                    clear hb7
                    go_wp2_with fail
                    go_roundw
                    case rel => exact ⟨j + 1, _, _, _, _, _, _, by omega, by go_num, HP7⟩
                    case measure => simp [intOf]; omega
                | true =>
                  have HIS := Lib.hid his
                  obtain ⟨hlt2, hqn⟩ := rfIs_yes his
                  obtain ⟨k, hk⟩ : ∃ k, k = rfAt l x.name := ⟨_, rfl⟩
                  have HKE := Lib.hid hk
                  have hkl : k < l.length := by rw [hk]; exact hlt2
                  have HKL := Lib.hid hkl
                  have bk0 : (0 : Int) ≤ (k : Int) := by omega
                  have bkl : (k : Int) < (l.length : Int) := by omega
                  obtain ⟨q, hq⟩ : ∃ q, q = l[k]'HKL.out := ⟨_, rfl⟩
                  have HQ := Lib.hid hq
                  have HQM := Lib.hid (show q ∈ l by rw [hq]; exact List.getElem_mem _)
                  have HQN := Lib.hid (show q.name = x.name by rw [hq]; subst hk; exact hqn)
                  have bql : (q.b.length : Int) ≤ 1000000 := by have h1 := used_mem HQM.out; have h2 := (HP3.out.both HJ.out).used; omega
                  obtain ⟨gr, capr, rfl⟩ := rd_get HP3.out.r hkl
                  clear his hqn hlt2 hq hk hkl
                  by_cases hA : x.n < 0
                  · have dA : decide (x.n < 0) = true := by simp; omega
                    have HBAD := Lib.hid (show readBad q.b x.n x.m from .inl hA)
                    clear hA
                    as_aux_lemma =>
                      obtain ⟨q0, q1, q2, q3, q4, q5, ql⟩ := ddBox_at HBX.out
                      go_wp2_with fail
                      refine (sameBad (HP3.out.both HJ.out) HDN.out HQM.out HBAD.out HQN.out).mono ?_
                      rintro e W4 ⟨rfl, rfl⟩
                      have HP4 := HP3
                      have HB4 := HBX
                      go_wp2_with fail
                      refine (refFind bx st' _ l x.name _ HP4.out.r (by have := (HP4.out.both HJ.out).len; omega)).mono ?_
                      rintro e W5 ⟨rfl, hb5⟩
                      have HP5 := Lib.hid (HP4.out.bel' hb5)
                      have hbb := (hb5.block nb (Array.getElem?_eq_some_iff.1 HB4.out).1).trans HB4.out
                      clear hb5 q0 q1 q2 q3 q4 q5 ql
                      obtain ⟨q0, q1, q2, q3, q4, q5, ql⟩ := ddBox_at hbb
                      have c6 := HP5.out.r.cells.c6
                      rw [HP5.out.like.down, HDN.out] at c6
                      rw [HIS.out]
                      rw [← HKE.out]
                      have c1 := HP5.out.r.cells.c1
                      have r1 := HP5.out.r.own.at_ (C := rfCells) (sz := 3) (fun _ => rfl) k HKL.out 1 (by omega)
                      rw [← HQ.out] at r1
                      simp only [rfCells, List.getElem?_cons_zero, List.getElem?_cons_succ] at r1
                      have HLT := Lib.hid (And.intro (rown_lt HP5.out.r (.inl rfl)) (rown_lt HP5.out.r (.inr (.inl rfl))))
                      go_wp2_with fail
                      refine Reg.wp_region0 (by kernel_rfl) (by kernel_rfl) ?_
                      refine Reg.seg0 1 (by kernel_rfl) rfl ?_
                      apply Exists.intro
                      refine ⟨fun e => ?_, ?_⟩
                      · simp only [List.take_succ_cons, List.take_zero]
                        repeat (go_big_quiet_step ((intro _; rfl)))
                        refine wpQuiet_nil ?_
                        exact rfl
                      simp only [List.drop_succ_cons, List.drop_zero, Nat.reduceAdd]
                      refine Reg.const0 (.int .i64 x.n) (fun e w1 hR hf => ⟨by rfl, ?_⟩) ?_
                      · have c1' := (Below.cell hR (p := ⟨nb, 4, none⟩) ql).trans q4
                        unfold Reg.gives
                        clear hf
                        go_simp
                        exact Reg.bel_refl _
                      simp only [Act.put, List.setIfInBounds_toArray, List.set_cons_zero, List.set_cons_succ, Nat.reduceAdd]
                      refine Reg.seg0 10 (by kernel_rfl) rfl ?_
                      apply Exists.intro
                      refine ⟨fun e => ?_, ?_⟩
                      · simp only [List.take_succ_cons, List.take_zero]
                        repeat (go_big_quiet_step ((intro _; rfl)))
                        refine wpQuiet_nil ?_
                        exact rfl
                      simp only [List.drop_succ_cons, List.drop_zero, Nat.reduceAdd]
                      refine Reg.skip0 (fun e => by rfl) ?_
                      simp only [Act.put, List.setIfInBounds_toArray, List.set_cons_zero, List.set_cons_succ, Nat.reduceAdd]
                      refine Reg.seg0 13 (by kernel_rfl) rfl ?_
                      apply Exists.intro
                      refine ⟨fun e => ?_, ?_⟩
                      · simp only [List.take_succ_cons, List.take_zero]
                        repeat (go_big_quiet_step ((intro _; rfl)))
                        refine wpQuiet_nil ?_
                        exact rfl
                      simp only [List.drop_succ_cons, List.drop_zero, Nat.reduceAdd]
                      refine Reg.skip0 (fun e => by rfl) ?_
                      simp only [Act.put, List.setIfInBounds_toArray, List.set_cons_zero, List.set_cons_succ, Nat.reduceAdd]
                      refine Reg.seg0 12 (by kernel_rfl) rfl ?_
                      apply Exists.intro
                      refine ⟨fun e => ?_, ?_⟩
                      · simp only [List.take_succ_cons, List.take_zero]
                        repeat (go_big_quiet_step ((intro _; rfl)))
                        refine wpQuiet_nil ?_
                        exact rfl
                      simp only [List.drop_succ_cons, List.drop_zero, Nat.reduceAdd]
                      intro eX W6 hR hJ hf
                      have HB6 := Lib.hid ((Below.refl W5.heap.size W5).drew.trans hR)
                      have HP5' := Lib.hid (HP5.out.bel' HB6.out)
                      clear hR hJ hf
                      clear c1 r1
                      go_wp2_with fail
                      refine (lawCode 1 _ (by omega)).mono ?_
                      rintro e w8 ⟨rfl, rfl⟩
                      go_wp2_with fail
                      refine Reg.wp_region0 (by kernel_rfl) (by kernel_rfl) ?_
                      refine Reg.seg0 4 (by kernel_rfl) rfl ?_
                      apply Exists.intro
                      refine ⟨fun e => ?_, ?_⟩
                      · simp only [List.take_succ_cons, List.take_zero]
                        repeat (go_big_quiet_step ((intro _; rfl)))
                        refine wpQuiet_nil ?_
                        exact rfl
                      simp only [List.drop_succ_cons, List.drop_zero, Nat.reduceAdd]
                      refine Reg.skip0 (fun e => by rfl) ?_
                      simp only [Act.put, List.setIfInBounds_toArray, List.set_cons_zero, List.set_cons_succ, Nat.reduceAdd]
                      refine Reg.seg0 1 (by kernel_rfl) rfl ?_
                      apply Exists.intro
                      refine ⟨fun e => ?_, ?_⟩
                      · simp only [List.take_succ_cons, List.take_zero]
                        repeat (go_big_quiet_step ((intro _; rfl)))
                        refine wpQuiet_nil ?_
                        exact rfl
                      simp only [List.drop_succ_cons, List.drop_zero, Nat.reduceAdd]
                      refine Reg.skip0 (fun e => by rfl) ?_
                      simp only [Act.put, List.setIfInBounds_toArray, List.set_cons_zero, List.set_cons_succ, Nat.reduceAdd]
                      refine Reg.seg0 13 (by kernel_rfl) rfl ?_
                      apply Exists.intro
                      refine ⟨fun e => ?_, ?_⟩
                      · simp only [List.take_succ_cons, List.take_zero]
                        repeat (go_big_quiet_step ((intro _; rfl)))
                        refine wpQuiet_nil ?_
                        exact rfl
                      simp only [List.drop_succ_cons, List.drop_zero, Nat.reduceAdd]
                      refine Reg.skip0 (fun e => by rfl) ?_
                      simp only [Act.put, List.setIfInBounds_toArray, List.set_cons_zero, List.set_cons_succ, Nat.reduceAdd]
                      refine Reg.skip0 (fun e => by rfl) ?_
                      simp only [Act.put, List.setIfInBounds_toArray, List.set_cons_zero, List.set_cons_succ, Nat.reduceAdd]
                      refine Reg.seg0 2 (by kernel_rfl) rfl ?_
                      apply Exists.intro
                      refine ⟨fun e => ?_, ?_⟩
                      · simp only [List.take_succ_cons, List.take_zero]
                        repeat (go_big_quiet_step ((intro _; rfl)))
                        refine wpQuiet_nil ?_
                        exact rfl
                      simp only [List.drop_succ_cons, List.drop_zero, Nat.reduceAdd]
                      intro eY W7 hR hJ hf
                      have HP6 := Lib.hid ((HP5'.out.bel' ((Below.refl w8.heap.size w8).drew.trans hR)).more)
                      clear hR hJ hf
                      clear q0 q1 q2 q3 q4 q5 ql c6
                      go_wp2_with fail
                      refine (sameBoth (HP6.out.both HJ1.out)).mono ?_
                      rintro e W7 ⟨rfl, hb7⟩
                      have HP7 := Lib.hid (HP6.out.bel' hb7)
                      clear hb7
                      go_wp2_with fail
                      go_roundw
                      case rel => exact ⟨j + 1, _, _, _, _, _, _, by omega, by go_num, HP7⟩
                      case measure => simp [intOf]; omega
                  · by_cases hB : x.m < 0
                    · have dA : decide (x.n < 0) = false := by simp; omega
                      have dB : decide (x.m < 0) = true := by simp; omega
                      have HBAD := Lib.hid (show readBad q.b x.n x.m from .inr (.inl hB))
                      clear hA hB
                      as_aux_lemma =>
                        obtain ⟨q0, q1, q2, q3, q4, q5, ql⟩ := ddBox_at HBX.out
                        go_wp2_with fail
                        refine (sameBad (HP3.out.both HJ.out) HDN.out HQM.out HBAD.out HQN.out).mono ?_
                        rintro e W4 ⟨rfl, rfl⟩
                        have HP4 := HP3
                        have HB4 := HBX
                        go_wp2_with fail
                        refine (refFind bx st' _ l x.name _ HP4.out.r (by have := (HP4.out.both HJ.out).len; omega)).mono ?_
                        rintro e W5 ⟨rfl, hb5⟩
                        have HP5 := Lib.hid (HP4.out.bel' hb5)
                        have hbb := (hb5.block nb (Array.getElem?_eq_some_iff.1 HB4.out).1).trans HB4.out
                        clear hb5 q0 q1 q2 q3 q4 q5 ql
                        obtain ⟨q0, q1, q2, q3, q4, q5, ql⟩ := ddBox_at hbb
                        have c6 := HP5.out.r.cells.c6
                        rw [HP5.out.like.down, HDN.out] at c6
                        rw [HIS.out]
                        rw [← HKE.out]
                        have c1 := HP5.out.r.cells.c1
                        have r1 := HP5.out.r.own.at_ (C := rfCells) (sz := 3) (fun _ => rfl) k HKL.out 1 (by omega)
                        rw [← HQ.out] at r1
                        simp only [rfCells, List.getElem?_cons_zero, List.getElem?_cons_succ] at r1
                        have HLT := Lib.hid (And.intro (rown_lt HP5.out.r (.inl rfl)) (rown_lt HP5.out.r (.inr (.inl rfl))))
                        go_wp2_with fail
                        refine Reg.wp_region0 (by kernel_rfl) (by kernel_rfl) ?_
                        refine Reg.seg0 1 (by kernel_rfl) rfl ?_
                        apply Exists.intro
                        refine ⟨fun e => ?_, ?_⟩
                        · simp only [List.take_succ_cons, List.take_zero]
                          repeat (go_big_quiet_step ((intro _; rfl)))
                          refine wpQuiet_nil ?_
                          exact rfl
                        simp only [List.drop_succ_cons, List.drop_zero, Nat.reduceAdd]
                        refine Reg.const0 (.int .i64 x.n) (fun e w1 hR hf => ⟨by rfl, ?_⟩) ?_
                        · have c1' := (Below.cell hR (p := ⟨nb, 4, none⟩) ql).trans q4
                          unfold Reg.gives
                          clear hf
                          go_simp
                          exact Reg.bel_refl _
                        simp only [Act.put, List.setIfInBounds_toArray, List.set_cons_zero, List.set_cons_succ, Nat.reduceAdd]
                        refine Reg.seg0 3 (by kernel_rfl) rfl ?_
                        apply Exists.intro
                        refine ⟨fun e => ?_, ?_⟩
                        · simp only [List.take_succ_cons, List.take_zero]
                          repeat (go_big_quiet_step ((intro _; rfl)))
                          refine wpQuiet_nil ?_
                          exact rfl
                        simp only [List.drop_succ_cons, List.drop_zero, Nat.reduceAdd]
                        refine Reg.const0 (.int .i64 x.m) (fun e w1 hR hf => ⟨by rfl, ?_⟩) ?_
                        · have c1' := (Below.cell hR (p := ⟨nb, 5, none⟩) ql).trans q5
                          unfold Reg.gives
                          clear hf
                          go_simp
                          exact Reg.bel_refl _
                        simp only [Act.put, List.setIfInBounds_toArray, List.set_cons_zero, List.set_cons_succ, Nat.reduceAdd]
                        refine Reg.seg0 6 (by kernel_rfl) rfl ?_
                        apply Exists.intro
                        refine ⟨fun e => ?_, ?_⟩
                        · simp only [List.take_succ_cons, List.take_zero]
                          repeat (go_big_quiet_step ((intro _; rfl)))
                          refine wpQuiet_nil ?_
                          exact rfl
                        simp only [List.drop_succ_cons, List.drop_zero, Nat.reduceAdd]
                        refine Reg.skip0 (fun e => by rfl) ?_
                        simp only [Act.put, List.setIfInBounds_toArray, List.set_cons_zero, List.set_cons_succ, Nat.reduceAdd]
                        refine Reg.seg0 13 (by kernel_rfl) rfl ?_
                        apply Exists.intro
                        refine ⟨fun e => ?_, ?_⟩
                        · simp only [List.take_succ_cons, List.take_zero]
                          repeat (go_big_quiet_step ((intro _; rfl)))
                          refine wpQuiet_nil ?_
                          exact rfl
                        simp only [List.drop_succ_cons, List.drop_zero, Nat.reduceAdd]
                        refine Reg.skip0 (fun e => by rfl) ?_
                        simp only [Act.put, List.setIfInBounds_toArray, List.set_cons_zero, List.set_cons_succ, Nat.reduceAdd]
                        refine Reg.seg0 12 (by kernel_rfl) rfl ?_
                        apply Exists.intro
                        refine ⟨fun e => ?_, ?_⟩
                        · simp only [List.take_succ_cons, List.take_zero]
                          repeat (go_big_quiet_step ((intro _; rfl)))
                          refine wpQuiet_nil ?_
                          exact rfl
                        simp only [List.drop_succ_cons, List.drop_zero, Nat.reduceAdd]
                        intro eX W6 hR hJ hf
                        have HB6 := Lib.hid ((Below.refl W5.heap.size W5).drew.trans hR)
                        have HP5' := Lib.hid (HP5.out.bel' HB6.out)
                        clear hR hJ hf
                        clear c1 r1
                        go_wp2_with fail
                        refine (lawCode 1 _ (by omega)).mono ?_
                        rintro e w8 ⟨rfl, rfl⟩
                        go_wp2_with fail
                        refine Reg.wp_region0 (by kernel_rfl) (by kernel_rfl) ?_
                        refine Reg.seg0 4 (by kernel_rfl) rfl ?_
                        apply Exists.intro
                        refine ⟨fun e => ?_, ?_⟩
                        · simp only [List.take_succ_cons, List.take_zero]
                          repeat (go_big_quiet_step ((intro _; rfl)))
                          refine wpQuiet_nil ?_
                          exact rfl
                        simp only [List.drop_succ_cons, List.drop_zero, Nat.reduceAdd]
                        refine Reg.skip0 (fun e => by rfl) ?_
                        simp only [Act.put, List.setIfInBounds_toArray, List.set_cons_zero, List.set_cons_succ, Nat.reduceAdd]
                        refine Reg.seg0 1 (by kernel_rfl) rfl ?_
                        apply Exists.intro
                        refine ⟨fun e => ?_, ?_⟩
                        · simp only [List.take_succ_cons, List.take_zero]
                          repeat (go_big_quiet_step ((intro _; rfl)))
                          refine wpQuiet_nil ?_
                          exact rfl
                        simp only [List.drop_succ_cons, List.drop_zero, Nat.reduceAdd]
                        refine Reg.skip0 (fun e => by rfl) ?_
                        simp only [Act.put, List.setIfInBounds_toArray, List.set_cons_zero, List.set_cons_succ, Nat.reduceAdd]
                        refine Reg.seg0 13 (by kernel_rfl) rfl ?_
                        apply Exists.intro
                        refine ⟨fun e => ?_, ?_⟩
                        · simp only [List.take_succ_cons, List.take_zero]
                          repeat (go_big_quiet_step ((intro _; rfl)))
                          refine wpQuiet_nil ?_
                          exact rfl
                        simp only [List.drop_succ_cons, List.drop_zero, Nat.reduceAdd]
                        refine Reg.skip0 (fun e => by rfl) ?_
                        simp only [Act.put, List.setIfInBounds_toArray, List.set_cons_zero, List.set_cons_succ, Nat.reduceAdd]
                        refine Reg.skip0 (fun e => by rfl) ?_
                        simp only [Act.put, List.setIfInBounds_toArray, List.set_cons_zero, List.set_cons_succ, Nat.reduceAdd]
                        refine Reg.seg0 2 (by kernel_rfl) rfl ?_
                        apply Exists.intro
                        refine ⟨fun e => ?_, ?_⟩
                        · simp only [List.take_succ_cons, List.take_zero]
                          repeat (go_big_quiet_step ((intro _; rfl)))
                          refine wpQuiet_nil ?_
                          exact rfl
                        simp only [List.drop_succ_cons, List.drop_zero, Nat.reduceAdd]
                        intro eY W7 hR hJ hf
                        have HP6 := Lib.hid ((HP5'.out.bel' ((Below.refl w8.heap.size w8).drew.trans hR)).more)
                        clear hR hJ hf
                        clear q0 q1 q2 q3 q4 q5 ql c6
                        go_wp2_with fail
                        refine (sameBoth (HP6.out.both HJ1.out)).mono ?_
                        rintro e W7 ⟨rfl, hb7⟩
                        have HP7 := Lib.hid (HP6.out.bel' hb7)
                        clear hb7
                        go_wp2_with fail
                        go_roundw
                        case rel => exact ⟨j + 1, _, _, _, _, _, _, by omega, by go_num, HP7⟩
                        case measure => simp [intOf]; omega
                    · by_cases hC : (q.b.length : Int) < x.n
                      · have dA : decide (x.n < 0) = false := by simp; omega
                        have dB : decide (x.m < 0) = false := by simp; omega
                        have dC : decide ((q.b.length : Int) < x.n) = true := by simp; omega
                        have HBAD := Lib.hid (show readBad q.b x.n x.m from .inr (.inr (.inl hC)))
                        clear hA hB hC
                        as_aux_lemma =>
                          obtain ⟨q0, q1, q2, q3, q4, q5, ql⟩ := ddBox_at HBX.out
                          go_wp2_with fail
                          refine (sameBad (HP3.out.both HJ.out) HDN.out HQM.out HBAD.out HQN.out).mono ?_
                          rintro e W4 ⟨rfl, rfl⟩
                          have HP4 := HP3
                          have HB4 := HBX
                          go_wp2_with fail
                          refine (refFind bx st' _ l x.name _ HP4.out.r (by have := (HP4.out.both HJ.out).len; omega)).mono ?_
                          rintro e W5 ⟨rfl, hb5⟩
                          have HP5 := Lib.hid (HP4.out.bel' hb5)
                          have hbb := (hb5.block nb (Array.getElem?_eq_some_iff.1 HB4.out).1).trans HB4.out
                          clear hb5 q0 q1 q2 q3 q4 q5 ql
                          obtain ⟨q0, q1, q2, q3, q4, q5, ql⟩ := ddBox_at hbb
                          have c6 := HP5.out.r.cells.c6
                          rw [HP5.out.like.down, HDN.out] at c6
                          rw [HIS.out]
                          rw [← HKE.out]
                          have c1 := HP5.out.r.cells.c1
                          have r1 := HP5.out.r.own.at_ (C := rfCells) (sz := 3) (fun _ => rfl) k HKL.out 1 (by omega)
                          rw [← HQ.out] at r1
                          simp only [rfCells, List.getElem?_cons_zero, List.getElem?_cons_succ] at r1
                          have HLT := Lib.hid (And.intro (rown_lt HP5.out.r (.inl rfl)) (rown_lt HP5.out.r (.inr (.inl rfl))))
                          go_wp2_with fail
                          refine Reg.wp_region0 (by kernel_rfl) (by kernel_rfl) ?_
                          refine Reg.seg0 1 (by kernel_rfl) rfl ?_
                          apply Exists.intro
                          refine ⟨fun e => ?_, ?_⟩
                          · simp only [List.take_succ_cons, List.take_zero]
                            repeat (go_big_quiet_step ((intro _; rfl)))
                            refine wpQuiet_nil ?_
                            exact rfl
                          simp only [List.drop_succ_cons, List.drop_zero, Nat.reduceAdd]
                          refine Reg.const0 (.int .i64 x.n) (fun e w1 hR hf => ⟨by rfl, ?_⟩) ?_
                          · have c1' := (Below.cell hR (p := ⟨nb, 4, none⟩) ql).trans q4
                            unfold Reg.gives
                            clear hf
                            go_simp
                            exact Reg.bel_refl _
                          simp only [Act.put, List.setIfInBounds_toArray, List.set_cons_zero, List.set_cons_succ, Nat.reduceAdd]
                          refine Reg.seg0 3 (by kernel_rfl) rfl ?_
                          apply Exists.intro
                          refine ⟨fun e => ?_, ?_⟩
                          · simp only [List.take_succ_cons, List.take_zero]
                            repeat (go_big_quiet_step ((intro _; rfl)))
                            refine wpQuiet_nil ?_
                            exact rfl
                          simp only [List.drop_succ_cons, List.drop_zero, Nat.reduceAdd]
                          refine Reg.const0 (.int .i64 x.m) (fun e w1 hR hf => ⟨by rfl, ?_⟩) ?_
                          · have c1' := (Below.cell hR (p := ⟨nb, 5, none⟩) ql).trans q5
                            unfold Reg.gives
                            clear hf
                            go_simp
                            exact Reg.bel_refl _
                          simp only [Act.put, List.setIfInBounds_toArray, List.set_cons_zero, List.set_cons_succ, Nat.reduceAdd]
                          refine Reg.seg0 4 (by kernel_rfl) rfl ?_
                          apply Exists.intro
                          refine ⟨fun e => ?_, ?_⟩
                          · simp only [List.take_succ_cons, List.take_zero]
                            repeat (go_big_quiet_step ((intro _; rfl)))
                            refine wpQuiet_nil ?_
                            exact rfl
                          simp only [List.drop_succ_cons, List.drop_zero, Nat.reduceAdd]
                          refine Reg.const0 (.int .i64 x.n) (fun e w1 hR hf => ⟨by rfl, ?_⟩) ?_
                          · have c1' := (Below.cell hR (p := ⟨nb, 4, none⟩) ql).trans q4
                            unfold Reg.gives
                            clear hf
                            go_simp
                            exact Reg.bel_refl _
                          simp only [Act.put, List.setIfInBounds_toArray, List.set_cons_zero, List.set_cons_succ, Nat.reduceAdd]
                          refine Reg.seg0 1 (by kernel_rfl) rfl ?_
                          apply Exists.intro
                          refine ⟨fun e => ?_, ?_⟩
                          · simp only [List.take_succ_cons, List.take_zero]
                            repeat (go_big_quiet_step ((intro _; rfl)))
                            refine wpQuiet_nil ?_
                            exact rfl
                          simp only [List.drop_succ_cons, List.drop_zero, Nat.reduceAdd]
                          refine Reg.const0 (.pointer (some ⟨bx, 0, none⟩)) (fun e w1 hR hf => ⟨by rfl, ?_⟩) ?_
                          · unfold Reg.gives
                            clear hf
                            go_simp
                            exact Reg.bel_refl _
                          simp only [Act.put, List.setIfInBounds_toArray, List.set_cons_zero, List.set_cons_succ, Nat.reduceAdd]
                          refine Reg.seg0 1 (by kernel_rfl) rfl ?_
                          apply Exists.intro
                          refine ⟨fun e => ?_, ?_⟩
                          · simp only [List.take_succ_cons, List.take_zero]
                            repeat (go_big_quiet_step ((intro _; rfl)))
                            refine wpQuiet_nil ?_
                            exact rfl
                          simp only [List.drop_succ_cons, List.drop_zero, Nat.reduceAdd]
                          refine Reg.const0 (.slice (some ⟨gr, 0, none⟩) l.length capr) (fun e w1 hR hf => ⟨by rfl, ?_⟩) ?_
                          · have c1' := (Below.cell hR (p := ⟨bx, 1, none⟩) HLT.out.1).trans c1
                            unfold Reg.gives
                            clear hf
                            go_simp
                            exact Reg.bel_refl _
                          simp only [Act.put, List.setIfInBounds_toArray, List.set_cons_zero, List.set_cons_succ, Nat.reduceAdd]
                          refine Reg.seg0 3 (by kernel_rfl) rfl ?_
                          apply Exists.intro
                          refine ⟨fun e => ?_, ?_⟩
                          · simp only [List.take_succ_cons, List.take_zero]
                            repeat (go_big_quiet_step ((intro _; rfl)))
                            refine wpQuiet_nil ?_
                            exact rfl
                          simp only [List.drop_succ_cons, List.drop_zero, Nat.reduceAdd]
                          refine Reg.const0 (.slice q.ba q.b.length q.bcap) (fun e w1 hR hf => ⟨by rfl, ?_⟩) ?_
                          · have c1' := (Below.cell hR (p := ⟨gr, k * 3 + 1, none⟩) HLT.out.2).trans r1
                            unfold Reg.gives
                            clear hf
                            go_simp
                            exact Reg.bel_refl _
                          simp only [Act.put, List.setIfInBounds_toArray, List.set_cons_zero, List.set_cons_succ, Nat.reduceAdd]
                          refine Reg.seg0 7 (by kernel_rfl) rfl ?_
                          apply Exists.intro
                          refine ⟨fun e => ?_, ?_⟩
                          · simp only [List.take_succ_cons, List.take_zero]
                            repeat (go_big_quiet_step ((intro _; rfl)))
                            refine wpQuiet_nil ?_
                            exact rfl
                          simp only [List.drop_succ_cons, List.drop_zero, Nat.reduceAdd]
                          refine Reg.skip0 (fun e => by rfl) ?_
                          simp only [Act.put, List.setIfInBounds_toArray, List.set_cons_zero, List.set_cons_succ, Nat.reduceAdd]
                          refine Reg.seg0 12 (by kernel_rfl) rfl ?_
                          apply Exists.intro
                          refine ⟨fun e => ?_, ?_⟩
                          · simp only [List.take_succ_cons, List.take_zero]
                            repeat (go_big_quiet_step ((intro _; rfl)))
                            refine wpQuiet_nil ?_
                            exact rfl
                          simp only [List.drop_succ_cons, List.drop_zero, Nat.reduceAdd]
                          intro eX W6 hR hJ hf
                          have HB6 := Lib.hid ((Below.refl W5.heap.size W5).drew.trans hR)
                          have HP5' := Lib.hid (HP5.out.bel' HB6.out)
                          clear hR hJ hf
                          clear c1 r1
                          go_wp2_with fail
                          refine (lawCode 1 _ (by omega)).mono ?_
                          rintro e w8 ⟨rfl, rfl⟩
                          go_wp2_with fail
                          refine Reg.wp_region0 (by kernel_rfl) (by kernel_rfl) ?_
                          refine Reg.seg0 4 (by kernel_rfl) rfl ?_
                          apply Exists.intro
                          refine ⟨fun e => ?_, ?_⟩
                          · simp only [List.take_succ_cons, List.take_zero]
                            repeat (go_big_quiet_step ((intro _; rfl)))
                            refine wpQuiet_nil ?_
                            exact rfl
                          simp only [List.drop_succ_cons, List.drop_zero, Nat.reduceAdd]
                          refine Reg.skip0 (fun e => by rfl) ?_
                          simp only [Act.put, List.setIfInBounds_toArray, List.set_cons_zero, List.set_cons_succ, Nat.reduceAdd]
                          refine Reg.seg0 1 (by kernel_rfl) rfl ?_
                          apply Exists.intro
                          refine ⟨fun e => ?_, ?_⟩
                          · simp only [List.take_succ_cons, List.take_zero]
                            repeat (go_big_quiet_step ((intro _; rfl)))
                            refine wpQuiet_nil ?_
                            exact rfl
                          simp only [List.drop_succ_cons, List.drop_zero, Nat.reduceAdd]
                          refine Reg.skip0 (fun e => by rfl) ?_
                          simp only [Act.put, List.setIfInBounds_toArray, List.set_cons_zero, List.set_cons_succ, Nat.reduceAdd]
                          refine Reg.seg0 13 (by kernel_rfl) rfl ?_
                          apply Exists.intro
                          refine ⟨fun e => ?_, ?_⟩
                          · simp only [List.take_succ_cons, List.take_zero]
                            repeat (go_big_quiet_step ((intro _; rfl)))
                            refine wpQuiet_nil ?_
                            exact rfl
                          simp only [List.drop_succ_cons, List.drop_zero, Nat.reduceAdd]
                          refine Reg.skip0 (fun e => by rfl) ?_
                          simp only [Act.put, List.setIfInBounds_toArray, List.set_cons_zero, List.set_cons_succ, Nat.reduceAdd]
                          refine Reg.skip0 (fun e => by rfl) ?_
                          simp only [Act.put, List.setIfInBounds_toArray, List.set_cons_zero, List.set_cons_succ, Nat.reduceAdd]
                          refine Reg.seg0 2 (by kernel_rfl) rfl ?_
                          apply Exists.intro
                          refine ⟨fun e => ?_, ?_⟩
                          · simp only [List.take_succ_cons, List.take_zero]
                            repeat (go_big_quiet_step ((intro _; rfl)))
                            refine wpQuiet_nil ?_
                            exact rfl
                          simp only [List.drop_succ_cons, List.drop_zero, Nat.reduceAdd]
                          intro eY W7 hR hJ hf
                          have HP6 := Lib.hid ((HP5'.out.bel' ((Below.refl w8.heap.size w8).drew.trans hR)).more)
                          clear hR hJ hf
                          clear q0 q1 q2 q3 q4 q5 ql c6
                          go_wp2_with fail
                          refine (sameBoth (HP6.out.both HJ1.out)).mono ?_
                          rintro e W7 ⟨rfl, hb7⟩
                          have HP7 := Lib.hid (HP6.out.bel' hb7)
                          clear hb7
                          go_wp2_with fail
                          go_roundw
                          case rel => exact ⟨j + 1, _, _, _, _, _, _, by omega, by go_num, HP7⟩
                          case measure => simp [intOf]; omega
                      · by_cases hD : (q.b.length : Int) - x.n < x.m
                        · have dA : decide (x.n < 0) = false := by simp; omega
                          have dB : decide (x.m < 0) = false := by simp; omega
                          have dC : decide ((q.b.length : Int) < x.n) = false := by simp; omega
                          have dD : decide ((q.b.length : Int) - x.n < x.m) = true := by simp; omega
                          have bn0 : (0 : Int) ≤ x.n := by omega
                          have bn1 : x.n ≤ (q.b.length : Int) := by omega
                          have HBAD := Lib.hid (show readBad q.b x.n x.m from .inr (.inr (.inr hD)))
                          clear hA hB hC hD
                          as_aux_lemma =>
                            obtain ⟨q0, q1, q2, q3, q4, q5, ql⟩ := ddBox_at HBX.out
                            go_wp2_with fail
                            refine (sameBad (HP3.out.both HJ.out) HDN.out HQM.out HBAD.out HQN.out).mono ?_
                            rintro e W4 ⟨rfl, rfl⟩
                            have HP4 := HP3
                            have HB4 := HBX
                            go_wp2_with fail
                            refine (refFind bx st' _ l x.name _ HP4.out.r (by have := (HP4.out.both HJ.out).len; omega)).mono ?_
                            rintro e W5 ⟨rfl, hb5⟩
                            have HP5 := Lib.hid (HP4.out.bel' hb5)
                            have hbb := (hb5.block nb (Array.getElem?_eq_some_iff.1 HB4.out).1).trans HB4.out
                            clear hb5 q0 q1 q2 q3 q4 q5 ql
                            obtain ⟨q0, q1, q2, q3, q4, q5, ql⟩ := ddBox_at hbb
                            have c6 := HP5.out.r.cells.c6
                            rw [HP5.out.like.down, HDN.out] at c6
                            rw [HIS.out]
                            rw [← HKE.out]
                            have c1 := HP5.out.r.cells.c1
                            have r1 := HP5.out.r.own.at_ (C := rfCells) (sz := 3) (fun _ => rfl) k HKL.out 1 (by omega)
                            rw [← HQ.out] at r1
                            simp only [rfCells, List.getElem?_cons_zero, List.getElem?_cons_succ] at r1
                            have HLT := Lib.hid (And.intro (rown_lt HP5.out.r (.inl rfl)) (rown_lt HP5.out.r (.inr (.inl rfl))))
                            go_wp2_with fail
                            refine Reg.wp_region0 (by kernel_rfl) (by kernel_rfl) ?_
                            refine Reg.seg0 1 (by kernel_rfl) rfl ?_
                            apply Exists.intro
                            refine ⟨fun e => ?_, ?_⟩
                            · simp only [List.take_succ_cons, List.take_zero]
                              repeat (go_big_quiet_step ((intro _; rfl)))
                              refine wpQuiet_nil ?_
                              exact rfl
                            simp only [List.drop_succ_cons, List.drop_zero, Nat.reduceAdd]
                            refine Reg.const0 (.int .i64 x.n) (fun e w1 hR hf => ⟨by rfl, ?_⟩) ?_
                            · have c1' := (Below.cell hR (p := ⟨nb, 4, none⟩) ql).trans q4
                              unfold Reg.gives
                              clear hf
                              go_simp
                              exact Reg.bel_refl _
                            simp only [Act.put, List.setIfInBounds_toArray, List.set_cons_zero, List.set_cons_succ, Nat.reduceAdd]
                            refine Reg.seg0 3 (by kernel_rfl) rfl ?_
                            apply Exists.intro
                            refine ⟨fun e => ?_, ?_⟩
                            · simp only [List.take_succ_cons, List.take_zero]
                              repeat (go_big_quiet_step ((intro _; rfl)))
                              refine wpQuiet_nil ?_
                              exact rfl
                            simp only [List.drop_succ_cons, List.drop_zero, Nat.reduceAdd]
                            refine Reg.const0 (.int .i64 x.m) (fun e w1 hR hf => ⟨by rfl, ?_⟩) ?_
                            · have c1' := (Below.cell hR (p := ⟨nb, 5, none⟩) ql).trans q5
                              unfold Reg.gives
                              clear hf
                              go_simp
                              exact Reg.bel_refl _
                            simp only [Act.put, List.setIfInBounds_toArray, List.set_cons_zero, List.set_cons_succ, Nat.reduceAdd]
                            refine Reg.seg0 4 (by kernel_rfl) rfl ?_
                            apply Exists.intro
                            refine ⟨fun e => ?_, ?_⟩
                            · simp only [List.take_succ_cons, List.take_zero]
                              repeat (go_big_quiet_step ((intro _; rfl)))
                              refine wpQuiet_nil ?_
                              exact rfl
                            simp only [List.drop_succ_cons, List.drop_zero, Nat.reduceAdd]
                            refine Reg.const0 (.int .i64 x.n) (fun e w1 hR hf => ⟨by rfl, ?_⟩) ?_
                            · have c1' := (Below.cell hR (p := ⟨nb, 4, none⟩) ql).trans q4
                              unfold Reg.gives
                              clear hf
                              go_simp
                              exact Reg.bel_refl _
                            simp only [Act.put, List.setIfInBounds_toArray, List.set_cons_zero, List.set_cons_succ, Nat.reduceAdd]
                            refine Reg.seg0 1 (by kernel_rfl) rfl ?_
                            apply Exists.intro
                            refine ⟨fun e => ?_, ?_⟩
                            · simp only [List.take_succ_cons, List.take_zero]
                              repeat (go_big_quiet_step ((intro _; rfl)))
                              refine wpQuiet_nil ?_
                              exact rfl
                            simp only [List.drop_succ_cons, List.drop_zero, Nat.reduceAdd]
                            refine Reg.const0 (.pointer (some ⟨bx, 0, none⟩)) (fun e w1 hR hf => ⟨by rfl, ?_⟩) ?_
                            · unfold Reg.gives
                              clear hf
                              go_simp
                              exact Reg.bel_refl _
                            simp only [Act.put, List.setIfInBounds_toArray, List.set_cons_zero, List.set_cons_succ, Nat.reduceAdd]
                            refine Reg.seg0 1 (by kernel_rfl) rfl ?_
                            apply Exists.intro
                            refine ⟨fun e => ?_, ?_⟩
                            · simp only [List.take_succ_cons, List.take_zero]
                              repeat (go_big_quiet_step ((intro _; rfl)))
                              refine wpQuiet_nil ?_
                              exact rfl
                            simp only [List.drop_succ_cons, List.drop_zero, Nat.reduceAdd]
                            refine Reg.const0 (.slice (some ⟨gr, 0, none⟩) l.length capr) (fun e w1 hR hf => ⟨by rfl, ?_⟩) ?_
                            · have c1' := (Below.cell hR (p := ⟨bx, 1, none⟩) HLT.out.1).trans c1
                              unfold Reg.gives
                              clear hf
                              go_simp
                              exact Reg.bel_refl _
                            simp only [Act.put, List.setIfInBounds_toArray, List.set_cons_zero, List.set_cons_succ, Nat.reduceAdd]
                            refine Reg.seg0 3 (by kernel_rfl) rfl ?_
                            apply Exists.intro
                            refine ⟨fun e => ?_, ?_⟩
                            · simp only [List.take_succ_cons, List.take_zero]
                              repeat (go_big_quiet_step ((intro _; rfl)))
                              refine wpQuiet_nil ?_
                              exact rfl
                            simp only [List.drop_succ_cons, List.drop_zero, Nat.reduceAdd]
                            refine Reg.const0 (.slice q.ba q.b.length q.bcap) (fun e w1 hR hf => ⟨by rfl, ?_⟩) ?_
                            · have c1' := (Below.cell hR (p := ⟨gr, k * 3 + 1, none⟩) HLT.out.2).trans r1
                              unfold Reg.gives
                              clear hf
                              go_simp
                              exact Reg.bel_refl _
                            simp only [Act.put, List.setIfInBounds_toArray, List.set_cons_zero, List.set_cons_succ, Nat.reduceAdd]
                            refine Reg.seg0 5 (by kernel_rfl) rfl ?_
                            apply Exists.intro
                            refine ⟨fun e => ?_, ?_⟩
                            · simp only [List.take_succ_cons, List.take_zero]
                              repeat (go_big_quiet_step ((intro _; rfl)))
                              refine wpQuiet_nil ?_
                              exact rfl
                            simp only [List.drop_succ_cons, List.drop_zero, Nat.reduceAdd]
                            refine Reg.const0 (.int .i64 x.m) (fun e w1 hR hf => ⟨by rfl, ?_⟩) ?_
                            · have c1' := (Below.cell hR (p := ⟨nb, 5, none⟩) ql).trans q5
                              unfold Reg.gives
                              clear hf
                              go_simp
                              exact Reg.bel_refl _
                            simp only [Act.put, List.setIfInBounds_toArray, List.set_cons_zero, List.set_cons_succ, Nat.reduceAdd]
                            refine Reg.seg0 1 (by kernel_rfl) rfl ?_
                            apply Exists.intro
                            refine ⟨fun e => ?_, ?_⟩
                            · simp only [List.take_succ_cons, List.take_zero]
                              repeat (go_big_quiet_step ((intro _; rfl)))
                              refine wpQuiet_nil ?_
                              exact rfl
                            simp only [List.drop_succ_cons, List.drop_zero, Nat.reduceAdd]
                            refine Reg.const0 (.pointer (some ⟨bx, 0, none⟩)) (fun e w1 hR hf => ⟨by rfl, ?_⟩) ?_
                            · unfold Reg.gives
                              clear hf
                              go_simp
                              exact Reg.bel_refl _
                            simp only [Act.put, List.setIfInBounds_toArray, List.set_cons_zero, List.set_cons_succ, Nat.reduceAdd]
                            refine Reg.seg0 1 (by kernel_rfl) rfl ?_
                            apply Exists.intro
                            refine ⟨fun e => ?_, ?_⟩
                            · simp only [List.take_succ_cons, List.take_zero]
                              repeat (go_big_quiet_step ((intro _; rfl)))
                              refine wpQuiet_nil ?_
                              exact rfl
                            simp only [List.drop_succ_cons, List.drop_zero, Nat.reduceAdd]
                            refine Reg.const0 (.slice (some ⟨gr, 0, none⟩) l.length capr) (fun e w1 hR hf => ⟨by rfl, ?_⟩) ?_
                            · have c1' := (Below.cell hR (p := ⟨bx, 1, none⟩) HLT.out.1).trans c1
                              unfold Reg.gives
                              clear hf
                              go_simp
                              exact Reg.bel_refl _
                            simp only [Act.put, List.setIfInBounds_toArray, List.set_cons_zero, List.set_cons_succ, Nat.reduceAdd]
                            refine Reg.seg0 3 (by kernel_rfl) rfl ?_
                            apply Exists.intro
                            refine ⟨fun e => ?_, ?_⟩
                            · simp only [List.take_succ_cons, List.take_zero]
                              repeat (go_big_quiet_step ((intro _; rfl)))
                              refine wpQuiet_nil ?_
                              exact rfl
                            simp only [List.drop_succ_cons, List.drop_zero, Nat.reduceAdd]
                            refine Reg.const0 (.slice q.ba q.b.length q.bcap) (fun e w1 hR hf => ⟨by rfl, ?_⟩) ?_
                            · have c1' := (Below.cell hR (p := ⟨gr, k * 3 + 1, none⟩) HLT.out.2).trans r1
                              unfold Reg.gives
                              clear hf
                              go_simp
                              exact Reg.bel_refl _
                            simp only [Act.put, List.setIfInBounds_toArray, List.set_cons_zero, List.set_cons_succ, Nat.reduceAdd]
                            refine Reg.seg0 2 (by kernel_rfl) rfl ?_
                            apply Exists.intro
                            refine ⟨fun e => ?_, ?_⟩
                            · simp only [List.take_succ_cons, List.take_zero]
                              repeat (go_big_quiet_step ((intro _; rfl)))
                              refine wpQuiet_nil ?_
                              exact rfl
                            simp only [List.drop_succ_cons, List.drop_zero, Nat.reduceAdd]
                            refine Reg.const0 (.int .i64 x.n) (fun e w1 hR hf => ⟨by rfl, ?_⟩) ?_
                            · have c1' := (Below.cell hR (p := ⟨nb, 4, none⟩) ql).trans q4
                              unfold Reg.gives
                              clear hf
                              go_simp
                              exact Reg.bel_refl _
                            simp only [Act.put, List.setIfInBounds_toArray, List.set_cons_zero, List.set_cons_succ, Nat.reduceAdd]
                            refine Reg.seg0 3 (by kernel_rfl) rfl ?_
                            apply Exists.intro
                            refine ⟨fun e => ?_, ?_⟩
                            · simp only [List.take_succ_cons, List.take_zero]
                              repeat (go_big_quiet_step ((intro _; rfl)))
                              refine wpQuiet_nil ?_
                              exact rfl
                            simp only [List.drop_succ_cons, List.drop_zero, Nat.reduceAdd]
                            intro eX W6 hR hJ hf
                            have HB6 := Lib.hid ((Below.refl W5.heap.size W5).drew.trans hR)
                            have HP5' := Lib.hid (HP5.out.bel' HB6.out)
                            clear hR hJ hf
                            clear c1 r1
                            go_wp2_with fail
                            refine (lawCode 1 _ (by omega)).mono ?_
                            rintro e w8 ⟨rfl, rfl⟩
                            go_wp2_with fail
                            refine Reg.wp_region0 (by kernel_rfl) (by kernel_rfl) ?_
                            refine Reg.seg0 4 (by kernel_rfl) rfl ?_
                            apply Exists.intro
                            refine ⟨fun e => ?_, ?_⟩
                            · simp only [List.take_succ_cons, List.take_zero]
                              repeat (go_big_quiet_step ((intro _; rfl)))
                              refine wpQuiet_nil ?_
                              exact rfl
                            simp only [List.drop_succ_cons, List.drop_zero, Nat.reduceAdd]
                            refine Reg.skip0 (fun e => by rfl) ?_
                            simp only [Act.put, List.setIfInBounds_toArray, List.set_cons_zero, List.set_cons_succ, Nat.reduceAdd]
                            refine Reg.seg0 1 (by kernel_rfl) rfl ?_
                            apply Exists.intro
                            refine ⟨fun e => ?_, ?_⟩
                            · simp only [List.take_succ_cons, List.take_zero]
                              repeat (go_big_quiet_step ((intro _; rfl)))
                              refine wpQuiet_nil ?_
                              exact rfl
                            simp only [List.drop_succ_cons, List.drop_zero, Nat.reduceAdd]
                            refine Reg.skip0 (fun e => by rfl) ?_
                            simp only [Act.put, List.setIfInBounds_toArray, List.set_cons_zero, List.set_cons_succ, Nat.reduceAdd]
                            refine Reg.seg0 13 (by kernel_rfl) rfl ?_
                            apply Exists.intro
                            refine ⟨fun e => ?_, ?_⟩
                            · simp only [List.take_succ_cons, List.take_zero]
                              repeat (go_big_quiet_step ((intro _; rfl)))
                              refine wpQuiet_nil ?_
                              exact rfl
                            simp only [List.drop_succ_cons, List.drop_zero, Nat.reduceAdd]
                            refine Reg.skip0 (fun e => by rfl) ?_
                            simp only [Act.put, List.setIfInBounds_toArray, List.set_cons_zero, List.set_cons_succ, Nat.reduceAdd]
                            refine Reg.skip0 (fun e => by rfl) ?_
                            simp only [Act.put, List.setIfInBounds_toArray, List.set_cons_zero, List.set_cons_succ, Nat.reduceAdd]
                            refine Reg.seg0 2 (by kernel_rfl) rfl ?_
                            apply Exists.intro
                            refine ⟨fun e => ?_, ?_⟩
                            · simp only [List.take_succ_cons, List.take_zero]
                              repeat (go_big_quiet_step ((intro _; rfl)))
                              refine wpQuiet_nil ?_
                              exact rfl
                            simp only [List.drop_succ_cons, List.drop_zero, Nat.reduceAdd]
                            intro eY W7 hR hJ hf
                            have HP6 := Lib.hid ((HP5'.out.bel' ((Below.refl w8.heap.size w8).drew.trans hR)).more)
                            clear hR hJ hf
                            clear q0 q1 q2 q3 q4 q5 ql c6
                            go_wp2_with fail
                            refine (sameBoth (HP6.out.both HJ1.out)).mono ?_
                            rintro e W7 ⟨rfl, hb7⟩
                            have HP7 := Lib.hid (HP6.out.bel' hb7)
                            clear hb7
                            go_wp2_with fail
                            go_roundw
                            case rel => exact ⟨j + 1, _, _, _, _, _, _, by omega, by go_num, HP7⟩
                            case measure => simp [intOf]; omega
                        · obtain ⟨i, hi⟩ : ∃ i : Nat, x.n = (i : Int) := ⟨x.n.toNat, by omega⟩
                          obtain ⟨jj, hjj⟩ : ∃ jj : Nat, x.m = (jj : Int) := ⟨x.m.toNat, by omega⟩
                          have HNI := Lib.hid hi
                          have HNJ := Lib.hid hjj
                          have HIJ := Lib.hid (show i + jj ≤ q.b.length by omega)
                          have dA : decide ((i : Int) < 0) = false := by simp
                          have dB : decide ((jj : Int) < 0) = false := by simp
                          have dC : decide ((q.b.length : Int) < (i : Int)) = false := by simp; omega
                          have dC' : decide (q.b.length < i) = false := by simp; omega
                          have dD : decide ((q.b.length : Int) - (i : Int) < (jj : Int)) = false := by simp; omega
                          have bn0 : (0 : Int) ≤ (i : Int) := by omega
                          have bn1 : (i : Int) ≤ (q.b.length : Int) := by omega
                          have bm0 : (0 : Int) ≤ (jj : Int) := by omega
                          have bm1 : (i : Int) + (jj : Int) ≤ 1000000 := by omega
                          have bm2 : (i : Int) ≤ (i : Int) + (jj : Int) := by omega
                          obtain ⟨rd, hrd⟩ : ∃ rd, rd = (q.b.drop i).take jj := ⟨_, rfl⟩
                          have HRD := Lib.hid hrd
                          have HRL := Lib.hid (show rd.length = jj by rw [hrd]; simp; omega)
                          have hqc := (HP3.out.r.file q HQM.out).cap
                          have bm3 : (i : Int) + (jj : Int) ≤ (q.bcap : Int) := by omega
                          obtain ⟨sa, hsa⟩ : ∃ sa, sa = subA q.ba q.bcap i := ⟨_, rfl⟩
                          have HSA := Lib.hid hsa
                          obtain ⟨sc, hsc⟩ : ∃ sc, sc = q.bcap - i := ⟨_, rfl⟩
                          have HSC := Lib.hid hsc
                          clear hA hB hC hD hi hjj hrd hqc hsa hsc
                          as_aux_lemma =>
                            obtain ⟨q0, q1, q2, q3, q4, q5, ql⟩ := ddBox_at HBX.out
                            rw [HNI.out] at q4
                            rw [HNJ.out] at q5
                            go_wp2_with fail
                            refine (sameGood (HP3.out.both HJ.out) HDN.out HQM.out HIJ.out HQN.out).mono ?_
                            rintro e W4 ⟨vv, rfl, o4, b4⟩
                            rw [← HRD.out] at o4
                            obtain ⟨va, vc, rfl, hvb, _⟩ := o4.out
                            rw [HRL.out]
                            have HP4 := Lib.hid (HP3.out.bel' b4)
                            have HB4 := Lib.hid ((b4.block nb (Array.getElem?_eq_some_iff.1 HBX.out).1).trans HBX.out)
                            clear o4 b4
                            have HVB0 := Lib.hid hvb
                            clear hvb q0 q1 q2 q3 q4 q5 ql
                            obtain ⟨q0, q1, q2, q3, q4, q5, ql⟩ := ddBox_at HB4.out
                            rw [HNI.out] at q4
                            rw [HNJ.out] at q5
                            go_wp2_with fail
                            refine (refFind bx st' _ l x.name _ HP4.out.r (by have := (HP4.out.both HJ.out).len; omega)).mono ?_
                            rintro e W5 ⟨rfl, hb5⟩
                            have HP5 := Lib.hid (HP4.out.bel' hb5)
                            have hbb := (hb5.block nb (Array.getElem?_eq_some_iff.1 HB4.out).1).trans HB4.out
                            have HVB1 := Lib.hid (HVB0.out.bel hb5)
                            clear hb5 q0 q1 q2 q3 q4 q5 ql
                            obtain ⟨q0, q1, q2, q3, q4, q5, ql⟩ := ddBox_at hbb
                            have c6 := HP5.out.r.cells.c6
                            rw [HP5.out.like.down, HDN.out] at c6
                            rw [HNI.out] at q4
                            rw [HNJ.out] at q5
                            rw [HIS.out]
                            rw [← HKE.out]
                            have c1 := HP5.out.r.cells.c1
                            have r1 := HP5.out.r.own.at_ (C := rfCells) (sz := 3) (fun _ => rfl) k HKL.out 1 (by omega)
                            rw [← HQ.out] at r1
                            simp only [rfCells, List.getElem?_cons_zero, List.getElem?_cons_succ] at r1
                            have HLT := Lib.hid (And.intro (rown_lt HP5.out.r (.inl rfl)) (rown_lt HP5.out.r (.inr (.inl rfl))))
                            go_wp2_with fail
                            refine Reg.wp_region0 (by kernel_rfl) (by kernel_rfl) ?_
                            refine Reg.seg0 1 (by kernel_rfl) rfl ?_
                            apply Exists.intro
                            refine ⟨fun e => ?_, ?_⟩
                            · simp only [List.take_succ_cons, List.take_zero]
                              repeat (go_big_quiet_step ((intro _; rfl)))
                              refine wpQuiet_nil ?_
                              exact rfl
                            simp only [List.drop_succ_cons, List.drop_zero, Nat.reduceAdd]
                            refine Reg.const0 (.int .i64 (i : Int)) (fun e w1 hR hf => ⟨by rfl, ?_⟩) ?_
                            · have c1' := (Below.cell hR (p := ⟨nb, 4, none⟩) ql).trans q4
                              unfold Reg.gives
                              clear hf
                              go_simp
                              exact Reg.bel_refl _
                            simp only [Act.put, List.setIfInBounds_toArray, List.set_cons_zero, List.set_cons_succ, Nat.reduceAdd]
                            refine Reg.seg0 3 (by kernel_rfl) rfl ?_
                            apply Exists.intro
                            refine ⟨fun e => ?_, ?_⟩
                            · simp only [List.take_succ_cons, List.take_zero]
                              repeat (go_big_quiet_step ((intro _; rfl)))
                              refine wpQuiet_nil ?_
                              exact rfl
                            simp only [List.drop_succ_cons, List.drop_zero, Nat.reduceAdd]
                            refine Reg.const0 (.int .i64 (jj : Int)) (fun e w1 hR hf => ⟨by rfl, ?_⟩) ?_
                            · have c1' := (Below.cell hR (p := ⟨nb, 5, none⟩) ql).trans q5
                              unfold Reg.gives
                              clear hf
                              go_simp
                              exact Reg.bel_refl _
                            simp only [Act.put, List.setIfInBounds_toArray, List.set_cons_zero, List.set_cons_succ, Nat.reduceAdd]
                            refine Reg.seg0 4 (by kernel_rfl) rfl ?_
                            apply Exists.intro
                            refine ⟨fun e => ?_, ?_⟩
                            · simp only [List.take_succ_cons, List.take_zero]
                              repeat (go_big_quiet_step ((intro _; rfl)))
                              refine wpQuiet_nil ?_
                              exact rfl
                            simp only [List.drop_succ_cons, List.drop_zero, Nat.reduceAdd]
                            refine Reg.const0 (.int .i64 (i : Int)) (fun e w1 hR hf => ⟨by rfl, ?_⟩) ?_
                            · have c1' := (Below.cell hR (p := ⟨nb, 4, none⟩) ql).trans q4
                              unfold Reg.gives
                              clear hf
                              go_simp
                              exact Reg.bel_refl _
                            simp only [Act.put, List.setIfInBounds_toArray, List.set_cons_zero, List.set_cons_succ, Nat.reduceAdd]
                            refine Reg.seg0 1 (by kernel_rfl) rfl ?_
                            apply Exists.intro
                            refine ⟨fun e => ?_, ?_⟩
                            · simp only [List.take_succ_cons, List.take_zero]
                              repeat (go_big_quiet_step ((intro _; rfl)))
                              refine wpQuiet_nil ?_
                              exact rfl
                            simp only [List.drop_succ_cons, List.drop_zero, Nat.reduceAdd]
                            refine Reg.const0 (.pointer (some ⟨bx, 0, none⟩)) (fun e w1 hR hf => ⟨by rfl, ?_⟩) ?_
                            · unfold Reg.gives
                              clear hf
                              go_simp
                              exact Reg.bel_refl _
                            simp only [Act.put, List.setIfInBounds_toArray, List.set_cons_zero, List.set_cons_succ, Nat.reduceAdd]
                            refine Reg.seg0 1 (by kernel_rfl) rfl ?_
                            apply Exists.intro
                            refine ⟨fun e => ?_, ?_⟩
                            · simp only [List.take_succ_cons, List.take_zero]
                              repeat (go_big_quiet_step ((intro _; rfl)))
                              refine wpQuiet_nil ?_
                              exact rfl
                            simp only [List.drop_succ_cons, List.drop_zero, Nat.reduceAdd]
                            refine Reg.const0 (.slice (some ⟨gr, 0, none⟩) l.length capr) (fun e w1 hR hf => ⟨by rfl, ?_⟩) ?_
                            · have c1' := (Below.cell hR (p := ⟨bx, 1, none⟩) HLT.out.1).trans c1
                              unfold Reg.gives
                              clear hf
                              go_simp
                              exact Reg.bel_refl _
                            simp only [Act.put, List.setIfInBounds_toArray, List.set_cons_zero, List.set_cons_succ, Nat.reduceAdd]
                            refine Reg.seg0 3 (by kernel_rfl) rfl ?_
                            apply Exists.intro
                            refine ⟨fun e => ?_, ?_⟩
                            · simp only [List.take_succ_cons, List.take_zero]
                              repeat (go_big_quiet_step ((intro _; rfl)))
                              refine wpQuiet_nil ?_
                              exact rfl
                            simp only [List.drop_succ_cons, List.drop_zero, Nat.reduceAdd]
                            refine Reg.const0 (.slice q.ba q.b.length q.bcap) (fun e w1 hR hf => ⟨by rfl, ?_⟩) ?_
                            · have c1' := (Below.cell hR (p := ⟨gr, k * 3 + 1, none⟩) HLT.out.2).trans r1
                              unfold Reg.gives
                              clear hf
                              go_simp
                              exact Reg.bel_refl _
                            simp only [Act.put, List.setIfInBounds_toArray, List.set_cons_zero, List.set_cons_succ, Nat.reduceAdd]
                            refine Reg.seg0 5 (by kernel_rfl) rfl ?_
                            apply Exists.intro
                            refine ⟨fun e => ?_, ?_⟩
                            · simp only [List.take_succ_cons, List.take_zero]
                              repeat (go_big_quiet_step ((intro _; rfl)))
                              refine wpQuiet_nil ?_
                              exact rfl
                            simp only [List.drop_succ_cons, List.drop_zero, Nat.reduceAdd]
                            refine Reg.const0 (.int .i64 (jj : Int)) (fun e w1 hR hf => ⟨by rfl, ?_⟩) ?_
                            · have c1' := (Below.cell hR (p := ⟨nb, 5, none⟩) ql).trans q5
                              unfold Reg.gives
                              clear hf
                              go_simp
                              exact Reg.bel_refl _
                            simp only [Act.put, List.setIfInBounds_toArray, List.set_cons_zero, List.set_cons_succ, Nat.reduceAdd]
                            refine Reg.seg0 1 (by kernel_rfl) rfl ?_
                            apply Exists.intro
                            refine ⟨fun e => ?_, ?_⟩
                            · simp only [List.take_succ_cons, List.take_zero]
                              repeat (go_big_quiet_step ((intro _; rfl)))
                              refine wpQuiet_nil ?_
                              exact rfl
                            simp only [List.drop_succ_cons, List.drop_zero, Nat.reduceAdd]
                            refine Reg.const0 (.pointer (some ⟨bx, 0, none⟩)) (fun e w1 hR hf => ⟨by rfl, ?_⟩) ?_
                            · unfold Reg.gives
                              clear hf
                              go_simp
                              exact Reg.bel_refl _
                            simp only [Act.put, List.setIfInBounds_toArray, List.set_cons_zero, List.set_cons_succ, Nat.reduceAdd]
                            refine Reg.seg0 1 (by kernel_rfl) rfl ?_
                            apply Exists.intro
                            refine ⟨fun e => ?_, ?_⟩
                            · simp only [List.take_succ_cons, List.take_zero]
                              repeat (go_big_quiet_step ((intro _; rfl)))
                              refine wpQuiet_nil ?_
                              exact rfl
                            simp only [List.drop_succ_cons, List.drop_zero, Nat.reduceAdd]
                            refine Reg.const0 (.slice (some ⟨gr, 0, none⟩) l.length capr) (fun e w1 hR hf => ⟨by rfl, ?_⟩) ?_
                            · have c1' := (Below.cell hR (p := ⟨bx, 1, none⟩) HLT.out.1).trans c1
                              unfold Reg.gives
                              clear hf
                              go_simp
                              exact Reg.bel_refl _
                            simp only [Act.put, List.setIfInBounds_toArray, List.set_cons_zero, List.set_cons_succ, Nat.reduceAdd]
                            refine Reg.seg0 3 (by kernel_rfl) rfl ?_
                            apply Exists.intro
                            refine ⟨fun e => ?_, ?_⟩
                            · simp only [List.take_succ_cons, List.take_zero]
                              repeat (go_big_quiet_step ((intro _; rfl)))
                              refine wpQuiet_nil ?_
                              exact rfl
                            simp only [List.drop_succ_cons, List.drop_zero, Nat.reduceAdd]
                            refine Reg.const0 (.slice q.ba q.b.length q.bcap) (fun e w1 hR hf => ⟨by rfl, ?_⟩) ?_
                            · have c1' := (Below.cell hR (p := ⟨gr, k * 3 + 1, none⟩) HLT.out.2).trans r1
                              unfold Reg.gives
                              clear hf
                              go_simp
                              exact Reg.bel_refl _
                            simp only [Act.put, List.setIfInBounds_toArray, List.set_cons_zero, List.set_cons_succ, Nat.reduceAdd]
                            refine Reg.seg0 2 (by kernel_rfl) rfl ?_
                            apply Exists.intro
                            refine ⟨fun e => ?_, ?_⟩
                            · simp only [List.take_succ_cons, List.take_zero]
                              repeat (go_big_quiet_step ((intro _; rfl)))
                              refine wpQuiet_nil ?_
                              exact rfl
                            simp only [List.drop_succ_cons, List.drop_zero, Nat.reduceAdd]
                            refine Reg.const0 (.int .i64 (i : Int)) (fun e w1 hR hf => ⟨by rfl, ?_⟩) ?_
                            · have c1' := (Below.cell hR (p := ⟨nb, 4, none⟩) ql).trans q4
                              unfold Reg.gives
                              clear hf
                              go_simp
                              exact Reg.bel_refl _
                            simp only [Act.put, List.setIfInBounds_toArray, List.set_cons_zero, List.set_cons_succ, Nat.reduceAdd]
                            refine Reg.seg0 3 (by kernel_rfl) rfl ?_
                            apply Exists.intro
                            refine ⟨fun e => ?_, ?_⟩
                            · simp only [List.take_succ_cons, List.take_zero]
                              repeat (go_big_quiet_step ((intro _; rfl)))
                              refine wpQuiet_nil ?_
                              exact rfl
                            simp only [List.drop_succ_cons, List.drop_zero, Nat.reduceAdd]
                            intro eX W6 hR hJ hf
                            have HB6 := Lib.hid ((Below.refl W5.heap.size W5).drew.trans hR)
                            have HP5' := Lib.hid (HP5.out.bel' HB6.out)
                            clear hR hJ hf
                            have hbb6 := (HB6.out.block nb ql).trans hbb
                            have HVB := Lib.hid (HVB1.out.bel HB6.out)
                            have HLT := Lib.hid (And.intro (Nat.lt_of_lt_of_le HLT.out.1 HB6.out.size) (Nat.lt_of_lt_of_le HLT.out.2 HB6.out.size))
                            have HSB := Lib.hid (show IsBytes W6 sa rd by rw [HSA.out, HRD.out]; exact (HP5'.out.r.file q HQM.out).bytes.sub' (HP5'.out.r.file q HQM.out).cap i jj)
                            clear q0 q1 q2 q3 q4 q5 ql c1 r1 c6
                            obtain ⟨q0, q1, q2, q3, q4, q5, ql⟩ := ddBox_at hbb6
                            rw [HNI.out] at q4
                            rw [HNJ.out] at q5
                            have c1 := HP5'.out.r.cells.c1
                            have r1 := HP5'.out.r.own.at_ (C := rfCells) (sz := 3) (fun _ => rfl) k HKL.out 1 (by omega)
                            rw [← HQ.out] at r1
                            simp only [rfCells, List.getElem?_cons_zero, List.getElem?_cons_succ] at r1
                            have c6 := 0
                            go_wp2_with fail
                            refine (lawCode 0 _ (by omega)).mono ?_
                            rintro e w8 ⟨rfl, rfl⟩
                            go_wp2_with fail
                            refine Reg.wp_region0 (by kernel_rfl) (by kernel_rfl) ?_
                            refine Reg.seg0 4 (by kernel_rfl) rfl ?_
                            apply Exists.intro
                            refine ⟨fun e => ?_, ?_⟩
                            · simp only [List.take_succ_cons, List.take_zero]
                              repeat (go_big_quiet_step ((intro _; rfl)))
                              refine wpQuiet_nil ?_
                              exact rfl
                            simp only [List.drop_succ_cons, List.drop_zero, Nat.reduceAdd]
                            refine Reg.const0 (.string ⟨rd.toArray⟩) (fun e w1 hR hf => ⟨by rfl, mid_still Reg.bel_refl (gives_str _ rfl HRL.out.symm rfl (HVB.out.bel ((Below.refl w8.heap.size w8).drew.trans hR)))⟩) ?_
                            simp only [Act.put, List.setIfInBounds_toArray, List.set_cons_zero, List.set_cons_succ, Nat.reduceAdd]
                            refine Reg.seg0 1 (by kernel_rfl) rfl ?_
                            apply Exists.intro
                            refine ⟨fun e => ?_, ?_⟩
                            · simp only [List.take_succ_cons, List.take_zero]
                              repeat (go_big_quiet_step ((intro _; rfl)))
                              refine wpQuiet_nil ?_
                              exact rfl
                            simp only [List.drop_succ_cons, List.drop_zero, Nat.reduceAdd]
                            refine Reg.const0 (.pointer (some ⟨bx, 0, none⟩)) (fun e w1 hR hf => ⟨by rfl, ?_⟩) ?_
                            · unfold Reg.gives
                              clear hf
                              go_simp
                              exact Reg.bel_refl _
                            simp only [Act.put, List.setIfInBounds_toArray, List.set_cons_zero, List.set_cons_succ, Nat.reduceAdd]
                            refine Reg.seg0 1 (by kernel_rfl) rfl ?_
                            apply Exists.intro
                            refine ⟨fun e => ?_, ?_⟩
                            · simp only [List.take_succ_cons, List.take_zero]
                              repeat (go_big_quiet_step ((intro _; rfl)))
                              refine wpQuiet_nil ?_
                              exact rfl
                            simp only [List.drop_succ_cons, List.drop_zero, Nat.reduceAdd]
                            refine Reg.const0 (.slice (some ⟨gr, 0, none⟩) l.length capr) (fun e w1 hR hf => ⟨by rfl, ?_⟩) ?_
                            · have c1' := (Below.cell hR (p := ⟨bx, 1, none⟩) HLT.out.1).trans c1
                              unfold Reg.gives
                              clear hf
                              go_simp
                              exact Reg.bel_refl _
                            simp only [Act.put, List.setIfInBounds_toArray, List.set_cons_zero, List.set_cons_succ, Nat.reduceAdd]
                            refine Reg.seg0 3 (by kernel_rfl) rfl ?_
                            apply Exists.intro
                            refine ⟨fun e => ?_, ?_⟩
                            · simp only [List.take_succ_cons, List.take_zero]
                              repeat (go_big_quiet_step ((intro _; rfl)))
                              refine wpQuiet_nil ?_
                              exact rfl
                            simp only [List.drop_succ_cons, List.drop_zero, Nat.reduceAdd]
                            refine Reg.const0 (.slice q.ba q.b.length q.bcap) (fun e w1 hR hf => ⟨by rfl, ?_⟩) ?_
                            · have c1' := (Below.cell hR (p := ⟨gr, k * 3 + 1, none⟩) HLT.out.2).trans r1
                              unfold Reg.gives
                              clear hf
                              go_simp
                              exact Reg.bel_refl _
                            simp only [Act.put, List.setIfInBounds_toArray, List.set_cons_zero, List.set_cons_succ, Nat.reduceAdd]
                            refine Reg.seg0 1 (by kernel_rfl) rfl ?_
                            apply Exists.intro
                            refine ⟨fun e => ?_, ?_⟩
                            · simp only [List.take_succ_cons, List.take_zero]
                              repeat (go_big_quiet_step ((intro _; rfl)))
                              refine wpQuiet_nil ?_
                              exact rfl
                            simp only [List.drop_succ_cons, List.drop_zero, Nat.reduceAdd]
                            refine Reg.const0 (.int .i64 (i : Int)) (fun e w1 hR hf => ⟨by rfl, ?_⟩) ?_
                            · have c1' := (Below.cell hR (p := ⟨nb, 4, none⟩) ql).trans q4
                              unfold Reg.gives
                              clear hf
                              go_simp
                              exact Reg.bel_refl _
                            simp only [Act.put, List.setIfInBounds_toArray, List.set_cons_zero, List.set_cons_succ, Nat.reduceAdd]
                            refine Reg.seg0 1 (by kernel_rfl) rfl ?_
                            apply Exists.intro
                            refine ⟨fun e => ?_, ?_⟩
                            · simp only [List.take_succ_cons, List.take_zero]
                              repeat (go_big_quiet_step ((intro _; rfl)))
                              refine wpQuiet_nil ?_
                              exact rfl
                            simp only [List.drop_succ_cons, List.drop_zero, Nat.reduceAdd]
                            refine Reg.const0 (.int .i64 (i : Int)) (fun e w1 hR hf => ⟨by rfl, ?_⟩) ?_
                            · have c1' := (Below.cell hR (p := ⟨nb, 4, none⟩) ql).trans q4
                              unfold Reg.gives
                              clear hf
                              go_simp
                              exact Reg.bel_refl _
                            simp only [Act.put, List.setIfInBounds_toArray, List.set_cons_zero, List.set_cons_succ, Nat.reduceAdd]
                            refine Reg.seg0 1 (by kernel_rfl) rfl ?_
                            apply Exists.intro
                            refine ⟨fun e => ?_, ?_⟩
                            · simp only [List.take_succ_cons, List.take_zero]
                              repeat (go_big_quiet_step ((intro _; rfl)))
                              refine wpQuiet_nil ?_
                              exact rfl
                            simp only [List.drop_succ_cons, List.drop_zero, Nat.reduceAdd]
                            refine Reg.const0 (.int .i64 (jj : Int)) (fun e w1 hR hf => ⟨by rfl, ?_⟩) ?_
                            · have c1' := (Below.cell hR (p := ⟨nb, 5, none⟩) ql).trans q5
                              unfold Reg.gives
                              clear hf
                              go_simp
                              exact Reg.bel_refl _
                            simp only [Act.put, List.setIfInBounds_toArray, List.set_cons_zero, List.set_cons_succ, Nat.reduceAdd]
                            refine Reg.seg0 1 (by kernel_rfl) rfl ?_
                            apply Exists.intro
                            refine ⟨fun e => ?_, ?_⟩
                            · simp only [List.take_succ_cons, List.take_zero]
                              repeat (go_big_quiet_step ((intro _; rfl)))
                              refine wpQuiet_nil ?_
                              exact rfl
                            simp only [List.drop_succ_cons, List.drop_zero, Nat.reduceAdd]
                            refine Reg.const0 (.slice sa jj sc) (fun e w1 hR hf => ⟨by rfl, ?_⟩) ?_
                            · unfold Reg.gives
                              clear hf
                              go_simp
                              exact ⟨Reg.bel_refl _, by rw [HSA.out]; rfl, by omega, HSC.out.symm⟩
                            simp only [Act.put, List.setIfInBounds_toArray, List.set_cons_zero, List.set_cons_succ, Nat.reduceAdd]
                            refine Reg.const0 (.string ⟨rd.toArray⟩) (fun e w1 hR hf => ⟨by rfl, mid_still Reg.bel_refl (gives_str _ rfl HRL.out.symm rfl (HSB.out.bel ((Below.refl w8.heap.size w8).drew.trans hR)))⟩) ?_
                            simp only [Act.put, List.setIfInBounds_toArray, List.set_cons_zero, List.set_cons_succ, Nat.reduceAdd]
                            refine Reg.seg0 2 (by kernel_rfl) rfl ?_
                            apply Exists.intro
                            refine ⟨fun e => ?_, ?_⟩
                            · simp only [List.take_succ_cons, List.take_zero]
                              repeat (go_big_quiet_step ((intro _; rfl)))
                              refine wpQuiet_nil ?_
                              exact rfl
                            simp only [List.drop_succ_cons, List.drop_zero, Nat.reduceAdd]
                            intro eY W7 hR hJ hf
                            have HP6 := Lib.hid ((HP5'.out.bel' ((Below.refl w8.heap.size w8).drew.trans hR)).more)
                            clear hR hJ hf
                            clear q0 q1 q2 q3 q4 q5 ql c1 r1
                            go_wp2_with fail
                            refine (sameBoth (HP6.out.both HJ1.out)).mono ?_
                            rintro e W7 ⟨rfl, hb7⟩
                            have HP7 := Lib.hid (HP6.out.bel' hb7)
                            clear hb7
                            go_wp2_with fail
                            go_roundw
                            case rel => exact ⟨j + 1, _, _, _, _, _, _, by omega, by go_num, HP7⟩
                            case measure => simp [intOf]; omega
    · obtain rfl : j = z.length := by omega
      go_wp2
      go_ret
      exact ⟨rfl, HP.out.bel⟩
theorem DiskPlays_walk (a0 : Int) (a1 : Option Addr) (len1 cap1 : Nat) (z1 : In_DiskPlays_1.T) (w : World) (w0 : (Lit.int .i64 a0).wf = true) (w1 : In_DiskPlays_1 w a1 len1 cap1 z1) :
    LawOk Try.prog 9 #[.int .i64 a0, .slice a1 len1 cap1] w := by
  obtain ⟨rfl, hz, _⟩ := w1
  by_cases h : 100 < z1.length
  · exact dplaysHead _ _ _ _ w h
  · exact dplaysMain _ _ _ _ w (by omega) hz (i64_of_wf w0).1 (i64_of_wf w0).2
end Go.Proofs.Ytnpalplnpfgibaa
