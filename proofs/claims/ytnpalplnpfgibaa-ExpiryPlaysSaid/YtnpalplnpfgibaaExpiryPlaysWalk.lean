/- The walk of ExpiryPlays. -/
import Derived.Test.YtnpalplnpfgibaaPlaysOpen
namespace Go.Proofs.Ytnpalplnpfgibaa
open Go.RowKit
def EPDone (w : World) (e : Ending) (w' : World) : Prop := e = .returned (.bool true) ∧ Below w.heap.size w w'
set_option maxRecDepth 100000 in
set_option maxHeartbeats 1000000 in
theorem playsHead (a0 : Option Addr) (m cap0 : Nat) (w : World) (h : 200 < m) :
    Calls Try.prog 4 #[.slice a0 m cap0] w (EPDone w) := by
  have e0 : decide ((200 : Int) < (m : Int)) = true := by simp; omega
  go_enter Try.func4, Try.ntmps4
  go_wp2_with fail
  refine (expiryUp _).mono ?_
  rintro e W1 ⟨rfl, hb⟩
  go_wp2_with fail
  refine (hasNew _).mono ?_
  rintro e W2 ⟨rfl, ht, hb2⟩
  have HX := Lib.hid (below_next hb hb2)
  clear ht hb hb2
  go_wp2_with fail
  go_ret
  exact ⟨rfl, HX.out⟩
theorem deedBox {w : World} {b : Nat} {q : Int} {x : It} {t : TypeId} (h : w.heap[b]? = some (.cells #[.int .i64 q, .int .u64 x.t, .string x.k] t (0, 0))) : w.cell? ⟨b, 0, none⟩ = some (.int .i64 q) ∧ w.cell? ⟨b, 1, none⟩ = some (.int .u64 x.t) ∧ w.cell? ⟨b, 2, none⟩ = some (.string x.k) ∧ b < w.heap.size := by
  have h0 := cell_of_row w b 0 _ _ _ h
  have h1 := cell_of_row w b 1 _ _ _ h
  have h2 := cell_of_row w b 2 _ _ _ h
  exact ⟨by simpa using h0, by simpa using h1, by simpa using h2, (Array.getElem?_eq_some_iff.1 h).1⟩
set_option maxRecDepth 100000 in
set_option maxHeartbeats 20000000 in
theorem playsMain (a0 : Option Addr) (cap0 : Nat) (z : In_ExpiryPlays_0.T) (w : World) (h0 : z.length ≤ 200) (hz : IsRowOf deCells deWf 3 w a0 z) :
    Calls Try.prog 4 #[.slice a0 z.length cap0] w (EPDone w) := by
  have e0 : decide ((200 : Int) < (z.length : Int)) = false := by simp; omega
  have HZ := Lib.hid hz
  have bz : (z.length : Int) ≤ 200 := by omega
  clear hz
  go_enter Try.func4, Try.ntmps4
  go_wp2_with fail
  refine (expiryUp _).mono ?_
  rintro e W1 ⟨rfl, hb⟩
  go_wp2_with fail
  refine (hasNew _).mono ?_
  rintro e W2 ⟨rfl, ht, hb2⟩
  have HS := Lib.hid (show PSt w W1.heap.size (.slice none 0 0) (.slice none 0 0) [] W2 from ⟨ht, ⟨none, 0, rfl, fun i hi => by simp at hi, Nat.le_refl _, Nat.zero_le _, .inl rfl⟩, fun k hk => (by cases hk), below_next hb hb2, hb.size⟩)
  generalize W1.heap.size = bh at *
  clear ht hb hb2 e0
  go_wp2
  go_loopw [5, 6] (fun mv i wr => ∃ (j : Nat) (v : Value) (ms : List It), j ≤ z.length ∧ i = .int .i64 j ∧ Hid (ms.length ≤ j) ∧ Hid (PSt w bh v mv ms wr)) (fun _ i _ => z.length - (intOf i).toNat)
  case atStart => exact ⟨0, _, [], Nat.zero_le _, rfl, Nat.le_refl 0, HS⟩
  case round =>
    obtain ⟨j, v, ms, hj, rfl, HLJ, HP⟩ := hrel
    clear HS
    have b0 : (0 : Int) ≤ (j : Int) := by omega
    by_cases hlt : j < z.length
    · have bj : (j : Int) < (z.length : Int) := by omega
      have HLE := Lib.hid (show ms.length ≤ 200 by have := HLJ.out; omega)
      obtain ⟨b, off, hax, hbx, hcell, hyw, hyi⟩ := HZ.out j hlt
      obtain ⟨y, hy⟩ : ∃ y, y = z[j] := ⟨_, rfl⟩
      rw [← hy] at hcell hyw hyi
      obtain ⟨q, x⟩ := y
      have hc0 := (HP.out.bel.cell (p := ⟨b, off + j * 3, none⟩) hbx).trans (hcell 0 (by omega))
      have hc1 := (HP.out.bel.cell (p := ⟨b, off + j * 3 + 1, none⟩) hbx).trans (hcell 1 (by omega))
      have hc2 := (HP.out.bel.cell (p := ⟨b, off + j * 3 + 2, none⟩) hbx).trans (hcell 2 (by omega))
      simp only [deCells, List.getElem?_cons_zero, List.getElem?_cons_succ] at hc0 hc1 hc2
      have HQW := Lib.hid hyw
      have HXW := Lib.hid hyi
      rw [hax]
      obtain ⟨W3, hW3⟩ : ∃ W, W = wr.alloc (.cells #[.int .i64 q, .int .u64 x.t, .string x.k] 37) := ⟨_, rfl⟩
      have HP3 := Lib.hid (show PSt w bh v u5 ms W3 by rw [hW3]; exact HP.out.bel' ((Below.refl _ _).alloc (Nat.le_refl _) _))
      obtain ⟨nb, hnb⟩ : ∃ nb, nb = wr.heap.size := ⟨_, rfl⟩
      have HNB := Lib.hid hnb
      have HNO := Lib.hid (show nb ≠ bh ∧ v.ownBlock ≠ some nb from ⟨by have := HP.out.has.lt; omega, fun e => by have := (HP.out.has.own _ e).2; omega⟩)
      have HBX := Lib.hid (show W3.heap[nb]? = some (.cells #[.int .i64 q, .int .u64 x.t, .string x.k] 37 (0, 0)) by rw [hW3, hnb]; exact heap_alloc_new wr _)
      have HW3 := Lib.hid hW3
      clear hax hcell hyw hyi hy hW3 hnb
      by_cases hk : 100 < x.k.size
      · have dk : decide ((100 : Int) < (x.k.size : Int)) = true := by simp; omega
        clear hk
        go_wp2
        go_ret
        exact ⟨rfl, by rw [← HW3.out]; exact HP3.out.bel⟩
      · have dk : decide ((100 : Int) < (x.k.size : Int)) = false := by simp; omega
        clear hk
        go_wp2_with fail
        refine (pick10 q _ HQW.out).mono ?_
        rintro e w2 ⟨⟨p, hp0, hp4, rfl⟩, rfl⟩
        rw [← HW3.out, ← HNB.out]
        clear hc0 hc1 hc2
        have hp : p = 0 ∨ p = 1 ∨ p = 2 ∨ p = 3 := by omega
        clear hp0 hp4
        rcases hp with rfl | rfl | rfl | rfl
        · obtain ⟨q0, q1, q2, q3⟩ := deedBox HBX.out
          go_wp2_with fail
          refine (hasPush bh v ms x _ HP3.out.has HXW.out (by have := HLE.out; omega)).mono ?_
          rintro e W5 ⟨rfl, v5, h5, g5⟩
          have HT := Lib.hid (HP3.out.turn g5 h5)
          have hb5 := (g5.block nb q3 HNO.out.1 HNO.out.2).trans HBX.out
          clear q0 q1 q2 q3 h5 g5
          obtain ⟨q0, q1, q2, q3⟩ := deedBox hb5
          clear hb5
          go_wp2_with fail
          refine (refPush u5 ms x _ HT.out.2.1 HP3.out.has.sorted (by have := HLE.out; omega) HXW.out).mono ?_
          rintro e W6 ⟨mv6, rfl, ho6, b6⟩
          have HP6 := Lib.hid (show PSt w bh v5 mv6 (ins x ms) W6 from ⟨HT.out.1.bel b6, MRow.own ho6 HT.out.1.wf, fun k hk => ⟨by have := (ho6.block k hk).1; have := HT.out.1.lt; omega, fun e => by have := (ho6.block k hk).1; have := (HT.out.1.own k e).2; omega, (ho6.block k hk).2⟩, HT.out.2.2.2.1.trans (b6.mono HT.out.2.2.2.1.size), HT.out.2.2.2.2⟩)
          have HL6 := Lib.hid (show (ins x ms).length ≤ j + 1 by rw [ins_len]; have := HLJ.out; omega)
          clear ho6 b6 q0 q1 q2 q3
          obtain ⟨qa, qc, hmv, _⟩ := HP6.out.row
          rw [hmv]
          have HMV := Lib.hid hmv
          clear hmv
          go_wp2_with fail
          refine (hasItems bh v5 (ins x ms) _ HP6.out.has (by have := HL6.out; omega)).mono ?_
          rintro e X1 ⟨ov, l, rfl, ho, hh, hll, hx1, bx1⟩
          have HX1 := Lib.hid (HP6.out.bel' bx1)
          obtain ⟨oa, oc, rfl, hor, _⟩ := OwnOf.rowOf (C := itCells) (W := fun _ => True) (fun _ => rfl) (fun _ _ => trivial) ho
          have HO := Lib.hid hor
          have HH := Lib.hid hh
          have HLL := Lib.hid hll
          rw [HLL.out]
          clear ho hor hh hll hx1 bx1
          go_wp2_with fail
          refine (hasLen bh v5 (ins x ms) _ HX1.out.has).mono ?_
          rintro e X2 ⟨rfl, rfl⟩
          go_wp2_with fail
          rw [← HLL.out]
          refine (ordered oa oc l _ HO.out HH.out (by rw [HLL.out]; have := HL6.out; omega)).mono ?_
          rintro e X3 ⟨rfl, bx3⟩
          have HX3 := Lib.hid (HX1.out.bel' bx3)
          clear bx3
          go_wp2_with fail
          go_roundw
          case rel => exact ⟨j + 1, v5, (ins x ms), by omega, by go_num, HL6, by rw [HLL.out, ← HMV.out]; exact HX3⟩
          case measure => simp [intOf]; omega
        · obtain ⟨q0, q1, q2, q3⟩ := deedBox HBX.out
          go_wp2_with fail
          refine (hasPush bh v ms x _ HP3.out.has HXW.out (by have := HLE.out; omega)).mono ?_
          rintro e W5 ⟨rfl, v5, h5, g5⟩
          have HT := Lib.hid (HP3.out.turn g5 h5)
          have hb5 := (g5.block nb q3 HNO.out.1 HNO.out.2).trans HBX.out
          clear q0 q1 q2 q3 h5 g5
          obtain ⟨q0, q1, q2, q3⟩ := deedBox hb5
          clear hb5
          go_wp2_with fail
          refine (refPush u5 ms x _ HT.out.2.1 HP3.out.has.sorted (by have := HLE.out; omega) HXW.out).mono ?_
          rintro e W6 ⟨mv6, rfl, ho6, b6⟩
          have HP6 := Lib.hid (show PSt w bh v5 mv6 (ins x ms) W6 from ⟨HT.out.1.bel b6, MRow.own ho6 HT.out.1.wf, fun k hk => ⟨by have := (ho6.block k hk).1; have := HT.out.1.lt; omega, fun e => by have := (ho6.block k hk).1; have := (HT.out.1.own k e).2; omega, (ho6.block k hk).2⟩, HT.out.2.2.2.1.trans (b6.mono HT.out.2.2.2.1.size), HT.out.2.2.2.2⟩)
          have HL6 := Lib.hid (show (ins x ms).length ≤ j + 1 by rw [ins_len]; have := HLJ.out; omega)
          clear ho6 b6 q0 q1 q2 q3
          obtain ⟨qa, qc, hmv, _⟩ := HP6.out.row
          rw [hmv]
          have HMV := Lib.hid hmv
          clear hmv
          go_wp2_with fail
          refine (hasItems bh v5 (ins x ms) _ HP6.out.has (by have := HL6.out; omega)).mono ?_
          rintro e X1 ⟨ov, l, rfl, ho, hh, hll, hx1, bx1⟩
          have HX1 := Lib.hid (HP6.out.bel' bx1)
          obtain ⟨oa, oc, rfl, hor, _⟩ := OwnOf.rowOf (C := itCells) (W := fun _ => True) (fun _ => rfl) (fun _ _ => trivial) ho
          have HO := Lib.hid hor
          have HH := Lib.hid hh
          have HLL := Lib.hid hll
          rw [HLL.out]
          clear ho hor hh hll hx1 bx1
          go_wp2_with fail
          refine (hasLen bh v5 (ins x ms) _ HX1.out.has).mono ?_
          rintro e X2 ⟨rfl, rfl⟩
          go_wp2_with fail
          rw [← HLL.out]
          refine (ordered oa oc l _ HO.out HH.out (by rw [HLL.out]; have := HL6.out; omega)).mono ?_
          rintro e X3 ⟨rfl, bx3⟩
          have HX3 := Lib.hid (HX1.out.bel' bx3)
          clear bx3
          go_wp2_with fail
          go_roundw
          case rel => exact ⟨j + 1, v5, (ins x ms), by omega, by go_num, HL6, by rw [HLL.out, ← HMV.out]; exact HX3⟩
          case measure => simp [intOf]; omega
        · cases ms with
          | nil =>
            clear HBX
            obtain ⟨ma, mc, hmv, _⟩ := id HP3.out.row
            simp only [List.length_nil] at hmv
            have HMV := Lib.hid hmv
            rw [hmv]
            clear hmv
            go_wp2_with fail
            refine (hasNo bh v _ HP3.out.has).mono ?_
            rintro e W5 ⟨rfl, h5, b5⟩
            have HP6 := Lib.hid (show PSt w bh v (.slice ma 0 mc) [] _ by rw [← HMV.out]; exact (HP3.out.bel' b5).bel' ((Below.refl W5.heap.size W5).alloc (Nat.le_refl _) (.cells #[.int .u64 0, .string ByteArray.empty] 30)))
            clear h5 b5
            go_wp2_with fail
            refine (hasItems bh v [] _ HP6.out.has (by simp)).mono ?_
            rintro e X1 ⟨ov, l, rfl, ho, hh, hll, hx1, bx1⟩
            obtain rfl : l = [] := List.eq_nil_of_length_eq_zero hll
            have HX1 := Lib.hid (HP6.out.bel' bx1)
            obtain ⟨oa, oc, rfl, hor, _⟩ := OwnOf.rowOf (C := itCells) (W := fun _ => True) (fun _ => rfl) (fun _ _ => trivial) ho
            have HO := Lib.hid hor
            have HH := Lib.hid hh
            simp only [List.length_nil]
            clear ho hor hh hll hx1 bx1
            go_wp2_with fail
            refine (hasLen bh v [] _ HX1.out.has).mono ?_
            rintro e X2 ⟨rfl, rfl⟩
            simp only [List.length_nil]
            go_wp2_with fail
            refine (ordered oa oc [] _ HO.out HH.out (by simp)).mono ?_
            rintro e X3 ⟨rfl, bx3⟩
            have HX3 := Lib.hid (HX1.out.bel' bx3)
            clear bx3
            go_wp2_with fail
            go_roundw
            case rel => exact ⟨j + 1, v, [], by omega, by go_num, Nat.zero_le _, HX3⟩
            case measure => simp [intOf]; omega
          | cons x0 ms0 =>
            go_wp2_with fail
            refine (hasPop bh v x0 ms0 _ HP3.out.has (by have := HLE.out; simp at this; omega)).mono ?_
            rintro e W5 ⟨rfl, v5, h5, g5⟩
            have HT := Lib.hid (HP3.out.turn g5 h5)
            have hb5 := (Below.refl W5.heap.size W5).alloc (Nat.le_refl _) (.cells #[.int .u64 x0.t, .string x0.k] 30)
            obtain ⟨W6, hW6⟩ : ∃ W, W = W5.alloc (.cells #[.int .u64 x0.t, .string x0.k] 30) := ⟨_, rfl⟩
            have HP6 := Lib.hid (show HasIt W6 bh v5 ms0 ∧ MRow W6 u5 (x0 :: ms0) ∧ (∀ k, u5.ownBlock = some k → k ≠ bh ∧ v5.ownBlock ≠ some k ∧ k < W6.heap.size) ∧ Below w.heap.size w W6 ∧ w.heap.size ≤ bh by
              rw [hW6]
              have hsz := hb5.size
              exact ⟨HT.out.1.bel hb5, HT.out.2.1.kept hsz fun k hk => hb5.block k (HT.out.2.2.1 k hk).2.2, fun k hk => ⟨(HT.out.2.2.1 k hk).1, (HT.out.2.2.1 k hk).2.1, Nat.lt_of_lt_of_le (HT.out.2.2.1 k hk).2.2 hsz⟩, HT.out.2.2.2.1.trans (hb5.mono HT.out.2.2.2.1.size), HT.out.2.2.2.2⟩)
            have hbb : W6.heap[W5.heap.size]? = some (.cells #[.int .u64 x0.t, .string x0.k] 30 (0, 0)) := by rw [hW6]; exact heap_alloc_new W5 _
            obtain ⟨y0, y1, y2⟩ := boxCells hbb
            have hrow := HP6.out.2.1
            obtain ⟨ma, mc, hmv, _⟩ := id hrow
            rw [hmv] at hrow
            obtain ⟨hn, mb, mo, hae, hmb, hmc, hmm, hm0, hm1, hcN, hc1⟩ := hrow.tail
            subst hae
            have HMV := Lib.hid hmv
            have HCN := Lib.hid hcN
            have HC1 := Lib.hid hc1
            have HW6 := Lib.hid hW6
            unfold maxLen at hmm
            rw [hmv]
            have dl : decide ((0 : Int) < (ms0.length : Int) + 1) = true := by simp <;> omega
            have bms : (ms0.length : Int) ≤ 200 := by have := HLE.out; simp at this; omega
            have hsl := HLE.out
            have HAP := Lib.hid (show ∀ k, k = mb → k ≠ bh ∧ v5.ownBlock ≠ some k ∧ k < W6.heap.size from fun k hk => HP6.out.2.2.1 k (by rw [HMV.out, hk]; rfl))
            clear h5 g5 hb5 hbb hn hrow hmv hcN hc1 hW6 HBX
            by_cases hcc : mc = 1
            · have HP7 := Lib.hid (show PSt w bh v5 (.slice (some ⟨mb, mo, none⟩) 0 0) ms0 W6 from ⟨HP6.out.1, by have h := HC1.out hcc; rw [h.1]; exact h.2, fun k hk => HAP.out k (by cases hk; rfl), HP6.out.2.2.2.1, HP6.out.2.2.2.2⟩)
              have HL7 := Lib.hid (show ms0.length ≤ j + 1 by have := HLJ.out; simp at this; omega)
              obtain rfl : ms0 = [] := (HC1.out hcc).1
              subst hcc
              go_wp2
              rw [← HW6.out]
              go_quiet (fail)
              have HP8 := Lib.hid (HP7.out.bel' (below_drewN (Below.refl _ _) nq))
              go_wp2_with fail
              refine (hasItems bh v5 [] _ HP8.out.has (by simp)).mono ?_
              rintro e X1 ⟨ov, l, rfl, ho, hh, hll, hx1, bx1⟩
              obtain rfl : l = [] := List.eq_nil_of_length_eq_zero hll
              have HX1 := Lib.hid (HP8.out.bel' bx1)
              obtain ⟨oa, oc, rfl, hor, _⟩ := OwnOf.rowOf (C := itCells) (W := fun _ => True) (fun _ => rfl) (fun _ _ => trivial) ho
              have HO := Lib.hid hor
              have HH := Lib.hid hh
              simp only [List.length_nil]
              clear ho hor hh hll hx1 bx1
              go_wp2_with fail
              refine (hasLen bh v5 [] _ HX1.out.has).mono ?_
              rintro e X2 ⟨rfl, rfl⟩
              simp only [List.length_nil]
              go_wp2_with fail
              refine (ordered oa oc [] _ HO.out HH.out (by simp)).mono ?_
              rintro e X3 ⟨rfl, bx3⟩
              have HX3 := Lib.hid (HX1.out.bel' bx3)
              clear bx3
              go_wp2_with fail
              go_roundw
              case rel => exact ⟨j + 1, v5, [], by omega, by go_num, Nat.zero_le _, HX3⟩
              case measure => simp [intOf]; omega
            · have HP7 := Lib.hid (show PSt w bh v5 (.slice (some ⟨mb, mo + 2, none⟩) ms0.length (mc - 1)) ms0 W6 from ⟨HP6.out.1, HCN.out hcc, fun k hk => HAP.out k (by cases hk; rfl), HP6.out.2.2.2.1, HP6.out.2.2.2.2⟩)
              have HL7 := Lib.hid (show ms0.length ≤ j + 1 by have := HLJ.out; simp at this; omega)
              go_wp2
              rw [← HW6.out]
              go_quiet (fail)
              have HP8 := Lib.hid (HP7.out.bel' (below_drewN (Below.refl _ _) nq))
              go_wp2_with fail
              refine (hasItems bh v5 ms0 _ HP8.out.has (by have := HL7.out; omega)).mono ?_
              rintro e X1 ⟨ov, l, rfl, ho, hh, hll, hx1, bx1⟩
              have HX1 := Lib.hid (HP8.out.bel' bx1)
              obtain ⟨oa, oc, rfl, hor, _⟩ := OwnOf.rowOf (C := itCells) (W := fun _ => True) (fun _ => rfl) (fun _ _ => trivial) ho
              have HO := Lib.hid hor
              have HH := Lib.hid hh
              have HLL := Lib.hid hll
              rw [HLL.out]
              clear ho hor hh hll hx1 bx1
              go_wp2_with fail
              refine (hasLen bh v5 ms0 _ HX1.out.has).mono ?_
              rintro e X2 ⟨rfl, rfl⟩
              go_wp2_with fail
              rw [← HLL.out]
              refine (ordered oa oc l _ HO.out HH.out (by rw [HLL.out]; have := HL7.out; omega)).mono ?_
              rintro e X3 ⟨rfl, bx3⟩
              have HX3 := Lib.hid (HX1.out.bel' bx3)
              clear bx3
              go_wp2_with fail
              go_roundw
              case rel => exact ⟨j + 1, v5, ms0, by omega, by go_num, HL7, by rw [HLL.out]; exact HX3⟩
              case measure => simp [intOf]; omega
        · obtain ⟨q0, q1, q2, q3⟩ := deedBox HBX.out
          go_wp2_with fail
          refine (hasDue bh v ms x.t _ HP3.out.has (by have := HLE.out; omega)).mono ?_
          rintro e W5 ⟨ov, v5, d, ms5, rfl, h5, g5, o5, hd, a5⟩
          have HT := Lib.hid (HP3.out.turn g5 h5)
          have HBX5 := Lib.hid ((g5.block nb q3 HNO.out.1 HNO.out.2).trans HBX.out)
          obtain ⟨oa, oc, rfl, hor, _⟩ := OwnOf.rowOf (C := itCells) (W := It.wf) (fun _ => rfl) (fun a ha => HP3.out.has.wf a (by rw [hd.1]; exact List.mem_append_left _ ha)) (show OwnOf 30 itCells 2 W3.heap.size W5 ov d from o5)
          have HDR := Lib.hid hor
          have HD := Lib.hid hd
          have HMR0 := Lib.hid (show MRow W5 u5 (d.drop 0 ++ ms5) by rw [List.drop_zero, ← hd.1]; exact HT.out.2.1)
          have HL5 := Lib.hid (show ms5.length ≤ j + 1 by have := HLJ.out; rw [hd.1] at this; simp at this; omega)
          have HLD := Lib.hid (show d.length + ms5.length ≤ 200 by have := HLE.out; rw [hd.1] at this; simpa using this)
          have HB50 := Lib.hid (Below.refl W5.heap.size W5)
          have HO50 := Lib.hid (fun k (hk : u5.ownBlock = some k) => hk)
          clear q0 q1 q2 q3 h5 g5 o5 hd a5 hor
          go_wp2_with fail
          obtain ⟨mv0, hmv0⟩ : ∃ mv0, mv0 = u5 := ⟨_, rfl⟩
          rw [← hmv0]
          have HM0 := Lib.hid hmv0
          clear hmv0
          go_loopw [5, 11] (fun mv k wz => ∃ (i : Nat), i ≤ d.length ∧ k = .int .i64 i ∧ Hid (MRow wz mv (d.drop i ++ ms5)) ∧ Hid (∀ k, mv.ownBlock = some k → mv0.ownBlock = some k) ∧ Hid (Below W5.heap.size W5 wz)) (fun _ k _ => d.length - (intOf k).toNat)
          case atStart => exact ⟨0, Nat.zero_le _, rfl, by rw [HM0.out]; exact HMR0, fun _ h => h, HB50⟩
          case round =>
            obtain ⟨i, hi, rfl, HMR, HOB, HBZ⟩ := hrel
            clear HMR0 HB50 HO50
            have bi0 : (0 : Int) ≤ (i : Int) := by omega
            obtain ⟨q0, q1, q2, q3⟩ := deedBox ((HBZ.out.block nb (Array.getElem?_eq_some_iff.1 HBX5.out).1).trans HBX5.out)
            have hlds := HLD.out
            by_cases hid : i < d.length
            · have bid : (i : Int) < (d.length : Int) := by omega
              obtain ⟨ob, oo, hoa, hob, hoc, _⟩ := HDR.out i hid
              obtain ⟨y, hy⟩ : ∃ y, y = d[i] := ⟨_, rfl⟩
              obtain ⟨rest, hrest⟩ : ∃ rest, rest = d.drop (i + 1) ++ ms5 := ⟨_, rfl⟩
              have hmr := HMR.out
              rw [List.drop_eq_getElem_cons hid, List.cons_append, ← hy, ← hrest] at hmr
              obtain ⟨ma, mc, hmv, _⟩ := id hmr
              rw [hmv] at hmr
              obtain ⟨hn, mb, mo, hae, hmb, hmc, hmm, hm0, hm1, hcN, hc1⟩ := hmr.tail
              subst hae hoa
              have HMV := Lib.hid hmv
              have HCN := Lib.hid hcN
              have HC1 := Lib.hid hc1
              unfold maxLen at hmm
              rw [hmv]
              rw [← hy] at hoc
              have c0 := (HBZ.out.cell (p := ⟨ob, oo + i * 2, none⟩) hob).trans (hoc 0 (by omega))
              have c1 := (HBZ.out.cell (p := ⟨ob, oo + i * 2 + 1, none⟩) hob).trans (hoc 1 (by omega))
              simp only [itCells, List.getElem?_cons_zero, List.getElem?_cons_succ] at c0 c1
              have hyt : y.t ≤ x.t := HD.out.2.1 y (by rw [hy]; exact List.getElem_mem hid)
              have dyt : decide (x.t < y.t) = false := by simp; omega
              have hzb : ob < wr.heap.size := Nat.lt_of_lt_of_le hob HBZ.out.size
              have HRS := Lib.hid hrest
              have hrl : rest.length ≤ 200 := by rw [hrest]; simp; omega
              have HOB1 := Lib.hid (show ∀ k, k = mb → mv0.ownBlock = some k from fun k hk => HOB.out k (by rw [HMV.out, hk]; rfl))
              clear hn hmr hmv hcN hc1 hoc hy hyt hrest HMR
              have dl : ((rest.length : Int) + 1 == 0) = false := by simp; omega
              by_cases hcc : mc = 1
              · have HP7 := Lib.hid (show MRow wr (.slice (some ⟨mb, mo, none⟩) 0 0) rest from by have h := HC1.out hcc; rw [h.1]; exact h.2)
                obtain rfl : rest = [] := (HC1.out hcc).1
                subst hcc
                go_wp2
                go_quiet (fail)
                have HB8 := Lib.hid (below_drewN HBZ.out nq)
                have HP8 := Lib.hid (show MRow (wr.drewN nq) (.slice (some ⟨mb, mo, none⟩) 0 0) ([] : List It) from HP7.out.kept (Nat.le_refl _) fun _ _ => rfl)
                go_wp2
                go_roundw
                case rel => exact ⟨i + 1, by omega, by go_num, by rw [← HRS.out]; exact HP8, fun k hk => HOB1.out k (by cases hk; rfl), HB8⟩
                case measure => simp [intOf]; omega
              · have HP7 := Lib.hid (HCN.out hcc)
                go_wp2
                go_quiet (fail)
                have HB8 := Lib.hid (below_drewN HBZ.out nq)
                have HP8 := Lib.hid (show MRow (wr.drewN nq) (.slice (some ⟨mb, mo + 2, none⟩) rest.length (mc - 1)) rest from HP7.out.kept (Nat.le_refl _) fun _ _ => rfl)
                go_wp2
                go_roundw
                case rel => exact ⟨i + 1, by omega, by go_num, by rw [← HRS.out]; exact HP8, fun k hk => HOB1.out k (by cases hk; rfl), HB8⟩
                case measure => simp [intOf]; omega
            · obtain rfl : i = d.length := by omega
              have hmr := HMR.out
              rw [List.drop_length, List.nil_append] at hmr
              have HP5 := Lib.hid (show PSt w bh v5 u5 ms5 wr from ⟨HT.out.1.bel HBZ.out, hmr, fun k hk => (by
                have h1 := HT.out.2.2.1 k (by rw [← HM0.out]; exact HOB.out k hk)
                exact ⟨h1.1, h1.2.1, Nat.lt_of_lt_of_le h1.2.2 HBZ.out.size⟩), HT.out.2.2.2.1.trans (HBZ.out.mono HT.out.2.2.2.1.size), HT.out.2.2.2.2⟩)
              clear HMR
              cases ms5 with
              | nil =>
                clear hmr
                obtain ⟨ma, mc, hmv, _⟩ := id HP5.out.row
                simp only [List.length_nil] at hmv
                have HP6 := Lib.hid (show PSt w bh v5 (.slice ma 0 mc) [] wr by rw [← hmv]; exact HP5.out)
                rw [hmv]
                clear hmv
                go_wp2_with fail
                refine (hasItems bh v5 [] _ HP6.out.has (by simp)).mono ?_
                rintro e X1 ⟨ov, l, rfl, ho, hh, hll, hx1, bx1⟩
                obtain rfl : l = [] := List.eq_nil_of_length_eq_zero hll
                have HX1 := Lib.hid (HP6.out.bel' bx1)
                obtain ⟨oa, oc, rfl, hor, _⟩ := OwnOf.rowOf (C := itCells) (W := fun _ => True) (fun _ => rfl) (fun _ _ => trivial) ho
                have HO := Lib.hid hor
                have HH := Lib.hid hh
                simp only [List.length_nil]
                clear ho hor hh hll hx1 bx1
                go_wp2_with fail
                refine (hasLen bh v5 [] _ HX1.out.has).mono ?_
                rintro e X2 ⟨rfl, rfl⟩
                simp only [List.length_nil]
                go_wp2_with fail
                refine (ordered oa oc [] _ HO.out HH.out (by simp)).mono ?_
                rintro e X3 ⟨rfl, bx3⟩
                have HX3 := Lib.hid (HX1.out.bel' bx3)
                clear bx3
                go_wp2_with fail
                go_roundw
                case rel => exact ⟨j + 1, v5, [], by omega, by go_num, Nat.zero_le _, HX3⟩
                case measure => simp [intOf]; omega
              | cons x0 r =>
                obtain ⟨ma, mc, hmv, _⟩ := id hmr
                rw [hmv] at hmr
                obtain ⟨hn, mb, mo, hae, hmb, hmc, hmm, hm0, hm1, _, _⟩ := hmr.tail
                subst hae
                have HMV := Lib.hid hmv
                rw [hmv]
                have dl : decide ((0 : Int) < (r.length : Int) + 1) = true := by simp <;> omega
                have hx0 := HD.out.2.2 x0 r rfl
                have dx : decide (x0.t ≤ x.t) = false := by simp; omega
                have bmr : (r.length : Int) ≤ 200 := by simp at hlds; omega
                clear hn hmr hmv hx0
                go_wp2
                go_quiet (fail)
                have HP8 := Lib.hid (HP5.out.bel' (below_drewN (Below.refl _ _) nq))
                go_wp2_with fail
                refine (hasItems bh v5 (x0 :: r) _ HP8.out.has (by have := HL5.out; omega)).mono ?_
                rintro e X1 ⟨ov, l, rfl, ho, hh, hll, hx1, bx1⟩
                have HX1 := Lib.hid (HP8.out.bel' bx1)
                obtain ⟨oa, oc, rfl, hor, _⟩ := OwnOf.rowOf (C := itCells) (W := fun _ => True) (fun _ => rfl) (fun _ _ => trivial) ho
                have HO := Lib.hid hor
                have HH := Lib.hid hh
                simp only [List.length_cons] at hll
                have HLL := Lib.hid hll
                rw [HLL.out]
                clear ho hor hh hll hx1 bx1
                go_wp2_with fail
                refine (hasLen bh v5 (x0 :: r) _ HX1.out.has).mono ?_
                rintro e X2 ⟨rfl, rfl⟩
                go_wp2_with fail
                rw [← HLL.out]
                refine (ordered oa oc l _ HO.out HH.out (by rw [HLL.out]; have := HL5.out; simp at this; omega)).mono ?_
                rintro e X3 ⟨rfl, bx3⟩
                have HX3 := Lib.hid (HX1.out.bel' bx3)
                clear bx3
                go_wp2_with fail
                go_roundw
                case rel => exact ⟨j + 1, v5, (x0 :: r), by omega, by go_num, HL5, by rw [HLL.out]; have h := HX3.out; rw [HMV.out] at h; exact h⟩
                case measure => simp [intOf]; omega
    · obtain rfl : j = z.length := by omega
      have HB := Lib.hid HP.out.bel
      go_wp2
      go_ret
      exact ⟨rfl, HB.out⟩
theorem ExpiryPlays_walk (a0 : Option Addr) (len0 cap0 : Nat) (z0 : In_ExpiryPlays_0.T) (w : World) (w0 : In_ExpiryPlays_0 w a0 len0 cap0 z0) :
    LawOk Try.prog 4 #[.slice a0 len0 cap0] w := by
  obtain ⟨rfl, hz, _⟩ := w0
  by_cases h : 200 < z0.length
  · exact playsHead a0 _ cap0 w h
  · exact playsMain a0 cap0 z0 w (by omega) hz
end Go.Proofs.Ytnpalplnpfgibaa
