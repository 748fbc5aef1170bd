/- The walk of PackPuts. -/
import Derived.Test.YtkfpolhglndbkaaRegOps
import Derived.BigQuiet
namespace Go.Proofs.Ytkfpolhglndbkaa
open Go.RowKit

def PDone (w : World) (e : Ending) (w' : World) : Prop := e = .returned (.bool true) ∧ Below w.heap.size w w'
theorem Bytes.bel {w w' : World} {v : Value} {l : List UInt8} (h : Bytes w v l) (hb : Below w.heap.size w w') : Bytes w' v l := by
  obtain ⟨a, cap, hv, hi⟩ := h
  exact ⟨a, cap, hv, hi.bel hb⟩

set_option maxRecDepth 100000 in
set_option maxHeartbeats 2000000 in
theorem putsHead (a0 : Option Addr) (m cap0 : Nat) (a1 a2 : Int) (s : ByteArray) (w : World) (h0 : 500 < m ∨ 70000 < s.size) :
    Calls Try.prog 10 #[.slice a0 m cap0, .int .u64 a1, .int .i64 a2, .string s] w (PDone w) := by
  by_cases d0 : 500 < m
  · have e0 : decide ((500 : Int) < (m : Int)) = true := by simp; omega
    go_enter Try.func10, Try.ntmps10
    go_wp2_with fail
    refine (packUp _).mono ?_
    rintro e W1 ⟨rfl, hb⟩
    go_wp2_with fail
    go_ret
    exact ⟨rfl, hb⟩
  have e0 : decide ((500 : Int) < (m : Int)) = false := by simp; omega
  have e1 : decide ((70000 : Int) < (s.size : Int)) = true := by simp; omega
  go_enter Try.func10, Try.ntmps10
  go_wp2_with fail
  refine (packUp _).mono ?_
  rintro e W1 ⟨rfl, hb⟩
  go_wp2_with fail
  go_ret
  exact ⟨rfl, hb⟩

set_option maxRecDepth 100000 in
set_option maxHeartbeats 4000000 in
theorem putsMain (a0 : Option Addr) (cap0 : Nat) (l : List UInt8) (n k : Nat) (s : ByteArray) (w : World) (h0 : l.length ≤ 500) (h1 : s.size ≤ 70000) (hn : n < 18446744073709551616) (hk : k ≤ 8) (hb0 : IsBytes w a0 l) :
    Calls Try.prog 10 #[.slice a0 l.length cap0, .int .u64 n, .int .i64 k, .string s] w (PDone w) := by
  have HN := Lib.hid hn
  have hs : s.size ≤ maxLen := by unfold maxLen; omega
  have HSX := Lib.hid hs
  have HI := Lib.hid hb0
  clear hn hs hb0
  have e0 : decide ((500 : Int) < (l.length : Int)) = false := by simp; omega
  have e1 : decide ((70000 : Int) < (s.size : Int)) = false := by simp; omega
  have e2 : decide ((k : Int) < 0) = false := by simp
  have e3 : decide ((8 : Int) < (k : Int)) = false := by simp; omega
  have hpl : (putL n k).length = k := by simp [putL]
  have HPL := Lib.hid hpl
  clear hpl
  go_enter Try.func10, Try.ntmps10
  go_wp2_with fail
  refine (packUp _).mono ?_
  rintro e W1 ⟨rfl, hb1⟩
  have I1 := Lib.hid (HI.out.bel hb1)
  have HQ1 := Lib.hid hb1
  clear hb1
  go_wp2_with (at_builtin; refine wpList_append_bytes rfl (.tmp 23) (.tmp 24) 27 rfl W1.heap.size _ [] rfl (OwnB.empty _ W1 (Nat.le_refl _)) _ l rfl (SrcB.ofBytes cap0 (I1.out.alloc _)) ?c1 ?c2 ?hh1)
  case c1 => simp
  case c2 => simp; omega
  intro v2 W2 ho2 hg2
  have hb2 : Below W1.heap.size W1 W2 := ((Below.refl _ W1).alloc (Nat.le_refl _) _).trans (below_of_grown (OwnB.empty _ W1 (Nat.le_refl _)) (by simp) hg2)
  have I2 := Lib.hid (I1.out.bel hb2)
  have HQ2 := Lib.hid (below_next HQ1.out hb2)
  clear ho2 hg2 hb2 HQ1 I1 HI
  go_wp2_with (at_builtin; refine wpList_append_bytes rfl (.tmp 43) (.tmp 44) 27 rfl W2.heap.size _ [] rfl (OwnB.empty _ W2 (Nat.le_refl _)) _ l rfl (SrcB.ofBytes cap0 (I2.out.alloc _)) ?c3 ?c4 ?hh2)
  case c3 => simp
  case c4 => simp; omega
  intro v3 W3 ho3 hg3
  have hb3 : Below W2.heap.size W2 W3 := ((Below.refl _ W2).alloc (Nat.le_refl _) _).trans (below_of_grown (OwnB.empty _ W2 (Nat.le_refl _)) (by simp) hg3)
  have HO3 := Lib.hid ho3
  have HB3 := Lib.hid hb3
  clear ho3 hg3 hb3
  go_wp2_with fail
  refine (packPutN W2.heap.size v3 l n k _ HO3.out HB3.out.size (by omega) HN.out hk).mono ?_
  rintro e W4 ⟨va, rfl, ho4, hg4⟩
  have hb4 : Below W2.heap.size W2 W4 := HB3.out.trans (below_of_grown HO3.out HB3.out.size hg4)
  have I4 := Lib.hid (I2.out.bel hb4)
  have HQ4 := Lib.hid (below_next HQ2.out hb4)
  have HA4 := Lib.hid ho4
  clear ho4 hg4 hb4 HB3 HO3 HQ2 I2
  go_wp2_with (at_builtin; refine wpList_append_bytes rfl (.tmp 49) (.tmp 50) 27 rfl W4.heap.size _ [] rfl (OwnB.empty _ W4 (Nat.le_refl _)) _ l rfl (SrcB.ofBytes cap0 (I4.out.alloc _)) ?c5 ?c6 ?hh3)
  case c5 => simp
  case c6 => simp; omega
  intro v5 W5 ho5 hg5
  have hb5 : Below W4.heap.size W4 W5 := ((Below.refl _ W4).alloc (Nat.le_refl _) _).trans (below_of_grown (OwnB.empty _ W4 (Nat.le_refl _)) (by simp) hg5)
  have HO5 := Lib.hid ho5
  have HB5 := Lib.hid hb5
  clear ho5 hg5 hb5
  go_wp2_with fail
  refine (packPutText W4.heap.size v5 l s _ HO5.out HB5.out.size (by omega) HSX.out).mono ?_
  rintro e W6 ⟨vb, rfl, ho6, hg6⟩
  have hb6 : Below W4.heap.size W4 W6 := HB5.out.trans (below_of_grown HO5.out HB5.out.size hg6)
  have I6 := Lib.hid (I4.out.bel hb6)
  have HQ6 := Lib.hid (below_next HQ4.out hb6)
  have HA6 := Lib.hid (HA4.out.bel hb6).bytes
  have HB6 := Lib.hid ho6.bytes
  clear ho6 hg6 hb6 HB5 HO5 HQ4 I4 HA4 e0 e1 e2 e3
  go_wp2_with fail
  have HA := Lib.hid (fun (w : World) (hR : Reg.belB W6.heap.size W6.drew w) => HA6.out.bel (((Below.refl _ W6).drew).trans hR))
  have HBB := Lib.hid (fun (w : World) (hR : Reg.belB W6.heap.size W6.drew w) => HB6.out.bel (((Below.refl _ W6).drew).trans hR))
  have HL0 := Lib.hid (fun (w : World) (hR : Reg.belB W6.heap.size W6.drew w) => I6.out.bel (((Below.refl _ W6).drew).trans hR))
  clear HA6 HB6 I6
  refine Reg.wp_regionL (putsLive W6.heap.size l n k s) (by kernel_rfl) (by kernel_rfl) ?_
  refine Reg.segL 3 (by kernel_rfl) rfl (by kernel_rfl) ?_
  apply Exists.intro
  refine ⟨fun e => ?_, ?_⟩
  · simp only [List.take_succ_cons, List.take_zero]
    repeat (go_big_quiet_step ((intro _; rfl)))
    refine wpQuiet_nil ?_
    exact rfl
  simp only [List.drop_succ_cons, List.drop_zero, Nat.reduceAdd]
  refine Reg.constS (.string ⟨(l ++ putL n k).toArray⟩) (fun _ => Below.refl _ _) (by kernel_rfl) (fun e w L hN hR hJ hf => ⟨by rfl, ?_⟩) ?_
  · refine Reg.gives_mono (fun v' w' h => ?_) (gives_string (.tmp 56) rfl (v := va) rfl (HA.out w hR))
    obtain ⟨rfl, rfl⟩ := h
    exact ⟨rfl, rfl⟩
  simp only [Act.put, List.setIfInBounds_toArray, List.set_cons_zero, List.set_cons_succ, Nat.reduceAdd]
  refine Reg.factL (by kernel_rfl) (fun e w L hN hR hJ hf => ⟨by rfl, ?_⟩) ?_
  · refine Reg.gives_mono (fun v' w' h => ?_) (gives_empty rfl)
    obtain ⟨rfl, rfl⟩ := h
    have hnew := OwnB.empty W6.heap.size w hR.size
    exact ⟨(Below.refl _ _).alloc hR.size _, ⟨fun _ => hnew, fun h => absurd h (by decide), fun h => absurd h (by decide), fun h => absurd h (by decide), fun h => absurd h (by decide), fun h => absurd h (by decide), trivial⟩⟩
  simp only [Act.put, List.setIfInBounds_toArray, List.set_cons_zero, List.set_cons_succ, Nat.reduceAdd]
  refine Reg.segL 1 (by kernel_rfl) rfl (by kernel_rfl) ?_
  apply Exists.intro
  refine ⟨fun e => ?_, ?_⟩
  · simp only [List.take_succ_cons, List.take_zero]
    repeat (go_big_quiet_step ((intro _; rfl)))
    refine wpQuiet_nil ?_
    exact rfl
  simp only [List.drop_succ_cons, List.drop_zero, Nat.reduceAdd]
  refine Reg.factL (by kernel_rfl) (fun e w L hN hR hJ hf => ⟨by rfl, ?_⟩) ?_
  · have ho := Reg.liveJ_get hJ (j := 4) (d := 6) (Φ := fun v w => OwnB W6.heap.size w v []) (by simp [putsLive]) (hN.2.1 4 (by kernel_rfl)) hN.1
    refine Reg.gives_mono (fun v' w' h => ?_) (gives_append (.tmp 58) (.tmp 59) rfl W6.heap.size _ [] rfl ho _ l rfl (SrcB.ofBytes cap0 (HL0.out w hR)) hR.size (by simp; omega))
    have hnew := h.1
    exact ⟨below_of_grown ho hR.size h.2, ⟨fun h => absurd h (by decide), fun _ => hnew, fun h => absurd h (by decide), fun h => absurd h (by decide), fun h => absurd h (by decide), fun h => absurd h (by decide), trivial⟩⟩
  simp only [Act.put, List.setIfInBounds_toArray, List.set_cons_zero, List.set_cons_succ, Nat.reduceAdd]
  refine Reg.segL 2 (by kernel_rfl) rfl (by kernel_rfl) ?_
  apply Exists.intro
  refine ⟨fun e => ?_, ?_⟩
  · simp only [List.take_succ_cons, List.take_zero]
    repeat (go_big_quiet_step ((intro _; rfl)))
    refine wpQuiet_nil ?_
    exact rfl
  simp only [List.drop_succ_cons, List.drop_zero, Nat.reduceAdd]
  refine Reg.factL (by kernel_rfl) (fun e w L hN hR hJ hf => ⟨by rfl, ?_⟩) ?_
  · have ho := Reg.liveJ_get hJ (j := 6) (d := 9) (Φ := fun v w => OwnB W6.heap.size w v l) (by simp [putsLive]) (hN.2.1 6 (by kernel_rfl)) hN.1
    unfold Reg.gives
    clear hf
    go_simp
    refine (refPut W6.heap.size _ l n k w ho hR.size (by omega) HN.out hk).mono ?_
    rintro en w' ⟨v', rfl, hnew, hg⟩
    exact ⟨v', rfl, below_of_grown ho hR.size hg, ⟨fun h => absurd h (by decide), fun h => absurd h (by decide), fun _ => hnew, fun h => absurd h (by decide), fun h => absurd h (by decide), fun h => absurd h (by decide), trivial⟩⟩
  simp only [Act.put, List.setIfInBounds_toArray, List.set_cons_zero, List.set_cons_succ, Nat.reduceAdd]
  refine Reg.constL (.string ⟨(l ++ putL n k).toArray⟩) (by kernel_rfl) (fun e w L hN hR hJ hf => ⟨by rfl, ?_⟩) ?_
  · have ho := Reg.liveJ_get hJ (j := 9) (d := 10) (Φ := fun v w => OwnB W6.heap.size w v (l ++ putL n k)) (by simp [putsLive]) (hN.2.1 9 (by kernel_rfl)) hN.1
    refine Reg.gives_mono (fun v' w' h => ?_) (gives_string (.tmp 63) rfl (v := e 9) rfl ho.bytes)
    obtain ⟨rfl, rfl⟩ := h
    exact ⟨Below.refl _ _, ⟨fun h => absurd h (by decide), fun h => absurd h (by decide), fun h => absurd h (by decide), fun h => absurd h (by decide), fun h => absurd h (by decide), fun h => absurd h (by decide), trivial⟩, rfl⟩
  simp only [Act.put, List.setIfInBounds_toArray, List.set_cons_zero, List.set_cons_succ, Nat.reduceAdd]
  refine Reg.segL 4 (by kernel_rfl) rfl (by kernel_rfl) ?_
  apply Exists.intro
  refine ⟨fun e => ?_, ?_⟩
  · simp only [List.take_succ_cons, List.take_zero]
    repeat (go_big_quiet_step ((intro _; rfl)))
    refine wpQuiet_nil ?_
    exact rfl
  simp only [List.drop_succ_cons, List.drop_zero, Nat.reduceAdd]
  refine Reg.constS (.string ⟨(l ++ textL s.data.toList).toArray⟩) (fun _ => Below.refl _ _) (by kernel_rfl) (fun e w L hN hR hJ hf => ⟨by rfl, ?_⟩) ?_
  · refine Reg.gives_mono (fun v' w' h => ?_) (gives_string (.tmp 68) rfl (v := vb) rfl (HBB.out w hR))
    obtain ⟨rfl, rfl⟩ := h
    exact ⟨rfl, rfl⟩
  simp only [Act.put, List.setIfInBounds_toArray, List.set_cons_zero, List.set_cons_succ, Nat.reduceAdd]
  refine Reg.factL (by kernel_rfl) (fun e w L hN hR hJ hf => ⟨by rfl, ?_⟩) ?_
  · refine Reg.gives_mono (fun v' w' h => ?_) (gives_empty rfl)
    obtain ⟨rfl, rfl⟩ := h
    have hnew := OwnB.empty W6.heap.size w hR.size
    exact ⟨(Below.refl _ _).alloc hR.size _, ⟨fun h => absurd h (by decide), fun h => absurd h (by decide), fun h => absurd h (by decide), fun _ => hnew, fun h => absurd h (by decide), fun h => absurd h (by decide), trivial⟩⟩
  simp only [Act.put, List.setIfInBounds_toArray, List.set_cons_zero, List.set_cons_succ, Nat.reduceAdd]
  refine Reg.segL 1 (by kernel_rfl) rfl (by kernel_rfl) ?_
  apply Exists.intro
  refine ⟨fun e => ?_, ?_⟩
  · simp only [List.take_succ_cons, List.take_zero]
    repeat (go_big_quiet_step ((intro _; rfl)))
    refine wpQuiet_nil ?_
    exact rfl
  simp only [List.drop_succ_cons, List.drop_zero, Nat.reduceAdd]
  refine Reg.factL (by kernel_rfl) (fun e w L hN hR hJ hf => ⟨by rfl, ?_⟩) ?_
  · have ho := Reg.liveJ_get hJ (j := 16) (d := 18) (Φ := fun v w => OwnB W6.heap.size w v []) (by simp [putsLive]) (hN.2.1 16 (by kernel_rfl)) hN.1
    refine Reg.gives_mono (fun v' w' h => ?_) (gives_append (.tmp 70) (.tmp 71) rfl W6.heap.size _ [] rfl ho _ l rfl (SrcB.ofBytes cap0 (HL0.out w hR)) hR.size (by simp; omega))
    have hnew := h.1
    exact ⟨below_of_grown ho hR.size h.2, ⟨fun h => absurd h (by decide), fun h => absurd h (by decide), fun h => absurd h (by decide), fun h => absurd h (by decide), fun _ => hnew, fun h => absurd h (by decide), trivial⟩⟩
  simp only [Act.put, List.setIfInBounds_toArray, List.set_cons_zero, List.set_cons_succ, Nat.reduceAdd]
  refine Reg.segL 1 (by kernel_rfl) rfl (by kernel_rfl) ?_
  apply Exists.intro
  refine ⟨fun e => ?_, ?_⟩
  · simp only [List.take_succ_cons, List.take_zero]
    repeat (go_big_quiet_step ((intro _; rfl)))
    refine wpQuiet_nil ?_
    exact rfl
  simp only [List.drop_succ_cons, List.drop_zero, Nat.reduceAdd]
  refine Reg.factL (by kernel_rfl) (fun e w L hN hR hJ hf => ⟨by rfl, ?_⟩) ?_
  · have ho := Reg.liveJ_get hJ (j := 18) (d := 20) (Φ := fun v w => OwnB W6.heap.size w v l) (by simp [putsLive]) (hN.2.1 18 (by kernel_rfl)) hN.1
    unfold Reg.gives
    clear hf
    go_simp
    refine (refText W6.heap.size _ l s w ho hR.size (by omega) HSX.out).mono ?_
    rintro en w' ⟨v', rfl, hnew, hg⟩
    exact ⟨v', rfl, below_of_grown ho hR.size hg, ⟨fun h => absurd h (by decide), fun h => absurd h (by decide), fun h => absurd h (by decide), fun h => absurd h (by decide), fun h => absurd h (by decide), fun _ => hnew, trivial⟩⟩
  simp only [Act.put, List.setIfInBounds_toArray, List.set_cons_zero, List.set_cons_succ, Nat.reduceAdd]
  refine Reg.constL (.string ⟨(l ++ textL s.data.toList).toArray⟩) (by kernel_rfl) (fun e w L hN hR hJ hf => ⟨by rfl, ?_⟩) ?_
  · have ho := Reg.liveJ_get hJ (j := 20) (d := 21) (Φ := fun v w => OwnB W6.heap.size w v (l ++ textL s.data.toList)) (by simp [putsLive]) (hN.2.1 20 (by kernel_rfl)) hN.1
    refine Reg.gives_mono (fun v' w' h => ?_) (gives_string (.tmp 74) rfl (v := e 20) rfl ho.bytes)
    obtain ⟨rfl, rfl⟩ := h
    exact ⟨Below.refl _ _, ⟨fun h => absurd h (by decide), fun h => absurd h (by decide), fun h => absurd h (by decide), fun h => absurd h (by decide), fun h => absurd h (by decide), fun h => absurd h (by decide), trivial⟩, rfl⟩
  simp only [Act.put, List.setIfInBounds_toArray, List.set_cons_zero, List.set_cons_succ, Nat.reduceAdd]
  refine Reg.segL 3 (by kernel_rfl) rfl (by kernel_rfl) ?_
  apply Exists.intro
  refine ⟨fun e => ?_, ?_⟩
  · simp only [List.take_succ_cons, List.take_zero]
    repeat (go_big_quiet_step ((intro _; rfl)))
    refine wpQuiet_nil ?_
    exact rfl
  simp only [List.drop_succ_cons, List.drop_zero, Nat.reduceAdd]
  intro e W7 hR hJ hf
  go_wp2
  go_ret
  exact ⟨rfl, below_next HQ6.out (((Below.refl _ W6).drew).trans hR)⟩

set_option maxRecDepth 100000 in
set_option maxHeartbeats 4000000 in
theorem putsNone (a0 : Option Addr) (cap0 : Nat) (l : List UInt8) (n : Nat) (a2 : Int) (s : ByteArray) (w : World) (h0 : l.length ≤ 500) (h1 : s.size ≤ 70000) (hk : a2 < 0 ∨ 8 < a2) (hb0 : IsBytes w a0 l) :
    Calls Try.prog 10 #[.slice a0 l.length cap0, .int .u64 n, .int .i64 a2, .string s] w (PDone w) := by
  have HK := Lib.hid (show a2 < 1 ∨ 8 < a2 by omega)
  have HI := Lib.hid hb0
  clear hb0
  have e0 : decide ((500 : Int) < (l.length : Int)) = false := by simp; omega
  have e1 : decide ((70000 : Int) < (s.size : Int)) = false := by simp; omega
  by_cases hneg : a2 < 0
  · have e2 : decide (a2 < 0) = true := by simp; omega
    clear hk hneg
    go_enter Try.func10, Try.ntmps10
    go_wp2_with fail
    refine (packUp _).mono ?_
    rintro e W1 ⟨rfl, hb1⟩
    have I1 := Lib.hid (HI.out.bel hb1)
    have HQ1 := Lib.hid hb1
    clear hb1
    go_wp2_with (at_builtin; refine wpList_append_bytes rfl (.tmp 23) (.tmp 24) 27 rfl W1.heap.size _ [] rfl (OwnB.empty _ W1 (Nat.le_refl _)) _ l rfl (SrcB.ofBytes cap0 (I1.out.alloc _)) ?cA1 ?cA2 ?hhA1)
    case cA1 => simp
    case cA2 => simp; omega
    intro v2 W2 ho2 hg2
    have hb2 : Below W1.heap.size W1 W2 := ((Below.refl _ W1).alloc (Nat.le_refl _) _).trans (below_of_grown (OwnB.empty _ W1 (Nat.le_refl _)) (by simp) hg2)
    have I2 := Lib.hid (I1.out.bel hb2)
    have HQ2 := Lib.hid (below_next HQ1.out hb2)
    have HO2 := Lib.hid ho2.bytes
    clear ho2 hg2 hb2 HQ1 I1 HI
    go_wp2_with fail
    have HA := Lib.hid (fun (w : World) (hR : Reg.bel W2.drew w) => HO2.out.bel (((Below.refl _ W2).drew).trans hR))
    have HL0 := Lib.hid (fun (w : World) (hR : Reg.bel W2.drew w) => (⟨a0, cap0, rfl, I2.out.bel (((Below.refl _ W2).drew).trans hR)⟩ : Bytes w (.slice a0 l.length cap0) l))
    clear HO2 I2
    refine Reg.wp_region0 (by kernel_rfl) (by kernel_rfl) ?_
    refine Reg.seg0 5 (by kernel_rfl) rfl ?_
    apply Exists.intro
    refine ⟨fun e => ?_, ?_⟩
    · simp only [List.take_succ_cons, List.take_zero]
      repeat (go_big_quiet_step ((intro _; rfl)))
      refine wpQuiet_nil ?_
      exact rfl
    simp only [List.drop_succ_cons, List.drop_zero, Nat.reduceAdd]
    refine Reg.const0 v2 (fun e w hR hf => ⟨by rfl, ?_⟩) ?_
    · unfold Reg.gives
      clear hf
      go_simp
      exact (packPut_none v2 n a2 _ HK.out).mono fun e w' h => ⟨h.1, by rw [← h.2]; exact Reg.bel_refl _⟩
    simp only [Act.put, List.setIfInBounds_toArray, List.set_cons_zero, List.set_cons_succ, Nat.reduceAdd]
    refine Reg.const0 (.string ⟨l.toArray⟩) (fun e w hR hf => ⟨by rfl, ?_⟩) ?_
    · refine Reg.gives_mono (fun v' w' h => ?_) (gives_string (.tmp 37) rfl (v := v2) rfl (HA.out w hR))
      obtain ⟨rfl, rfl⟩ := h
      exact ⟨Reg.bel_refl _, rfl⟩
    simp only [Act.put, List.setIfInBounds_toArray, List.set_cons_zero, List.set_cons_succ, Nat.reduceAdd]
    refine Reg.seg0 1 (by kernel_rfl) rfl ?_
    apply Exists.intro
    refine ⟨fun e => ?_, ?_⟩
    · simp only [List.take_succ_cons, List.take_zero]
      repeat (go_big_quiet_step ((intro _; rfl)))
      refine wpQuiet_nil ?_
      exact rfl
    simp only [List.drop_succ_cons, List.drop_zero, Nat.reduceAdd]
    refine Reg.const0 (.string ⟨l.toArray⟩) (fun e w hR hf => ⟨by rfl, ?_⟩) ?_
    · refine Reg.gives_mono (fun v' w' h => ?_) (gives_string (.tmp 39) rfl (v := (.slice a0 l.length cap0)) rfl (HL0.out w hR))
      obtain ⟨rfl, rfl⟩ := h
      exact ⟨Reg.bel_refl _, rfl⟩
    simp only [Act.put, List.setIfInBounds_toArray, List.set_cons_zero, List.set_cons_succ, Nat.reduceAdd]
    refine Reg.seg0 3 (by kernel_rfl) rfl ?_
    apply Exists.intro
    refine ⟨fun e => ?_, ?_⟩
    · simp only [List.take_succ_cons, List.take_zero]
      repeat (go_big_quiet_step ((intro _; rfl)))
      refine wpQuiet_nil ?_
      exact rfl
    simp only [List.drop_succ_cons, List.drop_zero, Nat.reduceAdd]
    intro e W7 hR hJ hf
    go_wp2
    go_ret
    exact ⟨by simp, below_next HQ2.out (((Below.refl _ W2).drew).trans hR)⟩
  · have e2 : decide (a2 < 0) = false := by simp; omega
    have e3 : decide ((8 : Int) < a2) = true := by simp; omega
    clear hk hneg
    go_enter Try.func10, Try.ntmps10
    go_wp2_with fail
    refine (packUp _).mono ?_
    rintro e W1 ⟨rfl, hb1⟩
    have I1 := Lib.hid (HI.out.bel hb1)
    have HQ1 := Lib.hid hb1
    clear hb1
    go_wp2_with (at_builtin; refine wpList_append_bytes rfl (.tmp 23) (.tmp 24) 27 rfl W1.heap.size _ [] rfl (OwnB.empty _ W1 (Nat.le_refl _)) _ l rfl (SrcB.ofBytes cap0 (I1.out.alloc _)) ?cB1 ?cB2 ?hhB1)
    case cB1 => simp
    case cB2 => simp; omega
    intro v2 W2 ho2 hg2
    have hb2 : Below W1.heap.size W1 W2 := ((Below.refl _ W1).alloc (Nat.le_refl _) _).trans (below_of_grown (OwnB.empty _ W1 (Nat.le_refl _)) (by simp) hg2)
    have I2 := Lib.hid (I1.out.bel hb2)
    have HQ2 := Lib.hid (below_next HQ1.out hb2)
    have HO2 := Lib.hid ho2.bytes
    clear ho2 hg2 hb2 HQ1 I1 HI
    go_wp2_with fail
    have HA := Lib.hid (fun (w : World) (hR : Reg.bel W2.drew w) => HO2.out.bel (((Below.refl _ W2).drew).trans hR))
    have HL0 := Lib.hid (fun (w : World) (hR : Reg.bel W2.drew w) => (⟨a0, cap0, rfl, I2.out.bel (((Below.refl _ W2).drew).trans hR)⟩ : Bytes w (.slice a0 l.length cap0) l))
    clear HO2 I2
    refine Reg.wp_region0 (by kernel_rfl) (by kernel_rfl) ?_
    refine Reg.seg0 5 (by kernel_rfl) rfl ?_
    apply Exists.intro
    refine ⟨fun e => ?_, ?_⟩
    · simp only [List.take_succ_cons, List.take_zero]
      repeat (go_big_quiet_step ((intro _; rfl)))
      refine wpQuiet_nil ?_
      exact rfl
    simp only [List.drop_succ_cons, List.drop_zero, Nat.reduceAdd]
    refine Reg.const0 v2 (fun e w hR hf => ⟨by rfl, ?_⟩) ?_
    · unfold Reg.gives
      clear hf
      go_simp
      exact (packPut_none v2 n a2 _ HK.out).mono fun e w' h => ⟨h.1, by rw [← h.2]; exact Reg.bel_refl _⟩
    simp only [Act.put, List.setIfInBounds_toArray, List.set_cons_zero, List.set_cons_succ, Nat.reduceAdd]
    refine Reg.const0 (.string ⟨l.toArray⟩) (fun e w hR hf => ⟨by rfl, ?_⟩) ?_
    · refine Reg.gives_mono (fun v' w' h => ?_) (gives_string (.tmp 37) rfl (v := v2) rfl (HA.out w hR))
      obtain ⟨rfl, rfl⟩ := h
      exact ⟨Reg.bel_refl _, rfl⟩
    simp only [Act.put, List.setIfInBounds_toArray, List.set_cons_zero, List.set_cons_succ, Nat.reduceAdd]
    refine Reg.seg0 1 (by kernel_rfl) rfl ?_
    apply Exists.intro
    refine ⟨fun e => ?_, ?_⟩
    · simp only [List.take_succ_cons, List.take_zero]
      repeat (go_big_quiet_step ((intro _; rfl)))
      refine wpQuiet_nil ?_
      exact rfl
    simp only [List.drop_succ_cons, List.drop_zero, Nat.reduceAdd]
    refine Reg.const0 (.string ⟨l.toArray⟩) (fun e w hR hf => ⟨by rfl, ?_⟩) ?_
    · refine Reg.gives_mono (fun v' w' h => ?_) (gives_string (.tmp 39) rfl (v := (.slice a0 l.length cap0)) rfl (HL0.out w hR))
      obtain ⟨rfl, rfl⟩ := h
      exact ⟨Reg.bel_refl _, rfl⟩
    simp only [Act.put, List.setIfInBounds_toArray, List.set_cons_zero, List.set_cons_succ, Nat.reduceAdd]
    refine Reg.seg0 3 (by kernel_rfl) rfl ?_
    apply Exists.intro
    refine ⟨fun e => ?_, ?_⟩
    · simp only [List.take_succ_cons, List.take_zero]
      repeat (go_big_quiet_step ((intro _; rfl)))
      refine wpQuiet_nil ?_
      exact rfl
    simp only [List.drop_succ_cons, List.drop_zero, Nat.reduceAdd]
    intro e W7 hR hJ hf
    go_wp2
    go_ret
    exact ⟨by simp, below_next HQ2.out (((Below.refl _ W2).drew).trans hR)⟩

theorem PackPuts_walk (a0 : Option Addr) (len0 cap0 : Nat) (z0 : List Int) (a1 : Int) (a2 : Int) (a3 : ByteArray) (w : World) (w0 : IsRow .u8 w a0 len0 cap0 z0) (w1 : (Lit.int .u64 a1).wf = true) (_w2 : (Lit.int .i64 a2).wf = true) (_w3 : a3.size ≤ maxLen) :
    LawOk Try.prog 10 #[.slice a0 len0 cap0, .int .u64 a1, .int .i64 a2, .string a3] w := by
  obtain ⟨l, rfl, _, _, hI⟩ := w0.bytes
  obtain ⟨n, rfl, hn⟩ := u64_of_wf w1
  show Calls _ _ _ w (PDone w)
  by_cases h0 : 500 < l.length ∨ 70000 < a3.size
  · exact putsHead a0 _ cap0 _ a2 a3 w h0
  by_cases hk : a2 < 0 ∨ 8 < a2
  · exact putsNone a0 cap0 l n a2 a3 w (by omega) (by omega) hk hI
  · obtain ⟨k, rfl⟩ := Int.eq_ofNat_of_zero_le (show 0 ≤ a2 by omega)
    exact putsMain a0 cap0 l n k a3 w (by omega) (by omega) hn (by omega) hI
end Go.Proofs.Ytkfpolhglndbkaa
