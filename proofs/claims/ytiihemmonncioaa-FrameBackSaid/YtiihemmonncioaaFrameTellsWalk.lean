/- The walk of FrameTells. -/
import Derived.Test.YtiihemmonncioaaFrameUp
import Derived.Test.YtiihemmonncioaaFrameRef
import Derived.Test.YtiihemmonncioaaRefGet
import Derived.Test.YtiihemmonncioaaRegStr
import Derived.Test.YtiihemmonncioaaReads
import Derived.BigQuiet
namespace Go.Proofs.Ytiihemmonncioaa
open Go.RowKit
theorem getL_code (b : List UInt8) : (getL b).2.2 ≤ 15 := by
  obtain ⟨n1, l1, s1, n2, l2, s2, _, _, _, _, h⟩ := getL_steps b
  rcases h with ⟨_, h⟩ | ⟨_, _, _, _, _, ⟨_, h⟩ | ⟨_, _, h⟩ | ⟨_, _, _, h⟩ | ⟨_, _, _, h⟩⟩
  · rw [h]; decide
  · rw [h]; decide
  · rw [h]; decide
  · rw [h]; decide
  · rw [h]
    split
    · exact Nat.zero_le _
    · decide
def TDone (w : World) (e : Ending) (w' : World) : Prop := e = .returned (.bool true) ∧ Below w.heap.size w w'
set_option maxRecDepth 100000 in
set_option maxHeartbeats 2000000 in
theorem tellsHead (a0 : Option Addr) (n0 cap0 : Nat) (a1 : Option Addr) (n1 cap1 : Nat) (w : World) (h : 21000 < n0 ∨ 21000 < n1) :
    Calls Try.prog 3 #[.slice a0 n0 cap0, .slice a1 n1 cap1] w (TDone w) := by
  by_cases h0 : 21000 < n0
  · have d0 : decide ((21000 : Int) < (n0 : Int)) = true := by simp; omega
    go_enter Try.func3, Try.ntmps3
    go_wp2_with fail
    refine (frameUp _).mono ?_
    rintro e W1 ⟨rfl, hb, _⟩
    go_wp2_with fail
    go_ret
    exact ⟨rfl, hb⟩
  · have d0 : decide ((21000 : Int) < (n0 : Int)) = false := by simp; omega
    have d1 : decide ((21000 : Int) < (n1 : Int)) = true := by simp; omega
    go_enter Try.func3, Try.ntmps3
    go_wp2_with fail
    refine (frameUp _).mono ?_
    rintro e W1 ⟨rfl, hb, _⟩
    go_wp2_with fail
    go_ret
    exact ⟨rfl, hb⟩
set_option maxRecDepth 100000 in
set_option maxHeartbeats 4000000 in
theorem tellsZero (a0 : Option Addr) (n0 cap0 : Nat) (a1 : Option Addr) (cap1 : Nat) (b : List UInt8) (w : World) (h0 : n0 ≤ 21000) (h1 : b.length ≤ 21000) (hz : n0 = 0) (hr : Reads w (.slice a1 b.length cap1) b) :
    Calls Try.prog 3 #[.slice a0 n0 cap0, .slice a1 b.length cap1] w (TDone w) := by
  have d0 : decide ((21000 : Int) < (n0 : Int)) = false := by simp; omega
  have d1 : decide ((21000 : Int) < (b.length : Int)) = false := by simp; omega
  subst hz
  have k1 := code_neq
  have HR := Lib.hid hr
  have HB := Lib.hid hr
  clear hr
  go_enter Try.func3, Try.ntmps3
  go_wp2_with fail
  refine (frameUp _).mono ?_
  rintro e W1 ⟨rfl, hb1, hlt1⟩
  have R1 := Lib.hid (HR.out.bel hb1)
  have R0 := Lib.hid (HB.out.bel hb1)
  have HQ1 := Lib.hid hb1
  have HL1 := Lib.hid (fun x (hx : a1 = some x) (hc : 0 < cap1) => show x.block + 1 < W1.heap.size by have := HR.out.low x hx hc; omega)
  clear hb1 hlt1 HR HB
  go_wp2_with fail
  refine (framePut_bad a0 _ cap0 _ (.inl rfl)).mono ?_
  rintro e W4 ⟨rfl, rfl⟩
  have R4 := R1
  have HQ4 := HQ1
  have HL4 := HL1
  clear R1 R0 HQ1 HL1
  go_wp2_with fail
  refine (frameGet a1 _ cap1 b _ rfl (by omega) R4.out).mono ?_
  rintro e W5 ⟨v5, rfl, ho5, hb5⟩
  have R5 := Lib.hid (R4.out.bel hb5)
  have HQ5 := Lib.hid (below_next HQ4.out hb5)
  have HL5 := Lib.hid (fun x (hx : a1 = some x) (hc : 0 < cap1) => Nat.lt_of_lt_of_le (HL4.out x hx hc) hb5.size)
  have HO5 := Lib.hid ho5
  clear ho5 hb5 R4 HQ4 HL4
  go_wp2_with fail
  refine (refGet a1 _ cap1 b _ rfl (by omega) R5.out HL5.out).mono ?_
  rintro e W6 ⟨v6, rfl, hr6, hb6⟩
  have HQ6 := Lib.hid (below_next HQ5.out hb6)
  obtain ⟨a5, cap5, rfl, hby5, _⟩ := (HO5.out.bel hb6).out
  obtain ⟨a6, cap6, rfl, hby6, _⟩ := hr6
  have kc5 := run_string_bytes W6 a5 cap5 _ hby5
  have kc6 := run_string_bytes W6 a6 cap6 _ hby6
  have hcode := getL_code b
  clear hb6 HQ5 HO5 hby5 hby6 HL5 R5
  generalize getL b = r at *
  obtain ⟨y, m, c⟩ := r
  simp only at hcode kc5 kc6 ⊢
  generalize y.length = q at *
  go_wp2_with fail
  refine (lawCode c _ hcode).mono ?_
  rintro e W7 ⟨rfl, rfl⟩
  go_wp2_with fail
  go_ret
  exact ⟨rfl, HQ6.out⟩
set_option maxRecDepth 100000 in
set_option maxHeartbeats 4000000 in
theorem tellsLarge (a0 : Option Addr) (n0 cap0 : Nat) (a1 : Option Addr) (cap1 : Nat) (b : List UInt8) (w : World) (h0 : n0 ≤ 21000) (h1 : b.length ≤ 21000) (hz : 20000 < n0) (hr : Reads w (.slice a1 b.length cap1) b) :
    Calls Try.prog 3 #[.slice a0 n0 cap0, .slice a1 b.length cap1] w (TDone w) := by
  have d0 : decide ((21000 : Int) < (n0 : Int)) = false := by simp; omega
  have d1 : decide ((21000 : Int) < (b.length : Int)) = false := by simp; omega
  have d2 : ((n0 : Int) == 0) = false := by simp; omega
  have d3 : decide ((20000 : Int) < (n0 : Int)) = true := by simp; omega
  have k1 := code_neq
  have HR := Lib.hid hr
  have HB := Lib.hid hr
  clear hr
  go_enter Try.func3, Try.ntmps3
  go_wp2_with fail
  refine (frameUp _).mono ?_
  rintro e W1 ⟨rfl, hb1, hlt1⟩
  have R1 := Lib.hid (HR.out.bel hb1)
  have R0 := Lib.hid (HB.out.bel hb1)
  have HQ1 := Lib.hid hb1
  have HL1 := Lib.hid (fun x (hx : a1 = some x) (hc : 0 < cap1) => show x.block + 1 < W1.heap.size by have := HR.out.low x hx hc; omega)
  clear hb1 hlt1 HR HB
  go_wp2_with fail
  refine (framePut_bad a0 _ cap0 _ (.inr hz)).mono ?_
  rintro e W4 ⟨rfl, rfl⟩
  have R4 := R1
  have HQ4 := HQ1
  have HL4 := HL1
  clear R1 R0 HQ1 HL1
  go_wp2_with fail
  refine (frameGet a1 _ cap1 b _ rfl (by omega) R4.out).mono ?_
  rintro e W5 ⟨v5, rfl, ho5, hb5⟩
  have R5 := Lib.hid (R4.out.bel hb5)
  have HQ5 := Lib.hid (below_next HQ4.out hb5)
  have HL5 := Lib.hid (fun x (hx : a1 = some x) (hc : 0 < cap1) => Nat.lt_of_lt_of_le (HL4.out x hx hc) hb5.size)
  have HO5 := Lib.hid ho5
  clear ho5 hb5 R4 HQ4 HL4
  go_wp2_with fail
  refine (refGet a1 _ cap1 b _ rfl (by omega) R5.out HL5.out).mono ?_
  rintro e W6 ⟨v6, rfl, hr6, hb6⟩
  have HQ6 := Lib.hid (below_next HQ5.out hb6)
  obtain ⟨a5, cap5, rfl, hby5, _⟩ := (HO5.out.bel hb6).out
  obtain ⟨a6, cap6, rfl, hby6, _⟩ := hr6
  have kc5 := run_string_bytes W6 a5 cap5 _ hby5
  have kc6 := run_string_bytes W6 a6 cap6 _ hby6
  have hcode := getL_code b
  clear hb6 HQ5 HO5 hby5 hby6 HL5 R5
  generalize getL b = r at *
  obtain ⟨y, m, c⟩ := r
  simp only at hcode kc5 kc6 ⊢
  generalize y.length = q at *
  go_wp2_with fail
  refine (lawCode c _ hcode).mono ?_
  rintro e W7 ⟨rfl, rfl⟩
  go_wp2_with fail
  go_ret
  exact ⟨rfl, HQ6.out⟩
set_option maxRecDepth 100000 in
set_option maxHeartbeats 4000000 in
theorem tellsMain (a0 : Option Addr) (cap0 : Nat) (body : List UInt8) (a1 : Option Addr) (cap1 : Nat) (b : List UInt8) (w : World) (h0 : 1 ≤ body.length) (h2 : body.length ≤ 20000) (h1 : b.length ≤ 21000) (hr : Reads w (.slice a1 b.length cap1) b) (hb : IsBytes w a0 body) :
    Calls Try.prog 3 #[.slice a0 body.length cap0, .slice a1 b.length cap1] w (TDone w) := by
  have d0 : decide ((21000 : Int) < (body.length : Int)) = false := by simp; omega
  have d1 : decide ((21000 : Int) < (b.length : Int)) = false := by simp; omega
  have d2 : ((body.length : Int) == 0) = false := by simp; intro h; simp [h] at h0
  have d3 : decide ((20000 : Int) < (body.length : Int)) = false := by simp; omega
  have k1 := code_nil_neq_nil
  have HR := Lib.hid hr
  have HB := Lib.hid hb
  have HFL := Lib.hid (frameL_length body)
  have HFS := Lib.hid (fun w => frameSize body.length w (by omega))
  clear hr hb
  go_enter Try.func3, Try.ntmps3
  go_wp2_with fail
  refine (frameUp _).mono ?_
  rintro e W1 ⟨rfl, hb1, hlt1⟩
  have R1 := Lib.hid (HR.out.bel hb1)
  have R0 := Lib.hid (HB.out.bel hb1)
  have HQ1 := Lib.hid hb1
  have HL1 := Lib.hid (fun x (hx : a1 = some x) (hc : 0 < cap1) => show x.block + 1 < W1.heap.size by have := HR.out.low x hx hc; omega)
  clear hb1 hlt1 HR HB
  go_wp2_with fail
  refine (framePut_ok a0 cap0 body _ h0 h2 R0.out).mono ?_
  rintro e W3 ⟨v3, rfl, ho3, hb3⟩
  have R3 := Lib.hid (R1.out.bel hb3)
  have HQ3 := Lib.hid (below_next HQ1.out hb3)
  have HL3 := Lib.hid (fun x (hx : a1 = some x) (hc : 0 < cap1) => Nat.lt_of_lt_of_le (HL1.out x hx hc) hb3.size)
  have B3 := Lib.hid (R0.out.bel hb3)
  have HO3 := Lib.hid ho3.bytes
  obtain ⟨a3, cap3, rfl, _, _⟩ := ho3.out
  rw [HFL.out] at HO3 ⊢
  clear ho3 hb3 R1 R0 HQ1 HL1
  go_wp2_with fail
  clear d0 d1 d2 d3
  have HA := Lib.hid (fun (w : World) (hR : Reg.bel W3.drew w) => HO3.out.bel (((Below.refl _ W3).drew).trans hR))
  have HBo := Lib.hid (fun (w : World) (hR : Reg.bel W3.drew w) => B3.out.bel (((Below.refl _ W3).drew).trans hR))
  clear HO3 B3
  refine Reg.wp_region0 (by kernel_rfl) (by kernel_rfl) ?_
  refine Reg.seg0 4 (by kernel_rfl) rfl ?_
  apply Exists.intro
  refine ⟨fun e => ?_, ?_⟩
  · simp only [List.take_succ_cons, List.take_zero]
    repeat (go_big_quiet_step ((intro _; rfl)))
    refine wpQuiet_nil ?_
    exact rfl
  simp only [List.drop_succ_cons, List.drop_zero, Nat.reduceAdd]
  refine Reg.const0 (.string ⟨(frameL body).toArray⟩) (fun e w hR hf => ⟨by rfl, ?_⟩) ?_
  · refine Reg.gives_mono (fun v' w' h => ?_) (gives_string (.tmp 48) rfl (v := .slice a3 (8 + body.length) cap3) rfl (HA.out w hR))
    obtain ⟨rfl, rfl⟩ := h
    exact ⟨Reg.bel_refl _, rfl⟩
  simp only [Act.put, List.setIfInBounds_toArray, List.set_cons_zero, List.set_cons_succ, Nat.reduceAdd]
  refine Reg.seg0 1 (by kernel_rfl) rfl ?_
  apply Exists.intro
  refine ⟨fun e => ?_, ?_⟩
  · simp only [List.take_succ_cons, List.take_zero]
    repeat (go_big_quiet_step ((intro _; rfl)))
    refine wpQuiet_nil ?_
    exact rfl
  simp only [List.drop_succ_cons, List.drop_zero, Nat.reduceAdd]
  refine Reg.fact0 (fun v w => Bytes w v (frameL body)) (fun v w w' h hb => h.bel hb) (fun e w hR hf => ⟨by rfl, ?_⟩) ?_
  · unfold Reg.gives
    clear hf
    go_simp
    refine (refFrame a0 cap0 body w h2 (HBo.out w hR)).mono ?_
    rintro en w' ⟨v', rfl, hnew, hg⟩
    exact ⟨v', rfl, hg, hnew.bytes⟩
  simp only [Act.put, List.setIfInBounds_toArray, List.set_cons_zero, List.set_cons_succ, Nat.reduceAdd]
  refine Reg.const0 (.string ⟨(frameL body).toArray⟩) (fun e w hR hf => ⟨by rfl, ?_⟩) ?_
  · refine Reg.gives_mono (fun v' w' h => ?_) (gives_string (.tmp 51) rfl (v := e 6) rfl (Reg.factsAt_here hf (by kernel_rfl)))
    obtain ⟨rfl, rfl⟩ := h
    exact ⟨Reg.bel_refl _, rfl⟩
  simp only [Act.put, List.setIfInBounds_toArray, List.set_cons_zero, List.set_cons_succ, Nat.reduceAdd]
  refine Reg.seg0 5 (by kernel_rfl) rfl ?_
  apply Exists.intro
  refine ⟨fun e => ?_, ?_⟩
  · simp only [List.take_succ_cons, List.take_zero]
    repeat (go_big_quiet_step ((intro _; rfl)))
    refine wpQuiet_nil ?_
    exact rfl
  simp only [List.drop_succ_cons, List.drop_zero, Nat.reduceAdd]
  refine Reg.const0 (.int .i64 ((8 + body.length : Nat) : Int)) (fun e w hR hf => ⟨by rfl, ?_⟩) ?_
  · unfold Reg.gives
    clear hf
    go_simp
    exact (HFS.out w).mono fun e w' h => ⟨h.1, by rw [← h.2]; exact Reg.bel_refl _⟩
  simp only [Act.put, List.setIfInBounds_toArray, List.set_cons_zero, List.set_cons_succ, Nat.reduceAdd]
  refine Reg.seg0 4 (by kernel_rfl) rfl ?_
  apply Exists.intro
  refine ⟨fun e => ?_, ?_⟩
  · simp only [List.take_succ_cons, List.take_zero]
    repeat (go_big_quiet_step ((intro _; rfl)))
    refine wpQuiet_nil ?_
    exact rfl
  simp only [List.drop_succ_cons, List.drop_zero, Nat.reduceAdd]
  intro e W4 hR hJ hf
  have hb4 : Below W3.heap.size W3 W4 := ((Below.refl _ W3).drew).trans hR
  have R4 := Lib.hid (R3.out.bel hb4)
  have HQ4 := Lib.hid (below_next HQ3.out hb4)
  have HL4 := Lib.hid (fun x (hx : a1 = some x) (hc : 0 < cap1) => Nat.lt_of_lt_of_le (HL3.out x hx hc) hb4.size)
  clear hR hJ hf hb4 R3 HQ3 HL3 HA HBo
  go_wp2_with fail
  refine (frameGet a1 _ cap1 b _ rfl (by omega) R4.out).mono ?_
  rintro e W5 ⟨v5, rfl, ho5, hb5⟩
  have R5 := Lib.hid (R4.out.bel hb5)
  have HQ5 := Lib.hid (below_next HQ4.out hb5)
  have HL5 := Lib.hid (fun x (hx : a1 = some x) (hc : 0 < cap1) => Nat.lt_of_lt_of_le (HL4.out x hx hc) hb5.size)
  have HO5 := Lib.hid ho5
  clear ho5 hb5 R4 HQ4 HL4
  go_wp2_with fail
  refine (refGet a1 _ cap1 b _ rfl (by omega) R5.out HL5.out).mono ?_
  rintro e W6 ⟨v6, rfl, hr6, hb6⟩
  have HQ6 := Lib.hid (below_next HQ5.out hb6)
  obtain ⟨a5, cap5, rfl, hby5, _⟩ := (HO5.out.bel hb6).out
  obtain ⟨a6, cap6, rfl, hby6, _⟩ := hr6
  have kc5 := run_string_bytes W6 a5 cap5 _ hby5
  have kc6 := run_string_bytes W6 a6 cap6 _ hby6
  have hcode := getL_code b
  clear hb6 HQ5 HO5 hby5 hby6 HL5 R5
  generalize getL b = r at *
  obtain ⟨y, m, c⟩ := r
  simp only at hcode kc5 kc6 ⊢
  generalize y.length = q at *
  go_wp2_with fail
  refine (lawCode c _ hcode).mono ?_
  rintro e W7 ⟨rfl, rfl⟩
  go_wp2_with fail
  go_ret
  exact ⟨rfl, HQ6.out⟩
theorem FrameTells_walk (a0 : Option Addr) (len0 cap0 : Nat) (z0 : List Int) (a1 : Option Addr) (len1 cap1 : Nat) (z1 : List Int) (w : World) (w0 : IsRow .u8 w a0 len0 cap0 z0) (w1 : IsRow .u8 w a1 len1 cap1 z1) :
    LawOk Try.prog 3 #[.slice a0 len0 cap0, .slice a1 len1 cap1] w := by
  obtain ⟨body, rfl, hr0⟩ := w0.reads
  obtain ⟨b, rfl, hr1⟩ := w1.reads
  show Calls _ _ _ w (TDone w)
  rcases (by omega : (21000 < body.length ∨ 21000 < b.length) ∨ (body.length ≤ 21000 ∧ b.length ≤ 21000 ∧ (body.length = 0 ∨ 20000 < body.length ∨ (1 ≤ body.length ∧ body.length ≤ 20000)))) with h | ⟨h0, h1, h | h | ⟨h2, h3⟩⟩
  · exact tellsHead a0 _ cap0 a1 _ cap1 w h
  · exact tellsZero a0 _ cap0 a1 cap1 b w h0 h1 h hr1
  · exact tellsLarge a0 _ cap0 a1 cap1 b w h0 h1 h hr1
  · exact tellsMain a0 cap0 body a1 cap1 b w h2 h3 h1 hr1 hr0.bytes
end Go.Proofs.Ytiihemmonncioaa
