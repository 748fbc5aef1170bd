/- The reference's Do (layer 4). -/
import Derived.Test.YtnpalplnpfgibaaDiskPure
namespace Go.Proofs.Ytnpalplnpfgibaa
open Go.RowKit
/-- An operation whose guard is off. -/
theorem Reg.skip0 {P : Program} {ops : Array Oper} {R : World → World → Prop} {w0 : World} {Q : Exit → Act → World → Prop} {o : Oper} {rest : List Oper} {k : Nat} {A : Reg.Env → Act} {fs : List (Nat × (Reg.Env → World → Prop))} (h : ∀ e, Region.wanted o (yielded ops (A e).tmps) = false)
    (hs : Reg.Steps P ops R Reg.noJ w0 Q rest (k + 1) (fun e => (A e).put o.dst undef) fs) : Reg.Steps P ops R Reg.noJ w0 Q (o :: rest) k A fs :=
  ⟨fun _ => undef, fun _ _ => True, ⟨fun _ _ _ _ _ => trivial, .inl ⟨fun e => .inr ⟨h e, rfl⟩, fun _ _ => trivial, fun _ _ _ _ => trivial⟩⟩, Reg.steps_weaken _ _ _ fs _ (fun _ _ _ hf => hf.2) (fun _ _ hf => hf.2) hs⟩
theorem refEffOk (bx : Nat) (st : DSt) (v : Value) (l : List RF) (w : World) (h : IsRD w bx st v l) (hf : st.falls = false) (hl2 : st.left ≤ 9223372036854775807) (he : st.eff ≤ 1000000000) : Calls Try.prog 85 #[.pointer (some ⟨bx, 0, none⟩)] w (REff true (rdNext st) bx v l w) := by
  cases hp : st.planned with
  | false => exact refEffFree bx st v l w h hp he
  | true =>
    refine refEffPlan bx st v l w h hp (fun e => ?_) hl2 he
    unfold DSt.falls at hf
    rw [hp, e] at hf
    cases hf
theorem refEffFall (bx : Nat) (st : DSt) (v : Value) (l : List RF) (w : World) (h : IsRD w bx st v l) (hf : st.falls = true) (hk : st.keep ≤ 9223372036854775807) (hl : l.length ≤ 1000000) (hle : ∀ q ∈ l, q.s ≤ q.b.length ∧ q.b.length ≤ 1000000000) : Calls Try.prog 85 #[.pointer (some ⟨bx, 0, none⟩)] w (RFall bx st v l w) := by
  simp only [DSt.falls, Bool.and_eq_true, beq_iff_eq] at hf
  by_cases h0 : 0 < l.length
  · exact refFallSome bx st v l w h hf.1 hf.2 hk h0 hl hle
  · obtain rfl : l = [] := List.eq_nil_of_length_eq_zero (by omega)
    exact refFallNone bx st v w h hf.1 hf.2
structure RDoAns (c : Nat) (S : Nat → Prop) (w0 : World) (bx : Nat) (st : DSt) (l' : List RF) (e : Ending) (w' : World) : Prop where
  ret : e = .returned (.int .i64 (c : Int))
  st : ∃ v', RIn S w0 w' bx st v' l'
set_option maxRecDepth 100000 in
set_option maxHeartbeats 8000000 in
theorem doDown (what : Int) (bx : Nat) (st : DSt) (v : Value) (l : List RF) (n to : ByteArray) (ba : Option Addr) (bn bc : Nat) (x : Int) (w : World) (h : IsRD w bx st v l) (_hl : l.length ≤ 1000000) (hd : st.down = true) : Calls Try.prog 57 #[.pointer (some ⟨bx, 0, none⟩), .int .i64 what, .string n, .string to, .slice ba bn bc, .int .i64 x] w (RDoAns 15 (ROwn bx v l) w bx st l) := by
  have c6 := h.cells.c6
  rw [hd] at c6
  have H := Lib.hid h
  clear h hd
  go_enter Try.func57, Try.ntmps57
  go_wp2_with fail
  go_ret
  exact ⟨rfl, v, RIn.of H.out (RGrew.refl _ _ _ _)⟩
set_option maxRecDepth 100000 in
set_option maxHeartbeats 8000000 in
theorem doTwice (bx : Nat) (st : DSt) (v : Value) (l : List RF) (n to : ByteArray) (ba : Option Addr) (bn bc : Nat) (x : Int) (w : World) (h : IsRD w bx st v l) (hl : l.length ≤ 1000000) (hd : st.down = false) (hi : rfIs l n = true) : Calls Try.prog 57 #[.pointer (some ⟨bx, 0, none⟩), .int .i64 0, .string n, .string to, .slice ba bn bc, .int .i64 x] w (RDoAns 6 (ROwn bx v l) w bx st l) := by
  have c6 := h.cells.c6
  rw [hd] at c6
  have H := Lib.hid h
  clear h hd
  go_enter Try.func57, Try.ntmps57
  go_wp2_with fail
  refine (refFind bx st v l n w H.out hl).mono ?_
  rintro e W1 ⟨rfl, hb1⟩
  have HB1 := Lib.hid hb1
  have HD1 := Lib.hid (H.out.bel hb1)
  clear hb1
  rw [hi]
  go_wp2_with fail
  go_ret
  exact ⟨rfl, v, RIn.of HD1.out (RGrew.of_below _ _ HB1.out)⟩
set_option maxRecDepth 100000 in
set_option maxHeartbeats 8000000 in
theorem doNo (what : Int) (hw : what ≠ 0) (bx : Nat) (st : DSt) (v : Value) (l : List RF) (n to : ByteArray) (ba : Option Addr) (bn bc : Nat) (x : Int) (w : World) (h : IsRD w bx st v l) (hl : l.length ≤ 1000000) (hd : st.down = false) (hi : rfIs l n = false) : Calls Try.prog 57 #[.pointer (some ⟨bx, 0, none⟩), .int .i64 what, .string n, .string to, .slice ba bn bc, .int .i64 x] w (RDoAns 5 (ROwn bx v l) w bx st l) := by
  have e1 : (what == 0) = false := by simpa using hw
  have e2 : decide (what = 0) = false := by simpa using hw
  have e3 : (what != 0) = true := by simpa using hw
  have c6 := h.cells.c6
  rw [hd] at c6
  have H := Lib.hid h
  clear h hd
  clear hw
  go_enter Try.func57, Try.ntmps57
  go_wp2_with fail
  refine (refFind bx st v l n w H.out hl).mono ?_
  rintro e W1 ⟨rfl, hb1⟩
  have HB1 := Lib.hid hb1
  have HD1 := Lib.hid (H.out.bel hb1)
  clear hb1
  rw [hi]
  go_wp2_with fail
  go_ret
  exact ⟨rfl, v, RIn.of HD1.out (RGrew.of_below _ _ HB1.out)⟩
set_option maxRecDepth 100000 in
set_option maxHeartbeats 8000000 in
theorem doDelete (bx : Nat) (st : DSt) (v : Value) (l : List RF) (n to : ByteArray) (ba : Option Addr) (bn bc : Nat) (x : Int) (w : World) (h : IsRD w bx st v l) (hl : l.length ≤ 1000000) (hd : st.down = false) (hi : rfIs l n = true) (hf : st.falls = false) (hl2 : st.left ≤ 9223372036854775807) (he : st.eff ≤ 1000000000) : Calls Try.prog 57 #[.pointer (some ⟨bx, 0, none⟩), .int .i64 5, .string n, .string to, .slice ba bn bc, .int .i64 x] w (RDoAns 0 (ROwn bx v l) w bx (rdNext st) (l.take (rfAt l n) ++ l.drop (rfAt l n + 1))) := by
  have c6 := h.cells.c6
  rw [hd] at c6
  have H := Lib.hid h
  clear h hd
  have HF := Lib.hid hf
  have HL2 := Lib.hid hl2
  have HEF := Lib.hid he
  clear hf hl2 he
  go_enter Try.func57, Try.ntmps57
  go_wp2_with fail
  refine (refFind bx st v l n w H.out hl).mono ?_
  rintro e W1 ⟨rfl, hb1⟩
  have HB1 := Lib.hid hb1
  have HD1 := Lib.hid (H.out.bel hb1)
  clear hb1
  rw [hi]
  go_wp2_with fail
  refine Reg.wp_region0 (by kernel_rfl) (by kernel_rfl) ?_
  refine Reg.seg0 4 (by kernel_rfl) rfl ?_
  apply Exists.intro
  refine ⟨fun e => ?_, ?_⟩
  · simp only [List.take_succ_cons, List.take_zero]
    repeat (go_big_quiet_step ((intro _; rfl)))
    refine wpQuiet_nil ?_
    exact rfl
  simp only [List.drop_succ_cons, List.drop_zero, Nat.reduceAdd]
  refine Reg.skip0 (fun e => by rfl) ?_
  simp only [Act.put, List.setIfInBounds_toArray, List.set_cons_zero, List.set_cons_succ, Nat.reduceAdd]
  refine Reg.seg0 10 (by kernel_rfl) rfl ?_
  apply Exists.intro
  refine ⟨fun e => ?_, ?_⟩
  · simp only [List.take_succ_cons, List.take_zero]
    repeat (go_big_quiet_step ((intro _; rfl)))
    refine wpQuiet_nil ?_
    exact rfl
  simp only [List.drop_succ_cons, List.drop_zero, Nat.reduceAdd]
  refine Reg.skip0 (fun e => by rfl) ?_
  simp only [Act.put, List.setIfInBounds_toArray, List.set_cons_zero, List.set_cons_succ, Nat.reduceAdd]
  refine Reg.seg0 4 (by kernel_rfl) rfl ?_
  apply Exists.intro
  refine ⟨fun e => ?_, ?_⟩
  · simp only [List.take_succ_cons, List.take_zero]
    repeat (go_big_quiet_step ((intro _; rfl)))
    refine wpQuiet_nil ?_
    exact rfl
  simp only [List.drop_succ_cons, List.drop_zero, Nat.reduceAdd]
  refine Reg.skip0 (fun e => by rfl) ?_
  simp only [Act.put, List.setIfInBounds_toArray, List.set_cons_zero, List.set_cons_succ, Nat.reduceAdd]
  refine Reg.seg0 5 (by kernel_rfl) rfl ?_
  apply Exists.intro
  refine ⟨fun e => ?_, ?_⟩
  · simp only [List.take_succ_cons, List.take_zero]
    repeat (go_big_quiet_step ((intro _; rfl)))
    refine wpQuiet_nil ?_
    exact rfl
  simp only [List.drop_succ_cons, List.drop_zero, Nat.reduceAdd]
  intro eX W2 hR hJ hf
  have hb2 := (Below.refl W1.heap.size W1).drew.trans hR
  have HB2 := Lib.hid (HB1.out.trans (hb2.mono HB1.out.size))
  have HD2 := Lib.hid (HD1.out.bel hb2)
  clear hR hJ hf hb2
  go_wp2_with fail
  refine (refEffOk bx st v l W2 HD2.out HF.out HL2.out HEF.out).mono ?_
  rintro e W3 ⟨rfl, hd3, hg3⟩
  have HR3 := Lib.hid (show RIn (ROwn bx v l) w W3 bx (rdNext st) v l from RIn.of hd3 ((RGrew.of_below _ _ HB2.out).trans hg3))
  clear hd3 hg3
  go_wp2_with fail
  refine (refDropYes (ROwn bx v l) w bx (rdNext st) v l n W3 HR3.out hl hi).mono ?_
  rintro e W4 ⟨rfl, v4, h4, _⟩
  have H4 := Lib.hid h4
  clear h4
  go_wp2_with fail
  go_ret
  exact ⟨rfl, v4, H4.out⟩
structure RDoFall (bx : Nat) (st : DSt) (v : Value) (l : List RF) (w : World) (e : Ending) (w' : World) : Prop where
  ret : e = .returned (.int .i64 15)
  st : ∃ l', rfsOf l' = crashF st.keep (rfsOf l) ∧ IsRD w' bx st.fall v l' ∧ RGrew bx w w' v v l l'
set_option maxRecDepth 100000 in
set_option maxHeartbeats 8000000 in
theorem doFallSync (bx : Nat) (st : DSt) (v : Value) (l : List RF) (n to : ByteArray) (ba : Option Addr) (bn bc : Nat) (x : Int) (w : World) (h : IsRD w bx st v l) (hl : l.length ≤ 1000000) (hd : st.down = false) (hi : rfIs l n = true) (hf : st.falls = true) (hk : st.keep ≤ 9223372036854775807) (hle : ∀ q ∈ l, q.s ≤ q.b.length ∧ q.b.length ≤ 1000000000) : Calls Try.prog 57 #[.pointer (some ⟨bx, 0, none⟩), .int .i64 2, .string n, .string to, .slice ba bn bc, .int .i64 x] w (RDoFall bx st v l w) := by
  have c6 := h.cells.c6
  rw [hd] at c6
  have H := Lib.hid h
  clear h hd
  have HF := Lib.hid hf
  have HKP := Lib.hid hk
  have HLE := Lib.hid hle
  clear hf hk hle
  go_enter Try.func57, Try.ntmps57
  go_wp2_with fail
  refine (refFind bx st v l n w H.out hl).mono ?_
  rintro e W1 ⟨rfl, hb1⟩
  have HB1 := Lib.hid hb1
  have HD1 := Lib.hid (H.out.bel hb1)
  clear hb1
  rw [hi]
  go_wp2_with fail
  refine Reg.wp_region0 (by kernel_rfl) (by kernel_rfl) ?_
  refine Reg.seg0 4 (by kernel_rfl) rfl ?_
  apply Exists.intro
  refine ⟨fun e => ?_, ?_⟩
  · simp only [List.take_succ_cons, List.take_zero]
    repeat (go_big_quiet_step ((intro _; rfl)))
    refine wpQuiet_nil ?_
    exact rfl
  simp only [List.drop_succ_cons, List.drop_zero, Nat.reduceAdd]
  refine Reg.skip0 (fun e => by rfl) ?_
  simp only [Act.put, List.setIfInBounds_toArray, List.set_cons_zero, List.set_cons_succ, Nat.reduceAdd]
  refine Reg.seg0 10 (by kernel_rfl) rfl ?_
  apply Exists.intro
  refine ⟨fun e => ?_, ?_⟩
  · simp only [List.take_succ_cons, List.take_zero]
    repeat (go_big_quiet_step ((intro _; rfl)))
    refine wpQuiet_nil ?_
    exact rfl
  simp only [List.drop_succ_cons, List.drop_zero, Nat.reduceAdd]
  refine Reg.skip0 (fun e => by rfl) ?_
  simp only [Act.put, List.setIfInBounds_toArray, List.set_cons_zero, List.set_cons_succ, Nat.reduceAdd]
  refine Reg.seg0 4 (by kernel_rfl) rfl ?_
  apply Exists.intro
  refine ⟨fun e => ?_, ?_⟩
  · simp only [List.take_succ_cons, List.take_zero]
    repeat (go_big_quiet_step ((intro _; rfl)))
    refine wpQuiet_nil ?_
    exact rfl
  simp only [List.drop_succ_cons, List.drop_zero, Nat.reduceAdd]
  refine Reg.skip0 (fun e => by rfl) ?_
  simp only [Act.put, List.setIfInBounds_toArray, List.set_cons_zero, List.set_cons_succ, Nat.reduceAdd]
  refine Reg.seg0 5 (by kernel_rfl) rfl ?_
  apply Exists.intro
  refine ⟨fun e => ?_, ?_⟩
  · simp only [List.take_succ_cons, List.take_zero]
    repeat (go_big_quiet_step ((intro _; rfl)))
    refine wpQuiet_nil ?_
    exact rfl
  simp only [List.drop_succ_cons, List.drop_zero, Nat.reduceAdd]
  intro eX W2 hR hJ hf
  have hb2 := (Below.refl W1.heap.size W1).drew.trans hR
  have HB2 := Lib.hid (HB1.out.trans (hb2.mono HB1.out.size))
  have HD2 := Lib.hid (HD1.out.bel hb2)
  clear hR hJ hf hb2
  go_wp2_with fail
  refine (refEffFall bx st v l W2 HD2.out HF.out HKP.out hl HLE.out).mono ?_
  rintro e W3 ⟨rfl, l3, h3, hd3, hg3⟩
  have HR3 := Lib.hid (show RDoFall bx st v l w (.returned (.int .i64 15)) W3 from ⟨rfl, l3, h3, hd3, (RGrew.of_below _ _ HB2.out).trans hg3⟩)
  clear hd3 hg3 h3
  go_wp2_with fail
  go_ret
  exact HR3.out
set_option maxRecDepth 100000 in
set_option maxHeartbeats 8000000 in
theorem doFallRename (bx : Nat) (st : DSt) (v : Value) (l : List RF) (n to : ByteArray) (ba : Option Addr) (bn bc : Nat) (x : Int) (w : World) (h : IsRD w bx st v l) (hl : l.length ≤ 1000000) (hd : st.down = false) (hi : rfIs l n = true) (hf : st.falls = true) (hk : st.keep ≤ 9223372036854775807) (hle : ∀ q ∈ l, q.s ≤ q.b.length ∧ q.b.length ≤ 1000000000) : Calls Try.prog 57 #[.pointer (some ⟨bx, 0, none⟩), .int .i64 4, .string n, .string to, .slice ba bn bc, .int .i64 x] w (RDoFall bx st v l w) := by
  have c6 := h.cells.c6
  rw [hd] at c6
  have H := Lib.hid h
  clear h hd
  have HF := Lib.hid hf
  have HKP := Lib.hid hk
  have HLE := Lib.hid hle
  clear hf hk hle
  go_enter Try.func57, Try.ntmps57
  go_wp2_with fail
  refine (refFind bx st v l n w H.out hl).mono ?_
  rintro e W1 ⟨rfl, hb1⟩
  have HB1 := Lib.hid hb1
  have HD1 := Lib.hid (H.out.bel hb1)
  clear hb1
  rw [hi]
  go_wp2_with fail
  refine Reg.wp_region0 (by kernel_rfl) (by kernel_rfl) ?_
  refine Reg.seg0 4 (by kernel_rfl) rfl ?_
  apply Exists.intro
  refine ⟨fun e => ?_, ?_⟩
  · simp only [List.take_succ_cons, List.take_zero]
    repeat (go_big_quiet_step ((intro _; rfl)))
    refine wpQuiet_nil ?_
    exact rfl
  simp only [List.drop_succ_cons, List.drop_zero, Nat.reduceAdd]
  refine Reg.skip0 (fun e => by rfl) ?_
  simp only [Act.put, List.setIfInBounds_toArray, List.set_cons_zero, List.set_cons_succ, Nat.reduceAdd]
  refine Reg.seg0 10 (by kernel_rfl) rfl ?_
  apply Exists.intro
  refine ⟨fun e => ?_, ?_⟩
  · simp only [List.take_succ_cons, List.take_zero]
    repeat (go_big_quiet_step ((intro _; rfl)))
    refine wpQuiet_nil ?_
    exact rfl
  simp only [List.drop_succ_cons, List.drop_zero, Nat.reduceAdd]
  refine Reg.skip0 (fun e => by rfl) ?_
  simp only [Act.put, List.setIfInBounds_toArray, List.set_cons_zero, List.set_cons_succ, Nat.reduceAdd]
  refine Reg.seg0 4 (by kernel_rfl) rfl ?_
  apply Exists.intro
  refine ⟨fun e => ?_, ?_⟩
  · simp only [List.take_succ_cons, List.take_zero]
    repeat (go_big_quiet_step ((intro _; rfl)))
    refine wpQuiet_nil ?_
    exact rfl
  simp only [List.drop_succ_cons, List.drop_zero, Nat.reduceAdd]
  refine Reg.skip0 (fun e => by rfl) ?_
  simp only [Act.put, List.setIfInBounds_toArray, List.set_cons_zero, List.set_cons_succ, Nat.reduceAdd]
  refine Reg.seg0 5 (by kernel_rfl) rfl ?_
  apply Exists.intro
  refine ⟨fun e => ?_, ?_⟩
  · simp only [List.take_succ_cons, List.take_zero]
    repeat (go_big_quiet_step ((intro _; rfl)))
    refine wpQuiet_nil ?_
    exact rfl
  simp only [List.drop_succ_cons, List.drop_zero, Nat.reduceAdd]
  intro eX W2 hR hJ hf
  have hb2 := (Below.refl W1.heap.size W1).drew.trans hR
  have HB2 := Lib.hid (HB1.out.trans (hb2.mono HB1.out.size))
  have HD2 := Lib.hid (HD1.out.bel hb2)
  clear hR hJ hf hb2
  go_wp2_with fail
  refine (refEffFall bx st v l W2 HD2.out HF.out HKP.out hl HLE.out).mono ?_
  rintro e W3 ⟨rfl, l3, h3, hd3, hg3⟩
  have HR3 := Lib.hid (show RDoFall bx st v l w (.returned (.int .i64 15)) W3 from ⟨rfl, l3, h3, hd3, (RGrew.of_below _ _ HB2.out).trans hg3⟩)
  clear hd3 hg3 h3
  go_wp2_with fail
  go_ret
  exact HR3.out
set_option maxRecDepth 100000 in
set_option maxHeartbeats 8000000 in
theorem doFallDelete (bx : Nat) (st : DSt) (v : Value) (l : List RF) (n to : ByteArray) (ba : Option Addr) (bn bc : Nat) (x : Int) (w : World) (h : IsRD w bx st v l) (hl : l.length ≤ 1000000) (hd : st.down = false) (hi : rfIs l n = true) (hf : st.falls = true) (hk : st.keep ≤ 9223372036854775807) (hle : ∀ q ∈ l, q.s ≤ q.b.length ∧ q.b.length ≤ 1000000000) : Calls Try.prog 57 #[.pointer (some ⟨bx, 0, none⟩), .int .i64 5, .string n, .string to, .slice ba bn bc, .int .i64 x] w (RDoFall bx st v l w) := by
  have c6 := h.cells.c6
  rw [hd] at c6
  have H := Lib.hid h
  clear h hd
  have HF := Lib.hid hf
  have HKP := Lib.hid hk
  have HLE := Lib.hid hle
  clear hf hk hle
  go_enter Try.func57, Try.ntmps57
  go_wp2_with fail
  refine (refFind bx st v l n w H.out hl).mono ?_
  rintro e W1 ⟨rfl, hb1⟩
  have HB1 := Lib.hid hb1
  have HD1 := Lib.hid (H.out.bel hb1)
  clear hb1
  rw [hi]
  go_wp2_with fail
  refine Reg.wp_region0 (by kernel_rfl) (by kernel_rfl) ?_
  refine Reg.seg0 4 (by kernel_rfl) rfl ?_
  apply Exists.intro
  refine ⟨fun e => ?_, ?_⟩
  · simp only [List.take_succ_cons, List.take_zero]
    repeat (go_big_quiet_step ((intro _; rfl)))
    refine wpQuiet_nil ?_
    exact rfl
  simp only [List.drop_succ_cons, List.drop_zero, Nat.reduceAdd]
  refine Reg.skip0 (fun e => by rfl) ?_
  simp only [Act.put, List.setIfInBounds_toArray, List.set_cons_zero, List.set_cons_succ, Nat.reduceAdd]
  refine Reg.seg0 10 (by kernel_rfl) rfl ?_
  apply Exists.intro
  refine ⟨fun e => ?_, ?_⟩
  · simp only [List.take_succ_cons, List.take_zero]
    repeat (go_big_quiet_step ((intro _; rfl)))
    refine wpQuiet_nil ?_
    exact rfl
  simp only [List.drop_succ_cons, List.drop_zero, Nat.reduceAdd]
  refine Reg.skip0 (fun e => by rfl) ?_
  simp only [Act.put, List.setIfInBounds_toArray, List.set_cons_zero, List.set_cons_succ, Nat.reduceAdd]
  refine Reg.seg0 4 (by kernel_rfl) rfl ?_
  apply Exists.intro
  refine ⟨fun e => ?_, ?_⟩
  · simp only [List.take_succ_cons, List.take_zero]
    repeat (go_big_quiet_step ((intro _; rfl)))
    refine wpQuiet_nil ?_
    exact rfl
  simp only [List.drop_succ_cons, List.drop_zero, Nat.reduceAdd]
  refine Reg.skip0 (fun e => by rfl) ?_
  simp only [Act.put, List.setIfInBounds_toArray, List.set_cons_zero, List.set_cons_succ, Nat.reduceAdd]
  refine Reg.seg0 5 (by kernel_rfl) rfl ?_
  apply Exists.intro
  refine ⟨fun e => ?_, ?_⟩
  · simp only [List.take_succ_cons, List.take_zero]
    repeat (go_big_quiet_step ((intro _; rfl)))
    refine wpQuiet_nil ?_
    exact rfl
  simp only [List.drop_succ_cons, List.drop_zero, Nat.reduceAdd]
  intro eX W2 hR hJ hf
  have hb2 := (Below.refl W1.heap.size W1).drew.trans hR
  have HB2 := Lib.hid (HB1.out.trans (hb2.mono HB1.out.size))
  have HD2 := Lib.hid (HD1.out.bel hb2)
  clear hR hJ hf hb2
  go_wp2_with fail
  refine (refEffFall bx st v l W2 HD2.out HF.out HKP.out hl HLE.out).mono ?_
  rintro e W3 ⟨rfl, l3, h3, hd3, hg3⟩
  have HR3 := Lib.hid (show RDoFall bx st v l w (.returned (.int .i64 15)) W3 from ⟨rfl, l3, h3, hd3, (RGrew.of_below _ _ HB2.out).trans hg3⟩)
  clear hd3 hg3 h3
  go_wp2_with fail
  go_ret
  exact HR3.out
set_option maxRecDepth 100000 in
set_option maxHeartbeats 8000000 in
theorem doCreateFull (bx : Nat) (st : DSt) (a : Option Addr) (cap : Nat) (l : List RF) (n to : ByteArray) (ba : Option Addr) (bn bc : Nat) (x : Int) (w : World) (h : IsRD w bx st (.slice a l.length cap) l) (hl : l.length ≤ 1000000) (hd : st.down = false) (hi : rfIs l n = false) (hm : 1000 ≤ l.length) : Calls Try.prog 57 #[.pointer (some ⟨bx, 0, none⟩), .int .i64 0, .string n, .string to, .slice ba bn bc, .int .i64 x] w (RDoAns 12 (ROwn bx (.slice a l.length cap) l) w bx st l) := by
  have dm : decide ((1000 : Int) ≤ (l.length : Int)) = true := by simp; omega
  have c6 := h.cells.c6
  rw [hd] at c6
  have H := Lib.hid h
  clear h hd
  clear hm
  go_enter Try.func57, Try.ntmps57
  go_wp2_with fail
  refine (refFind bx st _ l n w H.out hl).mono ?_
  rintro e W1 ⟨rfl, hb1⟩
  have HB1 := Lib.hid hb1
  have HD1 := Lib.hid (H.out.bel hb1)
  clear hb1
  rw [hi]
  go_wp2_with fail
  have c1 := HD1.out.cells.c1
  have HBX1 := Lib.hid (rown_lt HD1.out (.inl rfl))
  refine Reg.wp_region0 (by kernel_rfl) (by kernel_rfl) ?_
  refine Reg.seg0 4 (by kernel_rfl) rfl ?_
  apply Exists.intro
  refine ⟨fun e => ?_, ?_⟩
  · simp only [List.take_succ_cons, List.take_zero]
    repeat (go_big_quiet_step ((intro _; rfl)))
    refine wpQuiet_nil ?_
    exact rfl
  simp only [List.drop_succ_cons, List.drop_zero, Nat.reduceAdd]
  refine Reg.const0 (.pointer (some ⟨bx, 0, none⟩)) (fun e w1 hR hf => ⟨by rfl, ?_⟩) ?_
  · unfold Reg.gives
    clear hf
    go_simp
    exact Reg.bel_refl _
  simp only [Act.put, List.setIfInBounds_toArray, List.set_cons_zero, List.set_cons_succ, Nat.reduceAdd]
  refine Reg.seg0 1 (by kernel_rfl) rfl ?_
  apply Exists.intro
  refine ⟨fun e => ?_, ?_⟩
  · simp only [List.take_succ_cons, List.take_zero]
    repeat (go_big_quiet_step ((intro _; rfl)))
    refine wpQuiet_nil ?_
    exact rfl
  simp only [List.drop_succ_cons, List.drop_zero, Nat.reduceAdd]
  refine Reg.const0 (.slice a l.length cap) (fun e w1 hR hf => ⟨by rfl, ?_⟩) ?_
  · have c1' := (Below.cell hR (p := ⟨bx, 1, none⟩) HBX1.out).trans c1
    unfold Reg.gives
    clear hf
    go_simp
    exact Reg.bel_refl _
  simp only [Act.put, List.setIfInBounds_toArray, List.set_cons_zero, List.set_cons_succ, Nat.reduceAdd]
  refine Reg.seg0 8 (by kernel_rfl) rfl ?_
  apply Exists.intro
  refine ⟨fun e => ?_, ?_⟩
  · simp only [List.take_succ_cons, List.take_zero]
    repeat (go_big_quiet_step ((intro _; rfl)))
    refine wpQuiet_nil ?_
    exact rfl
  simp only [List.drop_succ_cons, List.drop_zero, Nat.reduceAdd]
  refine Reg.skip0 (fun e => by rfl) ?_
  simp only [Act.put, List.setIfInBounds_toArray, List.set_cons_zero, List.set_cons_succ, Nat.reduceAdd]
  refine Reg.seg0 4 (by kernel_rfl) rfl ?_
  apply Exists.intro
  refine ⟨fun e => ?_, ?_⟩
  · simp only [List.take_succ_cons, List.take_zero]
    repeat (go_big_quiet_step ((intro _; rfl)))
    refine wpQuiet_nil ?_
    exact rfl
  simp only [List.drop_succ_cons, List.drop_zero, Nat.reduceAdd]
  refine Reg.skip0 (fun e => by rfl) ?_
  simp only [Act.put, List.setIfInBounds_toArray, List.set_cons_zero, List.set_cons_succ, Nat.reduceAdd]
  refine Reg.seg0 5 (by kernel_rfl) rfl ?_
  apply Exists.intro
  refine ⟨fun e => ?_, ?_⟩
  · simp only [List.take_succ_cons, List.take_zero]
    repeat (go_big_quiet_step ((intro _; rfl)))
    refine wpQuiet_nil ?_
    exact rfl
  simp only [List.drop_succ_cons, List.drop_zero, Nat.reduceAdd]
  intro eX W2 hR hJ hf8
  have hb2 := (Below.refl W1.heap.size W1).drew.trans hR
  have HB2 := Lib.hid (HB1.out.trans (hb2.mono HB1.out.size))
  have HD2 := Lib.hid (HD1.out.bel hb2)
  clear hR hJ hf8 hb2 c1
  go_wp2_with fail
  go_ret
  exact ⟨rfl, _, RIn.of HD2.out (RGrew.of_below _ _ HB2.out)⟩
set_option maxRecDepth 100000 in
set_option maxHeartbeats 8000000 in
theorem doCreateFall (bx : Nat) (st : DSt) (a : Option Addr) (cap : Nat) (l : List RF) (n to : ByteArray) (ba : Option Addr) (bn bc : Nat) (x : Int) (w : World) (h : IsRD w bx st (.slice a l.length cap) l) (hl : l.length ≤ 1000000) (hd : st.down = false) (hi : rfIs l n = false) (hm : l.length < 1000) (hf : st.falls = true) (hk : st.keep ≤ 9223372036854775807) (hle : ∀ q ∈ l, q.s ≤ q.b.length ∧ q.b.length ≤ 1000000000) : Calls Try.prog 57 #[.pointer (some ⟨bx, 0, none⟩), .int .i64 0, .string n, .string to, .slice ba bn bc, .int .i64 x] w (RDoFall bx st (.slice a l.length cap) l w) := by
  have dm : decide ((1000 : Int) ≤ (l.length : Int)) = false := by simp; omega
  have c6 := h.cells.c6
  rw [hd] at c6
  have H := Lib.hid h
  clear h hd
  clear hm
  have HF := Lib.hid hf
  have HKP := Lib.hid hk
  have HLE := Lib.hid hle
  clear hf hk hle
  go_enter Try.func57, Try.ntmps57
  go_wp2_with fail
  refine (refFind bx st _ l n w H.out hl).mono ?_
  rintro e W1 ⟨rfl, hb1⟩
  have HB1 := Lib.hid hb1
  have HD1 := Lib.hid (H.out.bel hb1)
  clear hb1
  rw [hi]
  go_wp2_with fail
  have c1 := HD1.out.cells.c1
  have HBX1 := Lib.hid (rown_lt HD1.out (.inl rfl))
  refine Reg.wp_region0 (by kernel_rfl) (by kernel_rfl) ?_
  refine Reg.seg0 4 (by kernel_rfl) rfl ?_
  apply Exists.intro
  refine ⟨fun e => ?_, ?_⟩
  · simp only [List.take_succ_cons, List.take_zero]
    repeat (go_big_quiet_step ((intro _; rfl)))
    refine wpQuiet_nil ?_
    exact rfl
  simp only [List.drop_succ_cons, List.drop_zero, Nat.reduceAdd]
  refine Reg.const0 (.pointer (some ⟨bx, 0, none⟩)) (fun e w1 hR hf => ⟨by rfl, ?_⟩) ?_
  · unfold Reg.gives
    clear hf
    go_simp
    exact Reg.bel_refl _
  simp only [Act.put, List.setIfInBounds_toArray, List.set_cons_zero, List.set_cons_succ, Nat.reduceAdd]
  refine Reg.seg0 1 (by kernel_rfl) rfl ?_
  apply Exists.intro
  refine ⟨fun e => ?_, ?_⟩
  · simp only [List.take_succ_cons, List.take_zero]
    repeat (go_big_quiet_step ((intro _; rfl)))
    refine wpQuiet_nil ?_
    exact rfl
  simp only [List.drop_succ_cons, List.drop_zero, Nat.reduceAdd]
  refine Reg.const0 (.slice a l.length cap) (fun e w1 hR hf => ⟨by rfl, ?_⟩) ?_
  · have c1' := (Below.cell hR (p := ⟨bx, 1, none⟩) HBX1.out).trans c1
    unfold Reg.gives
    clear hf
    go_simp
    exact Reg.bel_refl _
  simp only [Act.put, List.setIfInBounds_toArray, List.set_cons_zero, List.set_cons_succ, Nat.reduceAdd]
  refine Reg.seg0 8 (by kernel_rfl) rfl ?_
  apply Exists.intro
  refine ⟨fun e => ?_, ?_⟩
  · simp only [List.take_succ_cons, List.take_zero]
    repeat (go_big_quiet_step ((intro _; rfl)))
    refine wpQuiet_nil ?_
    exact rfl
  simp only [List.drop_succ_cons, List.drop_zero, Nat.reduceAdd]
  refine Reg.skip0 (fun e => by rfl) ?_
  simp only [Act.put, List.setIfInBounds_toArray, List.set_cons_zero, List.set_cons_succ, Nat.reduceAdd]
  refine Reg.seg0 4 (by kernel_rfl) rfl ?_
  apply Exists.intro
  refine ⟨fun e => ?_, ?_⟩
  · simp only [List.take_succ_cons, List.take_zero]
    repeat (go_big_quiet_step ((intro _; rfl)))
    refine wpQuiet_nil ?_
    exact rfl
  simp only [List.drop_succ_cons, List.drop_zero, Nat.reduceAdd]
  refine Reg.skip0 (fun e => by rfl) ?_
  simp only [Act.put, List.setIfInBounds_toArray, List.set_cons_zero, List.set_cons_succ, Nat.reduceAdd]
  refine Reg.seg0 5 (by kernel_rfl) rfl ?_
  apply Exists.intro
  refine ⟨fun e => ?_, ?_⟩
  · simp only [List.take_succ_cons, List.take_zero]
    repeat (go_big_quiet_step ((intro _; rfl)))
    refine wpQuiet_nil ?_
    exact rfl
  simp only [List.drop_succ_cons, List.drop_zero, Nat.reduceAdd]
  intro eX W2 hR hJ hf8
  have hb2 := (Below.refl W1.heap.size W1).drew.trans hR
  have HB2 := Lib.hid (HB1.out.trans (hb2.mono HB1.out.size))
  have HD2 := Lib.hid (HD1.out.bel hb2)
  clear hR hJ hf8 hb2 c1
  go_wp2_with fail
  refine (refEffFall bx st _ l W2 HD2.out HF.out HKP.out hl HLE.out).mono ?_
  rintro e W3 ⟨rfl, l3, h3, hd3, hg3⟩
  have HR3 := Lib.hid (show RDoFall bx st (.slice a l.length cap) l w (.returned (.int .i64 15)) W3 from ⟨rfl, l3, h3, hd3, (RGrew.of_below _ _ HB2.out).trans hg3⟩)
  clear hd3 hg3 h3
  go_wp2_with fail
  go_ret
  exact HR3.out
set_option maxRecDepth 100000 in
set_option maxHeartbeats 8000000 in
theorem doCreate (bx : Nat) (st : DSt) (a : Option Addr) (cap : Nat) (l : List RF) (n to : ByteArray) (ba : Option Addr) (bn bc : Nat) (x : Int) (w : World) (h : IsRD w bx st (.slice a l.length cap) l) (hl : l.length ≤ 1000000) (hd : st.down = false) (hi : rfIs l n = false) (hm : l.length < 1000) (hf : st.falls = false) (hl2 : st.left ≤ 9223372036854775807) (he : st.eff ≤ 1000000000) (hns : n.size ≤ maxLen) : Calls Try.prog 57 #[.pointer (some ⟨bx, 0, none⟩), .int .i64 0, .string n, .string to, .slice ba bn bc, .int .i64 x] w (RDoAns 0 (ROwn bx (.slice a l.length cap) l) w bx (rdNext st) (l.take (rfAt l n) ++ ⟨n, none, 0, [], 0⟩ :: l.drop (rfAt l n))) := by
  have dm : decide ((1000 : Int) ≤ (l.length : Int)) = false := by simp; omega
  have c6 := h.cells.c6
  rw [hd] at c6
  have H := Lib.hid h
  clear h hd
  have HF := Lib.hid hf
  have HL2 := Lib.hid hl2
  have HEF := Lib.hid he
  have HNS := Lib.hid hns
  clear hf hl2 he hm hns
  go_enter Try.func57, Try.ntmps57
  go_wp2_with fail
  refine (refFind bx st _ l n w H.out hl).mono ?_
  rintro e W1 ⟨rfl, hb1⟩
  have HB1 := Lib.hid hb1
  have HD1 := Lib.hid (H.out.bel hb1)
  clear hb1
  rw [hi]
  go_wp2_with fail
  have c1 := HD1.out.cells.c1
  have HBX1 := Lib.hid (rown_lt HD1.out (.inl rfl))
  refine Reg.wp_region0 (by kernel_rfl) (by kernel_rfl) ?_
  refine Reg.seg0 4 (by kernel_rfl) rfl ?_
  apply Exists.intro
  refine ⟨fun e => ?_, ?_⟩
  · simp only [List.take_succ_cons, List.take_zero]
    repeat (go_big_quiet_step ((intro _; rfl)))
    refine wpQuiet_nil ?_
    exact rfl
  simp only [List.drop_succ_cons, List.drop_zero, Nat.reduceAdd]
  refine Reg.const0 (.pointer (some ⟨bx, 0, none⟩)) (fun e w1 hR hf => ⟨by rfl, ?_⟩) ?_
  · unfold Reg.gives
    clear hf
    go_simp
    exact Reg.bel_refl _
  simp only [Act.put, List.setIfInBounds_toArray, List.set_cons_zero, List.set_cons_succ, Nat.reduceAdd]
  refine Reg.seg0 1 (by kernel_rfl) rfl ?_
  apply Exists.intro
  refine ⟨fun e => ?_, ?_⟩
  · simp only [List.take_succ_cons, List.take_zero]
    repeat (go_big_quiet_step ((intro _; rfl)))
    refine wpQuiet_nil ?_
    exact rfl
  simp only [List.drop_succ_cons, List.drop_zero, Nat.reduceAdd]
  refine Reg.const0 (.slice a l.length cap) (fun e w1 hR hf => ⟨by rfl, ?_⟩) ?_
  · have c1' := (Below.cell hR (p := ⟨bx, 1, none⟩) HBX1.out).trans c1
    unfold Reg.gives
    clear hf
    go_simp
    exact Reg.bel_refl _
  simp only [Act.put, List.setIfInBounds_toArray, List.set_cons_zero, List.set_cons_succ, Nat.reduceAdd]
  refine Reg.seg0 8 (by kernel_rfl) rfl ?_
  apply Exists.intro
  refine ⟨fun e => ?_, ?_⟩
  · simp only [List.take_succ_cons, List.take_zero]
    repeat (go_big_quiet_step ((intro _; rfl)))
    refine wpQuiet_nil ?_
    exact rfl
  simp only [List.drop_succ_cons, List.drop_zero, Nat.reduceAdd]
  refine Reg.skip0 (fun e => by rfl) ?_
  simp only [Act.put, List.setIfInBounds_toArray, List.set_cons_zero, List.set_cons_succ, Nat.reduceAdd]
  refine Reg.seg0 4 (by kernel_rfl) rfl ?_
  apply Exists.intro
  refine ⟨fun e => ?_, ?_⟩
  · simp only [List.take_succ_cons, List.take_zero]
    repeat (go_big_quiet_step ((intro _; rfl)))
    refine wpQuiet_nil ?_
    exact rfl
  simp only [List.drop_succ_cons, List.drop_zero, Nat.reduceAdd]
  refine Reg.skip0 (fun e => by rfl) ?_
  simp only [Act.put, List.setIfInBounds_toArray, List.set_cons_zero, List.set_cons_succ, Nat.reduceAdd]
  refine Reg.seg0 5 (by kernel_rfl) rfl ?_
  apply Exists.intro
  refine ⟨fun e => ?_, ?_⟩
  · simp only [List.take_succ_cons, List.take_zero]
    repeat (go_big_quiet_step ((intro _; rfl)))
    refine wpQuiet_nil ?_
    exact rfl
  simp only [List.drop_succ_cons, List.drop_zero, Nat.reduceAdd]
  intro eX W2 hR hJ hf8
  have hb2 := (Below.refl W1.heap.size W1).drew.trans hR
  have HB2 := Lib.hid (HB1.out.trans (hb2.mono HB1.out.size))
  have HD2 := Lib.hid (HD1.out.bel hb2)
  clear hR hJ hf8 hb2 c1
  go_wp2_with fail
  refine (refEffOk bx st _ l W2 HD2.out HF.out HL2.out HEF.out).mono ?_
  rintro e W3 ⟨rfl, hd3, hg3⟩
  have HR3 := Lib.hid (show RIn (ROwn bx (.slice a l.length cap) l) w W3 bx (rdNext st) (.slice a l.length cap) l from RIn.of hd3 ((RGrew.of_below _ _ HB2.out).trans hg3))
  clear hd3 hg3
  go_wp2_with fail
  refine (refPut (ROwn bx (.slice a l.length cap) l) w bx (rdNext st) _ l ⟨n, none, 0, [], 0⟩ W3 HR3.out hl ⟨IsBytes.nil _ _, Nat.le_refl _, Nat.zero_le _, HNS.out, fun b off e => (by cases e)⟩).mono ?_
  rintro e W4 ⟨rfl, v4, h4, _⟩
  have H4 := Lib.hid h4
  clear h4
  go_wp2_with fail
  go_ret
  exact ⟨rfl, v4, H4.out⟩
end Go.Proofs.Ytnpalplnpfgibaa
