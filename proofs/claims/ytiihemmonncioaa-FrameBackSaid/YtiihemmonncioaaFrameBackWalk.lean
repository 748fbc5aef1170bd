/- The walk of FrameBack. -/
import Derived.Test.YtiihemmonncioaaFrameTellsWalk
import Derived.Test.YtiihemmonncioaaOne
namespace Go.Proofs.Ytiihemmonncioaa
open Go.RowKit
set_option maxRecDepth 100000 in
set_option maxHeartbeats 2000000 in
theorem backHead (a0 : Option Addr) (n0 cap0 : Nat) (a1 : Option Addr) (n1 cap1 : Nat) (c t x : Int) (w : World) (h : 3000 < n0 ∨ 3000 < n1 ∨ c < 0 ∨ t < 0) :
    Calls Try.prog 4 #[.slice a0 n0 cap0, .slice a1 n1 cap1, .int .i64 c, .int .i64 t, .int .u8 x] w (TDone w) := by
  rcases (by omega : 3000 < n0 ∨ (n0 ≤ 3000 ∧ 3000 < n1) ∨ (n0 ≤ 3000 ∧ n1 ≤ 3000 ∧ c < 0) ∨ (n0 ≤ 3000 ∧ n1 ≤ 3000 ∧ 0 ≤ c ∧ t < 0)) with h | ⟨h0, h⟩ | ⟨h0, h1, h⟩ | ⟨h0, h1, h2, h⟩
  · have d0 : decide ((3000 : Int) < (n0 : Int)) = true := by simp; omega
    clear h
    go_enter Try.func4, Try.ntmps4
    go_wp2_with fail
    refine (frameUp _).mono ?_
    rintro e W1 ⟨rfl, hb1, _⟩
    go_wp2_with fail
    go_ret
    exact ⟨rfl, hb1⟩
  · have d0 : decide ((3000 : Int) < (n0 : Int)) = false := by simp; omega
    have d1 : decide ((3000 : Int) < (n1 : Int)) = true := by simp; omega
    clear h
    go_enter Try.func4, Try.ntmps4
    go_wp2_with fail
    refine (frameUp _).mono ?_
    rintro e W1 ⟨rfl, hb1, _⟩
    go_wp2_with fail
    go_ret
    exact ⟨rfl, hb1⟩
  · have d0 : decide ((3000 : Int) < (n0 : Int)) = false := by simp; omega
    have d1 : decide ((3000 : Int) < (n1 : Int)) = false := by simp; omega
    have d2 : decide (c < 0) = true := by simp; omega
    clear h
    go_enter Try.func4, Try.ntmps4
    go_wp2_with fail
    refine (frameUp _).mono ?_
    rintro e W1 ⟨rfl, hb1, _⟩
    go_wp2_with fail
    go_ret
    exact ⟨rfl, hb1⟩
  · have d0 : decide ((3000 : Int) < (n0 : Int)) = false := by simp; omega
    have d1 : decide ((3000 : Int) < (n1 : Int)) = false := by simp; omega
    have d2 : decide (c < 0) = false := by simp; omega
    have d3 : decide (t < 0) = true := by simp; omega
    clear h
    go_enter Try.func4, Try.ntmps4
    go_wp2_with fail
    refine (frameUp _).mono ?_
    rintro e W1 ⟨rfl, hb1, _⟩
    go_wp2_with fail
    go_ret
    exact ⟨rfl, hb1⟩
set_option maxRecDepth 100000 in
set_option maxHeartbeats 2000000 in
theorem backZero (a0 : Option Addr) (cap0 : Nat) (a1 : Option Addr) (n1 cap1 : Nat) (c t : Nat) (x : Int) (w : World) (h1 : n1 ≤ 3000) :
    Calls Try.prog 4 #[.slice a0 0 cap0, .slice a1 n1 cap1, .int .i64 c, .int .i64 t, .int .u8 x] w (TDone w) := by
  have d1 : decide ((3000 : Int) < (n1 : Int)) = false := by simp; omega
  have d2 : decide ((c : Int) < 0) = false := by simp
  have d3 : decide ((t : Int) < 0) = false := by simp
  have k1 := code_neq_nil
  go_enter Try.func4, Try.ntmps4
  go_wp2_with fail
  refine (frameUp _).mono ?_
  rintro e W1 ⟨rfl, hb1, _⟩
  go_wp2_with fail
  refine (framePut_bad a0 _ cap0 _ (.inl rfl)).mono ?_
  rintro e W4 ⟨rfl, rfl⟩
  go_wp2_with fail
  go_ret
  exact ⟨rfl, hb1⟩
theorem frameL_at (body : List UInt8) (j : Nat) (hj : j < body.length) (h : 8 + j < (frameL body).length) : (frameL body)[8 + j] = body[j] := by
  have e : frameL body = putL body.length 4 ++ (putL (addN 0 body) 4 ++ body) := by with_unfolding_all rfl
  have : (frameL body)[8 + j]? = some body[j] := by
    rw [e, List.getElem?_append_right (by rw [putL_length]; omega), putL_length, List.getElem?_append_right (by rw [putL_length]; omega), putL_length, show 8 + j - 4 - 4 = j by omega, List.getElem?_eq_getElem hj]
  rw [List.getElem?_eq_getElem h] at this
  exact Option.some.inj this
theorem tmod_nats (c n : Nat) : (c : Int).tmod (n : Int) = ((c % n : Nat) : Int) := by exact_mod_cast (Int.ofNat_tmod c n).symm
set_option maxRecDepth 100000 in
set_option maxHeartbeats 4000000 in
theorem backMain (a0 : Option Addr) (cap0 : Nat) (body : List UInt8) (a1 : Option Addr) (cap1 : Nat) (l1 : List UInt8) (c t : Nat) (x : UInt8) (w : World) (h0 : 1 ≤ body.length) (h3 : body.length ≤ 3000) (h1 : l1.length ≤ 3000) (hb : IsBytes w a0 body) (hbl : IsBytes w a1 l1) :
    Calls Try.prog 4 #[.slice a0 body.length cap0, .slice a1 l1.length cap1, .int .i64 c, .int .i64 t, .int .u8 (x.toNat : Int)] w (TDone w) := by
  have d0 : decide ((3000 : Int) < (body.length : Int)) = false := by simp; omega
  have d1 : decide ((3000 : Int) < (l1.length : Int)) = false := by simp; omega
  have d2 : decide ((c : Int) < 0) = false := by simp
  have d3 : decide ((t : Int) < 0) = false := by simp
  have k1 := code_nil_neq_nil
  have k2 := code_neq
  have k3 := code_eql
  have HB := Lib.hid hb
  have HBL := Lib.hid hbl
  have HFL := Lib.hid (frameL_length body)
  have G1 := Lib.hid (getL_frame body l1 h0 (by omega))
  have G2 := Lib.hid (fun k (hk : k < 8 + body.length) => getL_cut body k h0 (by omega) hk)
  have G3 := Lib.hid (fun j (hj : j < body.length) y (hy : body[j] ≠ y) => getL_turned body j hj y hy (by omega))
  have HN := Lib.hid (And.intro h0 (And.intro h3 h1))
  clear hb hbl
  go_enter Try.func4, Try.ntmps4
  go_wp2_with fail
  refine (frameUp _).mono ?_
  rintro e W1 ⟨rfl, hb1, _⟩
  have B1 := Lib.hid (HB.out.bel hb1)
  have L1 := Lib.hid (HBL.out.bel hb1)
  have HQ1 := Lib.hid hb1
  clear hb1 HB HBL
  go_wp2_with fail
  refine (framePut_ok a0 cap0 body _ h0 (by omega) B1.out).mono ?_
  rintro e W3 ⟨v3, rfl, ho3, hb3⟩
  have HQ3 := Lib.hid (below_next HQ1.out hb3)
  have B3 := Lib.hid (B1.out.bel hb3)
  have L3 := Lib.hid (L1.out.bel hb3)
  obtain ⟨a3, cap3, rfl, _, hc3, hm3⟩ := ho3.out
  have O3 := Lib.hid ho3
  have HM3 := Lib.hid (And.intro hc3 hm3)
  rw [HFL.out] at O3 HM3 ⊢
  have hw8 : IntKind.i64.wrap (8 + (body.length : Int)) = 8 + (body.length : Int) := by rw [IntKind.wrap_i64]; omega
  have d4 : decide (8 + (body.length : Int) < 9) = false := by simp; omega
  have d5 : decide (((8 + body.length : Nat) : Int) < 9) = false := by simp; omega
  have d6 : decide (8 + body.length < 9) = false := by simp; omega
  clear ho3 hb3 hc3 hm3 HQ1 B1 L1 d0 d1 d2 d3
  go_wp2_with (at_builtin; refine wpList_append_bytes rfl (.tmp 59) (.tmp 60) 22 rfl W3.heap.size _ [] rfl (OwnB.empty _ W3 (Nat.le_refl _)) _ (frameL body) rfl (by have := SrcB.ofBytes cap3 (O3.out.bytesOf.alloc (.cells #[] 5)); rw [HFL.out] at this; exact this) ?c1 ?c2 ?hh1)
  case c1 => simp
  case c2 => have := HFL.out; simp; omega
  intro v4 W4 ho4 hg4
  have hb4 : Below W3.heap.size W3 W4 := ((Below.refl _ W3).alloc (Nat.le_refl _) _).trans (below_of_grown (OwnB.empty _ W3 (Nat.le_refl _)) (by simp) hg4)
  have L4 := Lib.hid (L3.out.bel hb4)
  have HB4 := Lib.hid hb4
  have O4 := Lib.hid ho4
  clear ho4 hb4 hg4
  go_wp2_with (at_builtin; refine wpList_append_bytes rfl (.tmp 61) (.tmp 62) 22 rfl W3.heap.size v4 _ rfl O4.out _ l1 rfl (SrcB.ofBytes cap1 L4.out) ?c3 ?c4 ?hh2)
  case c3 => exact HB4.out.size
  case c4 => have := HFL.out; simp; omega
  intro v5 W5 ho5 hg5
  have hb5 : Below W3.heap.size W3 W5 := HB4.out.trans (below_of_grown O4.out HB4.out.size hg5)
  have R5 := Lib.hid ho5.reads
  have HB5 := Lib.hid hb5
  obtain ⟨a5, cap5, rfl, _, _⟩ := ho5.out
  have hlen5 : (frameL body ++ l1).length = 8 + body.length + l1.length := by rw [List.length_append, HFL.out]
  have HLEN5 := Lib.hid hlen5
  rw [HLEN5.out] at R5 ⊢
  clear ho5 hb5 hg5 hlen5 O4 L4 HB4
  go_wp2_with fail
  refine (frameGet a5 _ cap5 (frameL body ++ l1) _ HLEN5.out (by rw [HLEN5.out]; omega) R5.out).mono ?_
  rintro e W6 ⟨v6, rfl, ho6, hb6⟩
  have HB6 := Lib.hid (HB5.out.trans (hb6.mono HB5.out.size))
  rw [G1.out] at ho6 ⊢
  simp only at ho6 ⊢
  obtain ⟨a6, cap6, rfl, hby6, _⟩ := ho6.out
  have HY6 := Lib.hid hby6
  have R6 := Lib.hid (O3.out.bel HB6.out).reads
  clear ho6 hb6 hby6 HB5 R5
  have hk : c % (8 + body.length) < 8 + body.length := Nat.mod_lt _ (by omega)
  have hrem : (c : Int).tmod ((8 + body.length : Nat) : Int) = ((c % (8 + body.length) : Nat) : Int) := tmod_nats _ _
  have HK := Lib.hid hk
  have hz : ¬ (8 + (body.length : Int) = 0) := by omega
  simp only [Int.natCast_add, Int.cast_ofNat_Int] at hrem
  generalize c % (8 + body.length) = k at *
  have hkc : k ≤ cap3 := by have := HM3.out.1; omega
  clear hk
  go_wp2_with fail
  have hkl : ((frameL body).take k).length = k := by rw [List.length_take, HFL.out]; have := HK.out; omega
  have Rk := Lib.hid (R6.out.take k (by rw [HFL.out]; exact Nat.le_of_lt HK.out))
  have HKL := Lib.hid hkl
  clear hkl hrem hz hkc R6
  refine (frameGet a3 k cap3 ((frameL body).take k) _ HKL.out (by rw [HKL.out]; have := HK.out; omega) Rk.out).mono ?_
  rintro e W7 ⟨v7, rfl, _, hb7⟩
  rw [G2.out k HK.out, errV_code (by decide : (3 : Nat) ≠ 0)]
  have HB7 := Lib.hid (HB6.out.trans (hb7.mono HB6.out.size))
  have kc1 := run_string_bytes W7 a6 cap6 body (HY6.out.bel hb7)
  have kc2 := run_string_bytes W7 a0 cap0 body (B3.out.bel HB7.out)
  have e0 : errV 0 = .nilIface := rfl
  simp only [e0]
  clear hb7 Rk HK HKL e0 G1 G2 HB6 HY6
  by_cases hx : x = 0
  · subst hx
    rw [show (((0 : UInt8).toNat : Nat) : Int) = 0 from rfl]
    go_wp2_with fail
    go_ret
    exact ⟨rfl, below_next HQ3.out HB7.out⟩
  have dx : ((x.toNat : Int) == 0) = false := by
    simp
    intro h
    exact hx (UInt8.toNat_inj.1 h)
  have hwn : IntKind.i64.wrap ((body.length : Int) + 8) = (body.length : Int) + 8 := by rw [IntKind.wrap_i64]; omega
  have dl : ((8 + (body.length : Int)) != (body.length : Int) + 8) = false := by simp; omega
  have O7 := Lib.hid (O3.out.bel HB7.out)
  clear O3
  go_wp2_with (at_builtin; refine wpList_append_bytes rfl (.tmp 114) (.tmp 115) 22 rfl W7.heap.size _ [] rfl (OwnB.empty _ W7 (Nat.le_refl _)) _ (frameL body) rfl (by have := SrcB.ofBytes cap3 (O7.out.bytesOf.alloc (.cells #[] 5)); rw [HFL.out] at this; exact this) ?c5 ?c6 ?hh3)
  case c5 => simp
  case c6 => have := HFL.out; simp; omega
  intro v8 W8 ho8 hg8
  have ho8 : OwnB W7.heap.size W8 v8 (frameL body) := ho8
  have hb8 : Below W7.heap.size W7 W8 := ((Below.refl _ W7).alloc (Nat.le_refl _) _).trans (below_of_grown (OwnB.empty _ W7 (Nat.le_refl _)) (by simp) hg8)
  have HB8 := Lib.hid hb8
  obtain ⟨g, cap8, rfl, hBg, hgs, hcap8, hcm8, _⟩ := ho8.get (by rw [HFL.out]; omega)
  have hj : t % body.length < body.length := Nat.mod_lt _ (by omega)
  have hremt : (t : Int).tmod (body.length : Int) = ((t % body.length : Nat) : Int) := tmod_nats _ _
  generalize t % body.length = j at *
  have hfj : 8 + j < (frameL body).length := by rw [HFL.out]; omega
  have hz : (frameL body)[8 + j] = body[j] := frameL_at body j hj hfj
  have hne : body[j] ≠ body[j] ^^^ x := fun e => by
    have := congrArg (body[j] ^^^ ·) e
    simp only [← UInt8.xor_assoc, UInt8.xor_self, UInt8.zero_xor] at this
    exact hx this.symm
  have hy := u8_xor_nat (body[j]).toNat x.toNat (body[j]).toNat_lt x.toNat_lt
  have hyt : ((body[j]).toNat ^^^ x.toNat : Nat) = (body[j] ^^^ x).toNat := by simp
  rw [hyt] at hy
  have HT := Lib.hid (G3.out j hj _ hne)
  have hp0 := fun (w : World) (h : OwnB W7.heap.size w (.slice (some ⟨g, 0, none⟩) (8 + body.length) cap8) (frameL body)) => own_at h (8 + j) hfj
  simp only [hz] at hp0
  have HP0 := Lib.hid hp0
  rw [HFL.out] at ho8 hcap8 ⊢
  have HO8 := Lib.hid ho8
  clear hp0 hz hne hyt ho8 hb8 hg8 hfj
  generalize body[j] = z at *
  generalize z ^^^ x = y at *
  have HD8 := Lib.hid (Below.refl W8.heap.size W8).drew
  go_wp2_with fail
  have hrw : IntKind.i64.wrap (8 + (j : Int)) = 8 + (j : Int) := by have := HN.out; rw [IntKind.wrap_i64]; omega
  have hb0 : ¬ ((body.length : Int) = 0) := by have := HN.out; omega
  have hj1 : 0 ≤ 8 + (j : Int) := by omega
  have hj2 : 8 + (j : Int) < 8 + (body.length : Int) := by omega
  have hj3 : 8 + (j : Int) < ((8 + body.length : Nat) : Int) := by omega
  have hj4 : (8 + (j : Int)).toNat = 8 + j := by omega
  refine Reg.wp_regionO W7.heap.size 17 (fun w => OwnB W7.heap.size w (.slice (some ⟨g, 0, none⟩) (8 + body.length) cap8) (frameL body)) (fun w => OwnB W7.heap.size w (.slice (some ⟨g, 0, none⟩) (8 + body.length) cap8) ((frameL body).set (8 + j) y)) (by kernel_rfl) (by kernel_rfl) (HO8.out.bel HD8.out) ?_
  refine Reg.segO 13 (by kernel_rfl) rfl (by kernel_rfl) ?_
  apply Exists.intro
  refine ⟨fun e => ?_, ?_⟩
  · simp only [List.take_succ_cons, List.take_zero]
    repeat (go_big_quiet_step ((intro _; rfl)))
    refine wpQuiet_nil ?_
    exact rfl
  simp only [List.drop_succ_cons, List.drop_zero, Nat.reduceAdd]
  refine Reg.readO (.int .u8 (z.toNat : Int)) (fun _ => Below.refl _ _) (by decide) (by kernel_rfl) (fun e w hR hP => ⟨by rfl, ?_⟩) ?_
  · have hc := (HP0.out w hP).1
    unfold Reg.gives
    go_simp
  simp only [Act.put, List.setIfInBounds_toArray, List.set_cons_zero, List.set_cons_succ, Nat.reduceAdd]
  refine Reg.segO 3 (by kernel_rfl) rfl (by kernel_rfl) ?_
  apply Exists.intro
  refine ⟨fun e => ?_, ?_⟩
  · simp only [List.take_succ_cons, List.take_zero]
    repeat (go_big_quiet_step ((intro _; rfl)))
    refine wpQuiet_nil ?_
    exact rfl
  simp only [List.drop_succ_cons, List.drop_zero, Nat.reduceAdd]
  refine Reg.callO (fun e w hR hP => ⟨by rfl, ?_⟩) ?_
  · have hx := HP0.out w hP
    have hc := hx.1
    have hf := hx.2.1
    have HX := Lib.hid hx
    clear hx
    unfold Reg.gives
    go_simp
    exact ⟨(Below.refl _ _).setCell HX.out.2.2.1 _, HX.out.2.2.2 y⟩
  intro e W9 hR hJ hf
  have O9 := Lib.hid (hJ.2 rfl)
  have hb9 : Below W7.heap.size W7 W9 := (HB8.out.drew).trans hR
  have HB9 := Lib.hid hb9
  clear hJ hf hR hb9 HP0 HO8 HB8 HD8 hrw hb0 hj1 hj2 hj3 hj4 hremt hy kc1 kc2
  simp only [Act.put]
  go_wp2_with fail
  have hsl : ((frameL body).set (8 + j) y).length = 8 + body.length := by rw [List.length_set, HFL.out]
  have HSL := Lib.hid hsl
  clear hsl
  refine (frameGet _ _ cap8 ((frameL body).set (8 + j) y) _ HSL.out (by rw [HSL.out]; have := HN.out; omega) O9.out.reads).mono ?_
  rintro e W10 ⟨v10, rfl, _, hb10⟩
  rw [HT.out, errV_code (by decide : (4 : Nat) ≠ 0)]
  have HQ10 := Lib.hid (below_next HQ3.out (HB7.out.trans ((HB9.out.mono HB7.out.size).trans (hb10.mono (Nat.le_trans HB7.out.size HB9.out.size)))))
  clear hb10
  go_wp2_with fail
  go_ret
  exact ⟨rfl, HQ10.out⟩
theorem FrameBack_walk (a0 : Option Addr) (len0 cap0 : Nat) (z0 : List Int) (a1 : Option Addr) (len1 cap1 : Nat) (z1 : List Int) (a2 : Int) (a3 : Int) (a4 : Int) (w : World) (w0 : IsRow .u8 w a0 len0 cap0 z0) (w1 : IsRow .u8 w a1 len1 cap1 z1) (_w2 : (Lit.int .i64 a2).wf = true) (_w3 : (Lit.int .i64 a3).wf = true) (w4 : (Lit.int .u8 a4).wf = true) :
    LawOk Try.prog 4 #[.slice a0 len0 cap0, .slice a1 len1 cap1, .int .i64 a2, .int .i64 a3, .int .u8 a4] w := by
  obtain ⟨body, rfl, hr0⟩ := w0.reads
  obtain ⟨l1, rfl, hr1⟩ := w1.reads
  obtain ⟨x, rfl⟩ := u8_of_wf w4
  show Calls _ _ _ w (TDone w)
  by_cases h : 3000 < body.length ∨ 3000 < l1.length ∨ a2 < 0 ∨ a3 < 0
  · exact backHead a0 _ cap0 a1 _ cap1 a2 a3 _ w h
  · obtain ⟨c, rfl⟩ := Int.eq_ofNat_of_zero_le (show 0 ≤ a2 by omega)
    obtain ⟨t, rfl⟩ := Int.eq_ofNat_of_zero_le (show 0 ≤ a3 by omega)
    by_cases h0 : body.length = 0
    · rw [h0]
      exact backZero a0 cap0 a1 _ cap1 c t _ w (by omega)
    · exact backMain a0 cap0 body a1 cap1 l1 c t x w (by omega) (by omega) (by omega) hr0.bytes hr1.bytes
end Go.Proofs.Ytiihemmonncioaa
