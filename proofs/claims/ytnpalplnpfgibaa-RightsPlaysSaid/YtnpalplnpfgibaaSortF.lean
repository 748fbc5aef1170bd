/- xorshift, breakPatternsOrdered at uint32. -/
import Derived.Test.YtnpalplnpfgibaaSortE
import Derived.Laws.Bits64
import Derived.Laws.Bits64b
namespace Go.Proofs.Ytnpalplnpfgibaa
open Go.RowKit
set_option linter.unusedSimpArgs false
set_option linter.unusedVariables false
theorem two_pow_shl (k : Nat) : ((1 <<< k : Nat) : Int) = 2 ^ k := by
  rw [Nat.one_shiftLeft]
  exact Int.natCast_pow 2 k
theorem SK.newer {g rb : Nat} {a b c : World} (h : SK g a b) (k : SK rb b c) (hr : a.heap.size ≤ rb) : SK g a c := ⟨k.os.trans h.os, k.tape.trans h.tape, k.output.trans h.output, Nat.le_trans h.size k.size, fun i h1 h2 => (k.block i (Nat.lt_of_lt_of_le h1 h.size) (by omega)).trans (h.block i h1 h2)⟩
set_option maxRecDepth 100000 in
set_option maxHeartbeats 4000000 in
theorem nextPow (x : Nat) (w : World) (h : x ≤ 1000000000) : Calls Try.prog 159 #[.int .i64 (x : Int)] w (fun e w' => e = .returned (.int .u64 ((1 <<< Sort.bitsLen x : Nat) : Int)) ∧ w' = w) := by
  have HC := Lib.hid (bitsLen32 x w h)
  have hw1 : IntKind.u64.wrap (x : Int) = (x : Int) := by rw [IntKind.wrap_u64]; omega
  obtain ⟨k, hk⟩ : ∃ k, k = Sort.bitsLen x := ⟨_, rfl⟩
  rw [← hk] at HC ⊢
  have hk30 : k ≤ 30 := by rw [hk]; exact (Sort.bitsLen_le_iff x 30).2 (by omega)
  have HP := Lib.hid (show IntKind.u64.wrap (2 ^ k) = ((1 <<< k : Nat) : Int) by
    rw [two_pow_shl, IntKind.wrap_u64]
    have h1 : (2 : Nat) ^ k ≤ 1073741824 := Nat.le_trans (Nat.pow_le_pow_right (by omega) hk30) (by decide)
    have h2 : ((2 : Int) ^ k) = ((2 ^ k : Nat) : Int) := (Int.natCast_pow 2 k).symm
    rw [h2]
    generalize (2 : Nat) ^ k = m at *
    omega)
  clear hk h
  go_enter Try.func159, Try.ntmps159
  go_wp2_with fail
  refine HC.out.mono ?_
  rintro e W ⟨rfl, rfl⟩
  go_wp2
  go_ret
  exact ⟨congrArg (fun x => Ending.returned (.int .u64 x)) HP.out, rfl⟩
/-- The box of a xorshift. -/
def XBox (w : World) (rb R : Nat) : Prop := w.heap[rb]? = some (.cells #[.int .u64 (R : Int)] 210 (0, 0))
theorem XBox.cell {w : World} {rb R : Nat} (h : XBox w rb R) : w.cell? ⟨rb, 0, none⟩ = some (.int .u64 (R : Int)) := (cell_of_row w rb 0 _ _ _ h).trans rfl
theorem XBox.fro {w : World} {rb R : Nat} (h : XBox w rb R) : w.frozen? ⟨rb, 0, none⟩ = false := frozen_of_row w rb 0 _ _ h
theorem XBox.set {w : World} {rb R : Nat} (h : XBox w rb R) (R' : Nat) : XBox (w.setCell ⟨rb, 0, none⟩ (.int .u64 (R' : Int))).drew rb R' ∧ SK rb w (w.setCell ⟨rb, 0, none⟩ (.int .u64 (R' : Int))).drew :=
  ⟨((Below.refl (w.setCell ⟨rb, 0, none⟩ (.int .u64 (R' : Int))).heap.size (w.setCell ⟨rb, 0, none⟩ (.int .u64 (R' : Int)))).drew.block rb (by simpa [World.setCell] using (Array.getElem?_eq_some_iff.1 h).1)).trans (heap_setCell_same w rb 0 _ _ _ h), (SK.set _ _ _ _).trans (SK.bel (Below.refl _ _).drew)⟩
structure XOk (rb R : Nat) (w : World) (e : Ending) (W : World) : Prop where
  ret : e = .returned (.int .u64 (R : Int))
  box : XBox W rb R
  sk : SK rb w W
set_option maxRecDepth 100000 in
set_option maxHeartbeats 4000000 in
theorem next32 (rb R : Nat) (w : World) (h : XBox w rb R) (hR : R < 18446744073709551616) : Calls Try.prog 160 #[.pointer (some ⟨rb, 0, none⟩)] w (XOk rb (Sort.xorNextN R) w) := by
  obtain ⟨s1, hs1⟩ : ∃ s, s = R * 8192 % 18446744073709551616 := ⟨_, rfl⟩
  obtain ⟨A, hA⟩ : ∃ s, s = R ^^^ s1 := ⟨_, rfl⟩
  have lA : A < 18446744073709551616 := by rw [hA]; exact Nat.xor_lt_two_pow (n := 64) hR (by omega)
  obtain ⟨s2, hs2⟩ : ∃ s, s = A / 128 := ⟨_, rfl⟩
  obtain ⟨B, hB⟩ : ∃ s, s = A ^^^ s2 := ⟨_, rfl⟩
  have lB : B < 18446744073709551616 := by rw [hB]; exact Nat.xor_lt_two_pow (n := 64) lA (by omega)
  obtain ⟨s3, hs3⟩ : ∃ s, s = B * 131072 % 18446744073709551616 := ⟨_, rfl⟩
  obtain ⟨C, hC⟩ : ∃ s, s = B ^^^ s3 := ⟨_, rfl⟩
  have w1 : IntKind.u64.wrap ((R : Int) * 8192) = (s1 : Int) := by rw [IntKind.wrap_u64]; omega
  have x1 : bits BinOp.xor IntKind.u64 (R : Int) (s1 : Int) = (A : Int) := by rw [hA]; exact bits_xor_u64_nat R s1 hR (by omega)
  have w2 : (A : Int) / 128 = (s2 : Int) := by omega
  have x2 : bits BinOp.xor IntKind.u64 (A : Int) (s2 : Int) = (B : Int) := by rw [hB]; exact bits_xor_u64_nat A s2 lA (by omega)
  have w3 : IntKind.u64.wrap ((B : Int) * 131072) = (s3 : Int) := by rw [IntKind.wrap_u64]; omega
  have x3 : bits BinOp.xor IntKind.u64 (B : Int) (s3 : Int) = (C : Int) := by rw [hC]; exact bits_xor_u64_nat B s3 lB (by omega)
  have HE := Lib.hid (show Sort.xorNextN R = C by unfold Sort.xorNextN; simp only []; rw [hC, hs3, hB, hs2, hA, hs1])
  have HB0 := Lib.hid h
  rw [HE.out]
  clear HE hs1 hA lA hs2 hB lB hs3 hC hR h
  have c1 := HB0.out.cell
  have f1 := HB0.out.fro
  go_enter Try.func160, Try.ntmps160
  go_wp2
  go_region
  have HB1 := Lib.hid (HB0.out.set A)
  generalize World.drew _ = W1 at HB1 ⊢
  clear c1 f1 x1 w1 HB0
  have c1 := HB1.out.1.cell
  have f1 := HB1.out.1.fro
  go_wp2
  go_region
  have HB2 := Lib.hid (HB1.out.1.set B)
  have HS2 := Lib.hid (HB1.out.2.trans HB2.out.2)
  generalize World.drew _ = W2 at HB2 HS2 ⊢
  clear c1 f1 x2 w2 HB1
  have c1 := HB2.out.1.cell
  have f1 := HB2.out.1.fro
  go_wp2
  go_region
  have HB3 := Lib.hid (HB2.out.1.set C)
  have HS3 := Lib.hid (HS2.out.trans HB3.out.2)
  generalize World.drew _ = W3 at HB3 HS3 ⊢
  clear c1 f1 x3 w3 HB2 HS2
  have c1 := HB3.out.1.cell
  go_wp2
  go_ret
  exact ⟨rfl, HB3.out.1, HS3.out⟩
/-- The rounds that are left. -/
def bpR (a L M : Nat) : Nat → Nat → UInt64 × Array Int → Array Int
  | 0, _, st => st.2
  | t + 1, idx, st => bpR a L M t (idx + 1) (Sort.breakStep a L M st idx)
theorem bp_eq (d : Array Int) (a b : Nat) (h : 8 ≤ b - a) : Sort.breakPatterns d a b = bpR a (b - a) (1 <<< Sort.bitsLen (b - a)) 3 (a + (b - a) / 4 * 2 - 1) (UInt64.ofNat (b - a), d) := by
  unfold Sort.breakPatterns
  simp only []
  rw [if_pos h]
  rfl
theorem bp_go (a L M t idx o : Nat) (r : UInt64) (d : Array Int) (ho : (if (Sort.xorNext r).toNat &&& (M - 1) ≥ L then ((Sort.xorNext r).toNat &&& (M - 1)) - L else (Sort.xorNext r).toNat &&& (M - 1)) = o) : bpR a L M (t + 1) idx (r, d) = bpR a L M t (idx + 1) (Sort.xorNext r, Sort.swp d idx (a + o)) := by
  show bpR a L M t (idx + 1) (Sort.breakStep a L M (r, d) idx) = _
  unfold Sort.breakStep
  simp only []
  rw [ho]
set_option maxRecDepth 100000 in
set_option maxHeartbeats 4000000 in
theorem break32 (g n cap : Nat) (d : Array Int) (sp : Array Value) (a b : Nat) (w : World) (h : SRow w g d sp) (hn : d.size = n) (hmx : n ≤ 1000000000) (hab : a + 12 < b) (hb : b ≤ n) : Calls Try.prog 143 #[.slice (some ⟨g, 0, none⟩) n cap, .int .i64 (a : Int), .int .i64 (b : Int)] w (SOk g (Sort.breakPatterns d a b) sp (.tuple #[]) w) := by
  obtain ⟨R, hR⟩ : ∃ R, R = Sort.breakPatterns d a b := ⟨_, rfl⟩
  rw [← hR]
  rw [bp_eq d a b (by omega)] at hR
  obtain ⟨L, hL⟩ : ∃ L, L = b - a := ⟨_, rfl⟩
  obtain ⟨I, hI⟩ : ∃ I, I = a + L / 4 * 2 - 1 := ⟨_, rfl⟩
  obtain ⟨M, hM⟩ : ∃ M, M = 1 <<< Sort.bitsLen L := ⟨_, rfl⟩
  rw [← hL, ← hI, ← hM] at hR
  have hM0 : L < M := by rw [hM, Nat.one_shiftLeft]; exact Sort.lt_two_pow_bitsLen L
  have hM2 : M ≤ 2 * L := by rw [hM, Nat.one_shiftLeft]; exact Sort.two_pow_bitsLen_le (by omega)
  have HQ0 := Lib.hid hR.symm
  have HR0 := Lib.hid h
  have HN0 := Lib.hid hn
  obtain ⟨rb, hrb⟩ : ∃ rb, rb = w.heap.size := ⟨_, rfl⟩
  have HNE := Lib.hid (show g < rb from hrb ▸ h.lt)
  have HC := Lib.hid (fun W => by have := nextPow L W (by omega); rw [← hM] at this; exact this)
  obtain ⟨q, hq⟩ : ∃ q, q = L / 4 := ⟨_, rfl⟩
  obtain ⟨q2, hq2⟩ : ∃ z, z = q * 2 := ⟨_, rfl⟩
  obtain ⟨q3, hq3⟩ : ∃ z, z = a + q2 := ⟨_, rfl⟩
  obtain ⟨q4, hq4⟩ : ∃ z, z = q3 + 1 := ⟨_, rfl⟩
  have e1 : (b : Int) - (a : Int) = (L : Int) := by omega
  have d8 : decide ((8 : Int) ≤ (L : Int)) = true := by rw [decide_eq_true_iff]; omega
  have d8' : decide (8 ≤ L) = true := by rw [decide_eq_true_iff]; omega
  have e2 : (L : Int).tdiv 4 = (q : Int) := by rw [hq]; exact (Int.ofNat_tdiv L 4).symm
  have e3 : (q : Int) * 2 = (q2 : Int) := by omega
  have e4 : (a : Int) + (q2 : Int) = (q3 : Int) := by omega
  have e5 : (q3 : Int) - 1 = (I : Int) := by omega
  have e6 : (q3 : Int) + 1 = (q4 : Int) := by omega
  have e7 : (M : Int) - 1 = ((M - 1 : Nat) : Int) := by omega
  have hw1 : IntKind.i64.wrap (L : Int) = (L : Int) := by rw [IntKind.wrap_i64]; omega
  have hw2 : IntKind.i64.wrap (q : Int) = (q : Int) := by rw [IntKind.wrap_i64]; omega
  have hw3 : IntKind.i64.wrap (q2 : Int) = (q2 : Int) := by rw [IntKind.wrap_i64]; omega
  have hw4 : IntKind.i64.wrap (q3 : Int) = (q3 : Int) := by rw [IntKind.wrap_i64]; omega
  have hw5 : IntKind.i64.wrap (q4 : Int) = (q4 : Int) := by rw [IntKind.wrap_i64]; omega
  have hw6 : IntKind.i64.wrap (I : Int) = (I : Int) := by rw [IntKind.wrap_i64]; omega
  have hw7 : IntKind.u64.wrap (L : Int) = (L : Int) := by rw [IntKind.wrap_u64]; omega
  have HDF := Lib.hid (show a + L = b ∧ 12 < L ∧ I + 2 = q4 ∧ I + 3 ≤ b ∧ a ≤ I ∧ L < M ∧ M ≤ 2 * L by omega)
  have hML : (UInt64.ofNat L).toNat = L := by rw [UInt64.toNat_ofNat']; omega
  obtain ⟨m1, hm1⟩ : ∃ m, m = M - 1 := ⟨_, rfl⟩
  rw [← hm1] at e7
  have hw8 : IntKind.u64.wrap (m1 : Int) = (m1 : Int) := by rw [IntKind.wrap_u64]; omega
  have HM1 := Lib.hid hm1
  have HA := Lib.hid ((Below.refl w.heap.size w).alloc (Nat.le_refl _) (.cells #[.int .u64 (L : Int)] 210))
  have HX0 := Lib.hid (show XBox (w.alloc (.cells #[.int .u64 (L : Int)] 210)) rb (UInt64.ofNat L).toNat by rw [hML, hrb]; exact heap_alloc_new w _)
  have HL0 := Lib.hid (show rb < (w.alloc (.cells #[.int .u64 (L : Int)] 210)).heap.size by rw [hrb]; simp)
  have HRB := Lib.hid hrb
  clear hR hL hI hM hM0 hM2 hn hq hq2 hq3 hq4 hab h hML hm1
  go_enter Try.func143, Try.ntmps143
  go_wp2_with fail
  rw [← hrb]
  clear hrb
  have HR1 := Lib.hid (HR0.out.bel HA.out)
  have HS1 := Lib.hid (show SK g w _ from SK.bel HA.out)
  generalize World.alloc w _ = W1 at *
  refine (HC.out _).mono ?_
  rintro e W ⟨rfl, rfl⟩
  go_wp2
  go_loopw [9] (fun iv wr => ∃ (t idx : Nat) (r : UInt64) (d1 : Array Int), t ≤ 3 ∧ idx + t = q4 + 1 ∧ iv = .int .i64 (idx : Int) ∧ Hid (d1.size = n) ∧ Hid (SRow wr g d1 sp) ∧ Hid (XBox wr rb r.toNat) ∧ Hid (rb < wr.heap.size) ∧ Hid (SK g w wr) ∧ Hid (bpR a L M t idx (r, d1) = R)) (fun iv _ => q4 + 1 - (intOf iv).toNat)
  case atStart => exact ⟨3, I, UInt64.ofNat L, d, Nat.le_refl _, by have := HDF.out; omega, by go_num, HN0, HR1, HX0, HL0, HS1, HQ0⟩
  case round =>
    obtain ⟨t, idx, r, d1, ht, hidx, rfl, HN1, HRr, HXr, HLr, HSr, HQr⟩ := hrel
    clear HN0 HR1 HX0 HL0 HS1 HQ0 HA HC HR0
    cases t with
    | zero =>
      have dz : decide ((idx : Int) ≤ (q4 : Int)) = false := by rw [decide_eq_false_iff_not]; omega
      have dz' : decide (idx ≤ q4) = false := by rw [decide_eq_false_iff_not]; omega
      have HE := Lib.hid (show d1 = R from HQr.out)
      clear hidx ht HQr
      go_wp2
      go_returns
      exact ⟨rfl, HE.out ▸ HRr.out, HSr.out⟩
    | succ t =>
      have HDX := Lib.hid (show idx + t = q4 ∧ t ≤ 2 by omega)
      have dz : decide ((idx : Int) ≤ (q4 : Int)) = true := by rw [decide_eq_true_iff]; omega
      have dz' : decide (idx ≤ q4) = true := by rw [decide_eq_true_iff]; omega
      have hwi : IntKind.i64.wrap ((idx : Int) + 1) = (idx : Int) + 1 := by rw [IntKind.wrap_i64]; have := HDF.out; omega
      clear hidx ht
      obtain ⟨R', hR'⟩ : ∃ R', R' = (Sort.xorNext r).toNat := ⟨_, rfl⟩
      have HNX := Lib.hid (fun W (hW : XBox W rb r.toNat) => by have := next32 rb r.toNat W hW r.toNat_lt; rw [← Sort.xorNext_toNat, ← hR'] at this; exact this)
      obtain ⟨o0, ho0⟩ : ∃ o, o = R' &&& m1 := ⟨_, rfl⟩
      have hol : o0 ≤ m1 := by rw [ho0]; exact Nat.and_le_right
      have hba : bits BinOp.and IntKind.u64 (R' : Int) (m1 : Int) = (o0 : Int) := by rw [ho0]; exact bits_and_u64_nat R' m1 (by rw [hR']; exact (Sort.xorNext r).toNat_lt) (by have := HM1.out; have := HDF.out; omega)
      have hwo : IntKind.i64.wrap (o0 : Int) = (o0 : Int) := by rw [IntKind.wrap_i64]; have := HM1.out; have := HDF.out; omega
      have HO := Lib.hid (show (Sort.xorNext r).toNat &&& (M - 1) = o0 by rw [ho0, hR', HM1.out])
      have HOL := Lib.hid (show o0 < M by have := HM1.out; have := HDF.out; omega)
      have HRX := Lib.hid hR'
      clear hR' ho0 hol
      go_wp2_with fail
      refine (HNX.out _ HXr.out).mono ?_
      rintro e W2 ⟨rfl, hx, hs⟩
      have HX2 := Lib.hid hx
      have HR2 := Lib.hid (HRr.out.sk hs (by have := HNE.out; omega))
      have HX2L := Lib.hid (Nat.lt_of_lt_of_le HLr.out hs.size)
      have HS2 := Lib.hid (HSr.out.newer hs (by have := HRB.out; omega))
      clear hx hs HRr HXr HLr HSr HNX
      by_cases hLo : L ≤ o0
      · have dl : decide ((L : Int) ≤ (o0 : Int)) = true := by rw [decide_eq_true_iff]; omega
        have dl' : decide (L ≤ o0) = true := by rw [decide_eq_true_iff]; omega
        obtain ⟨o, ho⟩ : ∃ o, o = o0 - L := ⟨_, rfl⟩
        have eo : (o0 : Int) - (L : Int) = (o : Int) := by omega
        have HQ2 := Lib.hid ((bp_go a L M t idx o r d1 (by rw [HO.out, if_pos hLo, ho])).symm.trans HQr.out)
        have hoL : o < L := by have := HOL.out; have := HDF.out; omega
        clear hLo ho
        have hwp : IntKind.i64.wrap (o : Int) = (o : Int) := by rw [IntKind.wrap_i64]; have := HDF.out; omega
        obtain ⟨J, hJ⟩ : ∃ J, J = a + o := ⟨_, rfl⟩
        have eJ : (a : Int) + (o : Int) = (J : Int) := by omega
        have hwJ : IntKind.i64.wrap (J : Int) = (J : Int) := by rw [IntKind.wrap_i64]; have := HDF.out; omega
        rw [← hJ] at HQ2
        have HDG := Lib.hid (show idx < n ∧ J < n by have := HDF.out; have := HDX.out; omega)
        have hjn : (J : Int) < (n : Int) := by have := HDG.out; omega
        have hin : (idx : Int) < (n : Int) := by have := HDG.out; omega
        clear hJ hoL
        by_cases heq : J = idx
        · have HEQ := Lib.hid heq
          have c1 := HR2.out.cell idx (by rw [HN1.out]; exact HDG.out.1)
          have f1 := HR2.out.fro idx
          have HW := Lib.hid (HR2.out.swpD (i := idx) (j := idx) (by rw [HN1.out]; exact HDG.out.1) (by rw [HN1.out]; exact HDG.out.1))
          have HNW := Lib.hid (show (Sort.swp d1 idx idx).size = n by rw [swp_size, HN1.out])
          have HSE := Lib.hid (show Sort.swp d1 idx J = Sort.swp d1 idx idx by rw [HEQ.out])
          go_wp2
          go_region
          clear c1 f1 heq
          have HR3 := Lib.hid HW.out.1
          have HX3 := Lib.hid (show XBox _ rb (Sort.xorNext r).toNat by rw [← HRX.out]; exact (HW.out.2.block rb HX2L.out (by have := HNE.out; omega)).trans HX2.out)
          have HS3 := Lib.hid (HS2.out.trans HW.out.2)
          have HL3 := Lib.hid (Nat.lt_of_lt_of_le HX2L.out HW.out.2.size)
          clear HW HR2 HX2 HS2
          go_wp2
          go_roundw
          case rel => exact ⟨t, idx + 1, Sort.xorNext r, Sort.swp d1 idx idx, by have := HDX.out; omega, by have := HDX.out; omega, by go_num, HNW, HR3, HX3, HL3, HS3, Lib.hid (by rw [← HSE.out]; exact HQ2.out)⟩
          case measure => have := HDX.out; simp [intOf]; omega
        · have hne : idx ≠ J := fun e => heq e.symm
          clear heq
          have c1 := HR2.out.cell idx (by rw [HN1.out]; exact HDG.out.1)
          have c2 := HR2.out.cell J (by rw [HN1.out]; exact HDG.out.2)
          have f1 := HR2.out.fro idx
          have f2 := HR2.out.fro J
          have HW := Lib.hid (HR2.out.swpD (i := idx) (j := J) (by rw [HN1.out]; exact HDG.out.1) (by rw [HN1.out]; exact HDG.out.2))
          have HNW := Lib.hid (show (Sort.swp d1 idx J).size = n by rw [swp_size, HN1.out])
          go_wp2
          go_region
          clear c1 c2 f1 f2 hne
          have HR3 := Lib.hid HW.out.1
          have HX3 := Lib.hid (show XBox _ rb (Sort.xorNext r).toNat by rw [← HRX.out]; exact (HW.out.2.block rb HX2L.out (by have := HNE.out; omega)).trans HX2.out)
          have HS3 := Lib.hid (HS2.out.trans HW.out.2)
          have HL3 := Lib.hid (Nat.lt_of_lt_of_le HX2L.out HW.out.2.size)
          clear HW HR2 HX2 HS2
          go_wp2
          go_roundw
          case rel => exact ⟨t, idx + 1, Sort.xorNext r, Sort.swp d1 idx J, by have := HDX.out; omega, by have := HDX.out; omega, by go_num, HNW, HR3, HX3, HL3, HS3, HQ2⟩
          case measure => have := HDX.out; simp [intOf]; omega
      · have dl : decide ((L : Int) ≤ (o0 : Int)) = false := by rw [decide_eq_false_iff_not]; omega
        have dl' : decide (L ≤ o0) = false := by rw [decide_eq_false_iff_not]; omega
        obtain ⟨o, ho⟩ : ∃ o, o = o0 := ⟨_, rfl⟩
        have HQ2 := Lib.hid ((bp_go a L M t idx o r d1 (by rw [HO.out, if_neg hLo, ho])).symm.trans HQr.out)
        have hoL : o < L := by omega
        subst ho
        clear hLo
        have hwp : IntKind.i64.wrap (o : Int) = (o : Int) := by rw [IntKind.wrap_i64]; have := HDF.out; omega
        obtain ⟨J, hJ⟩ : ∃ J, J = a + o := ⟨_, rfl⟩
        have eJ : (a : Int) + (o : Int) = (J : Int) := by omega
        have hwJ : IntKind.i64.wrap (J : Int) = (J : Int) := by rw [IntKind.wrap_i64]; have := HDF.out; omega
        rw [← hJ] at HQ2
        have HDG := Lib.hid (show idx < n ∧ J < n by have := HDF.out; have := HDX.out; omega)
        have hjn : (J : Int) < (n : Int) := by have := HDG.out; omega
        have hin : (idx : Int) < (n : Int) := by have := HDG.out; omega
        clear hJ hoL
        by_cases heq : J = idx
        · have HEQ := Lib.hid heq
          have c1 := HR2.out.cell idx (by rw [HN1.out]; exact HDG.out.1)
          have f1 := HR2.out.fro idx
          have HW := Lib.hid (HR2.out.swpD (i := idx) (j := idx) (by rw [HN1.out]; exact HDG.out.1) (by rw [HN1.out]; exact HDG.out.1))
          have HNW := Lib.hid (show (Sort.swp d1 idx idx).size = n by rw [swp_size, HN1.out])
          have HSE := Lib.hid (show Sort.swp d1 idx J = Sort.swp d1 idx idx by rw [HEQ.out])
          go_wp2
          go_region
          clear c1 f1 heq
          have HR3 := Lib.hid HW.out.1
          have HX3 := Lib.hid (show XBox _ rb (Sort.xorNext r).toNat by rw [← HRX.out]; exact (HW.out.2.block rb HX2L.out (by have := HNE.out; omega)).trans HX2.out)
          have HS3 := Lib.hid (HS2.out.trans HW.out.2)
          have HL3 := Lib.hid (Nat.lt_of_lt_of_le HX2L.out HW.out.2.size)
          clear HW HR2 HX2 HS2
          go_wp2
          go_roundw
          case rel => exact ⟨t, idx + 1, Sort.xorNext r, Sort.swp d1 idx idx, by have := HDX.out; omega, by have := HDX.out; omega, by go_num, HNW, HR3, HX3, HL3, HS3, Lib.hid (by rw [← HSE.out]; exact HQ2.out)⟩
          case measure => have := HDX.out; simp [intOf]; omega
        · have hne : idx ≠ J := fun e => heq e.symm
          clear heq
          have c1 := HR2.out.cell idx (by rw [HN1.out]; exact HDG.out.1)
          have c2 := HR2.out.cell J (by rw [HN1.out]; exact HDG.out.2)
          have f1 := HR2.out.fro idx
          have f2 := HR2.out.fro J
          have HW := Lib.hid (HR2.out.swpD (i := idx) (j := J) (by rw [HN1.out]; exact HDG.out.1) (by rw [HN1.out]; exact HDG.out.2))
          have HNW := Lib.hid (show (Sort.swp d1 idx J).size = n by rw [swp_size, HN1.out])
          go_wp2
          go_region
          clear c1 c2 f1 f2 hne
          have HR3 := Lib.hid HW.out.1
          have HX3 := Lib.hid (show XBox _ rb (Sort.xorNext r).toNat by rw [← HRX.out]; exact (HW.out.2.block rb HX2L.out (by have := HNE.out; omega)).trans HX2.out)
          have HS3 := Lib.hid (HS2.out.trans HW.out.2)
          have HL3 := Lib.hid (Nat.lt_of_lt_of_le HX2L.out HW.out.2.size)
          clear HW HR2 HX2 HS2
          go_wp2
          go_roundw
          case rel => exact ⟨t, idx + 1, Sort.xorNext r, Sort.swp d1 idx J, by have := HDX.out; omega, by have := HDX.out; omega, by go_num, HNW, HR3, HX3, HL3, HS3, HQ2⟩
          case measure => have := HDX.out; simp [intOf]; omega
end Go.Proofs.Ytnpalplnpfgibaa
