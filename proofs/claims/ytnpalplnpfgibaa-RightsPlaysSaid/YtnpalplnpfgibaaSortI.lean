/- partitionOrdered at uint32. -/
import Derived.Test.YtnpalplnpfgibaaSortH
namespace Go.Proofs.Ytnpalplnpfgibaa
open Go.RowKit
set_option linter.unusedSimpArgs false
set_option linter.unusedVariables false
set_option maxRecDepth 100000 in
set_option maxHeartbeats 4000000 in
theorem part32 (g n cap : Nat) (d : Array Int) (sp : Array Value) (a b p m : Nat) (w : World) (ap : Bool) (R : Array Int) (h : SRow w g d sp) (hn : d.size = n) (hmx : n ≤ 1000000000) (hap : a ≤ p) (hpb : p < b) (hb : b ≤ n) (hr : Sort.partition ltI d a b p = (m, ap, R)) : Calls Try.prog 149 #[.slice (some ⟨g, 0, none⟩) n cap, .int .i64 (a : Int), .int .i64 (b : Int), .int .i64 (p : Int)] w (SOk g R sp (.tuple #[.int .i64 (m : Int), .bool ap]) w) := by
  obtain ⟨j, hz⟩ : ∃ z, b = z + 1 := ⟨b - 1, by omega⟩
  have HQ0 := Lib.hid hr
  have HZ1 := Lib.hid (show b - 1 = j by omega)
  have HR0 := Lib.hid h
  have HN0 := Lib.hid hn
  have HS0 := Lib.hid (SK.refl g w)
  obtain ⟨i, hi⟩ : ∃ i, i = a + 1 := ⟨_, rfl⟩
  have HA1 := Lib.hid hi.symm
  have HDF := Lib.hid (show b ≤ n ∧ n ≤ 1000000000 by omega)
  have HIJ := Lib.hid (show i ≤ j + 1 ∧ j < b ∧ a < i by omega)
  have HAP := Lib.hid (show a < n ∧ p < n by omega)
  have e0 : (b : Int) - 1 = (j : Int) := by omega
  have e1 : (a : Int) + 1 = (i : Int) := by omega
  have hw0 : IntKind.i64.wrap (j : Int) = (j : Int) := by rw [IntKind.wrap_i64]; omega
  have hwa : IntKind.i64.wrap (i : Int) = (i : Int) := by rw [IntKind.wrap_i64]; omega
  have han : (a : Int) < (n : Int) := by omega
  have hpn : (p : Int) < (n : Int) := by omega
  clear hr h hn hz hi hap hpb hb
  go_enter Try.func149, Try.ntmps149
  have c1 := HR0.out.cell a (by rw [HN0.out]; exact HAP.out.1)
  have c2 := HR0.out.cell p (by rw [HN0.out]; exact HAP.out.2)
  have f1 := HR0.out.fro a
  have f2 := HR0.out.fro p
  obtain ⟨v', hy'⟩ := cell_set_some (p := ⟨g, a, none⟩) (x := .int .u32 d[p]!) c2
  have HW := Lib.hid (HR0.out.swpD (i := a) (j := p) (by rw [HN0.out]; exact HAP.out.1) (by rw [HN0.out]; exact HAP.out.2))
  have HN1 := Lib.hid (show (Sort.swp d a p).size = n by rw [swp_size, HN0.out])
  go_wp2
  go_region
  have HR1 := Lib.hid HW.out.1
  have HS1 := Lib.hid (HS0.out.trans HW.out.2)
  generalize World.drew _ = WA at HR1 HS1 ⊢
  clear c1 c2 f1 f2 hy' v' HW HR0 HS0
  obtain ⟨d1, hd1⟩ : ∃ d1, d1 = Sort.swp d a p := ⟨_, rfl⟩
  rw [← hd1] at HR1 HN1
  have HD1 := Lib.hid hd1
  clear hd1 HN0
  obtain ⟨I2, hI2⟩ : ∃ I2, Sort.scanUp (fun x => ltI x d1[a]!) d1 j i = I2 := ⟨_, rfl⟩
  obtain ⟨J2, hJ2⟩ : ∃ J2, Sort.scanDown (fun x => !ltI x d1[a]!) d1 I2 j = J2 := ⟨_, rfl⟩
  have HI2 := Lib.hid hI2
  have HJ2 := Lib.hid hJ2
  clear hI2 hJ2
  go_upto_block 0 with fail
  go_cut [10] (fun sv wc => sv = .int .i64 (I2 : Int) ∧ Hid (i ≤ I2 ∧ I2 ≤ j + 1) ∧ Hid (SRow wc g d1 sp) ∧ Hid (SK g w wc))
  case first =>
    go_wp2
    go_loopw [10] (fun kv wz => ∃ (k : Nat), kv = .int .i64 (k : Int) ∧ i ≤ k ∧ k ≤ j + 1 ∧ Hid (SRow wz g d1 sp) ∧ Hid (SK g w wz) ∧ Hid (Sort.scanUp (fun x => ltI x d1[a]!) d1 j k = I2)) (fun kv _ => j + 1 - (intOf kv).toNat)
    case atStart => exact ⟨i, rfl, Nat.le_refl _, HIJ.out.1, HR1, HS1, HI2⟩
    case round =>
      obtain ⟨k, rfl, hik, hkj, HR2, HS2, HK2⟩ := hrel
      clear HR1 HS1
      have HKB := Lib.hid (And.intro hik hkj)
      by_cases hlt : k ≤ j
      · have hki : (k : Int) ≤ (j : Int) := by omega
        have hki' : decide ((k : Int) ≤ (j : Int)) = true := by rw [decide_eq_true_iff]; omega
        have hw2 : IntKind.i64.wrap ((k : Int) + 1) = (k : Int) + 1 := by rw [IntKind.wrap_i64]; have := HDF.out; have := HIJ.out; omega
        have HLT := Lib.hid hlt
        have HNN := Lib.hid (show k < n ∧ a < n by have := HDF.out; have := HIJ.out; omega)
        have hkn : (k : Int) < (n : Int) := by have := HNN.out; omega
        have han : (a : Int) < (n : Int) := by have := HNN.out; omega
        have c1 := HR2.out.cell k (by rw [HN1.out]; exact HNN.out.1)
        have c2 := HR2.out.cell a (by rw [HN1.out]; exact HNN.out.2)
        have f1 := HR2.out.fro k
        have f2 := HR2.out.fro a
        obtain ⟨t, hb1⟩ : ∃ t, ltI d1[k]! d1[a]! = t := ⟨_, rfl⟩
        have HT := Lib.hid hb1
        have HL := Lib.hid (show ∀ w, Calls Try.prog 147 #[.int .u32 d1[k]!, .int .u32 d1[a]!] w (fun e w' => e = .returned (.bool t) ∧ w' = w) from fun w => by rw [← hb1]; exact less32 _ _ _)
        clear hb1
        clear hik hkj hlt
        go_wp2
        go_quiet (first | (go_at_call 147; refine Calls.quiet_of_same (HL.out _)))
        clear c1 c2 f1 f2
        have HB := Lib.hid (HR2.out.drewN nq)
        generalize World.drewN wr nq = W3 at *
        have HR3 := Lib.hid HB.out.1
        have HS3 := Lib.hid (HS2.out.trans HB.out.2)
        clear HB HR2 HS2
        cases t with
        | true =>
          have HQ := Lib.hid (show Sort.scanUp (fun x => ltI x d1[a]!) d1 j (k + 1) = I2 from (scanU_go (p := (fun x => ltI x d1[a]!)) HLT.out (show (fun x => ltI x d1[a]!) d1[k]! = true by simp [HT.out])).symm.trans HK2.out)
          go_wp2
          go_roundw
          case rel => exact ⟨k + 1, by go_num, by have := HKB.out; omega, by have := HLT.out; omega, HR3, HS3, HQ⟩
          case measure => have := HLT.out; simp [intOf]; omega
        | false =>
          have HE := Lib.hid (show k = I2 from (scanU_stop (p := (fun x => ltI x d1[a]!)) (.inr (show (fun x => ltI x d1[a]!) d1[k]! = false by simp [HT.out]))).symm.trans HK2.out)
          go_wp2
          go_meet
          case rel => exact ⟨by rw [HE.out], by rw [← HE.out]; exact HKB, HR3, HS3⟩
      · have hki : decide ((k : Int) ≤ (j : Int)) = false := by rw [decide_eq_false_iff_not]; omega
        have hkn : decide (k ≤ j) = false := decide_eq_false hlt
        have HE := Lib.hid (show k = I2 from (scanU_stop (p := (fun x => ltI x d1[a]!)) (.inl hlt)).symm.trans HK2.out)
        clear hik hkj hlt
        go_wp2
        go_quiet (fail)
        have HB := Lib.hid (HR2.out.drewN nq)
        generalize World.drewN wr nq = W3 at *
        have HR3 := Lib.hid HB.out.1
        have HS3 := Lib.hid (HS2.out.trans HB.out.2)
        clear HB HR2 HS2
        go_wp2
        go_meet
        case rel => exact ⟨by rw [HE.out], by rw [← HE.out]; exact HKB, HR3, HS3⟩
  case rest =>
    obtain ⟨rfl, HI2B, HR4, HS4⟩ := hcut
    clear HR1 HS1
    go_upto_block 2 with fail
    go_cut [11] (fun sv wc => sv = .int .i64 (J2 : Int) ∧ Hid (J2 ≤ j ∧ I2 ≤ J2 + 1) ∧ Hid (SRow wc g d1 sp) ∧ Hid (SK g w wc))
    case first =>
      go_wp2
      go_loopw [11] (fun kv wz => ∃ (k : Nat), kv = .int .i64 (k : Int) ∧ k ≤ j ∧ I2 ≤ k + 1 ∧ Hid (SRow wz g d1 sp) ∧ Hid (SK g w wz) ∧ Hid (Sort.scanDown (fun x => !ltI x d1[a]!) d1 I2 k = J2)) (fun kv _ => (intOf kv).toNat)
      case atStart => exact ⟨j, rfl, Nat.le_refl _, HI2B.out.2, HR4, HS4, HJ2⟩
      case round =>
        obtain ⟨k, rfl, hkj, hik, HR2, HS2, HK2⟩ := hrel
        clear HR4 HS4
        have HKB := Lib.hid (And.intro hkj hik)
        by_cases hlt : I2 ≤ k
        · have hki : (I2 : Int) ≤ (k : Int) := by omega
          have hki' : decide ((I2 : Int) ≤ (k : Int)) = true := by rw [decide_eq_true_iff]; omega
          obtain ⟨y, hy⟩ : ∃ y, k = y + 1 := ⟨k - 1, by have := HDF.out; have := HIJ.out; have := HI2B.out; omega⟩
          have HY := Lib.hid hy
          have e1 : (k : Int) - 1 = (y : Int) := by omega
          have hw2 : IntKind.i64.wrap (y : Int) = (y : Int) := by rw [IntKind.wrap_i64]; have := HDF.out; have := HIJ.out; omega
          clear hy
          have HLT := Lib.hid hlt
          have HNN := Lib.hid (show k < n ∧ a < n by have := HDF.out; have := HIJ.out; omega)
          have hkn : (k : Int) < (n : Int) := by have := HNN.out; omega
          have han : (a : Int) < (n : Int) := by have := HNN.out; omega
          have c1 := HR2.out.cell k (by rw [HN1.out]; exact HNN.out.1)
          have c2 := HR2.out.cell a (by rw [HN1.out]; exact HNN.out.2)
          have f1 := HR2.out.fro k
          have f2 := HR2.out.fro a
          obtain ⟨t, hb1⟩ : ∃ t, ltI d1[k]! d1[a]! = t := ⟨_, rfl⟩
          have HT := Lib.hid hb1
          have HL := Lib.hid (show ∀ w, Calls Try.prog 147 #[.int .u32 d1[k]!, .int .u32 d1[a]!] w (fun e w' => e = .returned (.bool t) ∧ w' = w) from fun w => by rw [← hb1]; exact less32 _ _ _)
          clear hb1
          clear hik hkj hlt
          go_wp2
          go_quiet (first | (go_at_call 147; refine Calls.quiet_of_same (HL.out _)))
          clear c1 c2 f1 f2
          have HB := Lib.hid (HR2.out.drewN nq)
          generalize World.drewN wr nq = W3 at *
          have HR3 := Lib.hid HB.out.1
          have HS3 := Lib.hid (HS2.out.trans HB.out.2)
          clear HB HR2 HS2
          cases t with
          | false =>
            have HQ := Lib.hid (show Sort.scanDown (fun x => !ltI x d1[a]!) d1 I2 y = J2 by
              have hT := HT.out
              have hK := HK2.out
              have hL := HLT.out
              rw [HY.out] at hT hK hL
              exact (scanN_go (p := (fun x => !ltI x d1[a]!)) hL (show (fun x => !ltI x d1[a]!) d1[y + 1]! = true by simp [hT])).symm.trans hK)
            go_wp2
            go_roundw
            case rel => exact ⟨y, by go_num, by have := HKB.out; have := HY.out; omega, by have := HLT.out; have := HY.out; omega, HR3, HS3, HQ⟩
            case measure => have := HY.out; simp [intOf]; omega
          | true =>
            have HE := Lib.hid (show k = J2 from (scanN_stop (p := (fun x => !ltI x d1[a]!)) (.inr (show (fun x => !ltI x d1[a]!) d1[k]! = false by simp [HT.out]))).symm.trans HK2.out)
            go_wp2
            go_meet
            case rel => exact ⟨by rw [HE.out], by rw [← HE.out]; exact HKB, HR3, HS3⟩
        · have hki : decide ((I2 : Int) ≤ (k : Int)) = false := by rw [decide_eq_false_iff_not]; omega
          have hkn : decide (I2 ≤ k) = false := decide_eq_false hlt
          have HE := Lib.hid (show k = J2 from (scanN_stop (p := (fun x => !ltI x d1[a]!)) (.inl hlt)).symm.trans HK2.out)
          clear hik hkj hlt
          go_wp2
          go_quiet (fail)
          have HB := Lib.hid (HR2.out.drewN nq)
          generalize World.drewN wr nq = W3 at *
          have HR3 := Lib.hid HB.out.1
          have HS3 := Lib.hid (HS2.out.trans HB.out.2)
          clear HB HR2 HS2
          go_wp2
          go_meet
          case rel => exact ⟨by rw [HE.out], by rw [← HE.out]; exact HKB, HR3, HS3⟩
    case rest =>
      obtain ⟨rfl, HJ2B, HR5, HS5⟩ := hcut
      clear HR4 HS4
      by_cases hgt : J2 < I2
      · have HE := Lib.hid (show J2 = m ∧ true = ap ∧ Sort.swp d1 J2 a = R by
          have h0 := HQ0.out
          unfold Sort.partition at h0
          simp only [] at h0
          rw [← HD1.out, HZ1.out, HA1.out, HI2.out, HJ2.out, if_pos hgt] at h0
          simp only [Prod.mk.injEq] at h0
          exact h0)
        have d0 : decide ((J2 : Int) < (I2 : Int)) = true := by rw [decide_eq_true_iff]; omega
        have d0' : (J2 : Int) < (I2 : Int) := by omega
        clear hgt HQ0
        have HJN := Lib.hid (show J2 < n ∧ a < n by have := HJ2B.out; have := HIJ.out; have := HDF.out; omega)
        have hjn : (J2 : Int) < (n : Int) := by have := HJN.out; omega
        have han : (a : Int) < (n : Int) := by have := HJN.out; omega
        have c1 := HR5.out.cell J2 (by rw [HN1.out]; exact HJN.out.1)
        have c2 := HR5.out.cell a (by rw [HN1.out]; exact HJN.out.2)
        have f1 := HR5.out.fro J2
        have f2 := HR5.out.fro a
        obtain ⟨v', hy'⟩ := cell_set_some (p := ⟨g, J2, none⟩) (x := .int .u32 d1[a]!) c2
        have HW := Lib.hid (HR5.out.swpD (i := J2) (j := a) (by rw [HN1.out]; exact HJN.out.1) (by rw [HN1.out]; exact HJN.out.2))
        have HN7 := Lib.hid (show (Sort.swp d1 J2 a).size = n by rw [swp_size, HN1.out])
        go_wp2
        go_region
        have HR7 := Lib.hid HW.out.1
        have HS7 := Lib.hid (HS5.out.trans HW.out.2)
        generalize World.drew _ = W7 at HR7 HS7 ⊢
        clear c1 c2 f1 f2 hy' v' HW HR5 HS5
        obtain ⟨hm, hap2, hR⟩ := HE.out
        subst hm
        subst hap2
        go_wp2
        go_returns
        exact ⟨rfl, hR ▸ HR7.out, HS7.out⟩
      · have HQ2 := Lib.hid (show (Sort.partLoop ltI a (I2 + 1) (J2 - 1) (Sort.swp d1 I2 J2)).1 = m ∧ false = ap ∧ Sort.swp (Sort.partLoop ltI a (I2 + 1) (J2 - 1) (Sort.swp d1 I2 J2)).2 (Sort.partLoop ltI a (I2 + 1) (J2 - 1) (Sort.swp d1 I2 J2)).1 a = R by
          have h0 := HQ0.out
          unfold Sort.partition at h0
          simp only [] at h0
          rw [← HD1.out, HZ1.out, HA1.out, HI2.out, HJ2.out, if_neg hgt] at h0
          simp only [Prod.mk.injEq] at h0
          exact h0)
        have HLT := Lib.hid (scan_lt (fun x => ltI x d1[a]!) (fun x => !ltI x d1[a]!) (fun x => by simp) d1 i j (by have := HDF.out; have := HIJ.out; omega) HI2.out HJ2.out (by omega))
        have d0 : decide ((J2 : Int) < (I2 : Int)) = false := by rw [decide_eq_false_iff_not]; omega
        have d0' : decide (J2 < I2) = false := decide_eq_false hgt
        obtain ⟨y, hy⟩ : ∃ y, y = J2 - 1 := ⟨_, rfl⟩
        rw [← hy] at HQ2
        have HY := Lib.hid (show J2 = y + 1 by have := HLT.out; omega)
        have e1 : (J2 : Int) - 1 = (y : Int) := by have := HY.out; omega
        have hw1 : IntKind.i64.wrap (y : Int) = (y : Int) := by rw [IntKind.wrap_i64]; have := HY.out; have := HJ2B.out; have := HIJ.out; have := HDF.out; omega
        have hw2 : IntKind.i64.wrap ((I2 : Int) + 1) = (I2 : Int) + 1 := by rw [IntKind.wrap_i64]; have := HLT.out; have := HJ2B.out; have := HIJ.out; have := HDF.out; omega
        have HIN := Lib.hid (show I2 < n ∧ J2 < n by have := HLT.out; have := HJ2B.out; have := HIJ.out; have := HDF.out; omega)
        have hin : (I2 : Int) < (n : Int) := by have := HIN.out; omega
        have hjn : (J2 : Int) < (n : Int) := by have := HIN.out; omega
        clear hgt hy
        have c1 := HR5.out.cell I2 (by rw [HN1.out]; exact HIN.out.1)
        have c2 := HR5.out.cell J2 (by rw [HN1.out]; exact HIN.out.2)
        have f1 := HR5.out.fro I2
        have f2 := HR5.out.fro J2
        obtain ⟨v', hy'⟩ := cell_set_some (p := ⟨g, I2, none⟩) (x := .int .u32 d1[J2]!) c2
        have HW := Lib.hid (HR5.out.swpD (i := I2) (j := J2) (by rw [HN1.out]; exact HIN.out.1) (by rw [HN1.out]; exact HIN.out.2))
        have HN6 := Lib.hid (show (Sort.swp d1 I2 J2).size = n by rw [swp_size, HN1.out])
        go_wp2
        go_region
        have HR6 := Lib.hid HW.out.1
        have HS6 := Lib.hid (HS5.out.trans HW.out.2)
        generalize World.drew _ = W6 at HR6 HS6 ⊢
        clear c1 c2 f1 f2 hy' v' HW HR5 HS5
        obtain ⟨P, RL, hPL⟩ : ∃ P RL, Sort.partLoop ltI a (I2 + 1) y (Sort.swp d1 I2 J2) = (P, RL) := ⟨_, _, rfl⟩
        rw [hPL] at HQ2
        have HQL := Lib.hid hPL
        clear hPL
        have HST := Lib.hid (show a < I2 + 1 ∧ I2 + 1 ≤ y + 1 ∧ y < b by have := HI2B.out; have := HIJ.out; have := HLT.out; have := HY.out; have := HJ2B.out; omega)
        go_wp2
        clear hw1 hw2 hin hjn e1 d0 d0' HI2 HJ2 HI2B HJ2B HIN HIJ HLT HY HN1 HD1 HZ1 HA1 HQ0
        generalize Sort.swp d1 I2 J2 = d9 at *
        go_loopw [10, 11] (fun iv jv wr => ∃ (i j : Nat) (d1 : Array Int), a < i ∧ i ≤ j + 1 ∧ j < b ∧ iv = .int .i64 (i : Int) ∧ jv = .int .i64 (j : Int) ∧ Hid (d1.size = n) ∧ Hid (SRow wr g d1 sp) ∧ Hid (SK g w wr) ∧ Hid (Sort.partLoop ltI a i j d1 = (P, RL))) (fun iv jv _ => (intOf jv).toNat + 1 - (intOf iv).toNat)
        case atStart => exact ⟨I2 + 1, y, _, HST.out.1, HST.out.2.1, HST.out.2.2, by go_num, rfl, HN6, HR6, HS6, HQL⟩
        case round =>
          clear HN6 HR6 HS6 HQL HST
          obtain ⟨i, j, d1, hai, hij, hjb, rfl, rfl, HN1, HR1, HS1, HQ1⟩ := hrel
          have HIJ := Lib.hid (show i ≤ j + 1 ∧ j < b ∧ a < i by omega)
          clear hai hij hjb
          obtain ⟨I2, hI2⟩ : ∃ I2, Sort.scanUp (fun x => ltI x d1[a]!) d1 j i = I2 := ⟨_, rfl⟩
          obtain ⟨J2, hJ2⟩ : ∃ J2, Sort.scanDown (fun x => !ltI x d1[a]!) d1 I2 j = J2 := ⟨_, rfl⟩
          have HI2 := Lib.hid hI2
          have HJ2 := Lib.hid hJ2
          clear hI2 hJ2
          go_upto_block 6 with fail
          go_cut [10] (fun sv wc => sv = .int .i64 (I2 : Int) ∧ Hid (i ≤ I2 ∧ I2 ≤ j + 1) ∧ Hid (SRow wc g d1 sp) ∧ Hid (SK g w wc))
          case first =>
            go_wp2
            go_loopw [10] (fun kv wz => ∃ (k : Nat), kv = .int .i64 (k : Int) ∧ i ≤ k ∧ k ≤ j + 1 ∧ Hid (SRow wz g d1 sp) ∧ Hid (SK g w wz) ∧ Hid (Sort.scanUp (fun x => ltI x d1[a]!) d1 j k = I2)) (fun kv _ => j + 1 - (intOf kv).toNat)
            case atStart => exact ⟨i, rfl, Nat.le_refl _, HIJ.out.1, HR1, HS1, HI2⟩
            case round =>
              obtain ⟨k, rfl, hik, hkj, HR2, HS2, HK2⟩ := hrel
              clear HR1 HS1
              have HKB := Lib.hid (And.intro hik hkj)
              by_cases hlt : k ≤ j
              · have hki : (k : Int) ≤ (j : Int) := by omega
                have hki' : decide ((k : Int) ≤ (j : Int)) = true := by rw [decide_eq_true_iff]; omega
                have hw2 : IntKind.i64.wrap ((k : Int) + 1) = (k : Int) + 1 := by rw [IntKind.wrap_i64]; have := HDF.out; have := HIJ.out; omega
                have HLT := Lib.hid hlt
                have HNN := Lib.hid (show k < n ∧ a < n by have := HDF.out; have := HIJ.out; omega)
                have hkn : (k : Int) < (n : Int) := by have := HNN.out; omega
                have han : (a : Int) < (n : Int) := by have := HNN.out; omega
                have c1 := HR2.out.cell k (by rw [HN1.out]; exact HNN.out.1)
                have c2 := HR2.out.cell a (by rw [HN1.out]; exact HNN.out.2)
                have f1 := HR2.out.fro k
                have f2 := HR2.out.fro a
                obtain ⟨t, hb1⟩ : ∃ t, ltI d1[k]! d1[a]! = t := ⟨_, rfl⟩
                have HT := Lib.hid hb1
                have HL := Lib.hid (show ∀ w, Calls Try.prog 147 #[.int .u32 d1[k]!, .int .u32 d1[a]!] w (fun e w' => e = .returned (.bool t) ∧ w' = w) from fun w => by rw [← hb1]; exact less32 _ _ _)
                clear hb1
                clear hik hkj hlt
                go_wp2
                go_quiet (first | (go_at_call 147; refine Calls.quiet_of_same (HL.out _)))
                clear c1 c2 f1 f2
                have HB := Lib.hid (HR2.out.drewN nq)
                generalize World.drewN wr nq = W3 at *
                have HR3 := Lib.hid HB.out.1
                have HS3 := Lib.hid (HS2.out.trans HB.out.2)
                clear HB HR2 HS2
                cases t with
                | true =>
                  have HQ := Lib.hid (show Sort.scanUp (fun x => ltI x d1[a]!) d1 j (k + 1) = I2 from (scanU_go (p := (fun x => ltI x d1[a]!)) HLT.out (show (fun x => ltI x d1[a]!) d1[k]! = true by simp [HT.out])).symm.trans HK2.out)
                  go_wp2
                  go_roundw
                  case rel => exact ⟨k + 1, by go_num, by have := HKB.out; omega, by have := HLT.out; omega, HR3, HS3, HQ⟩
                  case measure => have := HLT.out; simp [intOf]; omega
                | false =>
                  have HE := Lib.hid (show k = I2 from (scanU_stop (p := (fun x => ltI x d1[a]!)) (.inr (show (fun x => ltI x d1[a]!) d1[k]! = false by simp [HT.out]))).symm.trans HK2.out)
                  go_wp2
                  go_meet
                  case rel => exact ⟨by rw [HE.out], by rw [← HE.out]; exact HKB, HR3, HS3⟩
              · have hki : decide ((k : Int) ≤ (j : Int)) = false := by rw [decide_eq_false_iff_not]; omega
                have hkn : decide (k ≤ j) = false := decide_eq_false hlt
                have HE := Lib.hid (show k = I2 from (scanU_stop (p := (fun x => ltI x d1[a]!)) (.inl hlt)).symm.trans HK2.out)
                clear hik hkj hlt
                go_wp2
                go_quiet (fail)
                have HB := Lib.hid (HR2.out.drewN nq)
                generalize World.drewN wr nq = W3 at *
                have HR3 := Lib.hid HB.out.1
                have HS3 := Lib.hid (HS2.out.trans HB.out.2)
                clear HB HR2 HS2
                go_wp2
                go_meet
                case rel => exact ⟨by rw [HE.out], by rw [← HE.out]; exact HKB, HR3, HS3⟩
          case rest =>
            obtain ⟨rfl, HI2B, HR4, HS4⟩ := hcut
            clear HR1 HS1
            go_upto_block 8 with fail
            go_cut [11] (fun sv wc => sv = .int .i64 (J2 : Int) ∧ Hid (J2 ≤ j ∧ I2 ≤ J2 + 1) ∧ Hid (SRow wc g d1 sp) ∧ Hid (SK g w wc))
            case first =>
              go_wp2
              go_loopw [11] (fun kv wz => ∃ (k : Nat), kv = .int .i64 (k : Int) ∧ k ≤ j ∧ I2 ≤ k + 1 ∧ Hid (SRow wz g d1 sp) ∧ Hid (SK g w wz) ∧ Hid (Sort.scanDown (fun x => !ltI x d1[a]!) d1 I2 k = J2)) (fun kv _ => (intOf kv).toNat)
              case atStart => exact ⟨j, rfl, Nat.le_refl _, HI2B.out.2, HR4, HS4, HJ2⟩
              case round =>
                obtain ⟨k, rfl, hkj, hik, HR2, HS2, HK2⟩ := hrel
                clear HR4 HS4
                have HKB := Lib.hid (And.intro hkj hik)
                by_cases hlt : I2 ≤ k
                · have hki : (I2 : Int) ≤ (k : Int) := by omega
                  have hki' : decide ((I2 : Int) ≤ (k : Int)) = true := by rw [decide_eq_true_iff]; omega
                  obtain ⟨y, hy⟩ : ∃ y, k = y + 1 := ⟨k - 1, by have := HDF.out; have := HIJ.out; have := HI2B.out; omega⟩
                  have HY := Lib.hid hy
                  have e1 : (k : Int) - 1 = (y : Int) := by omega
                  have hw2 : IntKind.i64.wrap (y : Int) = (y : Int) := by rw [IntKind.wrap_i64]; have := HDF.out; have := HIJ.out; omega
                  clear hy
                  have HLT := Lib.hid hlt
                  have HNN := Lib.hid (show k < n ∧ a < n by have := HDF.out; have := HIJ.out; omega)
                  have hkn : (k : Int) < (n : Int) := by have := HNN.out; omega
                  have han : (a : Int) < (n : Int) := by have := HNN.out; omega
                  have c1 := HR2.out.cell k (by rw [HN1.out]; exact HNN.out.1)
                  have c2 := HR2.out.cell a (by rw [HN1.out]; exact HNN.out.2)
                  have f1 := HR2.out.fro k
                  have f2 := HR2.out.fro a
                  obtain ⟨t, hb1⟩ : ∃ t, ltI d1[k]! d1[a]! = t := ⟨_, rfl⟩
                  have HT := Lib.hid hb1
                  have HL := Lib.hid (show ∀ w, Calls Try.prog 147 #[.int .u32 d1[k]!, .int .u32 d1[a]!] w (fun e w' => e = .returned (.bool t) ∧ w' = w) from fun w => by rw [← hb1]; exact less32 _ _ _)
                  clear hb1
                  clear hik hkj hlt
                  go_wp2
                  go_quiet (first | (go_at_call 147; refine Calls.quiet_of_same (HL.out _)))
                  clear c1 c2 f1 f2
                  have HB := Lib.hid (HR2.out.drewN nq)
                  generalize World.drewN wr nq = W3 at *
                  have HR3 := Lib.hid HB.out.1
                  have HS3 := Lib.hid (HS2.out.trans HB.out.2)
                  clear HB HR2 HS2
                  cases t with
                  | false =>
                    have HQ := Lib.hid (show Sort.scanDown (fun x => !ltI x d1[a]!) d1 I2 y = J2 by
                      have hT := HT.out
                      have hK := HK2.out
                      have hL := HLT.out
                      rw [HY.out] at hT hK hL
                      exact (scanN_go (p := (fun x => !ltI x d1[a]!)) hL (show (fun x => !ltI x d1[a]!) d1[y + 1]! = true by simp [hT])).symm.trans hK)
                    go_wp2
                    go_roundw
                    case rel => exact ⟨y, by go_num, by have := HKB.out; have := HY.out; omega, by have := HLT.out; have := HY.out; omega, HR3, HS3, HQ⟩
                    case measure => have := HY.out; simp [intOf]; omega
                  | true =>
                    have HE := Lib.hid (show k = J2 from (scanN_stop (p := (fun x => !ltI x d1[a]!)) (.inr (show (fun x => !ltI x d1[a]!) d1[k]! = false by simp [HT.out]))).symm.trans HK2.out)
                    go_wp2
                    go_meet
                    case rel => exact ⟨by rw [HE.out], by rw [← HE.out]; exact HKB, HR3, HS3⟩
                · have hki : decide ((I2 : Int) ≤ (k : Int)) = false := by rw [decide_eq_false_iff_not]; omega
                  have hkn : decide (I2 ≤ k) = false := decide_eq_false hlt
                  have HE := Lib.hid (show k = J2 from (scanN_stop (p := (fun x => !ltI x d1[a]!)) (.inl hlt)).symm.trans HK2.out)
                  clear hik hkj hlt
                  go_wp2
                  go_quiet (fail)
                  have HB := Lib.hid (HR2.out.drewN nq)
                  generalize World.drewN wr nq = W3 at *
                  have HR3 := Lib.hid HB.out.1
                  have HS3 := Lib.hid (HS2.out.trans HB.out.2)
                  clear HB HR2 HS2
                  go_wp2
                  go_meet
                  case rel => exact ⟨by rw [HE.out], by rw [← HE.out]; exact HKB, HR3, HS3⟩
            case rest =>
              obtain ⟨rfl, HJ2B, HR5, HS5⟩ := hcut
              clear HR4 HS4
              by_cases hgt : J2 < I2
              · have HL := Lib.hid (show (J2, d1) = (P, RL) by
                  have h0 := HQ1.out
                  rw [Sort.partLoop_eq, HI2.out, HJ2.out, if_pos hgt] at h0
                  exact h0)
                have d0 : decide ((J2 : Int) < (I2 : Int)) = true := by rw [decide_eq_true_iff]; omega
                have d0' : (J2 : Int) < (I2 : Int) := by omega
                have HE := Lib.hid (show J2 = m ∧ false = ap ∧ Sort.swp d1 J2 a = R by
                  obtain ⟨rfl, rfl⟩ := Prod.mk.inj HL.out
                  exact HQ2.out)
                clear hgt HQ1 HL HQ2
                have HJN := Lib.hid (show J2 < n ∧ a < n by have := HJ2B.out; have := HIJ.out; have := HDF.out; omega)
                have hjn : (J2 : Int) < (n : Int) := by have := HJN.out; omega
                have han : (a : Int) < (n : Int) := by have := HJN.out; omega
                have c1 := HR5.out.cell J2 (by rw [HN1.out]; exact HJN.out.1)
                have c2 := HR5.out.cell a (by rw [HN1.out]; exact HJN.out.2)
                have f1 := HR5.out.fro J2
                have f2 := HR5.out.fro a
                obtain ⟨v', hy'⟩ := cell_set_some (p := ⟨g, J2, none⟩) (x := .int .u32 d1[a]!) c2
                have HW := Lib.hid (HR5.out.swpD (i := J2) (j := a) (by rw [HN1.out]; exact HJN.out.1) (by rw [HN1.out]; exact HJN.out.2))
                have HN7 := Lib.hid (show (Sort.swp d1 J2 a).size = n by rw [swp_size, HN1.out])
                go_wp2
                go_region
                have HR7 := Lib.hid HW.out.1
                have HS7 := Lib.hid (HS5.out.trans HW.out.2)
                generalize World.drew _ = W7 at HR7 HS7 ⊢
                clear c1 c2 f1 f2 hy' v' HW HR5 HS5
                obtain ⟨hm, hap2, hR⟩ := HE.out
                subst hm
                subst hap2
                go_wp2
                go_returns
                exact ⟨rfl, hR ▸ HR7.out, HS7.out⟩
              · have HQ3 := Lib.hid (show Sort.partLoop ltI a (I2 + 1) (J2 - 1) (Sort.swp d1 I2 J2) = (P, RL) by
                  have h0 := HQ1.out
                  rw [Sort.partLoop_eq, HI2.out, HJ2.out, if_neg hgt] at h0
                  exact h0)
                have HLT := Lib.hid (scan_lt (fun x => ltI x d1[a]!) (fun x => !ltI x d1[a]!) (fun x => by simp) d1 i j (by have := HDF.out; have := HIJ.out; omega) HI2.out HJ2.out (by omega))
                have d0 : decide ((J2 : Int) < (I2 : Int)) = false := by rw [decide_eq_false_iff_not]; omega
                have d0' : decide (J2 < I2) = false := decide_eq_false hgt
                obtain ⟨y, hy⟩ : ∃ y, y = J2 - 1 := ⟨_, rfl⟩
                rw [← hy] at HQ3
                have HY := Lib.hid (show J2 = y + 1 by have := HLT.out; omega)
                have e1 : (J2 : Int) - 1 = (y : Int) := by have := HY.out; omega
                have hw1 : IntKind.i64.wrap (y : Int) = (y : Int) := by rw [IntKind.wrap_i64]; have := HY.out; have := HJ2B.out; have := HIJ.out; have := HDF.out; omega
                have hw2 : IntKind.i64.wrap ((I2 : Int) + 1) = (I2 : Int) + 1 := by rw [IntKind.wrap_i64]; have := HLT.out; have := HJ2B.out; have := HIJ.out; have := HDF.out; omega
                have HIN := Lib.hid (show I2 < n ∧ J2 < n by have := HLT.out; have := HJ2B.out; have := HIJ.out; have := HDF.out; omega)
                have hin : (I2 : Int) < (n : Int) := by have := HIN.out; omega
                have hjn : (J2 : Int) < (n : Int) := by have := HIN.out; omega
                clear hgt hy
                have c1 := HR5.out.cell I2 (by rw [HN1.out]; exact HIN.out.1)
                have c2 := HR5.out.cell J2 (by rw [HN1.out]; exact HIN.out.2)
                have f1 := HR5.out.fro I2
                have f2 := HR5.out.fro J2
                obtain ⟨v', hy'⟩ := cell_set_some (p := ⟨g, I2, none⟩) (x := .int .u32 d1[J2]!) c2
                have HW := Lib.hid (HR5.out.swpD (i := I2) (j := J2) (by rw [HN1.out]; exact HIN.out.1) (by rw [HN1.out]; exact HIN.out.2))
                have HN6 := Lib.hid (show (Sort.swp d1 I2 J2).size = n by rw [swp_size, HN1.out])
                go_wp2
                go_region
                have HR6 := Lib.hid HW.out.1
                have HS6 := Lib.hid (HS5.out.trans HW.out.2)
                generalize World.drew _ = W6 at HR6 HS6 ⊢
                clear c1 c2 f1 f2 hy' v' HW HR5 HS5
                go_wp2
                go_roundw
                case rel => exact ⟨I2 + 1, y, Sort.swp d1 I2 J2, by have := HI2B.out; have := HIJ.out; omega, by have := HLT.out; have := HY.out; omega, by have := HJ2B.out; have := HIJ.out; have := HY.out; omega, by go_num, by go_num, HN6, HR6, HS6, HQ3⟩
                case measure => have := HLT.out; have := HY.out; have := HI2B.out; have := HJ2B.out; simp [intOf]; omega
end Go.Proofs.Ytnpalplnpfgibaa
