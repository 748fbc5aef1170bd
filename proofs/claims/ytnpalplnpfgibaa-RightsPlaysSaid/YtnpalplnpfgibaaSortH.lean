/- partitionEqualOrdered at uint32. -/
import Derived.Test.YtnpalplnpfgibaaSortF
import Derived.Deep.DeepCutAuto
import Derived.Deep.CutBlock
import Derived.CellFam
namespace Go.Proofs.Ytnpalplnpfgibaa
open Go.RowKit
set_option linter.unusedSimpArgs false
set_option linter.unusedVariables false
theorem scanU_go {p : Int → Bool} {d : Array Int} {j i : Nat} (h : i ≤ j) (hp : p d[i]! = true) : Sort.scanUp p d j i = Sort.scanUp p d j (i + 1) := by
  conv => lhs; unfold Sort.scanUp
  rw [if_pos (by simp [h, hp])]
theorem scanU_stop {p : Int → Bool} {d : Array Int} {j i : Nat} (h : ¬ i ≤ j ∨ p d[i]! = false) : Sort.scanUp p d j i = i := by
  unfold Sort.scanUp
  rw [if_neg (by rcases h with h | h <;> simp [h])]
theorem scanN_go {p : Int → Bool} {d : Array Int} {i j : Nat} (h : i ≤ j + 1) (hp : p d[j + 1]! = true) : Sort.scanDown p d i (j + 1) = Sort.scanDown p d i j := by
  conv => lhs; unfold Sort.scanDown
  rw [if_pos (by simp [h, hp])]
theorem scanN_stop {p : Int → Bool} {d : Array Int} {i j : Nat} (h : ¬ i ≤ j ∨ p d[j]! = false) : Sort.scanDown p d i j = j := by
  cases j with
  | zero => rfl
  | succ k => unfold Sort.scanDown; rw [if_neg (by rcases h with h | h <;> simp [h])]
theorem scan_lt (p q : Int → Bool) (hq : ∀ x, q x = !p x) (d : Array Int) (i j : Nat) {i2 j2 : Nat} (h0 : 0 < i) (hi2 : Sort.scanUp p d j i = i2) (hj2 : Sort.scanDown q d i2 j = j2) (h : i2 ≤ j2) : i2 < j2 := by
  obtain ⟨u1, _, _, u4⟩ := Sort.scanUp_spec p d j _ i rfl
  obtain ⟨v1, _, _, v4⟩ := Sort.scanDown_spec q d i2 j
  rw [hi2] at u1 u4
  rw [hj2] at v1 v4
  rcases Nat.lt_or_ge i2 j2 with h' | h'
  · exact h'
  · obtain rfl : j2 = i2 := by omega
    have f1 := u4 (by omega)
    have f2 := v4 h (by omega)
    rw [hq, f1] at f2
    cases f2
theorem cell_set_some {w : World} {p q : Addr} {x v : Value} (h : w.cell? q = some v) : ∃ v', (w.setCell p x).cell? q = some v' := by
  obtain ⟨v', hv⟩ := cell?_setCell_some h
  exact ⟨v', hv⟩
set_option maxRecDepth 100000 in
set_option maxHeartbeats 4000000 in
theorem partEq32 (g n cap : Nat) (d : Array Int) (sp : Array Value) (a b p m : Nat) (w : World) (R : Array Int) (h : SRow w g d sp) (hn : d.size = n) (hmx : n ≤ 1000000000) (hap : a ≤ p) (hpb : p < b) (hb : b ≤ n) (hr : Sort.partitionEqual ltI d a b p = (m, R)) : Calls Try.prog 148 #[.slice (some ⟨g, 0, none⟩) n cap, .int .i64 (a : Int), .int .i64 (b : Int), .int .i64 (p : Int)] w (SOk g R sp (.int .i64 (m : Int)) w) := by
  obtain ⟨z, hz⟩ : ∃ z, b = z + 1 := ⟨b - 1, by omega⟩
  have HQ0 := Lib.hid (show Sort.partEqLoop ltI a (a + 1) z (Sort.swp d a p) = (m, R) by rw [← hr, hz]; rfl)
  have HR0 := Lib.hid h
  have HN0 := Lib.hid hn
  have HS0 := Lib.hid (SK.refl g w)
  have HDF := Lib.hid (show b ≤ n ∧ b = z + 1 ∧ a ≤ z ∧ n ≤ 1000000000 by omega)
  have HAP := Lib.hid (show a < n ∧ p < n by omega)
  have e0 : (b : Int) - 1 = (z : Int) := by omega
  have hw0 : IntKind.i64.wrap (z : Int) = (z : Int) := by rw [IntKind.wrap_i64]; omega
  have hwa : IntKind.i64.wrap ((a : Int) + 1) = (a : Int) + 1 := by rw [IntKind.wrap_i64]; omega
  have han : (a : Int) < (n : Int) := by omega
  have hpn : (p : Int) < (n : Int) := by omega
  clear hr h hn hz hap hpb hb
  go_enter Try.func148, Try.ntmps148
  have c1 := HR0.out.cell a (by rw [HN0.out]; exact HAP.out.1)
  have c2 := HR0.out.cell p (by rw [HN0.out]; exact HAP.out.2)
  have f1 := HR0.out.fro a
  have f2 := HR0.out.fro p
  obtain ⟨v', hy'⟩ := cell_set_some (p := ⟨g, a, none⟩) (x := .int .u32 d[p]!) c2
  have HW := Lib.hid (HR0.out.swpD (i := a) (j := p) (by rw [HN0.out]; exact HAP.out.1) (by rw [HN0.out]; exact HAP.out.2))
  have HNA := Lib.hid (show (Sort.swp d a p).size = n by rw [swp_size, HN0.out])
  go_wp2
  go_region
  have HRA := Lib.hid HW.out.1
  have HSA := Lib.hid (HS0.out.trans HW.out.2)
  generalize World.drew _ = WA at HRA HSA ⊢
  clear c1 c2 f1 f2 hy' v' HW HR0 HS0
  go_wp2
  clear hw0 hwa e0 han hpn
  go_loopw [9, 10] (fun iv jv wr => ∃ (i j : Nat) (d1 : Array Int), a < i ∧ i ≤ j + 1 ∧ j < b ∧ iv = .int .i64 (i : Int) ∧ jv = .int .i64 (j : Int) ∧ Hid (d1.size = n) ∧ Hid (SRow wr g d1 sp) ∧ Hid (SK g w wr) ∧ Hid (Sort.partEqLoop ltI a i j d1 = (m, R))) (fun iv jv _ => (intOf jv).toNat + 1 - (intOf iv).toNat)
  case atStart => exact ⟨a + 1, z, Sort.swp d a p, by omega, by have := HDF.out; omega, by have := HDF.out; omega, by go_num, rfl, HNA, HRA, HSA, HQ0⟩
  case round =>
    obtain ⟨i, j, d1, hai, hij, hjb, rfl, rfl, HN1, HR1, HS1, HQ1⟩ := hrel
    clear HN0 HNA HRA HSA HQ0
    have HIJ := Lib.hid (show i ≤ j + 1 ∧ j < b ∧ a < i by omega)
    clear hai hij hjb
    obtain ⟨I2, hI2⟩ : ∃ I2, Sort.scanUp (fun x => !ltI d1[a]! x) d1 j i = I2 := ⟨_, rfl⟩
    obtain ⟨J2, hJ2⟩ : ∃ J2, Sort.scanDown (fun x => ltI d1[a]! x) d1 I2 j = J2 := ⟨_, rfl⟩
    have HI2 := Lib.hid hI2
    have HJ2 := Lib.hid hJ2
    clear hI2 hJ2
    go_upto_block 2 with fail
    go_cut [9] (fun sv wc => sv = .int .i64 (I2 : Int) ∧ Hid (i ≤ I2 ∧ I2 ≤ j + 1) ∧ Hid (SRow wc g d1 sp) ∧ Hid (SK g w wc))
    case first =>
      go_wp2
      go_loopw [9] (fun kv wz => ∃ (k : Nat), kv = .int .i64 (k : Int) ∧ i ≤ k ∧ k ≤ j + 1 ∧ Hid (SRow wz g d1 sp) ∧ Hid (SK g w wz) ∧ Hid (Sort.scanUp (fun x => !ltI d1[a]! x) d1 j k = I2)) (fun kv _ => j + 1 - (intOf kv).toNat)
      case atStart => exact ⟨i, rfl, Nat.le_refl _, HIJ.out.1, HR1, HS1, HI2⟩
      case round =>
        obtain ⟨k, rfl, hik, hkj, HR2, HS2, HK2⟩ := hrel
        clear HR1 HS1
        have HKB := Lib.hid (And.intro hik hkj)
        by_cases hlt : k ≤ j
        · have hki : (k : Int) ≤ (j : Int) := by omega
          have hki' : decide ((k : Int) ≤ (j : Int)) = true := by rw [decide_eq_true_iff]; omega
          have hw2 : IntKind.i64.wrap ((k : Int) + 1) = (k : Int) + 1 := by rw [IntKind.wrap_i64]; have := HDF.out; have := HIJ.out; omega
          have HLT := Lib.hid hlt
          have HNN := Lib.hid (show k < n ∧ a < n by have := HDF.out; have := HIJ.out; omega)
          have hkn : (k : Int) < (n : Int) := by have := HNN.out; omega
          have han : (a : Int) < (n : Int) := by have := HNN.out; omega
          have c1 := HR2.out.cell k (by rw [HN1.out]; exact HNN.out.1)
          have c2 := HR2.out.cell a (by rw [HN1.out]; exact HNN.out.2)
          have f1 := HR2.out.fro k
          have f2 := HR2.out.fro a
          obtain ⟨t, hb1⟩ : ∃ t, ltI d1[a]! d1[k]! = t := ⟨_, rfl⟩
          have HT := Lib.hid hb1
          have HL := Lib.hid (show ∀ w, Calls Try.prog 147 #[.int .u32 d1[a]!, .int .u32 d1[k]!] w (fun e w' => e = .returned (.bool t) ∧ w' = w) from fun w => by rw [← hb1]; exact less32 _ _ _)
          clear hb1
          clear hik hkj hlt
          go_wp2
          go_quiet (first | (go_at_call 147; refine Calls.quiet_of_same (HL.out _)))
          clear c1 c2 f1 f2
          have HB := Lib.hid (HR2.out.drewN nq)
          generalize World.drewN wr nq = W3 at *
          have HR3 := Lib.hid HB.out.1
          have HS3 := Lib.hid (HS2.out.trans HB.out.2)
          clear HB HR2 HS2
          cases t with
          | false =>
            have HQ := Lib.hid (show Sort.scanUp (fun x => !ltI d1[a]! x) d1 j (k + 1) = I2 from (scanU_go (p := (fun x => !ltI d1[a]! x)) HLT.out (show (fun x => !ltI d1[a]! x) d1[k]! = true by simp [HT.out])).symm.trans HK2.out)
            go_wp2
            go_roundw
            case rel => exact ⟨k + 1, by go_num, by have := HKB.out; omega, by have := HLT.out; omega, HR3, HS3, HQ⟩
            case measure => have := HLT.out; simp [intOf]; omega
          | true =>
            have HE := Lib.hid (show k = I2 from (scanU_stop (p := (fun x => !ltI d1[a]! x)) (.inr (show (fun x => !ltI d1[a]! x) d1[k]! = false by simp [HT.out]))).symm.trans HK2.out)
            go_wp2
            go_meet
            case rel => exact ⟨by rw [HE.out], by rw [← HE.out]; exact HKB, HR3, HS3⟩
        · have hki : decide ((k : Int) ≤ (j : Int)) = false := by rw [decide_eq_false_iff_not]; omega
          have hkn : decide (k ≤ j) = false := decide_eq_false hlt
          have HE := Lib.hid (show k = I2 from (scanU_stop (p := (fun x => !ltI d1[a]! x)) (.inl hlt)).symm.trans HK2.out)
          clear hik hkj hlt
          go_wp2
          go_quiet (fail)
          have HB := Lib.hid (HR2.out.drewN nq)
          generalize World.drewN wr nq = W3 at *
          have HR3 := Lib.hid HB.out.1
          have HS3 := Lib.hid (HS2.out.trans HB.out.2)
          clear HB HR2 HS2
          go_wp2
          go_meet
          case rel => exact ⟨by rw [HE.out], by rw [← HE.out]; exact HKB, HR3, HS3⟩
    case rest =>
      obtain ⟨rfl, HI2B, HR4, HS4⟩ := hcut
      clear HR1 HS1
      go_upto_block 4 with fail
      go_cut [10] (fun sv wc => sv = .int .i64 (J2 : Int) ∧ Hid (J2 ≤ j ∧ I2 ≤ J2 + 1) ∧ Hid (SRow wc g d1 sp) ∧ Hid (SK g w wc))
      case first =>
        go_wp2
        go_loopw [10] (fun kv wz => ∃ (k : Nat), kv = .int .i64 (k : Int) ∧ k ≤ j ∧ I2 ≤ k + 1 ∧ Hid (SRow wz g d1 sp) ∧ Hid (SK g w wz) ∧ Hid (Sort.scanDown (fun x => ltI d1[a]! x) d1 I2 k = J2)) (fun kv _ => (intOf kv).toNat)
        case atStart => exact ⟨j, rfl, Nat.le_refl _, HI2B.out.2, HR4, HS4, HJ2⟩
        case round =>
          obtain ⟨k, rfl, hkj, hik, HR2, HS2, HK2⟩ := hrel
          clear HR4 HS4
          have HKB := Lib.hid (And.intro hkj hik)
          by_cases hlt : I2 ≤ k
          · have hki : (I2 : Int) ≤ (k : Int) := by omega
            have hki' : decide ((I2 : Int) ≤ (k : Int)) = true := by rw [decide_eq_true_iff]; omega
            obtain ⟨y, hy⟩ : ∃ y, k = y + 1 := ⟨k - 1, by have := HDF.out; have := HIJ.out; have := HI2B.out; omega⟩
            have HY := Lib.hid hy
            have e1 : (k : Int) - 1 = (y : Int) := by omega
            have hw2 : IntKind.i64.wrap (y : Int) = (y : Int) := by rw [IntKind.wrap_i64]; have := HDF.out; have := HIJ.out; omega
            clear hy
            have HLT := Lib.hid hlt
            have HNN := Lib.hid (show k < n ∧ a < n by have := HDF.out; have := HIJ.out; omega)
            have hkn : (k : Int) < (n : Int) := by have := HNN.out; omega
            have han : (a : Int) < (n : Int) := by have := HNN.out; omega
            have c1 := HR2.out.cell k (by rw [HN1.out]; exact HNN.out.1)
            have c2 := HR2.out.cell a (by rw [HN1.out]; exact HNN.out.2)
            have f1 := HR2.out.fro k
            have f2 := HR2.out.fro a
            obtain ⟨t, hb1⟩ : ∃ t, ltI d1[a]! d1[k]! = t := ⟨_, rfl⟩
            have HT := Lib.hid hb1
            have HL := Lib.hid (show ∀ w, Calls Try.prog 147 #[.int .u32 d1[a]!, .int .u32 d1[k]!] w (fun e w' => e = .returned (.bool t) ∧ w' = w) from fun w => by rw [← hb1]; exact less32 _ _ _)
            clear hb1
            clear hik hkj hlt
            go_wp2
            go_quiet (first | (go_at_call 147; refine Calls.quiet_of_same (HL.out _)))
            clear c1 c2 f1 f2
            have HB := Lib.hid (HR2.out.drewN nq)
            generalize World.drewN wr nq = W3 at *
            have HR3 := Lib.hid HB.out.1
            have HS3 := Lib.hid (HS2.out.trans HB.out.2)
            clear HB HR2 HS2
            cases t with
            | true =>
              have HQ := Lib.hid (show Sort.scanDown (fun x => ltI d1[a]! x) d1 I2 y = J2 by
                have hT := HT.out
                have hK := HK2.out
                have hL := HLT.out
                rw [HY.out] at hT hK hL
                exact (scanN_go (p := (fun x => ltI d1[a]! x)) hL (show (fun x => ltI d1[a]! x) d1[y + 1]! = true by simp [hT])).symm.trans hK)
              go_wp2
              go_roundw
              case rel => exact ⟨y, by go_num, by have := HKB.out; have := HY.out; omega, by have := HLT.out; have := HY.out; omega, HR3, HS3, HQ⟩
              case measure => have := HY.out; simp [intOf]; omega
            | false =>
              have HE := Lib.hid (show k = J2 from (scanN_stop (p := (fun x => ltI d1[a]! x)) (.inr (show (fun x => ltI d1[a]! x) d1[k]! = false by simp [HT.out]))).symm.trans HK2.out)
              go_wp2
              go_meet
              case rel => exact ⟨by rw [HE.out], by rw [← HE.out]; exact HKB, HR3, HS3⟩
          · have hki : decide ((I2 : Int) ≤ (k : Int)) = false := by rw [decide_eq_false_iff_not]; omega
            have hkn : decide (I2 ≤ k) = false := decide_eq_false hlt
            have HE := Lib.hid (show k = J2 from (scanN_stop (p := (fun x => ltI d1[a]! x)) (.inl hlt)).symm.trans HK2.out)
            clear hik hkj hlt
            go_wp2
            go_quiet (fail)
            have HB := Lib.hid (HR2.out.drewN nq)
            generalize World.drewN wr nq = W3 at *
            have HR3 := Lib.hid HB.out.1
            have HS3 := Lib.hid (HS2.out.trans HB.out.2)
            clear HB HR2 HS2
            go_wp2
            go_meet
            case rel => exact ⟨by rw [HE.out], by rw [← HE.out]; exact HKB, HR3, HS3⟩
      case rest =>
        obtain ⟨rfl, HJ2B, HR5, HS5⟩ := hcut
        clear HR4 HS4
        by_cases hgt : J2 < I2
        · have HE := Lib.hid (show (I2, d1) = (m, R) by
            have h0 := HQ1.out
            rw [Sort.partEqLoop_eq, HI2.out, HJ2.out, if_pos hgt] at h0
            exact h0)
          have d0 : decide ((J2 : Int) < (I2 : Int)) = true := by rw [decide_eq_true_iff]; omega
          have d0' : (J2 : Int) < (I2 : Int) := by omega
          obtain ⟨rfl, rfl⟩ := Prod.mk.inj HE.out
          clear hgt HQ1 HI2 HJ2
          go_wp2
          go_returns
          exact ⟨rfl, HR5.out, HS5.out⟩
        · have HQ2 := Lib.hid (show Sort.partEqLoop ltI a (I2 + 1) (J2 - 1) (Sort.swp d1 I2 J2) = (m, R) by
            have h0 := HQ1.out
            rw [Sort.partEqLoop_eq, HI2.out, HJ2.out, if_neg hgt] at h0
            exact h0)
          have HLT := Lib.hid (scan_lt (fun x => !ltI d1[a]! x) (fun x => ltI d1[a]! x) (fun x => by simp) d1 i j (by have := HDF.out; have := HIJ.out; omega) HI2.out HJ2.out (by omega))
          have d0 : decide ((J2 : Int) < (I2 : Int)) = false := by rw [decide_eq_false_iff_not]; omega
          have d0' : decide (J2 < I2) = false := decide_eq_false hgt
          obtain ⟨y, hy⟩ : ∃ y, y = J2 - 1 := ⟨_, rfl⟩
          rw [← hy] at HQ2
          have HY := Lib.hid (show J2 = y + 1 by have := HLT.out; omega)
          have e1 : (J2 : Int) - 1 = (y : Int) := by have := HY.out; omega
          have hw1 : IntKind.i64.wrap (y : Int) = (y : Int) := by rw [IntKind.wrap_i64]; have := HY.out; have := HJ2B.out; have := HIJ.out; have := HDF.out; omega
          have hw2 : IntKind.i64.wrap ((I2 : Int) + 1) = (I2 : Int) + 1 := by rw [IntKind.wrap_i64]; have := HLT.out; have := HJ2B.out; have := HIJ.out; have := HDF.out; omega
          have HIN := Lib.hid (show I2 < n ∧ J2 < n by have := HLT.out; have := HJ2B.out; have := HIJ.out; have := HDF.out; omega)
          have hin : (I2 : Int) < (n : Int) := by have := HIN.out; omega
          have hjn : (J2 : Int) < (n : Int) := by have := HIN.out; omega
          clear hgt hy
          have c1 := HR5.out.cell I2 (by rw [HN1.out]; exact HIN.out.1)
          have c2 := HR5.out.cell J2 (by rw [HN1.out]; exact HIN.out.2)
          have f1 := HR5.out.fro I2
          have f2 := HR5.out.fro J2
          obtain ⟨v', hy'⟩ := cell_set_some (p := ⟨g, I2, none⟩) (x := .int .u32 d1[J2]!) c2
          have HW := Lib.hid (HR5.out.swpD (i := I2) (j := J2) (by rw [HN1.out]; exact HIN.out.1) (by rw [HN1.out]; exact HIN.out.2))
          have HN6 := Lib.hid (show (Sort.swp d1 I2 J2).size = n by rw [swp_size, HN1.out])
          go_wp2
          go_region
          have HR6 := Lib.hid HW.out.1
          have HS6 := Lib.hid (HS5.out.trans HW.out.2)
          generalize World.drew _ = W6 at HR6 HS6 ⊢
          clear c1 c2 f1 f2 hy' v' HW HR5 HS5
          go_wp2
          go_roundw
          case rel => exact ⟨I2 + 1, y, Sort.swp d1 I2 J2, by have := HI2B.out; have := HIJ.out; omega, by have := HLT.out; have := HY.out; omega, by have := HJ2B.out; have := HIJ.out; have := HY.out; omega, by go_num, by go_num, HN6, HR6, HS6, HQ2⟩
          case measure => have := HLT.out; have := HY.out; have := HI2B.out; have := HJ2B.out; simp [intOf]; omega
end Go.Proofs.Ytnpalplnpfgibaa
