/- partialInsertionSortOrdered at uint32. -/
import Derived.Test.YtnpalplnpfgibaaSortF
import Derived.Deep.DeepCutAuto
import Derived.Deep.CutBlock
namespace Go.Proofs.Ytnpalplnpfgibaa
open Go.RowKit
set_option linter.unusedSimpArgs false
set_option linter.unusedVariables false
theorem scanS_go {d : Array Int} {b i : Nat} (h : i < b) (hl : ltI d[i]! d[i - 1]! = false) : Sort.scanSorted ltI d b i = Sort.scanSorted ltI d b (i + 1) := by
  conv => lhs; unfold Sort.scanSorted
  rw [if_pos (by simp [h, hl])]
theorem scanS_stop {d : Array Int} {b i : Nat} (h : ¬ i < b ∨ ltI d[i]! d[i - 1]! = true) : Sort.scanSorted ltI d b i = i := by
  unfold Sort.scanSorted
  rw [if_neg (by rcases h with h | h <;> simp [h])]
theorem shiftD_go {j : Nat} {d : Array Int} (hl : ltI d[j + 1]! d[j]! = true) : Sort.shiftDown ltI (j + 1) d = Sort.shiftDown ltI j (Sort.swp d (j + 1) j) := by
  conv => lhs; unfold Sort.shiftDown
  rw [if_neg (by simp [hl])]
theorem shiftD_stop {j : Nat} {d : Array Int} (h : ltI d[j + 1]! d[j]! = false) : Sort.shiftDown ltI (j + 1) d = d := by
  unfold Sort.shiftDown
  rw [if_pos (by simp [h])]
theorem shiftD_zero (d : Array Int) : Sort.shiftDown ltI 0 d = d := by unfold Sort.shiftDown; rfl
theorem shiftU_go {b j : Nat} {d : Array Int} (hj : j < b) (hl : ltI d[j]! d[j - 1]! = true) : Sort.shiftUp ltI b j d = Sort.shiftUp ltI b (j + 1) (Sort.swp d j (j - 1)) := by
  conv => lhs; unfold Sort.shiftUp
  rw [if_pos hj, if_neg (by simp [hl])]
theorem shiftU_stop {b j : Nat} {d : Array Int} (h : ¬ j < b ∨ ltI d[j]! d[j - 1]! = false) : Sort.shiftUp ltI b j d = d := by
  unfold Sort.shiftUp
  by_cases hj : j < b
  · rw [if_pos hj, if_pos (by rcases h with h | h; exact absurd hj h; simp [h])]
  · rw [if_neg hj]
def downD (a i : Nat) (d : Array Int) : Array Int := if i - a ≥ 2 then Sort.shiftDown ltI (i - 1) d else d
def upD (b i : Nat) (d : Array Int) : Array Int := if b - i ≥ 2 then Sort.shiftUp ltI b (i + 1) d else d
theorem pi_succ (a b s i : Nat) (d : Array Int) : Sort.partialIns ltI a b (s + 1) i d = (if Sort.scanSorted ltI d b i = b then (d, true) else if b - a < 50 then (d, false) else Sort.partialIns ltI a b s (Sort.scanSorted ltI d b i) (upD b (Sort.scanSorted ltI d b i) (downD a (Sort.scanSorted ltI d b i) (Sort.swp d (Sort.scanSorted ltI d b i) (Sort.scanSorted ltI d b i - 1))))) := rfl
theorem pi_zero (a b i : Nat) (d : Array Int) : Sort.partialIns ltI a b 0 i d = (d, false) := rfl
set_option maxRecDepth 100000 in
set_option maxHeartbeats 4000000 in
theorem partial32 (g n cap : Nat) (d : Array Int) (sp : Array Value) (a b : Nat) (w : World) (R : Array Int) (tt : Bool) (h : SRow w g d sp) (hn : d.size = n) (hmx : n ≤ 1000000000) (hab : a < b) (hb : b ≤ n) (hr : Sort.partialInsertionSort ltI d a b = (R, tt)) : Calls Try.prog 146 #[.slice (some ⟨g, 0, none⟩) n cap, .int .i64 (a : Int), .int .i64 (b : Int)] w (SOk g R sp (.bool tt) w) := by
  have HR0 := Lib.hid (show Sort.partialIns ltI a b 5 (a + 1) d = (R, tt) from hr)
  have HROW := Lib.hid h
  have HN := Lib.hid hn
  have hw0 : IntKind.i64.wrap ((a : Int) + 1) = (a : Int) + 1 := by rw [IntKind.wrap_i64]; omega
  clear hr h hn
  go_enter Try.func146, Try.ntmps146
  go_wp2
  clear hw0
  go_loopw [7, 8] (fun iv sv wr => ∃ (i s : Nat) (d1 : Array Int), s ≤ 5 ∧ a < i ∧ i ≤ b ∧ iv = .int .i64 (i : Int) ∧ sv = .int .i64 (s : Int) ∧ Hid (d1.size = n) ∧ Hid (SRow wr g d1 sp) ∧ Hid (SK g w wr) ∧ Hid (Sort.partialIns ltI a b (5 - s) i d1 = (R, tt))) (fun _ sv _ => 5 - (intOf sv).toNat)
  case atStart => exact ⟨a + 1, 0, d, by omega, by omega, by omega, by go_num, rfl, HN, HROW, Lib.hid (SK.refl _ _), HR0⟩
  case round =>
    obtain ⟨i, s, d1, hs5, hai, hib, rfl, rfl, HN1, HR1, HS1, HQ1⟩ := hrel
    clear HR0 HROW HN
    by_cases hs : s < 5
    · have hsi : (s : Int) < 5 := by omega
      have hws : IntKind.i64.wrap ((s : Int) + 1) = (s : Int) + 1 := by rw [IntKind.wrap_i64]; omega
      have HSS := Lib.hid (And.intro hs hai)
      have HIB := Lib.hid hib
      obtain ⟨K, hK⟩ : ∃ K, K = Sort.scanSorted ltI d1 b i := ⟨_, rfl⟩
      have HK0 := Lib.hid hK.symm
      clear hK hs hs5 hai hib
      go_upto_block 2 with fail
      go_cut [7] (fun s7 wc => s7 = .int .i64 (K : Int) ∧ Hid (a < K ∧ K ≤ b) ∧ Hid (SRow wc g d1 sp) ∧ Hid (SK g w wc))
      case first =>
        go_wp2
        go_loopw [7] (fun kv wz => ∃ (k : Nat), kv = .int .i64 (k : Int) ∧ a < k ∧ k ≤ b ∧ Hid (SRow wz g d1 sp) ∧ Hid (SK g w wz) ∧ Hid (Sort.scanSorted ltI d1 b k = K)) (fun kv _ => b - (intOf kv).toNat)
        case atStart => exact ⟨i, rfl, HSS.out.2, HIB.out, HR1, HS1, HK0⟩
        case round =>
          obtain ⟨k, rfl, hik, hkb, HR2, HS2, HK2⟩ := hrel
          clear HR1 HS1
          have HKB := Lib.hid (And.intro hik hkb)
          by_cases hlt : k < b
          · obtain ⟨y, hy⟩ : ∃ y, y = k - 1 := ⟨_, rfl⟩
            have e1 : (k : Int) - 1 = (y : Int) := by omega
            have hw1 : IntKind.i64.wrap (y : Int) = (y : Int) := by rw [IntKind.wrap_i64]; omega
            have hw2 : IntKind.i64.wrap ((k : Int) + 1) = (k : Int) + 1 := by rw [IntKind.wrap_i64]; omega
            have hki : (k : Int) < (b : Int) := by omega
            have hkn : (k : Int) < (n : Int) := by omega
            have hyn : (y : Int) < (n : Int) := by omega
            have HY := Lib.hid hy
            have HLT := Lib.hid hlt
            have c1 := HR2.out.cell k (by rw [HN1.out]; omega)
            have c2 := HR2.out.cell y (by rw [HN1.out]; omega)
            have f1 := HR2.out.fro k
            have f2 := HR2.out.fro y
            obtain ⟨t, hb1⟩ : ∃ t, ltI d1[k]! d1[y]! = t := ⟨_, rfl⟩
            have HT := Lib.hid hb1
            have HL := Lib.hid (show ∀ w, Calls Try.prog 147 #[.int .u32 d1[k]!, .int .u32 d1[y]!] w (fun e w' => e = .returned (.bool t) ∧ w' = w) from fun w => by rw [← hb1]; exact less32 _ _ _)
            clear hb1
            clear hy hik hkb hlt
            go_wp2
            go_quiet (first | (go_at_call 147; refine Calls.quiet_of_same (HL.out _)))
            clear c1 c2 f1 f2
            have HB := Lib.hid (HR2.out.drewN nq)
            generalize World.drewN wr nq = W3 at *
            have HR3 := Lib.hid HB.out.1
            have HS3 := Lib.hid (HS2.out.trans HB.out.2)
            clear HB HR2 HS2
            cases t with
            | true =>
              have HE := Lib.hid (show k = K by have hT := HT.out; rw [HY.out] at hT; exact (scanS_stop (.inr hT)).symm.trans HK2.out)
              go_wp2
              go_meet
              case rel => exact ⟨by rw [HE.out], by rw [← HE.out]; exact HKB, HR3, HS3⟩
            | false =>
              have HQ := Lib.hid (show Sort.scanSorted ltI d1 b (k + 1) = K by have hT := HT.out; rw [HY.out] at hT; exact (scanS_go HLT.out hT).symm.trans HK2.out)
              go_wp2
              go_roundw
              case rel => exact ⟨k + 1, by go_num, by have := HKB.out; omega, HLT.out, HR3, HS3, HQ⟩
              case measure => have := HLT.out; simp [intOf]; omega
          · have hki : decide ((k : Int) < (b : Int)) = false := by rw [decide_eq_false_iff_not]; omega
            have hkn : decide (k < b) = false := decide_eq_false hlt
            have HE := Lib.hid (show k = K from (scanS_stop (.inl hlt)).symm.trans HK2.out)
            clear hik hkb hlt
            go_wp2
            go_quiet (fail)
            have HB := Lib.hid (HR2.out.drewN nq)
            generalize World.drewN wr nq = W3 at *
            have HR3 := Lib.hid HB.out.1
            have HS3 := Lib.hid (HS2.out.trans HB.out.2)
            clear HB HR2 HS2
            go_wp2
            go_meet
            case rel => exact ⟨by rw [HE.out], by rw [← HE.out]; exact HKB, HR3, HS3⟩
      case rest =>
        obtain ⟨rfl, HKB, HR2, HS2⟩ := hcut
        clear HR1 HS1
        obtain ⟨s', hs'⟩ : ∃ s', 5 - s = s' + 1 := ⟨4 - s, by have := HSS.out; omega⟩
        have h9 := HQ1.out
        rw [hs', pi_succ, HK0.out] at h9
        have HQ2 := Lib.hid h9
        clear h9
        have HS5 := Lib.hid (show 5 - (s + 1) = s' by have := HSS.out; omega)
        clear HQ1 hs'
        by_cases hkb : K = b
        · have HE := HQ2.out
          rw [if_pos hkb] at HE
          obtain ⟨rfl, rfl⟩ := Prod.mk.inj HE
          have e2 : ((K : Int) == (b : Int)) = true := by rw [beq_iff_eq]; omega
          have e3 : (K == b) = true := by rw [beq_iff_eq]; exact hkb
          have e4 : (K : Int) = (b : Int) := by omega
          clear HE HQ2 e2 e3
          go_wp2
          go_returns
          exact ⟨rfl, HR2.out, HS2.out⟩
        have e2 : ((K : Int) == (b : Int)) = false := by rw [beq_eq_false_iff_ne]; omega
        have e3 : (K == b) = false := by rw [beq_eq_false_iff_ne]; exact hkb
        have e3' : decide (K = b) = false := decide_eq_false hkb
        have h9 := HQ2.out
        rw [if_neg hkb] at h9
        have HQ3 := Lib.hid h9
        clear h9
        have HKX := Lib.hid (show K < b by have := HKB.out; omega)
        clear hkb HQ2
        obtain ⟨L, hL⟩ : ∃ L, L = b - a := ⟨_, rfl⟩
        have e4 : (b : Int) - (a : Int) = (L : Int) := by omega
        have hw4 : IntKind.i64.wrap (L : Int) = (L : Int) := by rw [IntKind.wrap_i64]; omega
        by_cases h50 : b - a < 50
        · have HE := HQ3.out
          rw [if_pos h50] at HE
          obtain ⟨rfl, rfl⟩ := Prod.mk.inj HE
          have d50 : decide ((L : Int) < 50) = true := by rw [decide_eq_true_iff]; omega
          have d50' : (L : Int) < 50 := by omega
          clear HE HQ3 h50 hL
          go_wp2
          go_returns
          exact ⟨rfl, HR2.out, HS2.out⟩
        have d50 : decide ((L : Int) < 50) = false := by rw [decide_eq_false_iff_not]; omega
        have d50' : decide (L < 50) = false := by rw [decide_eq_false_iff_not]; omega
        have h9 := HQ3.out
        rw [if_neg h50] at h9
        have HQ4 := Lib.hid h9
        clear h9
        clear h50 hL HQ3
        obtain ⟨y, hy⟩ : ∃ y, y = K - 1 := ⟨_, rfl⟩
        have HY := Lib.hid (show K = y + 1 by have := HKB.out; omega)
        rw [← hy] at HQ4
        have e5 : (K : Int) - 1 = (y : Int) := by have := HY.out; omega
        have hw5 : IntKind.i64.wrap (y : Int) = (y : Int) := by rw [IntKind.wrap_i64]; have := HY.out; have := HKX.out; omega
        have hkn : (K : Int) < (n : Int) := by have := HKX.out; omega
        have hyn : (y : Int) < (n : Int) := by have := HY.out; have := HKX.out; omega
        have hne : K ≠ y := by have := HY.out; omega
        have c1 := HR2.out.cell K (by rw [HN1.out]; have := HKX.out; omega)
        have c2 := HR2.out.cell y (by rw [HN1.out]; have := HKX.out; have := HY.out; omega)
        have f1 := HR2.out.fro K
        have f2 := HR2.out.fro y
        have HW := Lib.hid (HR2.out.swpD (i := K) (j := y) (by rw [HN1.out]; have := HKX.out; omega) (by rw [HN1.out]; have := HKX.out; have := HY.out; omega))
        have HN2 := Lib.hid (show (Sort.swp d1 K y).size = n by rw [swp_size, HN1.out])
        clear hy
        obtain ⟨D1, hD1⟩ : ∃ D, D = Sort.swp d1 K y := ⟨_, rfl⟩
        rw [← hD1] at HQ4 HN2
        have HD1 := Lib.hid hD1
        clear hD1
        obtain ⟨M, hM⟩ : ∃ M, M = K - a := ⟨_, rfl⟩
        have HM := Lib.hid (show a + M = K by have := HKB.out; omega)
        have e6 : (K : Int) - (a : Int) = (M : Int) := by have := HM.out; omega
        have hw6 : IntKind.i64.wrap (M : Int) = (M : Int) := by rw [IntKind.wrap_i64]; have := HM.out; have := HKX.out; omega
        obtain ⟨M2, hM2⟩ : ∃ M, M = b - K := ⟨_, rfl⟩
        have HM2 := Lib.hid (show K + M2 = b by have := HKX.out; omega)
        have e7 : (b : Int) - (K : Int) = (M2 : Int) := by have := HM2.out; omega
        have hw7 : IntKind.i64.wrap (M2 : Int) = (M2 : Int) := by rw [IntKind.wrap_i64]; have := HM2.out; omega
        have hwk1 : IntKind.i64.wrap ((K : Int) + 1) = (K : Int) + 1 := by rw [IntKind.wrap_i64]; have := HM2.out; omega
        clear hM hM2
        go_wp2
        go_region
        have HR3 := Lib.hid (show SRow _ g D1 sp by rw [HD1.out]; exact HW.out.1)
        have HS3 := Lib.hid (HS2.out.trans HW.out.2)
        generalize World.drew _ = W6 at HR3 HS3 ⊢
        clear c1 c2 f1 f2 HW HR2 HS2 HN1 HD1
        obtain ⟨D2, hD2⟩ : ∃ D, D = downD a K D1 := ⟨_, rfl⟩
        rw [← hD2] at HQ4
        have HD2 := Lib.hid hD2.symm
        obtain ⟨D3, hD3⟩ : ∃ D, D = upD b K D2 := ⟨_, rfl⟩
        rw [← hD3] at HQ4
        have HD3 := Lib.hid hD3.symm
        clear hD2 hD3
        go_upto_if 61 with fail
        go_cut [] (fun wc => Hid (D2.size = n) ∧ Hid (SRow wc g D2 sp) ∧ Hid (SK g w wc))
        case first =>
          by_cases hm2 : 2 ≤ M
          · have d2 : decide ((2 : Int) ≤ (M : Int)) = true := by rw [decide_eq_true_iff]; omega
            have d2' : decide (2 ≤ M) = true := decide_eq_true hm2
            have HDD := Lib.hid (show Sort.shiftDown ltI y D1 = D2 by have h0 := HD2.out; unfold downD at h0; rw [if_pos (by have := HM.out; omega), show K - 1 = y by have := HY.out; omega] at h0; exact h0)
            go_wp2
            go_loopw [9] (fun jv wz => ∃ (j : Nat) (dj : Array Int), jv = .int .i64 (j : Int) ∧ j ≤ y ∧ Hid (dj.size = n) ∧ Hid (SRow wz g dj sp) ∧ Hid (SK g w wz) ∧ Hid (Sort.shiftDown ltI j dj = D2)) (fun jv _ => (intOf jv).toNat)
            case atStart => exact ⟨y, D1, rfl, Nat.le_refl _, HN2, HR3, HS3, HDD⟩
            case round =>
              obtain ⟨x, dj, rfl, hjy, HN4, HR4, HS4, HJ4⟩ := hrel
              clear HR3 HS3 HN2 HDD
              have HJY := Lib.hid hjy
              by_cases hx0 : x = 0
              · have HE := Lib.hid (show dj = D2 by have h0 := HJ4.out; rw [hx0] at h0; exact (shiftD_zero dj).symm.trans h0)
                have hx0i : decide ((1 : Int) ≤ (x : Int)) = false := by rw [decide_eq_false_iff_not]; omega
                have hx0n : decide (1 ≤ x) = false := by rw [decide_eq_false_iff_not]; omega
                clear hjy
                go_wp2
                go_meet
                case rel => exact ⟨HE.out ▸ HN4, HE.out ▸ HR4, HS4⟩
              · obtain ⟨j, hx⟩ : ∃ j, x = j + 1 := ⟨x - 1, by omega⟩
                have hj1 : (1 : Int) ≤ (x : Int) := by omega
                have e8 : (x : Int) - 1 = (j : Int) := by omega
                have hw8 : IntKind.i64.wrap (j : Int) = (j : Int) := by rw [IntKind.wrap_i64]; have := HKX.out; have := HY.out; omega
                have hxn : (x : Int) < (n : Int) := by have := HKX.out; have := HY.out; omega
                have hjn : (j : Int) < (n : Int) := by omega
                have hne : x ≠ j := by omega
                have HX := Lib.hid hx
                have HXN := Lib.hid (show x < n ∧ j < n by have := HKX.out; have := HY.out; omega)
                have hx1 : 1 ≤ x := by omega
                have c1 := HR4.out.cell x (by rw [HN4.out]; exact HXN.out.1)
                have c2 := HR4.out.cell j (by rw [HN4.out]; exact HXN.out.2)
                have f1 := HR4.out.fro x
                have f2 := HR4.out.fro j
                clear hx hjy hx0
                obtain ⟨t, hb1⟩ : ∃ t, ltI dj[x]! dj[j]! = t := ⟨_, rfl⟩
                have HT := Lib.hid hb1
                have HL := Lib.hid (show ∀ w, Calls Try.prog 147 #[.int .u32 dj[x]!, .int .u32 dj[j]!] w (fun e w' => e = .returned (.bool t) ∧ w' = w) from fun w => by rw [← hb1]; exact less32 _ _ _)
                clear hb1
                go_wp2
                go_quiet (first | (go_at_call 147; refine Calls.quiet_of_same (HL.out _)))
                clear c1 c2 f1 f2
                have HB := Lib.hid (HR4.out.drewN nq)
                generalize World.drewN wr nq = W7 at *
                have HR5 := Lib.hid HB.out.1
                have HS5 := Lib.hid (HS4.out.trans HB.out.2)
                clear HB HR4 HS4
                cases t with
                | true =>
                  have HQ5 := Lib.hid (show Sort.shiftDown ltI j (Sort.swp dj x j) = D2 by
                    have hT := HT.out
                    have hJ := HJ4.out
                    rw [HX.out] at hT hJ ⊢
                    exact (shiftD_go hT).symm.trans hJ)
                  have c1 := HR5.out.cell x (by rw [HN4.out]; exact HXN.out.1)
                  have c2 := HR5.out.cell j (by rw [HN4.out]; exact HXN.out.2)
                  have f1 := HR5.out.fro x
                  have f2 := HR5.out.fro j
                  have HW := Lib.hid (HR5.out.swpD (i := x) (j := j) (by rw [HN4.out]; exact HXN.out.1) (by rw [HN4.out]; exact HXN.out.2))
                  have HNW := Lib.hid (show (Sort.swp dj x j).size = n by rw [swp_size, HN4.out])
                  go_wp2
                  go_region
                  clear c1 c2 f1 f2
                  go_wp2
                  go_roundw
                  case rel => exact ⟨j, Sort.swp dj x j, by go_num, by have := HJY.out; have := HX.out; omega, HNW, Lib.hid HW.out.1, Lib.hid (HS5.out.trans HW.out.2), HQ5⟩
                  case measure => have := HX.out; simp [intOf]; omega
                | false =>
                  have HE := Lib.hid (show dj = D2 by
                    have hT := HT.out
                    have hJ := HJ4.out
                    rw [HX.out] at hT hJ
                    exact (shiftD_stop hT).symm.trans hJ)
                  go_wp2
                  go_meet
                  case rel => exact ⟨HE.out ▸ HN4, HE.out ▸ HR5, HS5⟩
          · have d2 : decide ((2 : Int) ≤ (M : Int)) = false := by rw [decide_eq_false_iff_not]; omega
            have d2' : decide (2 ≤ M) = false := decide_eq_false hm2
            have HE := Lib.hid (show D1 = D2 by have h0 := HD2.out; unfold downD at h0; rw [if_neg (by have := HM.out; omega)] at h0; exact h0)
            go_wp2
            go_meet
            case rel => exact ⟨HE.out ▸ HN2, HE.out ▸ HR3, HS3⟩
        case rest =>
          obtain ⟨HN7, HR7, HS7⟩ := hcut
          clear HN2 HR3 HS3 HD2
          go_upto_if 98 with fail
          have HQ9 := Lib.hid (show Sort.partialIns ltI a b (5 - (s + 1)) K D3 = (R, tt) by rw [HS5.out]; exact HQ4.out)
          have HK9 := Lib.hid (show s + 1 ≤ 5 ∧ a < K ∧ K ≤ b by have := HSS.out; have := HKB.out; omega)
          by_cases hm2 : 2 ≤ M2
          · have d2 : decide ((2 : Int) ≤ (M2 : Int)) = true := by rw [decide_eq_true_iff]; omega
            have d2' : decide (2 ≤ M2) = true := decide_eq_true hm2
            have HDD := Lib.hid (show Sort.shiftUp ltI b (K + 1) D2 = D3 by have h0 := HD3.out; unfold upD at h0; rw [if_pos (by have := HM2.out; omega)] at h0; exact h0)
            go_wp2
            go_loopw [10] (fun jv wz => ∃ (j : Nat) (dj : Array Int), jv = .int .i64 (j : Int) ∧ K + 1 ≤ j ∧ j ≤ b ∧ Hid (dj.size = n) ∧ Hid (SRow wz g dj sp) ∧ Hid (SK g w wz) ∧ Hid (Sort.shiftUp ltI b j dj = D3)) (fun jv _ => b - (intOf jv).toNat)
            case atStart => exact ⟨K + 1, D2, by go_num, Nat.le_refl _, HKX.out, HN7, HR7, HS7, HDD⟩
            case round =>
              obtain ⟨j, dj, rfl, hkj, hjb, HN4, HR4, HS4, HJ4⟩ := hrel
              clear HN7 HR7 HS7 HDD
              have HJY := Lib.hid (And.intro hkj hjb)
              by_cases hlt : j < b
              · obtain ⟨x, hx⟩ : ∃ x, x = j - 1 := ⟨_, rfl⟩
                have e8 : (j : Int) - 1 = (x : Int) := by omega
                have hw8 : IntKind.i64.wrap (x : Int) = (x : Int) := by rw [IntKind.wrap_i64]; omega
                have hw9 : IntKind.i64.wrap ((j : Int) + 1) = (j : Int) + 1 := by rw [IntKind.wrap_i64]; omega
                have hxn : (x : Int) < (n : Int) := by omega
                have hjn : (j : Int) < (n : Int) := by omega
                have hji : (j : Int) < (b : Int) := by omega
                have hne : j ≠ x := by omega
                have HX := Lib.hid hx
                have HLT := Lib.hid hlt
                have HXN := Lib.hid (show j < n ∧ x < n by omega)
                have c1 := HR4.out.cell j (by rw [HN4.out]; exact HXN.out.1)
                have c2 := HR4.out.cell x (by rw [HN4.out]; exact HXN.out.2)
                have f1 := HR4.out.fro j
                have f2 := HR4.out.fro x
                clear hx hlt hkj hjb
                obtain ⟨t, hb1⟩ : ∃ t, ltI dj[j]! dj[x]! = t := ⟨_, rfl⟩
                have HT := Lib.hid hb1
                have HL := Lib.hid (show ∀ w, Calls Try.prog 147 #[.int .u32 dj[j]!, .int .u32 dj[x]!] w (fun e w' => e = .returned (.bool t) ∧ w' = w) from fun w => by rw [← hb1]; exact less32 _ _ _)
                clear hb1
                go_wp2
                go_quiet (first | (go_at_call 147; refine Calls.quiet_of_same (HL.out _)))
                clear c1 c2 f1 f2
                have HB := Lib.hid (HR4.out.drewN nq)
                generalize World.drewN wr nq = W7 at *
                have HR5 := Lib.hid HB.out.1
                have HS5 := Lib.hid (HS4.out.trans HB.out.2)
                clear HB HR4 HS4
                cases t with
                | true =>
                  have HQ5 := Lib.hid (show Sort.shiftUp ltI b (j + 1) (Sort.swp dj j x) = D3 by
                    have hT := HT.out
                    rw [HX.out] at hT ⊢
                    exact (shiftU_go HLT.out hT).symm.trans HJ4.out)
                  have c1 := HR5.out.cell j (by rw [HN4.out]; exact HXN.out.1)
                  have c2 := HR5.out.cell x (by rw [HN4.out]; exact HXN.out.2)
                  have f1 := HR5.out.fro j
                  have f2 := HR5.out.fro x
                  have HW := Lib.hid (HR5.out.swpD (i := j) (j := x) (by rw [HN4.out]; exact HXN.out.1) (by rw [HN4.out]; exact HXN.out.2))
                  have HNW := Lib.hid (show (Sort.swp dj j x).size = n by rw [swp_size, HN4.out])
                  go_wp2
                  go_region
                  clear c1 c2 f1 f2
                  go_wp2
                  go_roundw
                  case rel => exact ⟨j + 1, Sort.swp dj j x, by go_num, by have := HJY.out; omega, HLT.out, HNW, Lib.hid HW.out.1, Lib.hid (HS5.out.trans HW.out.2), HQ5⟩
                  case measure => have := HLT.out; simp [intOf]; omega
                | false =>
                  have HE := Lib.hid (show dj = D3 by
                    have hT := HT.out
                    rw [HX.out] at hT
                    exact (shiftU_stop (.inr hT)).symm.trans HJ4.out)
                  go_wp2
                  go_roundw
                  case rel => exact ⟨K, s + 1, D3, HK9.out.1, HK9.out.2.1, HK9.out.2.2, rfl, by go_num, HE.out ▸ HN4, HE.out ▸ HR5, HS5, HQ9⟩
                  case measure => have := HK9.out; simp [intOf]; omega
              · have hki : decide ((j : Int) < (b : Int)) = false := by rw [decide_eq_false_iff_not]; omega
                have hkn : decide (j < b) = false := decide_eq_false hlt
                have HE := Lib.hid (show dj = D3 from (shiftU_stop (.inl hlt)).symm.trans HJ4.out)
                clear hkj hjb hlt
                go_wp2
                go_roundw
                case rel => exact ⟨K, s + 1, D3, HK9.out.1, HK9.out.2.1, HK9.out.2.2, rfl, by go_num, HE.out ▸ HN4, HE.out ▸ HR4, HS4, HQ9⟩
                case measure => have := HK9.out; simp [intOf]; omega
          · have d2 : decide ((2 : Int) ≤ (M2 : Int)) = false := by rw [decide_eq_false_iff_not]; omega
            have d2' : decide (2 ≤ M2) = false := decide_eq_false hm2
            have HE := Lib.hid (show D2 = D3 by have h0 := HD3.out; unfold upD at h0; rw [if_neg (by have := HM2.out; omega)] at h0; exact h0)
            go_wp2
            go_roundw
            case rel => exact ⟨K, s + 1, D3, HK9.out.1, HK9.out.2.1, HK9.out.2.2, rfl, by go_num, HE.out ▸ HN7, HE.out ▸ HR7, HS7, HQ9⟩
            case measure => have := HK9.out; simp [intOf]; omega
    · obtain rfl : s = 5 := by omega
      have HE := HQ1.out
      rw [show 5 - 5 = 0 from rfl, pi_zero] at HE
      obtain ⟨rfl, rfl⟩ := Prod.mk.inj HE
      clear HE HQ1 hs hs5
      go_wp2
      go_returns
      exact ⟨rfl, HR1.out, HS1.out⟩
end Go.Proofs.Ytnpalplnpfgibaa
