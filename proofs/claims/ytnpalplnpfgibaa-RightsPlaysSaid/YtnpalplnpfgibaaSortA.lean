/- insertionSortOrdered, reverseRangeOrdered at uint32. -/
import Derived.Test.YtnpalplnpfgibaaSortRow
namespace Go.Proofs.Ytnpalplnpfgibaa
open Go.RowKit
set_option linter.unusedSimpArgs false
set_option linter.unusedVariables false
theorem insInner_no {a j : Nat} {d : Array Int} (h : ¬ a < j) : Sort.insInner ltI a j d = d := by
  cases j with
  | zero => rfl
  | succ j => unfold Sort.insInner; rw [if_neg (by simp; omega)]
theorem insInner_stop {a j : Nat} {d : Array Int} (h : ltI d[j + 1]! d[j]! = false) : Sort.insInner ltI a (j + 1) d = d := by
  unfold Sort.insInner
  rw [if_neg (by simp [h])]
theorem insInner_go {a j : Nat} {d : Array Int} (h1 : a < j + 1) (h : ltI d[j + 1]! d[j]! = true) : Sort.insInner ltI a (j + 1) d = Sort.insInner ltI a j (Sort.swp d (j + 1) j) := by
  conv => lhs; unfold Sort.insInner
  rw [if_pos (by simp [h]; omega)]
theorem insOuter_go {a b i : Nat} {d : Array Int} (h : i < b) : Sort.insOuter ltI a b i d = Sort.insOuter ltI a b (i + 1) (Sort.insInner ltI a i d) := by
  conv => lhs; unfold Sort.insOuter
  rw [if_pos h]
theorem insOuter_no {a b i : Nat} {d : Array Int} (h : ¬ i < b) : Sort.insOuter ltI a b i d = d := by
  unfold Sort.insOuter
  rw [if_neg h]
set_option maxRecDepth 100000 in
set_option maxHeartbeats 4000000 in
theorem insSort32 (g n cap : Nat) (d : Array Int) (sp : Array Value) (a b : Nat) (w : World) (h : SRow w g d sp) (hn : d.size = n) (hmx : n ≤ 1000000000) (hab : a ≤ b) (hb : b ≤ n) : Calls Try.prog 141 #[.slice (some ⟨g, 0, none⟩) n cap, .int .i64 (a : Int), .int .i64 (b : Int)] w (SOk g (Sort.insertionSort ltI d a b) sp (.tuple #[]) w) := by
  obtain ⟨R, hR⟩ : ∃ R, R = Sort.insertionSort ltI d a b := ⟨_, rfl⟩
  rw [← hR]
  have HR0 := Lib.hid (show Sort.insOuter ltI a b (a + 1) d = R from hR.symm)
  have HROW := Lib.hid h
  have HN := Lib.hid hn
  have hw0 : IntKind.i64.wrap ((a : Int) + 1) = (a : Int) + 1 := by rw [IntKind.wrap_i64]; omega
  clear hR h hn
  go_enter Try.func141, Try.ntmps141
  go_wp2
  clear hw0
  go_loopw [6] (fun i wr => ∃ (k : Nat) (d1 : Array Int), a + 1 ≤ k ∧ (k ≤ b ∨ k = a + 1) ∧ i = .int .i64 (k : Int) ∧ Hid (d1.size = n) ∧ Hid (SRow wr g d1 sp) ∧ Hid (SK g w wr) ∧ Hid (Sort.insOuter ltI a b k d1 = R)) (fun i _ => b + 1 - (intOf i).toNat)
  case atStart => exact ⟨a + 1, d, Nat.le_refl _, .inr rfl, by go_num, HN, HROW, Lib.hid (SK.refl _ _), HR0⟩
  case round =>
    obtain ⟨k, d1, hk1, hk2, rfl, HN1, HR1, HS1, HQ1⟩ := hrel
    clear HR0 HROW HN
    by_cases hkb : k < b
    · have hki : (k : Int) < (b : Int) := by omega
      have HKB := Lib.hid hkb
      have HQ0 := Lib.hid ((insOuter_go hkb).symm.trans HQ1.out)
      clear HQ1
      obtain ⟨D1, hD1⟩ : ∃ D, D = Sort.insInner ltI a k d1 := ⟨_, rfl⟩
      rw [← hD1] at HQ0
      have HI0 := Lib.hid hD1.symm
      clear hD1
      go_wp2
      go_loopw [7] (fun jv wz => ∃ (j : Nat) (d2 : Array Int), j ≤ k ∧ jv = .int .i64 (j : Int) ∧ Hid (d2.size = n) ∧ Hid (SRow wz g d2 sp) ∧ Hid (SK g w wz) ∧ Hid (Sort.insInner ltI a j d2 = D1)) (fun jv _ => (intOf jv).toNat)
      case atStart => exact ⟨k, d1, Nat.le_refl _, by go_num, HN1, HR1, HS1, HI0⟩
      case round =>
        obtain ⟨j, d2, hjk, rfl, HN2, HR2, HS2, HI2⟩ := hrel
        clear HN1 HR1 HS1 HI0
        by_cases haj : a < j
        · obtain ⟨i, hi⟩ : ∃ i, j = i + 1 := ⟨j - 1, by omega⟩
          have e1 : (j : Int) - 1 = (i : Int) := by omega
          have hw1 : IntKind.i64.wrap (i : Int) = (i : Int) := by rw [IntKind.wrap_i64]; omega
          have haji : (a : Int) < (j : Int) := by omega
          have hjn : (j : Int) < (n : Int) := by have := HKB.out; omega
          have hin : (i : Int) < (n : Int) := by have := HKB.out; omega
          have c1 := HR2.out.cell j (by rw [HN2.out]; omega)
          have c2 := HR2.out.cell i (by rw [HN2.out]; omega)
          have f1 := HR2.out.fro j
          have f2 := HR2.out.fro i
          have HIJ := Lib.hid (And.intro hi haj)
          clear hi haj
          generalize hb1 : ltI d2[j]! d2[i]! = t at *
          have HT := Lib.hid hb1
          have hl : ∀ w, Calls Try.prog 147 #[.int .u32 d2[j]!, .int .u32 d2[i]!] w (fun e w' => e = .returned (.bool t) ∧ w' = w) := fun w => by rw [← hb1]; exact less32 _ _ _
          have HL := Lib.hid hl
          clear hb1 hl
          go_wp2
          go_quiet (first | (go_at_call 147; refine Calls.quiet_of_same (HL.out _)))
          have HB := Lib.hid (HR2.out.drewN nq)
          clear c1 c2 f1 f2
          generalize World.drewN wr nq = W1 at *
          have HR3 := Lib.hid HB.out.1
          have HS3 := Lib.hid (HS2.out.trans HB.out.2)
          clear HB HR2 HS2
          cases t with
          | true =>
            have c1 := HR3.out.cell j (by rw [HN2.out]; omega)
            have c2 := HR3.out.cell i (by rw [HN2.out]; omega)
            have f1 := HR3.out.fro j
            have f2 := HR3.out.fro i
            have HW := Lib.hid (HR3.out.swpD (i := j) (j := i) (by rw [HN2.out]; omega) (by rw [HN2.out]; omega))
            have HN3 := Lib.hid (show (Sort.swp d2 j i).size = n by rw [swp_size, HN2.out])
            have HI3 := Lib.hid (show Sort.insInner ltI a i (Sort.swp d2 j i) = D1 by
              obtain ⟨rfl, h2⟩ := HIJ.out
              rw [← HI2.out, insInner_go h2 HT.out])
            go_wp2
            go_region
            clear c1 c2 f1 f2
            go_wp2
            go_roundw
            case rel => exact ⟨i, Sort.swp d2 j i, by have := HIJ.out; omega, by go_num, HN3, Lib.hid HW.out.1, Lib.hid (HS3.out.trans HW.out.2), HI3⟩
            case measure => have := HIJ.out; simp [intOf]; omega
          | false =>
            have HQ := Lib.hid (show Sort.insOuter ltI a b (k + 1) d2 = R by
              obtain ⟨rfl, h2⟩ := HIJ.out
              rw [← HQ0.out, ← HI2.out, insInner_stop HT.out])
            clear HIJ
            go_wp2
            go_roundw
            case rel => exact ⟨k + 1, d2, by omega, by omega, by go_num, HN2, HR3, HS3, HQ⟩
            case measure => simp [intOf]; omega
        · have haji : decide ((a : Int) < (j : Int)) = false := by rw [decide_eq_false_iff_not]; omega
          have hajn : decide (a < j) = false := decide_eq_false haj
          have HQ := Lib.hid (show Sort.insOuter ltI a b (k + 1) d2 = R by rw [← HQ0.out, ← HI2.out, insInner_no haj])
          clear haj
          go_wp2
          go_quiet (fail)
          have HB := Lib.hid (HR2.out.drewN nq)
          generalize World.drewN wr nq = W1 at *
          go_wp2
          go_roundw
          case rel => exact ⟨k + 1, d2, by omega, by omega, by go_num, HN2, Lib.hid HB.out.1, Lib.hid (HS2.out.trans HB.out.2), HQ⟩
          case measure => simp [intOf]; omega
    · have HE := Lib.hid (show d1 = R by rw [← HQ1.out, insOuter_no hkb])
      have hki : decide ((k : Int) < (b : Int)) = false := by rw [decide_eq_false_iff_not]; omega
      have hkn : decide (k < b) = false := decide_eq_false hkb
      clear hkb HQ1
      go_wp2
      go_returns
      exact ⟨rfl, HE.out ▸ HR1.out, HS1.out⟩
theorem revLoop_go {i j : Nat} {d : Array Int} (h : i < j) : Sort.reverseLoop i j d = Sort.reverseLoop (i + 1) (j - 1) (Sort.swp d i j) := by
  conv => lhs; unfold Sort.reverseLoop
  rw [if_pos h]
theorem revLoop_no {i j : Nat} {d : Array Int} (h : ¬ i < j) : Sort.reverseLoop i j d = d := by
  unfold Sort.reverseLoop
  rw [if_neg h]
set_option maxRecDepth 100000 in
set_option maxHeartbeats 4000000 in
theorem revRange32 (g n cap : Nat) (d : Array Int) (sp : Array Value) (a b : Nat) (w : World) (h : SRow w g d sp) (hn : d.size = n) (hmx : n ≤ 1000000000) (hab : a < b) (hb : b ≤ n) : Calls Try.prog 145 #[.slice (some ⟨g, 0, none⟩) n cap, .int .i64 (a : Int), .int .i64 (b : Int)] w (SOk g (Sort.reverseRange d a b) sp (.tuple #[]) w) := by
  obtain ⟨R, hR⟩ : ∃ R, R = Sort.reverseRange d a b := ⟨_, rfl⟩
  rw [← hR]
  obtain ⟨z, hz⟩ : ∃ z, b = z + 1 := ⟨b - 1, by omega⟩
  have HR0 := Lib.hid (show Sort.reverseLoop a z d = R by rw [hR, hz]; rfl)
  have HROW := Lib.hid h
  have HN := Lib.hid hn
  have HZ := Lib.hid hz
  have e0 : (b : Int) - 1 = (z : Int) := by omega
  have hw0 : IntKind.i64.wrap (z : Int) = (z : Int) := by rw [IntKind.wrap_i64]; omega
  clear hR h hn hz
  go_enter Try.func145, Try.ntmps145
  go_wp2
  clear hw0 e0
  go_loopw [6, 7] (fun iv jv wr => ∃ (i j : Nat) (d1 : Array Int), j < n ∧ iv = .int .i64 (i : Int) ∧ jv = .int .i64 (j : Int) ∧ Hid (d1.size = n) ∧ Hid (SRow wr g d1 sp) ∧ Hid (SK g w wr) ∧ Hid (Sort.reverseLoop i j d1 = R)) (fun iv jv _ => (intOf jv).toNat + 1 - (intOf iv).toNat)
  case atStart => exact ⟨a, z, d, by have := HZ.out; omega, rfl, rfl, HN, HROW, Lib.hid (SK.refl _ _), HR0⟩
  case round =>
    obtain ⟨i, j, d1, hj, rfl, rfl, HN1, HR1, HS1, HQ1⟩ := hrel
    clear HR0 HROW HN
    by_cases hij : i < j
    · have hii : (i : Int) < (j : Int) := by omega
      obtain ⟨y, hy⟩ : ∃ y, j = y + 1 := ⟨j - 1, by omega⟩
      have HIJ := Lib.hid (And.intro hij hy)
      have e1 : (j : Int) - 1 = (y : Int) := by omega
      have hw1 : IntKind.i64.wrap (y : Int) = (y : Int) := by rw [IntKind.wrap_i64]; omega
      have hw2 : IntKind.i64.wrap ((i : Int) + 1) = (i : Int) + 1 := by rw [IntKind.wrap_i64]; omega
      have hin : (i : Int) < (n : Int) := by omega
      have hjn : (j : Int) < (n : Int) := by omega
      have c1 := HR1.out.cell i (by rw [HN1.out]; omega)
      have c2 := HR1.out.cell j (by rw [HN1.out]; omega)
      have f1 := HR1.out.fro i
      have f2 := HR1.out.fro j
      have HW := Lib.hid (HR1.out.swpD (i := i) (j := j) (by rw [HN1.out]; omega) (by rw [HN1.out]; omega))
      have HN3 := Lib.hid (show (Sort.swp d1 i j).size = n by rw [swp_size, HN1.out])
      have HQ3 := Lib.hid (show Sort.reverseLoop (i + 1) y (Sort.swp d1 i j) = R by rw [← HQ1.out, revLoop_go hij, hy]; rfl)
      clear hij hy
      go_wp2
      go_region
      clear c1 c2 f1 f2
      go_wp2
      go_roundw
      case rel => exact ⟨i + 1, y, Sort.swp d1 i j, by have := HIJ.out; omega, by go_num, by go_num, HN3, Lib.hid HW.out.1, Lib.hid (HS1.out.trans HW.out.2), HQ3⟩
      case measure => have := HIJ.out; simp [intOf]; omega
    · have HE := Lib.hid (show d1 = R by rw [← HQ1.out, revLoop_no hij])
      have hki : decide ((i : Int) < (j : Int)) = false := by rw [decide_eq_false_iff_not]; omega
      have hkn : decide (i < j) = false := decide_eq_false hij
      clear hij HQ1
      go_wp2
      go_returns
      exact ⟨rfl, HE.out ▸ HR1.out, HS1.out⟩
end Go.Proofs.Ytnpalplnpfgibaa
