/- siftDownOrdered at uint32. -/
import Derived.Test.YtnpalplnpfgibaaSortA
namespace Go.Proofs.Ytnpalplnpfgibaa
open Go.RowKit
set_option linter.unusedSimpArgs false
set_option linter.unusedVariables false
theorem sift_out {hi f r : Nat} {d : Array Int} (h : hi ≤ 2 * r + 1) : Sort.siftDown ltI hi f r d = d := by
  unfold Sort.siftDown
  rw [dif_pos h]
theorem sift_right {hi f r : Nat} {d : Array Int} (h : 2 * r + 2 < hi) (hl : ltI d[f + (2 * r + 1)]! d[f + (2 * r + 1) + 1]! = true) : Sort.siftDown ltI hi f r d = if ltI d[f + r]! d[f + (2 * r + 2)]! = true then Sort.siftDown ltI hi f (2 * r + 2) (Sort.swp d (f + r) (f + (2 * r + 2))) else d := by
  conv => lhs; unfold Sort.siftDown
  rw [dif_neg (by omega), if_pos (by rw [hl, decide_eq_true (show 2 * r + 1 + 1 < hi by omega)]; rfl), dif_pos h]
  cases ltI d[f + r]! d[f + (2 * r + 2)]! <;> rfl
theorem sift_left {hi f r : Nat} {d : Array Int} (h : 2 * r + 1 < hi) (hl : ¬ 2 * r + 2 < hi ∨ ltI d[f + (2 * r + 1)]! d[f + (2 * r + 1) + 1]! = false) : Sort.siftDown ltI hi f r d = if ltI d[f + r]! d[f + (2 * r + 1)]! = true then Sort.siftDown ltI hi f (2 * r + 1) (Sort.swp d (f + r) (f + (2 * r + 1))) else d := by
  conv => lhs; unfold Sort.siftDown
  rw [dif_neg (by omega), if_neg (by rcases hl with hl | hl <;> simp [hl])]
  cases ltI d[f + r]! d[f + (2 * r + 1)]! <;> rfl
set_option maxRecDepth 100000 in
set_option maxHeartbeats 4000000 in
theorem sift32 (g n cap : Nat) (d : Array Int) (sp : Array Value) (lo hi f : Nat) (w : World) (h : SRow w g d sp) (hn : d.size = n) (hmx : n ≤ 1000000000) (hlo : lo ≤ n) (hb : f + hi ≤ n) : Calls Try.prog 172 #[.slice (some ⟨g, 0, none⟩) n cap, .int .i64 (lo : Int), .int .i64 (hi : Int), .int .i64 (f : Int)] w (SOk g (Sort.siftDown ltI hi f lo d) sp (.tuple #[]) w) := by
  obtain ⟨R, hR⟩ : ∃ R, R = Sort.siftDown ltI hi f lo d := ⟨_, rfl⟩
  rw [← hR]
  have HR0 := Lib.hid hR.symm
  have HROW := Lib.hid h
  have HN := Lib.hid hn
  clear hR h hn
  go_enter Try.func172, Try.ntmps172
  go_wp2
  go_loopw [8] (fun iv wr => ∃ (r : Nat) (d1 : Array Int), r ≤ n ∧ iv = .int .i64 (r : Int) ∧ Hid (d1.size = n) ∧ Hid (SRow wr g d1 sp) ∧ Hid (SK g w wr) ∧ Hid (Sort.siftDown ltI hi f r d1 = R)) (fun iv _ => n + 1 - (intOf iv).toNat)
  case atStart => exact ⟨lo, d, hlo, rfl, HN, HROW, Lib.hid (SK.refl _ _), HR0⟩
  case round =>
    obtain ⟨r, d1, hr, rfl, HN1, HR1, HS1, HQ1⟩ := hrel
    clear HR0 HROW HN
    obtain ⟨c, hc⟩ : ∃ c, c = 2 * r + 1 := ⟨_, rfl⟩
    have hw0 : IntKind.i64.wrap (2 * (r : Int)) = 2 * (r : Int) := by rw [IntKind.wrap_i64]; omega
    have e0 : 2 * (r : Int) + 1 = (c : Int) := by omega
    have hw1 : IntKind.i64.wrap (c : Int) = (c : Int) := by rw [IntKind.wrap_i64]; omega
    by_cases hch : hi ≤ c
    · have d0 : decide ((hi : Int) ≤ (c : Int)) = true := by rw [decide_eq_true_iff]; omega
      have HE := Lib.hid (show d1 = R by rw [← HQ1.out, sift_out (by omega)])
      have d0' : decide (hi ≤ c) = true := decide_eq_true hch
      clear hch HQ1 hc
      go_wp2
      go_returns
      exact ⟨rfl, HE.out ▸ HR1.out, HS1.out⟩
    have d0 : decide ((hi : Int) ≤ (c : Int)) = false := by rw [decide_eq_false_iff_not]; omega
    have d0' : decide (hi ≤ c) = false := decide_eq_false hch
    obtain ⟨c', hc'⟩ : ∃ c', c' = c + 1 := ⟨_, rfl⟩
    obtain ⟨p, hp⟩ : ∃ p, p = f + r := ⟨_, rfl⟩
    obtain ⟨q, hq⟩ : ∃ q, q = f + c := ⟨_, rfl⟩
    obtain ⟨q', hq'⟩ : ∃ q', q' = f + c' := ⟨_, rfl⟩
    have e1 : (c : Int) + 1 = (c' : Int) := by omega
    have e2 : (f : Int) + (r : Int) = (p : Int) := by omega
    have e3 : (f : Int) + (c : Int) = (q : Int) := by omega
    have e4 : (q : Int) + 1 = (q' : Int) := by omega
    have e5 : (f : Int) + (c' : Int) = (q' : Int) := by omega
    have hw2 : IntKind.i64.wrap (c' : Int) = (c' : Int) := by rw [IntKind.wrap_i64]; omega
    have hw3 : IntKind.i64.wrap (p : Int) = (p : Int) := by rw [IntKind.wrap_i64]; omega
    have hw4 : IntKind.i64.wrap (q : Int) = (q : Int) := by rw [IntKind.wrap_i64]; omega
    have hw5 : IntKind.i64.wrap (q' : Int) = (q' : Int) := by rw [IntKind.wrap_i64]; omega
    have HDF := Lib.hid (show c = 2 * r + 1 ∧ c' = c + 1 ∧ p = f + r ∧ q = f + c ∧ q' = f + c' ∧ c < hi by omega)
    clear hc hc' hp hq hq' hch
    by_cases hch2 : c' < hi
    · have d1' : decide ((c' : Int) < (hi : Int)) = true := by rw [decide_eq_true_iff]; omega
      have d2' : (c' : Int) < (hi : Int) := by omega
      have hqn : (q : Int) < (n : Int) := by have := HDF.out; omega
      have hqn' : (q' : Int) < (n : Int) := by have := HDF.out; omega
      have HQR := Lib.hid (show ∀ t, ltI d1[q]! d1[q']! = t → (if t = true then (if ltI d1[p]! d1[q']! = true then Sort.siftDown ltI hi f c' (Sort.swp d1 p q') else d1) else (if ltI d1[p]! d1[q]! = true then Sort.siftDown ltI hi f c (Sort.swp d1 p q) else d1)) = R from fun t ht => by
        have HQ := HQ1.out
        obtain ⟨rfl, rfl, rfl, rfl, rfl, _⟩ := HDF.out
        cases t with
        | true => rw [if_pos rfl]; exact (sift_right (by omega) ht).symm.trans HQ
        | false => rw [if_neg (by simp)]; exact (sift_left (by omega) (.inr ht)).symm.trans HQ)
      have c1 := HR1.out.cell q (by rw [HN1.out]; omega)
      have c2 := HR1.out.cell q' (by rw [HN1.out]; omega)
      have f1 := HR1.out.fro q
      have f2 := HR1.out.fro q'
      obtain ⟨t0, hb1⟩ : ∃ t, ltI d1[q]! d1[q']! = t := ⟨_, rfl⟩
      have HT0 := Lib.hid hb1
      have HL0 := Lib.hid (show ∀ w, Calls Try.prog 147 #[.int .u32 d1[q]!, .int .u32 d1[q']!] w (fun e w' => e = .returned (.bool t0) ∧ w' = w) from fun w => by rw [← hb1]; exact less32 _ _ _)
      clear hb1
      go_wp2
      go_quiet (first | (go_at_call 147; refine Calls.quiet_of_same (HL0.out _)))
      clear c1 c2 f1 f2
      have HB := Lib.hid (HR1.out.drewN nq)
      generalize World.drewN wr nq = W2 at *
      have HR2 := Lib.hid HB.out.1
      have HS2 := Lib.hid (HS1.out.trans HB.out.2)
      clear HB HR1 HS1
      cases t0 with
      | true =>
        have HQX := Lib.hid (show (if ltI d1[p]! d1[q']! = true then Sort.siftDown ltI hi f c' (Sort.swp d1 p q') else d1) = R from by have := HQR.out _ HT0.out; rw [if_pos rfl] at this; exact this)
        clear HQR hqn hqn'
        have hpn : (p : Int) < (n : Int) := by have := HDF.out; omega
        have hqn : (q' : Int) < (n : Int) := by have := HDF.out; omega
        have c1 := HR2.out.cell p (by rw [HN1.out]; omega)
        have c2 := HR2.out.cell q' (by rw [HN1.out]; omega)
        have f1 := HR2.out.fro p
        have f2 := HR2.out.fro q'
        obtain ⟨t, hb1⟩ : ∃ t, ltI d1[p]! d1[q']! = t := ⟨_, rfl⟩
        have HT := Lib.hid hb1
        have HL := Lib.hid (show ∀ w, Calls Try.prog 147 #[.int .u32 d1[p]!, .int .u32 d1[q']!] w (fun e w' => e = .returned (.bool t) ∧ w' = w) from fun w => by rw [← hb1]; exact less32 _ _ _)
        clear hb1
        go_wp2
        go_quiet (first | (go_at_call 147; refine Calls.quiet_of_same (HL.out _)))
        clear c1 c2 f1 f2
        have HB := Lib.hid (HR2.out.drewN nq)
        generalize World.drewN W2 nq = W5 at *
        have HR5 := Lib.hid HB.out.1
        have HS5 := Lib.hid (HS2.out.trans HB.out.2)
        clear HB HR2 HS2
        cases t with
        | true =>
          have c1 := HR5.out.cell p (by rw [HN1.out]; omega)
          have c2 := HR5.out.cell q' (by rw [HN1.out]; omega)
          have f1 := HR5.out.fro p
          have f2 := HR5.out.fro q'
          have HW := Lib.hid (HR5.out.swpD (i := p) (j := q') (by rw [HN1.out]; omega) (by rw [HN1.out]; omega))
          have HNW := Lib.hid (show (Sort.swp d1 p q').size = n by rw [swp_size, HN1.out])
          have HQ3 := Lib.hid (show Sort.siftDown ltI hi f c' (Sort.swp d1 p q') = R by rw [← HQX.out, if_pos HT.out])
          go_wp2
          go_region
          clear c1 c2 f1 f2
          go_wp2
          go_roundw
          case rel => exact ⟨c', Sort.swp d1 p q', by have := HDF.out; omega, rfl, HNW, Lib.hid HW.out.1, Lib.hid (HS5.out.trans HW.out.2), HQ3⟩
          case measure => have := HDF.out; simp [intOf]; omega
        | false =>
          have HE := Lib.hid (show d1 = R by rw [← HQX.out, if_neg (by rw [HT.out]; simp)])
          go_wp2
          go_returns
          exact ⟨rfl, HE.out ▸ HR5.out, HS5.out⟩
      | false =>
        have HQX := Lib.hid (show (if ltI d1[p]! d1[q]! = true then Sort.siftDown ltI hi f c (Sort.swp d1 p q) else d1) = R from by have := HQR.out _ HT0.out; rw [if_neg (by simp)] at this; exact this)
        clear HQR hqn hqn'
        have hpn : (p : Int) < (n : Int) := by have := HDF.out; omega
        have hqn : (q : Int) < (n : Int) := by have := HDF.out; omega
        have c1 := HR2.out.cell p (by rw [HN1.out]; omega)
        have c2 := HR2.out.cell q (by rw [HN1.out]; omega)
        have f1 := HR2.out.fro p
        have f2 := HR2.out.fro q
        obtain ⟨t, hb1⟩ : ∃ t, ltI d1[p]! d1[q]! = t := ⟨_, rfl⟩
        have HT := Lib.hid hb1
        have HL := Lib.hid (show ∀ w, Calls Try.prog 147 #[.int .u32 d1[p]!, .int .u32 d1[q]!] w (fun e w' => e = .returned (.bool t) ∧ w' = w) from fun w => by rw [← hb1]; exact less32 _ _ _)
        clear hb1
        go_wp2
        go_quiet (first | (go_at_call 147; refine Calls.quiet_of_same (HL.out _)))
        clear c1 c2 f1 f2
        have HB := Lib.hid (HR2.out.drewN nq)
        generalize World.drewN W2 nq = W5 at *
        have HR5 := Lib.hid HB.out.1
        have HS5 := Lib.hid (HS2.out.trans HB.out.2)
        clear HB HR2 HS2
        cases t with
        | true =>
          have c1 := HR5.out.cell p (by rw [HN1.out]; omega)
          have c2 := HR5.out.cell q (by rw [HN1.out]; omega)
          have f1 := HR5.out.fro p
          have f2 := HR5.out.fro q
          have HW := Lib.hid (HR5.out.swpD (i := p) (j := q) (by rw [HN1.out]; omega) (by rw [HN1.out]; omega))
          have HNW := Lib.hid (show (Sort.swp d1 p q).size = n by rw [swp_size, HN1.out])
          have HQ3 := Lib.hid (show Sort.siftDown ltI hi f c (Sort.swp d1 p q) = R by rw [← HQX.out, if_pos HT.out])
          go_wp2
          go_region
          clear c1 c2 f1 f2
          go_wp2
          go_roundw
          case rel => exact ⟨c, Sort.swp d1 p q, by have := HDF.out; omega, rfl, HNW, Lib.hid HW.out.1, Lib.hid (HS5.out.trans HW.out.2), HQ3⟩
          case measure => have := HDF.out; simp [intOf]; omega
        | false =>
          have HE := Lib.hid (show d1 = R by rw [← HQX.out, if_neg (by rw [HT.out]; simp)])
          go_wp2
          go_returns
          exact ⟨rfl, HE.out ▸ HR5.out, HS5.out⟩
    · have d1' : decide ((c' : Int) < (hi : Int)) = false := by rw [decide_eq_false_iff_not]; omega
      have d2' : decide (c' < hi) = false := decide_eq_false hch2
      have HQX := Lib.hid (show (if ltI d1[p]! d1[q]! = true then Sort.siftDown ltI hi f c (Sort.swp d1 p q) else d1) = R by
        have HQ := HQ1.out
        obtain ⟨rfl, rfl, rfl, rfl, rfl, _⟩ := HDF.out
        exact (sift_left (by omega) (.inl (by omega))).symm.trans HQ)
      go_wp2
      go_quiet (fail)
      have HB := Lib.hid (HR1.out.drewN nq)
      generalize World.drewN wr nq = W2 at *
      have HR2 := Lib.hid HB.out.1
      have HS2 := Lib.hid (HS1.out.trans HB.out.2)
      clear HB HR1 HS1
      have hpn : (p : Int) < (n : Int) := by have := HDF.out; omega
      have hqn : (q : Int) < (n : Int) := by have := HDF.out; omega
      have c1 := HR2.out.cell p (by rw [HN1.out]; omega)
      have c2 := HR2.out.cell q (by rw [HN1.out]; omega)
      have f1 := HR2.out.fro p
      have f2 := HR2.out.fro q
      obtain ⟨t, hb1⟩ : ∃ t, ltI d1[p]! d1[q]! = t := ⟨_, rfl⟩
      have HT := Lib.hid hb1
      have HL := Lib.hid (show ∀ w, Calls Try.prog 147 #[.int .u32 d1[p]!, .int .u32 d1[q]!] w (fun e w' => e = .returned (.bool t) ∧ w' = w) from fun w => by rw [← hb1]; exact less32 _ _ _)
      clear hb1
      go_wp2
      go_quiet (first | (go_at_call 147; refine Calls.quiet_of_same (HL.out _)))
      clear c1 c2 f1 f2
      have HB := Lib.hid (HR2.out.drewN nq)
      generalize World.drewN W2 nq = W5 at *
      have HR5 := Lib.hid HB.out.1
      have HS5 := Lib.hid (HS2.out.trans HB.out.2)
      clear HB HR2 HS2
      cases t with
      | true =>
        have c1 := HR5.out.cell p (by rw [HN1.out]; omega)
        have c2 := HR5.out.cell q (by rw [HN1.out]; omega)
        have f1 := HR5.out.fro p
        have f2 := HR5.out.fro q
        have HW := Lib.hid (HR5.out.swpD (i := p) (j := q) (by rw [HN1.out]; omega) (by rw [HN1.out]; omega))
        have HNW := Lib.hid (show (Sort.swp d1 p q).size = n by rw [swp_size, HN1.out])
        have HQ3 := Lib.hid (show Sort.siftDown ltI hi f c (Sort.swp d1 p q) = R by rw [← HQX.out, if_pos HT.out])
        go_wp2
        go_region
        clear c1 c2 f1 f2
        go_wp2
        go_roundw
        case rel => exact ⟨c, Sort.swp d1 p q, by have := HDF.out; omega, rfl, HNW, Lib.hid HW.out.1, Lib.hid (HS5.out.trans HW.out.2), HQ3⟩
        case measure => have := HDF.out; simp [intOf]; omega
      | false =>
        have HE := Lib.hid (show d1 = R by rw [← HQX.out, if_neg (by rw [HT.out]; simp)])
        go_wp2
        go_returns
        exact ⟨rfl, HE.out ▸ HR5.out, HS5.out⟩
end Go.Proofs.Ytnpalplnpfgibaa
