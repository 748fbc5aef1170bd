/- heapSortOrdered at uint32. -/
import Derived.Test.YtnpalplnpfgibaaSortB
namespace Go.Proofs.Ytnpalplnpfgibaa
open Go.RowKit
set_option linter.unusedSimpArgs false
set_option linter.unusedVariables false
theorem sift_size (hi f : Nat) : ∀ (r : Nat) (d : Array Int), (Sort.siftDown ltI hi f r d).size = d.size := by
  have key : ∀ k r (d : Array Int), hi - r ≤ k → (Sort.siftDown ltI hi f r d).size = d.size := by
    intro k
    induction k with
    | zero => intro r d h; rw [sift_out (by omega)]
    | succ k ih =>
      intro r d h
      by_cases h1 : hi ≤ 2 * r + 1
      · rw [sift_out h1]
      · by_cases h2 : 2 * r + 2 < hi ∧ ltI d[f + (2 * r + 1)]! d[f + (2 * r + 1) + 1]! = true
        · rw [sift_right h2.1 h2.2]
          split
          · rw [ih _ _ (by omega), swp_size]
          · rfl
        · rw [sift_left (by omega) (by
            by_cases h3 : 2 * r + 2 < hi
            · right
              have : ¬ ltI d[f + (2 * r + 1)]! d[f + (2 * r + 1) + 1]! = true := fun e => h2 ⟨h3, e⟩
              simpa using this
            · exact .inl h3)]
          split
          · rw [ih _ _ (by omega), swp_size]
          · rfl
  exact fun r d => key _ r d (Nat.le_refl _)
theorem heapBuild_go (hi f k : Nat) (d : Array Int) : Sort.heapBuild ltI hi f (k + 1) d = Sort.heapBuild ltI hi f k (Sort.siftDown ltI hi f k d) := rfl
theorem heapPop_go (f k : Nat) (d : Array Int) : Sort.heapPop ltI f (k + 1) d = Sort.heapPop ltI f k (Sort.siftDown ltI k f 0 (Sort.swp d f (f + k))) := rfl
set_option maxRecDepth 100000 in
set_option maxHeartbeats 4000000 in
theorem heap32 (g n cap : Nat) (d : Array Int) (sp : Array Value) (a b : Nat) (w : World) (h : SRow w g d sp) (hn : d.size = n) (hmx : n ≤ 1000000000) (hab : a < b) (hb : b ≤ n) : Calls Try.prog 142 #[.slice (some ⟨g, 0, none⟩) n cap, .int .i64 (a : Int), .int .i64 (b : Int)] w (SOk g (Sort.heapSort ltI d a b) sp (.tuple #[]) w) := by
  obtain ⟨R1, hR1⟩ : ∃ R, R = Sort.heapSort ltI d a b := ⟨_, rfl⟩
  rw [← hR1]
  obtain ⟨m, hm⟩ : ∃ m, b - a = m + 1 := ⟨b - a - 1, by omega⟩
  obtain ⟨R, hR⟩ : ∃ R, R = Sort.heapBuild ltI (m + 1) a (m / 2 + 1) d := ⟨_, rfl⟩
  have HF := Lib.hid (show Sort.heapPop ltI a (m + 1) R = R1 by rw [hR1, hR]; unfold Sort.heapSort; rw [hm]; rfl)
  obtain ⟨hi, hhi⟩ : ∃ h, h = m + 1 := ⟨_, rfl⟩
  rw [← hhi] at hR
  obtain ⟨q, hq⟩ : ∃ q, q = m / 2 := ⟨_, rfl⟩
  rw [← hq] at hR
  have HQS := Lib.hid hR.symm
  have HRS := Lib.hid h
  have HNS := Lib.hid hn
  have HSS := Lib.hid (SK.refl g w)
  have hqm : q ≤ m := by omega
  have e0 : (b : Int) - (a : Int) = (hi : Int) := by omega
  have hw0 : IntKind.i64.wrap (hi : Int) = (hi : Int) := by rw [IntKind.wrap_i64]; omega
  have e1 : (hi : Int) - 1 = (m : Int) := by omega
  have hw2 : IntKind.i64.wrap (m : Int) = (m : Int) := by rw [IntKind.wrap_i64]; omega
  have e2 : (m : Int).tdiv 2 = (q : Int) := by rw [hq]; exact (Int.ofNat_tdiv m 2).symm
  have hw3 : IntKind.i64.wrap (q : Int) = (q : Int) := by rw [IntKind.wrap_i64]; omega
  have HDF := Lib.hid (show a + hi = b ∧ hi = m + 1 by omega)
  clear hR1 hR h hn hhi hq hm hab
  go_enter Try.func142, Try.ntmps142
  go_wp2
  clear e0 hw0 hw3 e2
  go_loopw [9] (fun iv wr => ∃ (k : Nat) (z : Int) (d1 : Array Int), k ≤ m + 1 ∧ z = (k : Int) - 1 ∧ iv = .int .i64 z ∧ Hid (d1.size = n) ∧ Hid (SRow wr g d1 sp) ∧ Hid (SK g w wr) ∧ Hid (Sort.heapBuild ltI hi a k d1 = R)) (fun iv _ => (intOf iv + 1).toNat)
  case atStart => exact ⟨q + 1, (q : Int), d, by omega, by omega, by go_num, HNS, HRS, HSS, HQS⟩
  case round =>
    obtain ⟨k, z, d1, hk, hz, rfl, HN1, HR1, HS1, HQ1⟩ := hrel
    clear HNS HRS HSS HQS
    cases k with
    | zero =>
      obtain rfl : z = -1 := by omega
      have HE := Lib.hid (show d1 = R from HQ1.out)
      clear HQ1 hz hk
      go_wp2
      have HRS := Lib.hid (HE.out ▸ HR1.out)
      have HNS := Lib.hid (show R.size = n by rw [← HE.out]; exact HN1.out)
      have HSS := HS1
      have HQS := HF
      clear HE HR1 HN1 HS1 HF
      go_loopw [10] (fun iv wr => ∃ (k : Nat) (z : Int) (d1 : Array Int), k ≤ m + 1 ∧ z = (k : Int) - 1 ∧ iv = .int .i64 z ∧ Hid (d1.size = n) ∧ Hid (SRow wr g d1 sp) ∧ Hid (SK g w wr) ∧ Hid (Sort.heapPop ltI a k d1 = R1)) (fun iv _ => (intOf iv + 1).toNat)
      case atStart => exact ⟨m + 1, (m : Int), R, by omega, by omega, by go_num, HNS, HRS, HSS, HQS⟩
      case round =>
        obtain ⟨k, z, d1, hk, hz, rfl, HN1, HR1, HS1, HQ1⟩ := hrel
        clear HNS HRS HSS HQS
        cases k with
        | zero =>
          obtain rfl : z = -1 := by omega
          have HE := Lib.hid (show d1 = R1 from HQ1.out)
          clear HQ1 hz hk
          go_wp2
          go_returns
          exact ⟨rfl, HE.out ▸ HR1.out, HS1.out⟩
        | succ k =>
          obtain rfl : z = (k : Int) := by omega
          have HK := Lib.hid hk
          have hw1 : IntKind.i64.wrap ((k : Int) - 1) = (k : Int) - 1 := by rw [IntKind.wrap_i64]; have := HDF.out; omega
          clear hz hk
          obtain ⟨p, hp⟩ : ∃ p, p = a + k := ⟨_, rfl⟩
          have HP := Lib.hid hp
          have HDG := Lib.hid (show a < n ∧ p < n by have := HDF.out; have := HK.out; omega)
          have han : (a : Int) < (n : Int) := by have := HDF.out; omega
          by_cases hpa : p = a
          · have HPA := Lib.hid hpa
            have e5 : (a : Int) + (k : Int) = (a : Int) := by omega
            have hw5 : IntKind.i64.wrap (a : Int) = (a : Int) := by rw [IntKind.wrap_i64]; have := HDF.out; omega
            clear hp hpa
            have c1 := HR1.out.cell a (by rw [HN1.out]; exact HDG.out.1)
            have f1 := HR1.out.fro a
            have HW := Lib.hid (HR1.out.swpD (i := a) (j := a) (by rw [HN1.out]; exact HDG.out.1) (by rw [HN1.out]; exact HDG.out.1))
            have HNW := Lib.hid (show (Sort.swp d1 a a).size = n by rw [swp_size, HN1.out])
            have HS2 := Lib.hid (fun W (hW : SRow W g (Sort.swp d1 a a) sp) => sift32 g n cap _ sp 0 k a W hW HNW.out hmx (by omega) (by have := HDF.out; have := HK.out; omega))
            go_wp2
            go_region
            clear c1 f1
            go_wp2_with fail
            refine (HS2.out _ HW.out.1).mono ?_
            rintro e W2 ⟨rfl, hr, hs⟩
            have HR2 := Lib.hid hr
            have HSK := Lib.hid ((HS1.out.trans HW.out.2).trans hs)
            have HNN := Lib.hid (show (Sort.siftDown ltI k a 0 (Sort.swp d1 a a)).size = n by rw [sift_size]; exact HNW.out)
            have HQ2 := Lib.hid (show Sort.heapPop ltI a k (Sort.siftDown ltI k a 0 (Sort.swp d1 a a)) = R1 by have := HP.out; rw [HPA.out] at this; have h0 := (heapPop_go a k d1).symm.trans HQ1.out; rw [← this] at h0; exact h0)
            clear hr hs HR1 HS1 HN1 HQ1 HS2 HW HNW
            go_wp2
            go_roundw
            case rel => exact ⟨k, (k : Int) - 1, Sort.siftDown ltI k a 0 (Sort.swp d1 a a), by have := HK.out; omega, rfl, by have := HK.out; have := HDF.out; go_num, HNN, HR2, HSK, HQ2⟩
            case measure => simp [intOf, hw1]
          · have e5 : (a : Int) + (k : Int) = (p : Int) := by omega
            have hw5 : IntKind.i64.wrap (p : Int) = (p : Int) := by rw [IntKind.wrap_i64]; have := HDG.out; omega
            have hpn : (p : Int) < (n : Int) := by have := HDG.out; omega
            have hne : a ≠ p := fun e => hpa e.symm
            clear hp
            have c1 := HR1.out.cell a (by rw [HN1.out]; exact HDG.out.1)
            have c2 := HR1.out.cell p (by rw [HN1.out]; exact HDG.out.2)
            have f1 := HR1.out.fro a
            have f2 := HR1.out.fro p
            have HW := Lib.hid (HR1.out.swpD (i := a) (j := p) (by rw [HN1.out]; exact HDG.out.1) (by rw [HN1.out]; exact HDG.out.2))
            have HNW := Lib.hid (show (Sort.swp d1 a p).size = n by rw [swp_size, HN1.out])
            have HS2 := Lib.hid (fun W (hW : SRow W g (Sort.swp d1 a p) sp) => sift32 g n cap _ sp 0 k a W hW HNW.out hmx (by omega) (by have := HDF.out; have := HK.out; omega))
            go_wp2
            go_region
            clear c1 c2 f1 f2
            go_wp2_with fail
            refine (HS2.out _ HW.out.1).mono ?_
            rintro e W2 ⟨rfl, hr, hs⟩
            have HR2 := Lib.hid hr
            have HSK := Lib.hid ((HS1.out.trans HW.out.2).trans hs)
            have HNN := Lib.hid (show (Sort.siftDown ltI k a 0 (Sort.swp d1 a p)).size = n by rw [sift_size]; exact HNW.out)
            have HQ2 := Lib.hid (show Sort.heapPop ltI a k (Sort.siftDown ltI k a 0 (Sort.swp d1 a p)) = R1 by have h0 := (heapPop_go a k d1).symm.trans HQ1.out; rw [← HP.out] at h0; exact h0)
            clear hr hs HR1 HS1 HN1 HQ1 HS2 HW HNW
            go_wp2
            go_roundw
            case rel => exact ⟨k, (k : Int) - 1, Sort.siftDown ltI k a 0 (Sort.swp d1 a p), by have := HK.out; omega, rfl, by have := HK.out; have := HDF.out; go_num, HNN, HR2, HSK, HQ2⟩
            case measure => simp [intOf, hw1]

    | succ k =>
      obtain rfl : z = (k : Int) := by omega
      have HK := Lib.hid hk
      have hw1 : IntKind.i64.wrap ((k : Int) - 1) = (k : Int) - 1 := by rw [IntKind.wrap_i64]; have := HDF.out; omega
      clear hz hk
      have HS2 := Lib.hid (fun W (hW : SRow W g d1 sp) => sift32 g n cap d1 sp k hi a W hW HN1.out hmx (by have := HDF.out; have := HK.out; omega) (by have := HDF.out; omega))
      go_wp2_with fail
      refine (HS2.out _ HR1.out).mono ?_
      rintro e W2 ⟨rfl, hr, hs⟩
      have HR2 := Lib.hid hr
      have HSK := Lib.hid (HS1.out.trans hs)
      have HNN := Lib.hid (show (Sort.siftDown ltI hi a k d1).size = n by rw [sift_size]; exact HN1.out)
      have HQ2 := Lib.hid ((heapBuild_go hi a k d1).symm.trans HQ1.out)
      clear hr hs HR1 HS1 HN1 HQ1 HS2
      go_wp2
      go_roundw
      case rel => exact ⟨k, (k : Int) - 1, Sort.siftDown ltI hi a k d1, by have := HK.out; omega, rfl, by have := HK.out; have := HDF.out; go_num, HNN, HR2, HSK, HQ2⟩
      case measure => simp [intOf, hw1]
end Go.Proofs.Ytnpalplnpfgibaa
