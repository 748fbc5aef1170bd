/- pdqsortOrdered at uint32. -/
import Derived.Test.YtnpalplnpfgibaaSortC
import Derived.Test.YtnpalplnpfgibaaSortF
import Derived.Test.YtnpalplnpfgibaaSortG
import Derived.Test.YtnpalplnpfgibaaSortI
import Derived.Sort.Walk13a
import Derived.Deep.DeepCutAuto
namespace Go.Proofs.Ytnpalplnpfgibaa
open Go.RowKit
set_option linter.unusedSimpArgs false
set_option linter.unusedVariables false
structure Round (d : Array Int) (a b limit : Nat) (wb wp : Bool) (Res D1 : Array Int) (lim1 cx : Nat) (ch : Sort.Hint) (D2 : Array Int) (pv : Nat) (ht : Sort.Hint) (P : Array Int) (pb : Bool) : Prop where
  brk : wb = false → D1 = Sort.breakPatterns d a b ∧ lim1 = limit - 1
  same : wb = true → D1 = d ∧ lim1 = limit
  piv : Sort.choosePivot ltI D1 a b = (cx, ch)
  dec : ch = .decreasing → D2 = Sort.reverseRange D1 a b ∧ pv = (b - 1) - (cx - a) ∧ ht = .increasing
  ndec : ch ≠ .decreasing → D2 = D1 ∧ pv = cx ∧ ht = ch
  par : (wb && wp && decide (ht = .increasing)) = true → Sort.partialInsertionSort ltI D2 a b = (P, pb)
  npar : (wb && wp && decide (ht = .increasing)) = false → P = D2 ∧ pb = false
  l1 : lim1 ≤ limit
  s1 : D1.size = d.size
  c1 : a ≤ cx ∧ cx < b
  s2 : D2.size = d.size
  p1 : a ≤ pv ∧ pv < b
  s3 : P.size = d.size
  fin : pb = true → Res = P
  eq : pb = false → (decide (a > 0) && !ltI P[a - 1]! P[pv]!) = true → ∀ mid d4, Sort.partitionEqual ltI P a b pv = (mid, d4) → a < mid ∧ mid ≤ b ∧ d4.size = d.size ∧ Sort.Below ltI mid b d4 ∧ Sort.pdq ltI d4 mid b lim1 wb wp = Res
  prt : pb = false → (decide (a > 0) && !ltI P[a - 1]! P[pv]!) = false → ∀ mid ap d4, Sort.partition ltI P a b pv = (mid, ap, d4) → a ≤ mid ∧ mid < b ∧ d4.size = d.size ∧ Sort.Below ltI a mid d4 ∧ Sort.Below ltI (mid + 1) b d4 ∧
    (mid - a < b - mid → (Sort.pdq ltI d4 a mid lim1 true true).size = d.size ∧ Sort.Below ltI (mid + 1) b (Sort.pdq ltI d4 a mid lim1 true true) ∧ Sort.pdq ltI (Sort.pdq ltI d4 a mid lim1 true true) (mid + 1) b lim1 (decide (mid - a ≥ (b - a) / 8)) ap = Res) ∧
    (¬ mid - a < b - mid → (Sort.pdq ltI d4 (mid + 1) b lim1 true true).size = d.size ∧ Sort.Below ltI a mid (Sort.pdq ltI d4 (mid + 1) b lim1 true true) ∧ Sort.pdq ltI (Sort.pdq ltI d4 (mid + 1) b lim1 true true) a mid lim1 (decide (b - mid ≥ (b - a) / 8)) ap = Res)
theorem round_ex (d : Array Int) (a b limit : Nat) (wb wp : Bool) (h12 : ¬ b - a ≤ 12) (h0 : ¬ limit = 0) (hb : b ≤ d.size) (hB : Sort.Below ltI a b d) :
    ∃ D1 lim1 cx ch D2 pv ht P pb, Round d a b limit wb wp (Sort.pdq ltI d a b limit wb wp) D1 lim1 cx ch D2 pv ht P pb := by
  obtain ⟨s1, B1, hc1, s2, B2, hpv, s3, B3⟩ := Sort.rd_facts (limit := limit) (wb := wb) (wp := wp) ltI_swo Sort.partialInsertionSort_holds Sort.reverseRange_holds (show a < b by omega) hb hB
  have hpq := Sort.pdq_sorts ltI ltI_swo
  refine ⟨(Sort.rd ltI d a b limit wb wp).d1, (Sort.rd ltI d a b limit wb wp).lim, (Sort.rd ltI d a b limit wb wp).c.1, (Sort.rd ltI d a b limit wb wp).c.2, (Sort.rd ltI d a b limit wb wp).d2, (Sort.rd ltI d a b limit wb wp).pivot, (Sort.rd ltI d a b limit wb wp).hint, (Sort.rd ltI d a b limit wb wp).pi.1, (Sort.rd ltI d a b limit wb wp).pi.2, ?_⟩
  refine { brk := ?_, same := ?_, piv := rfl, dec := Sort.rd_dec, ndec := Sort.rd_not, par := fun h => (Sort.rd_pi_yes h).symm, npar := ?_, l1 := Sort.rd_lim_le, s1 := s1, c1 := hc1, s2 := s2, p1 := hpv, s3 := s3, fin := Sort.pdq_done h12 h0, eq := ?_, prt := ?_ }
  · rintro rfl; exact Sort.rd_false
  · rintro rfl; exact Sort.rd_true
  · intro h
    have := Sort.rd_pi_no h
    exact ⟨congrArg Prod.fst this, congrArg Prod.snd this⟩
  · intro hp2 h87 mid d4 hx
    have h87' := h87
    simp only [Bool.and_eq_true, decide_eq_true_eq, Bool.not_eq_true'] at h87'
    obtain ⟨r1, r2, r3, r4, _⟩ := Sort.round_eq ltI_swo (Sort.partitionEqual_holds ltI) h87'.1 hpv.1 hpv.2 (by omega) B3 h87'.2 hx
    refine ⟨r1, r2, r3.trans s3, r4, ?_⟩
    rw [Sort.pdq_eq h12 h0 hp2 h87 (by rw [hx]; exact ⟨r1, r2⟩), hx]
  · intro hp2 h87 mid ap d4 hx
    obtain ⟨r1, r2, r3, r4, r5, r6, r7⟩ := Sort.round_part ltI_swo (Sort.partition_holds ltI) hpv.1 hpv.2 (show b ≤ (Sort.rd ltI d a b limit wb wp).pi.1.size by omega) B3 hx
    refine ⟨r1, r2, r3.trans s3, r4, r5, fun h4 => ?_, fun h4 => ?_⟩
    · obtain ⟨pL, sL⟩ := hpq d4 a mid (Sort.rd ltI d a b limit wb wp).lim true true (by omega) (by omega) r4
      refine ⟨by rw [pL.1, r3, s3], (r6 _ pL sL).1, ?_⟩
      rw [Sort.pdq_left h12 h0 hp2 h87 (by rw [hx]; exact ⟨r1, r2⟩) (by rw [hx]; exact h4), hx]
    · obtain ⟨pL, sL⟩ := hpq d4 (mid + 1) b (Sort.rd ltI d a b limit wb wp).lim true true (by omega) (by omega) r5
      refine ⟨by rw [pL.1, r3, s3], (r7 _ pL sL).1, ?_⟩
      rw [Sort.pdq_right h12 h0 hp2 h87 (by rw [hx]; exact ⟨r1, r2⟩) (by rw [hx]; exact h4), hx]
theorem hintN_two {h : Sort.Hint} (e : hintN h = 2) : h = .decreasing := by cases h <;> simp [hintN] at e ⊢
theorem hintN_one {h : Sort.Hint} (e : hintN h = 1) : h = .increasing := by cases h <;> simp [hintN] at e ⊢
set_option maxRecDepth 100000 in
set_option maxHeartbeats 4000000 in
theorem pdq32 (g cap : Nat) (sp : Array Value) : ∀ (N n a b limit : Nat) (d : Array Int) (w : World), b - a < N → SRow w g d sp → d.size = n → n ≤ 1000000000 → a ≤ b → b ≤ n → limit ≤ 1000 → Sort.Below ltI a b d →
    Calls Try.prog 124 #[.slice (some ⟨g, 0, none⟩) n cap, .int .i64 (a : Int), .int .i64 (b : Int), .int .i64 (limit : Int)] w (SOk g (Sort.pdq ltI d a b limit true true) sp (.tuple #[]) w) := by
  intro N
  induction N with
  | zero => intro _ _ _ _ _ _ h; exact absurd h (Nat.not_lt_zero _)
  | succ N ih =>
    intro n a b limit d w hN h hn hmx hab hb hlim hB
    obtain ⟨R, hR⟩ : ∃ R, R = Sort.pdq ltI d a b limit true true := ⟨_, rfl⟩
    rw [← hR]
    have HQ0 := Lib.hid hR.symm
    have HR0 := Lib.hid h
    have HN0 := Lib.hid hn
    have HB0 := Lib.hid hB
    have HS0 := Lib.hid (SK.refl g w)
    clear hR h hn hB
    go_enter Try.func124, Try.ntmps124
    go_wp2
    go_loopw [1, 2, 3, 8, 9] (fun s1 s2 s3 s8 s9 wr => ∃ (a' b' lim : Nat) (wb wp : Bool) (dk : Array Int), s1 = .int .i64 (a' : Int) ∧ s2 = .int .i64 (b' : Int) ∧ s3 = .int .i64 (lim : Int) ∧ s8 = .bool wb ∧ s9 = .bool wp ∧ a' ≤ b' ∧ b' ≤ n ∧ b' - a' ≤ b - a ∧ lim ≤ limit ∧ Hid (dk.size = n) ∧ Hid (Sort.Below ltI a' b' dk) ∧ Hid (SRow wr g dk sp) ∧ Hid (SK g w wr) ∧ Hid (Sort.pdq ltI dk a' b' lim wb wp = R)) (fun s1 s2 _ _ _ _ => (intOf s2).toNat - (intOf s1).toNat)
    case atStart => exact ⟨a, b, limit, true, true, d, rfl, rfl, rfl, rfl, rfl, hab, hb, Nat.le_refl _, Nat.le_refl _, HN0, HB0, HR0, HS0, HQ0⟩
    case round =>
      obtain ⟨a', b', lim, wb, wp, dk, rfl, rfl, rfl, rfl, rfl, hab', hb', hk, hlim', HNr, HBr, HRr, HSr, HQr⟩ := hrel
      clear HN0 HR0 HS0 HQ0 HB0
      obtain ⟨L, hL⟩ : ∃ L, L = b' - a' := ⟨_, rfl⟩
      have eL : (b' : Int) - (a' : Int) = (L : Int) := by omega
      have hwL : IntKind.i64.wrap (L : Int) = (L : Int) := by rw [IntKind.wrap_i64]; omega
      by_cases h12 : L ≤ 12
      · have d12 : decide ((L : Int) ≤ 12) = true := by rw [decide_eq_true_iff]; omega
        have d12' : decide (L ≤ 12) = true := by rw [decide_eq_true_iff]; omega
        have HC := Lib.hid (insSort32 g n cap dk sp a' b' wr HRr.out HNr.out hmx hab' hb')
        have HE := Lib.hid (show Sort.insertionSort ltI dk a' b' = R by rw [← HQr.out]; exact (Sort.pdq_small (by omega)).symm)
        clear hL HQr
        go_wp2_with fail
        refine (HC.out).mono ?_
        rintro e W1 ⟨rfl, hr, hs⟩
        have HR1 := Lib.hid (hr)
        have HS1 := Lib.hid (HSr.out.trans hs)
        clear hr hs
        go_wp2
        go_returns
        exact ⟨rfl, HE.out ▸ HR1.out, HS1.out⟩
      have d12 : decide ((L : Int) ≤ 12) = false := by rw [decide_eq_false_iff_not]; omega
      have d12' : decide (L ≤ 12) = false := by rw [decide_eq_false_iff_not]; omega
      by_cases hl0 : lim = 0
      · have HE := Lib.hid (show Sort.heapSort ltI dk a' b' = R by rw [← HQr.out]; exact (Sort.pdq_heap (by omega) hl0).symm)
        subst hl0
        have HC := Lib.hid (heap32 g n cap dk sp a' b' wr HRr.out HNr.out hmx (by omega) hb')
        clear hL h12 HQr
        go_wp2_with fail
        refine (HC.out).mono ?_
        rintro e W1 ⟨rfl, hr, hs⟩
        have HR1 := Lib.hid (hr)
        have HS1 := Lib.hid (HSr.out.trans hs)
        clear hr hs
        go_wp2
        go_returns
        exact ⟨rfl, HE.out ▸ HR1.out, HS1.out⟩
      have dl0 : ((lim : Int) == 0) = false := by rw [beq_eq_false_iff_ne]; omega
      have dl0' : ¬ (lim : Int) = 0 := by omega
      obtain ⟨D1, lim1, cx, ch, D2, pv, ht, P, pb, rd⟩ := round_ex dk a' b' lim wb wp (by omega) hl0 (by rw [HNr.out]; exact hb') HBr.out
      rw [HQr.out] at rd
      have HRD := Lib.hid rd
      have HDF := Lib.hid (show a' + 12 < b' ∧ b' ≤ n ∧ L = b' - a' ∧ lim ≤ 1000 ∧ lim ≤ limit ∧ n ≤ 1000000000 ∧ b' - a' ≤ b - a ∧ b - a < N + 1 by omega)
      have HS1 := Lib.hid (rd.s1.trans HNr.out)
      have HS2 := Lib.hid (rd.s2.trans HNr.out)
      have HS3 := Lib.hid (rd.s3.trans HNr.out)
      have HL0 := Lib.hid (show lim ≠ 0 from hl0)
      clear rd hL h12 hl0 HQr hab' hb' hk hlim' HBr
      go_upto_if 35 with fail
      go_cut [3] (fun s3 wc => s3 = .int .i64 (lim1 : Int) ∧ Hid (SRow wc g D1 sp) ∧ Hid (SK g w wc))
      case first =>
        cases wb
        · have HB1 := Lib.hid (HRD.out.brk rfl)
          have HC := Lib.hid (break32 g n cap dk sp a' b' wr HRr.out HNr.out hmx HDF.out.1 HDF.out.2.1)
          have e1 : (lim : Int) - 1 = (lim1 : Int) := by have := HB1.out.2; have := HL0.out; omega
          have hw1 : IntKind.i64.wrap (lim1 : Int) = (lim1 : Int) := by rw [IntKind.wrap_i64]; have := HB1.out.2; have := HDF.out; omega
          go_wp2_with fail
          refine (HC.out).mono ?_
          rintro e W1 ⟨rfl, hr, hs⟩
          have HR1 := Lib.hid (hr)
          have HSX := Lib.hid (HSr.out.trans hs)
          clear hr hs
          go_wp2_with fail
          go_meet
          case rel => exact ⟨rfl, by rw [HB1.out.1]; exact HR1, HSX⟩
        · have HB1 := Lib.hid (HRD.out.same rfl)
          have HLX := Lib.hid HB1.out.2
          go_wp2_with fail
          go_meet
          case rel => exact ⟨by rw [HLX.out], by rw [HB1.out.1]; exact HRr, HSr⟩
      case rest =>
        obtain ⟨rfl, HR1, HSA⟩ := hcut
        clear HRr HSr
        obtain ⟨c0, hc0⟩ : ∃ c0, c0 = hintN ch := ⟨_, rfl⟩
        have HC0 := Lib.hid hc0
        have HC := Lib.hid (pivot32 g n cap D1 sp a' b' cx ch wc HR1.out HS1.out hmx HDF.out.1 HDF.out.2.1 HRD.out.piv)
        unfold two at HC
        go_wp2_with fail
        refine (HC.out).mono ?_
        rintro e W2 ⟨rfl, hr, hbl⟩
        have HR2 := Lib.hid hr
        have HSB := Lib.hid (HSA.out.trans (SK.bel hbl))
        clear hr hbl HR1 HSA HC
        unfold two
        rw [← hc0]
        clear hc0
        go_upto_if 50 with fail
        go_cut [11, 12] (fun s11 s12 wc => s11 = .int .i64 (pv : Int) ∧ s12 = .int .i64 (hintN ht : Int) ∧ Hid (SRow wc g D2 sp) ∧ Hid (SK g w wc))
        case first =>
          by_cases hh : ch = .decreasing
          · have HD := Lib.hid (HRD.out.dec hh)
            have HHT := Lib.hid (show hintN ht = 1 by rw [HD.out.2.2]; rfl)
            have e0 : c0 = 2 := by rw [HC0.out, hh]; rfl
            subst e0
            have HC := Lib.hid (revRange32 g n cap D1 sp a' b' W2 HR2.out HS1.out hmx (by have := HDF.out; omega) HDF.out.2.1)
            obtain ⟨y, hy⟩ : ∃ y, y = b' - 1 := ⟨_, rfl⟩
            obtain ⟨z, hz⟩ : ∃ z, z = cx - a' := ⟨_, rfl⟩
            have e1 : (b' : Int) - 1 = (y : Int) := by have := HDF.out; omega
            have e2 : (cx : Int) - (a' : Int) = (z : Int) := by have := HRD.out.c1; omega
            have e3 : (y : Int) - (z : Int) = (pv : Int) := by have := HRD.out.c1; have := HD.out.2.1; omega
            have hw1 : IntKind.i64.wrap (y : Int) = (y : Int) := by rw [IntKind.wrap_i64]; have := HDF.out; omega
            have hw2 : IntKind.i64.wrap (z : Int) = (z : Int) := by rw [IntKind.wrap_i64]; have := HRD.out.c1; have := HDF.out; omega
            have hw3 : IntKind.i64.wrap (pv : Int) = (pv : Int) := by rw [IntKind.wrap_i64]; have := HRD.out.p1; have := HDF.out; omega
            clear hh hy hz
            go_wp2_with fail
            refine (HC.out).mono ?_
            rintro e W3 ⟨rfl, hr, hs⟩
            have HR3 := Lib.hid (hr)
            have HSC := Lib.hid (HSB.out.trans hs)
            clear hr hs
            go_wp2_with fail
            go_meet
            case rel => exact ⟨rfl, by rw [HHT.out]; rfl, by rw [HD.out.1]; exact HR3, HSC⟩
          · have HD := Lib.hid (HRD.out.ndec hh)
            have hne : ¬ (c0 : Int) = 2 := fun e => hh (hintN_two (by rw [← HC0.out]; omega))
            have hne' : ((c0 : Int) == 2) = false := by rw [beq_eq_false_iff_ne]; exact hne
            clear hh
            go_wp2_with fail
            go_meet
            case rel => exact ⟨by rw [HD.out.2.1], by rw [HD.out.2.2, HC0.out], by rw [HD.out.1]; exact HR2, HSB⟩
        case rest =>
          obtain ⟨rfl, rfl, HR3, HSC⟩ := hcut
          clear HR2 HSB HS1 HC0
          obtain ⟨c1, hc1⟩ : ∃ c1, c1 = hintN ht := ⟨_, rfl⟩
          have HC1 := Lib.hid hc1
          rw [← hc1]
          clear hc1
          obtain ⟨q, hq⟩ : ∃ q, (wb && wp && decide (ht = Sort.Hint.increasing)) = q := ⟨_, rfl⟩
          have HQ := Lib.hid hq
          clear hq
          go_upto_region 15 with fail
          go_cut [12, 68] (fun s12 s68 wx => s68 = .bool q ∧ s12 = .int .i64 (c1 : Int) ∧ wx = wc)
          case first =>
            by_cases hh : ht = .increasing
            · have e0 : c1 = 1 := by rw [HC1.out, hh]; rfl
              subst e0
              have HX := Lib.hid (show (wb && wp) = q by have h0 := HQ.out; rw [hh] at h0; simpa using h0)
              clear hh
              cases wb <;> cases wp <;> (go_wp2_with fail; go_meet; exact ⟨by rw [← HX.out]; rfl, by first | rfl | trivial, by first | rfl | trivial⟩)
            · have hne : ¬ (c1 : Int) = 1 := fun e => hh (hintN_one (by rw [← HC1.out]; omega))
              have hne' : ((c1 : Int) == 1) = false := by rw [beq_eq_false_iff_ne]; exact hne
              have HX := Lib.hid (show false = q by have h0 := HQ.out; rw [decide_eq_false hh, Bool.and_false] at h0; exact h0)
              clear hh
              cases wb <;> cases wp <;> (go_wp2_with fail; go_meet; exact ⟨by rw [← HX.out], by first | rfl | trivial, by first | rfl | trivial⟩)
          case rest =>
            obtain ⟨rfl, rfl, rfl⟩ := hcut
            go_upto_if 68 with fail
            go_cut [] (fun wx => Hid (pb = false) ∧ Hid (SRow wx g P sp) ∧ Hid (SK g w wx))
            case first =>
              cases q
              · have HP := Lib.hid (HRD.out.npar HQ.out)
                go_wp2_with fail
                go_meet
                case rel => exact ⟨Lib.hid HP.out.2, by rw [HP.out.1]; exact HR3, HSC⟩
              · have HC := Lib.hid (partial32 g n cap D2 sp a' b' wc P pb HR3.out HS2.out hmx (by have := HDF.out; omega) HDF.out.2.1 (HRD.out.par HQ.out))
                go_wp2_with fail
                refine (HC.out).mono ?_
                rintro e W4 ⟨rfl, hr, hs⟩
                have HR4 := Lib.hid (hr)
                have HSD := Lib.hid (HSC.out.trans hs)
                clear hr hs
                cases pb
                · go_wp2_with fail
                  go_meet
                  case rel => exact ⟨by first | exact Lib.hid rfl | exact Lib.hid trivial, HR4, HSD⟩
                · have HE := Lib.hid (HRD.out.fin rfl)
                  go_wp2
                  go_returns
                  exact ⟨rfl, HE.out ▸ HR4.out, HSD.out⟩
            case rest =>
              obtain ⟨HPB, HR5, HSE⟩ := hcut
              clear HR3 HSC HC1 HQ
              obtain ⟨t9, ht9⟩ : ∃ t, (decide (a' > 0) && !ltI P[a' - 1]! P[pv]!) = t := ⟨_, rfl⟩
              have HT9 := Lib.hid ht9
              clear ht9
              go_upto_region 17 with fail
              go_cut [87] (fun s87 wx => s87 = .bool t9 ∧ Hid (SRow wx g P sp) ∧ Hid (SK g w wx))
              case first =>
                by_cases ha0 : a' = 0
                · have HX := Lib.hid (show false = t9 by rw [← HT9.out, ha0]; rfl)
                  have hz1 : decide ((0 : Int) < (a' : Int)) = false := by rw [decide_eq_false_iff_not]; omega
                  have hz2 : decide (0 < a') = false := by rw [decide_eq_false_iff_not]; omega
                  have hz3 : decide ((a' : Int) > 0) = false := by rw [decide_eq_false_iff_not]; omega
                  go_big_quiet (fail)
                  have HB := Lib.hid (HR5.out.drewN nq)
                  generalize World.drewN wc nq = W5 at *
                  have HR6 := Lib.hid HB.out.1
                  have HSF := Lib.hid (HSE.out.trans HB.out.2)
                  clear HB HR5 HSE
                  go_wp2_with fail
                  go_meet
                  case rel => exact ⟨by rw [← HX.out], HR6, HSF⟩
                · have ha1 : (0 : Int) < (a' : Int) := by omega
                  have hz1 : decide ((0 : Int) < (a' : Int)) = true := by rw [decide_eq_true_iff]; omega
                  have hz2 : decide (0 < a') = true := by rw [decide_eq_true_iff]; omega
                  have hz3 : decide ((a' : Int) > 0) = true := by rw [decide_eq_true_iff]; omega
                  obtain ⟨y, hy⟩ : ∃ y, y = a' - 1 := ⟨_, rfl⟩
                  have e1 : (a' : Int) - 1 = (y : Int) := by omega
                  have hw1 : IntKind.i64.wrap (y : Int) = (y : Int) := by rw [IntKind.wrap_i64]; have := HDF.out; omega
                  have HYN := Lib.hid (show y < n ∧ pv < n by have := HDF.out; have := HRD.out.p1; omega)
                  have hyn : (y : Int) < (n : Int) := by have := HYN.out; omega
                  have hpn : (pv : Int) < (n : Int) := by have := HYN.out; omega
                  have c1 := HR5.out.cell y (by rw [HS3.out]; exact HYN.out.1)
                  have c2 := HR5.out.cell pv (by rw [HS3.out]; exact HYN.out.2)
                  have f1 := HR5.out.fro y
                  have f2 := HR5.out.fro pv
                  obtain ⟨t, hb1⟩ : ∃ t, ltI P[y]! P[pv]! = t := ⟨_, rfl⟩
                  have HT := Lib.hid hb1
                  have HL := Lib.hid (show ∀ w, Calls Try.prog 147 #[.int .u32 P[y]!, .int .u32 P[pv]!] w (fun e w' => e = .returned (.bool t) ∧ w' = w) from fun w => by rw [← hb1]; exact less32 _ _ _)
                  clear hb1
                  have HX := Lib.hid (show (!t) = t9 by rw [← HT9.out, decide_eq_true (show a' > 0 by omega), ← hy, HT.out]; rfl)
                  clear hy ha0
                  go_quiet (first | (go_at_call 147; refine Calls.quiet_of_same (HL.out _)))
                  clear c1 c2 f1 f2
                  have HB := Lib.hid (HR5.out.drewN nq)
                  generalize World.drewN wc nq = W5 at *
                  have HR6 := Lib.hid HB.out.1
                  have HSF := Lib.hid (HSE.out.trans HB.out.2)
                  clear HB HR5 HSE
                  go_wp2_with fail
                  go_meet
                  case rel => exact ⟨by rw [← HX.out], HR6, HSF⟩
              case rest =>
                obtain ⟨rfl, HR6, HSF⟩ := hcut
                clear HR5 HSE
                cases t9
                · obtain ⟨mid, ap, d4, hx⟩ : ∃ mid ap d4, Sort.partition ltI P a' b' pv = (mid, ap, d4) := ⟨_, _, _, rfl⟩
                  have HM := Lib.hid (HRD.out.prt HPB.out HT9.out mid ap d4 hx)
                  have HC := Lib.hid (part32 g n cap P sp a' b' pv mid wc ap d4 HR6.out HS3.out hmx HRD.out.p1.1 HRD.out.p1.2 HDF.out.2.1 hx)
                  have HN4 := Lib.hid (HM.out.2.2.1.trans HNr.out)
                  clear hx
                  go_wp2_with fail
                  refine (HC.out).mono ?_
                  rintro e W7 ⟨rfl, hr, hs⟩
                  have HR7 := Lib.hid (hr)
                  have HSG := Lib.hid (HSF.out.trans hs)
                  clear hr hs
                  obtain ⟨l, hl⟩ : ∃ l, l = mid - a' := ⟨_, rfl⟩
                  obtain ⟨r, hr⟩ : ∃ l, l = b' - mid := ⟨_, rfl⟩
                  obtain ⟨E, hE⟩ : ∃ l, l = L / 8 := ⟨_, rfl⟩
                  have HLR := Lib.hid (show a' + l = mid ∧ mid + r = b' ∧ 0 < r ∧ E = L / 8 by have := HM.out.1; have := HM.out.2.1; omega)
                  have e1 : (mid : Int) - (a' : Int) = (l : Int) := by have := HLR.out; omega
                  have e2 : (b' : Int) - (mid : Int) = (r : Int) := by have := HLR.out; omega
                  have e3 : (L : Int).tdiv 8 = (E : Int) := by rw [hE]; exact (Int.ofNat_tdiv L 8).symm
                  have hw1 : IntKind.i64.wrap (l : Int) = (l : Int) := by rw [IntKind.wrap_i64]; have := HLR.out; have := HDF.out; omega
                  have hw2 : IntKind.i64.wrap (r : Int) = (r : Int) := by rw [IntKind.wrap_i64]; have := HLR.out; have := HDF.out; omega
                  have hw3 : IntKind.i64.wrap (E : Int) = (E : Int) := by rw [IntKind.wrap_i64]; have := HLR.out; have := HDF.out; omega
                  have hw4 : IntKind.i64.wrap ((mid : Int) + 1) = (mid : Int) + 1 := by rw [IntKind.wrap_i64]; have := HLR.out; have := HDF.out; omega
                  clear hl hr hE
                  by_cases h4 : l < r
                  · have h4z : decide ((l : Int) < (r : Int)) = true := by rw [decide_eq_true_iff]; omega
                    have HM2 := Lib.hid (HM.out.2.2.2.2.2.1 (by have := HLR.out; omega))
                    have HI := Lib.hid (ih n a' mid lim1 d4 W7 (by have := HDF.out; have := HLR.out; omega) HR7.out HN4.out hmx HM.out.1 (by have := HDF.out; have := HLR.out; omega) (by have := HDF.out; have := HRD.out.l1; omega) HM.out.2.2.2.1)
                    have HQE := Lib.hid (show Sort.pdq ltI (Sort.pdq ltI d4 a' mid lim1 true true) (mid + 1) b' lim1 (decide (E ≤ l)) ap = R by
                      rw [← HM2.out.2.2]
                      congr 1
                      exact decide_eq_decide.2 (by have := HLR.out; have := HDF.out; omega))
                    go_wp2_with fail
                    refine (HI.out).mono ?_
                    rintro e W8 ⟨rfl, hr, hs⟩
                    have HR8 := Lib.hid (hr)
                    have HSH := Lib.hid (HSG.out.trans hs)
                    clear hr hs
                    go_wp2_with fail
                    go_roundw
                    case rel => exact ⟨mid + 1, b', lim1, decide (E ≤ l), ap, Sort.pdq ltI d4 a' mid lim1 true true, by go_num, rfl, rfl, rfl, rfl, by have := HLR.out; omega, HDF.out.2.1, by have := HDF.out; have := HLR.out; omega, by have := HDF.out; have := HRD.out.l1; omega, Lib.hid (HM2.out.1.trans HNr.out), Lib.hid HM2.out.2.1, HR8, HSH, HQE⟩
                    case measure => have := HDF.out; have := HLR.out; simp [intOf]; omega
                  · have h4z : decide ((l : Int) < (r : Int)) = false := by rw [decide_eq_false_iff_not]; omega
                    have h4n : decide (l < r) = false := decide_eq_false h4
                    have HM2 := Lib.hid (HM.out.2.2.2.2.2.2 (by have := HLR.out; omega))
                    have HI := Lib.hid (ih n (mid + 1) b' lim1 d4 W7 (by have := HDF.out; have := HLR.out; omega) HR7.out HN4.out hmx (by have := HLR.out; omega) HDF.out.2.1 (by have := HDF.out; have := HRD.out.l1; omega) HM.out.2.2.2.2.1)
                    have HQE := Lib.hid (show Sort.pdq ltI (Sort.pdq ltI d4 (mid + 1) b' lim1 true true) a' mid lim1 (decide (E ≤ r)) ap = R by
                      rw [← HM2.out.2.2]
                      congr 1
                      exact decide_eq_decide.2 (by have := HLR.out; have := HDF.out; omega))
                    have ecast : ((mid + 1 : Nat) : Int) = (mid : Int) + 1 := by omega
                    rw [ecast] at HI
                    clear ecast
                    go_wp2_with fail
                    refine (HI.out).mono ?_
                    rintro e W8 ⟨rfl, hr, hs⟩
                    have HR8 := Lib.hid (hr)
                    have HSH := Lib.hid (HSG.out.trans hs)
                    clear hr hs
                    go_wp2_with fail
                    go_roundw
                    case rel => exact ⟨a', mid, lim1, decide (E ≤ r), ap, Sort.pdq ltI d4 (mid + 1) b' lim1 true true, rfl, rfl, rfl, rfl, rfl, HM.out.1, by have := HDF.out; have := HLR.out; omega, by have := HDF.out; have := HLR.out; omega, by have := HDF.out; have := HRD.out.l1; omega, Lib.hid (HM2.out.1.trans HNr.out), Lib.hid HM2.out.2.1, HR8, HSH, HQE⟩
                    case measure => have := HDF.out; have := HLR.out; simp [intOf]; omega
                · obtain ⟨mid, d4, hx⟩ : ∃ mid d4, Sort.partitionEqual ltI P a' b' pv = (mid, d4) := ⟨_, _, rfl⟩
                  have HM := Lib.hid (HRD.out.eq HPB.out HT9.out mid d4 hx)
                  have HC := Lib.hid (partEq32 g n cap P sp a' b' pv mid wc d4 HR6.out HS3.out hmx HRD.out.p1.1 HRD.out.p1.2 HDF.out.2.1 hx)
                  clear hx
                  go_wp2_with fail
                  refine (HC.out).mono ?_
                  rintro e W7 ⟨rfl, hr, hs⟩
                  have HR7 := Lib.hid (hr)
                  have HSG := Lib.hid (HSF.out.trans hs)
                  clear hr hs
                  go_wp2_with fail
                  go_roundw
                  case rel => exact ⟨mid, b', lim1, wb, wp, d4, rfl, rfl, rfl, rfl, rfl, HM.out.2.1, HDF.out.2.1, by have := HDF.out; have := HM.out.1; omega, by have := HDF.out; have := HRD.out.l1; omega, Lib.hid (HM.out.2.2.1.trans HNr.out), Lib.hid HM.out.2.2.2.1, HR7, HSG, Lib.hid HM.out.2.2.2.2⟩
                  case measure => have := HM.out.1; have := HDF.out; simp [intOf]; omega
end Go.Proofs.Ytnpalplnpfgibaa
