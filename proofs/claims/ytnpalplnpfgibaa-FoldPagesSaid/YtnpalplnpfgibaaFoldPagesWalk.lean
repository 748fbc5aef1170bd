/- The walk of FoldPages. -/
import Derived.Test.YtnpalplnpfgibaaFoldUp
namespace Go.Proofs.Ytnpalplnpfgibaa
open Go.RowKit
abbrev In_FoldPages_0.T := List BA
def In_FoldPages_0 (w : World) (a : Option Addr) (len _cap : Nat) (z : In_FoldPages_0.T) : Prop := z.length = len ∧ IsStrs w a z ∧ len ≤ maxLen
theorem open_FoldPages_0 {H : Type} {enc : TypeId × Value → H} {w : World} {base : Nat} {spare : Nat → Bool} {held : Bool} {a : Option Addr} {len cap : Nat} {d : DataW H} {p : List MemPlace} (h : DataW.Trod enc Try.prog w base spare held 81 (.slice a len cap) d p) : ∃ z, In_FoldPages_0 w a len cap z := open_strs h
def FPDone (w : World) (e : Ending) (w' : World) : Prop := e = .returned (.bool true) ∧ Below w.heap.size w w'
set_option maxRecDepth 100000 in
set_option maxHeartbeats 8000000 in
theorem foldPagesMain (a : Option Addr) (cap : Nat) (zs : List BA) (after : BA) (first : Bool) (many : Int) (w : World) (h : IsStrs w a zs) (hl : zs.length ≤ maxLen) : Calls Try.prog 7 #[.slice a zs.length cap, .string after, .bool first, .int .i64 many] w (FPDone w) := by
  have HZ := Lib.hid h
  have HLM := Lib.hid hl
  clear h hl
  go_enter Try.func7, Try.ntmps7
  go_wp2_with fail
  refine (foldUp w).mono ?_
  rintro e W1 ⟨rfl, hb1⟩
  have HB1 := Lib.hid hb1
  have HZ1 := Lib.hid (strsBel HZ.out hb1)
  clear hb1
  go_wp2_with fail
  refine (smallAns a cap zs W1 HZ1.out HLM.out).mono ?_
  rintro e W2 ⟨b, rfl, rfl, hsm⟩
  cases b with
  | false =>
    go_wp2_with fail
    go_ret
    exact ⟨rfl, HB1.out⟩
  | true =>
    have HLZ := Lib.hid (show zs.length ≤ 1000 by have := (hsm rfl).1; omega)
    clear hsm
    by_cases hs : 200 < after.size
    · have ds : decide ((200 : Int) < (after.size : Int)) = true := decide_eq_true (by omega)
      clear hs
      go_wp2_with fail
      go_ret
      exact ⟨rfl, HB1.out⟩
    · have ds : decide ((200 : Int) < (after.size : Int)) = false := decide_eq_false (by omega)
      clear hs
      go_wp2_with fail
      refine (foldPage a cap zs after first many W2 HZ1.out HLZ.out).mono ?_
      rintro e W3 ⟨⟨v3, rfl, ho3⟩, hb3⟩
      obtain ⟨mb, hmb⟩ : ∃ mb, mb = decide (many.toNat < (selL zs after first).length) := ⟨_, rfl⟩
      obtain ⟨P, hP⟩ : ∃ P, P = (selL zs after first).take many.toNat := ⟨_, rfl⟩
      rw [← hmb]
      rw [← hP] at ho3
      have HMB := Lib.hid hmb
      have HPE := Lib.hid hP
      have HPL := Lib.hid (show P.length ≤ 1000 by rw [hP, List.length_take]; have := selL_len zs after first; have := HLZ.out; omega)
      have HB3 := Lib.hid (HB1.out.trans (hb3.mono HB1.out.size))
      have HZ3 := Lib.hid (strsBel HZ1.out hb3)
      have HO3 := Lib.hid ho3
      clear ho3 hb3 hmb hP
      go_wp2_with fail
      refine (refPage a cap zs after first many W3 HZ3.out HLZ.out).mono ?_
      rintro e W4 ⟨⟨v4, rfl, ho4⟩, hb4⟩
      rw [← HMB.out]
      rw [← HPE.out] at ho4
      have HB4 := Lib.hid (HB3.out.trans (hb4.mono HB3.out.size))
      have HZ4 := Lib.hid (strsBel HZ3.out hb4)
      have HO34 := Lib.hid (OwnOf.bel HO3.out hb4)
      have HO4 := Lib.hid ho4
      clear ho4 hb4 HO3
      go_wp2_with fail
      refine (refPage a cap zs ⟨#[]⟩ true 1000 W4 HZ4.out HLZ.out).mono ?_
      rintro e W5 ⟨⟨v5, rfl, ho5⟩, hb5⟩
      obtain ⟨A, hA⟩ : ∃ A, A = selL zs ⟨#[]⟩ true := ⟨_, rfl⟩
      have hAl : A.length ≤ 1000 := by rw [hA]; have := selL_len zs ⟨#[]⟩ true; have := HLZ.out; omega
      have hAr : Rise A := by rw [hA]; exact selL_rise _ _ _
      rw [← hA] at ho5 ⊢
      have hT : A.take (1000 : Int).toNat = A := List.take_of_length_le (by simpa using hAl)
      rw [hT] at ho5
      have HB5 := Lib.hid (HB4.out.trans (hb5.mono HB4.out.size))
      have HO35 := Lib.hid (OwnOf.bel HO34.out hb5)
      have HO45 := Lib.hid (OwnOf.bel HO4.out hb5)
      obtain ⟨a5, c5, rfl, hs5, _⟩ := ho5.strs
      have HS5 := Lib.hid hs5
      have HAR := Lib.hid hAr
      have HAL := Lib.hid hAl
      have bA : (A.length : Int) ≤ 1000 := by omega
      obtain ⟨mb2, hmb2⟩ : ∃ mb, mb = decide ((1000 : Int).toNat < A.length) := ⟨_, rfl⟩
      rw [← hmb2]
      clear ho5 hb5 hA hAl hAr hT hs5 hmb2 HO34 HO4
      obtain ⟨k0, hk0⟩ : ∃ k0, k0 = atL A after := ⟨_, rfl⟩
      obtain ⟨p, hp⟩ : ∃ p, p = isL A after := ⟨_, rfl⟩
      have HK0 := Lib.hid hk0
      have HPP := Lib.hid hp
      have HKL := Lib.hid (show k0 ≤ A.length by rw [hk0]; exact atL_le _ _)
      clear hk0 hp
      go_wp2_with fail
      go_loop [16, 17, 18] (fun n mt i => ∃ (j n' : Nat) (m' : Bool), j ≤ A.length ∧ i = .int .i64 j ∧ n = .int .i64 n' ∧ mt = .bool m' ∧ Hid (n' = min j k0) ∧ Hid (m' = (decide (k0 < j) && p))) (fun _ _ i => A.length - (intOf i).toNat)
      case atStart => exact ⟨0, 0, false, Nat.zero_le _, rfl, rfl, rfl, Lib.hid (by simp), Lib.hid (by simp)⟩
      case round =>
        obtain ⟨j, n', m', hj, rfl, rfl, rfl, HN, HM⟩ := hrel
        have b0 : (0 : Int) ≤ (j : Int) := by omega
        have bn0 : (0 : Int) ≤ (n' : Int) := by omega
        have bn1 : (n' : Int) + 1 ≤ 2000 := by have := HN.out; have := HKL.out; omega
        by_cases hlt : j < A.length
        · have bj : (j : Int) < (A.length : Int) := by omega
          obtain ⟨b, off, hax, hbx, _⟩ := HS5.out j hlt
          have hc0 := strs_at HS5.out hlt hax
          rw [enc_bl] at hc0
          obtain ⟨q, hq⟩ : ∃ q, q = A[j] := ⟨_, rfl⟩
          have HQ := Lib.hid hq
          rw [← hq] at hc0
          subst hax
          clear hq hbx
          by_cases hc : j < k0
          · have hqa : nlt q after := by rw [HQ.out]; exact atL_lt after A j hlt (by rw [← HK0.out]; exact hc)
            have dl : Op.bytesLess q.toList after.toList = true := (less_nm _ _).trans (ltB_iff.2 hqa)
            have de : (q.toList == after.toList) = false := beq_ba (nlt_ne hqa)
            have hm0 : m' = false := by rw [HM.out, decide_eq_false (by omega)]; rfl
            have HNS := Lib.hid (show n' + 1 = min (j + 1) k0 by have := HN.out; omega)
            have HMS := Lib.hid (show false = (decide (k0 < j + 1) && p) by rw [decide_eq_false (by omega)]; rfl)
            subst hm0
            clear hc hqa
            go_wp2_with fail
            go_round
            case rel => exact ⟨j + 1, n' + 1, false, by omega, by go_num, by go_num, rfl, HNS, HMS⟩
            case measure => simp [intOf]; omega
          · have hqa : ¬ nlt q after := by rw [HQ.out]; exact atL_ge HAR.out after j hlt (by rw [← HK0.out]; omega)
            have dl : Op.bytesLess q.toList after.toList = false := (less_nm _ _).trans (ltB_no.2 hqa)
            have HNS := Lib.hid (show n' = min (j + 1) k0 by have := HN.out; omega)
            cases m' with
            | true =>
              have HMS := Lib.hid (show true = (decide (k0 < j + 1) && p) by
                have h1 := HM.out
                cases p with
                | false => rw [Bool.and_false] at h1; cases h1
                | true => rw [decide_eq_true (by omega)]; rfl)
              clear hc hqa
              go_wp2_with fail
              go_round
              case rel => exact ⟨j + 1, n', true, by omega, by go_num, rfl, rfl, HNS, HMS⟩
              case measure => simp [intOf]; omega
            | false =>
              by_cases he : q = after
              · have de : (q.toList == after.toList) = true := by rw [he]; simp
                have HMS := Lib.hid (show true = (decide (k0 < j + 1) && p) by
                  have h1 : p = true := by rw [HPP.out, isL_mem HAR.out, ← he, HQ.out]; exact List.getElem_mem _
                  rw [h1, decide_eq_true (by omega)]; rfl)
                clear hc hqa he
                go_wp2_with fail
                go_round
                case rel => exact ⟨j + 1, n', true, by omega, by go_num, rfl, rfl, HNS, HMS⟩
                case measure => simp [intOf]; omega
              · have de : (q.toList == after.toList) = false := beq_ba he
                have HMS := Lib.hid (show false = (decide (k0 < j + 1) && p) by
                  have h1 := HM.out
                  cases p with
                  | false => rw [Bool.and_false]
                  | true =>
                    by_cases h2 : k0 < j
                    · rw [decide_eq_true h2] at h1; cases h1
                    · exfalso
                      obtain rfl : j = k0 := by omega
                      have h3 := isL_iff.1 HPP.out.symm
                      have h4 : A[j]? = some after := by
                        have h5 := HK0.out
                        rw [← h5] at h3
                        exact h3
                      rw [List.getElem?_eq_getElem hlt, Option.some.injEq, ← HQ.out] at h4
                      exact he h4)
                clear hc hqa he
                go_wp2_with fail
                go_round
                case rel => exact ⟨j + 1, n', false, by omega, by go_num, rfl, rfl, HNS, HMS⟩
                case measure => simp [intOf]; omega
        · obtain rfl : j = A.length := by omega
          have hnk : n' = k0 := by have := HN.out; have := HKL.out; omega
          have hmp : m' = p := by
            rw [HM.out]
            cases p with
            | false => rw [Bool.and_false]
            | true =>
              have h3 := isL_iff.1 HPP.out.symm
              obtain ⟨h4, _⟩ := List.getElem?_eq_some_iff.1 h3
              rw [← HK0.out] at h4
              rw [decide_eq_true h4]; rfl
          subst hnk hmp
          clear HN HM
          go_wp2_with fail
          refine (foldFind a5 c5 A after W5 HS5.out HAR.out (by have := HAL.out; omega)).mono ?_
          rintro e W6 ⟨rfl, hb6⟩
          rw [← HK0.out, ← HPP.out]
          have HB6 := Lib.hid (HB5.out.trans (hb6.mono HB5.out.size))
          obtain ⟨a3, c3, h3v, h3s, _⟩ := OwnS.strs (OwnOf.bel HO35.out hb6)
          obtain ⟨a4, c4, h4v, h4s, _⟩ := OwnS.strs (OwnOf.bel HO45.out hb6)
          have H3 := Lib.hid h3s
          have H4 := Lib.hid h4s
          clear hb6 h3s h4s HO35 HO45
          subst h3v h4v
          go_wp2_with fail
          refine (textsSame a3 a4 c3 c4 P W6 H3.out H4.out (by have := HPL.out; omega)).mono ?_
          rintro e W7 ⟨rfl, hb7⟩
          have HB7 := Lib.hid (HB6.out.trans (hb7.mono HB6.out.size))
          have e1 : (mb == mb) = true := by simp
          have e2 : (n' == n') = true := by simp
          have e3 : (m' == m') = true := by simp
          clear hb7
          go_wp2_with fail
          go_ret
          exact ⟨rfl, HB7.out⟩
theorem FoldPages_walk (a0 : Option Addr) (len0 cap0 : Nat) (z0 : In_FoldPages_0.T) (a1 : ByteArray) (a2 : Bool) (a3 : Int) (w : World) (w0 : In_FoldPages_0 w a0 len0 cap0 z0) (_w1 : a1.size ≤ maxLen) (_w3 : (Lit.int .i64 a3).wf = true) :
    LawOk Try.prog 7 #[.slice a0 len0 cap0, .string a1, .bool a2, .int .i64 a3] w := by
  obtain ⟨rfl, hz, hl⟩ := w0
  exact foldPagesMain _ _ _ _ _ _ w hz hl
end Go.Proofs.Ytnpalplnpfgibaa
