/- The walk of QuotaGrows. -/
import Derived.Test.YtkfpolhglndbkaaQuotaUp
namespace Go.Proofs.Ytkfpolhglndbkaa
open Go.RowKit

def QDone (w : World) (e : Ending) (w' : World) : Prop := e = .returned (.bool true) ∧ Below w.heap.size w w'
theorem reserveN (a : Option Addr) (n cap : Nat) (l : List Int) (admin : Int) (w : World) (hn : l.length = n) (hl : n ≤ 1000000000000) (hwf : ∀ n ∈ l, (Lit.int .i64 n).wf = true) (h : IsInts w a l) :
    Calls Try.prog 33 #[.slice a n cap, .int .i64 admin] w (ReserveOk l admin w) := by
  subst hn
  exact reserveC a cap l admin w hl hwf h
theorem OwnI.ints {B : Nat} {w : World} {a : Option Addr} {n cap : Nat} {l : List Int} (h : OwnI B w (.slice a n cap) l) : IsInts w a l := by
  obtain ⟨a', c', hv, hi, _⟩ := h.out
  simp only [Value.slice.injEq] at hv
  rw [hv.1]; exact hi
theorem wf_set {l : List Int} {k : Nat} {x : Int} (h : ∀ n ∈ l, (Lit.int .i64 n).wf = true) (h0 : 0 ≤ x) (h1 : x ≤ 2305843009213693952) : ∀ n ∈ l.set k x, (Lit.int .i64 n).wf = true := by
  intro n hn
  rcases List.mem_or_eq_of_mem_set hn with hn | rfl
  · exact h n hn
  · simp [Lit.wf, IntKind.min, IntKind.max, IntKind.bits, IntKind.signed]; omega
theorem tmod_nat (a : Int) (n : Nat) (h : 0 ≤ a) (hn : n ≠ 0) : ∃ k : Nat, a.tmod (n : Int) = (k : Int) ∧ k < n := by
  obtain ⟨m, rfl⟩ := Int.eq_ofNat_of_zero_le h
  exact ⟨m % n, by exact_mod_cast (Int.ofNat_tmod m n).symm, Nat.mod_lt _ (by omega)⟩
theorem srcI_one' (w : World) (x : Int) (r : Value) (hr : r = .slice (some ⟨w.heap.size, 0, none⟩) 1 1) : SrcI r (w.alloc (.cells #[.int .i64 x] 2)) [x] := by subst hr; exact srcI_one w x
theorem wf_mem_append {l : List Int} {x : Int} (h : ∀ n ∈ l, (Lit.int .i64 n).wf = true) (hx : (Lit.int .i64 x).wf = true) : ∀ n ∈ l ++ [x], (Lit.int .i64 n).wf = true := by
  intro n hn
  rcases List.mem_append.1 hn with hn | hn
  · exact h n hn
  · simp at hn; subst hn; exact hx
theorem rev_drop_succ (l : List Int) (j : Nat) (h : j < l.length) : (l.drop (j + 1)).reverse ++ [l[j]] = (l.drop j).reverse := by
  rw [List.drop_eq_getElem_cons h, List.reverse_cons]

set_option maxHeartbeats 2000000 in
theorem quotaHead (a0 : Option Addr) (n cap0 : Nat) (a1 a2 a3 : Int) (w : World) (h0 : 200 < n ∨ a2 < 0 ∨ a3 < 0) :
    Calls Try.prog 9 #[.slice a0 n cap0, .int .i64 a1, .int .i64 a2, .int .i64 a3] w (QDone w) := by
  by_cases d0 : 200 < n
  · have e0 : decide ((200 : Int) < (n : Int)) = true := by simp; omega
    go_enter Try.func9, Try.ntmps9
    go_wp2_with fail
    refine (quotaUp _).mono ?_
    rintro e W1 ⟨rfl, hb⟩
    go_wp2_with fail
    go_ret
    exact ⟨rfl, hb⟩
  have e0 : decide ((200 : Int) < (n : Int)) = false := by simp; omega
  by_cases d1 : a2 < 0
  · have e1 : decide (a2 < 0) = true := by simp; omega
    go_enter Try.func9, Try.ntmps9
    go_wp2_with fail
    refine (quotaUp _).mono ?_
    rintro e W1 ⟨rfl, hb⟩
    go_wp2_with fail
    go_ret
    exact ⟨rfl, hb⟩
  have e1 : decide (a2 < 0) = false := by simp; omega
  have e2 : decide (a3 < 0) = true := by simp; omega
  go_enter Try.func9, Try.ntmps9
  go_wp2_with fail
  refine (quotaUp _).mono ?_
  rintro e W1 ⟨rfl, hb⟩
  go_wp2_with fail
  go_ret
  exact ⟨rfl, hb⟩

set_option maxRecDepth 100000 in
set_option maxHeartbeats 2000000 in
theorem QuotaGrows_walk (a0 : Option Addr) (len0 cap0 : Nat) (z0 : List Int) (a1 : Int) (a2 : Int) (a3 : Int) (w : World) (w0 : IsRow .i64 w a0 len0 cap0 z0) (_w1 : (Lit.int .i64 a1).wf = true) (w2 : (Lit.int .i64 a2).wf = true) (w3 : (Lit.int .i64 a3).wf = true) :
    LawOk Try.prog 9 #[.slice a0 len0 cap0, .int .i64 a1, .int .i64 a2, .int .i64 a3] w := by
  obtain ⟨l, hl, hc, hm, hI, hwf⟩ := w0.ints
  subst hl
  obtain ⟨r2, r2'⟩ := i64_of_wf w2
  obtain ⟨r3, r3'⟩ := i64_of_wf w3
  have HM := Lib.hid hm
  have HI := Lib.hid hI
  have HWF := Lib.hid hwf
  have HW2 := Lib.hid w2
  have R2 := Lib.hid r2'
  have R3 := Lib.hid r3'
  clear hm hI hwf w0 w2 w3 r2 r2' r3 r3'
  show Calls _ _ _ w (QDone w)
  by_cases h0 : 200 < l.length ∨ a2 < 0 ∨ a3 < 0
  · exact quotaHead a0 l.length cap0 a1 a2 a3 w h0
  have e0 : decide ((200 : Int) < (l.length : Int)) = false := by simp; omega
  have e1 : decide (a2 < 0) = false := by simp; omega
  have e2 : decide (a3 < 0) = false := by simp; omega
  have g1 := reserveV_more l a2 a1
  have G1 := Lib.hid g1
  clear g1
  have HB := Lib.hid (reserveV_back l a1)
  go_enter Try.func9, Try.ntmps9
  go_wp2_with fail
  refine (quotaUp _).mono ?_
  rintro e W1 ⟨rfl, hb1⟩
  have I1 := Lib.hid (HI.out.bel hb1)
  go_wp2_with fail
  refine (reserveC a0 cap0 l a1 _ (by omega) HWF.out I1.out).mono ?_
  rintro e W2 ⟨rfl, hb2⟩
  have I2 := Lib.hid (I1.out.bel hb2)
  go_wp2_with (at_builtin; refine wpList_append_ints rfl (.tmp 31) (.tmp 32) rfl W2.heap.size _ [] rfl (OwnI.empty _ W2 (Nat.le_refl _)) _ l rfl (SrcI.ofInts cap0 (I2.out.alloc _)) ?c1 ?c2 ?hh1)
  case c1 => simp
  case c2 => simp; omega
  intro v3 W3 ho3 hg3
  have hb3 : Below W2.heap.size W2 W3 := ((Below.refl _ W2).alloc (Nat.le_refl _) _).trans (below_of_grownI (OwnI.empty _ W2 (Nat.le_refl _)) (by simp) hg3)
  have I3 := Lib.hid (I2.out.bel hb3)
  have hs3 := hb3.size
  have HO3 := Lib.hid ho3
  have HB3 := Lib.hid hb3
  clear ho3 hg3 hb3
  go_wp2_with (at_builtin; refine wpList_append_ints rfl (.tmp 33) (.tmp 35) rfl W2.heap.size v3 l rfl (HO3.out.alloc _) _ [a2] rfl (srcI_one W3 a2) ?c3 ?c4 ?hh2)
  case c3 => simp; omega
  case c4 => simp; omega
  intro v4 W4 ho4 hg4
  have hb4 : Below W2.heap.size W2 W4 := HB3.out.trans (((Below.refl _ W3).alloc hs3 _).trans (below_of_grownI (HO3.out.alloc _) (by simp; omega) hg4))
  have I4 := Lib.hid (I2.out.bel hb4)
  have hs4 := hb4.size
  obtain ⟨v4a, v4c, hv, hi4, _, _⟩ := ho4.out
  rw [hv]
  clear hv ho4 hg4
  have HI4 := Lib.hid hi4
  have HB4 := Lib.hid hb4
  clear hi4 hb4
  go_wp2_with fail
  refine (reserveN v4a _ v4c (l ++ [a2]) a1 _ (by simp) (by omega) (wf_mem_append HWF.out HW2.out) HI4.out).mono ?_
  rintro e W5 ⟨rfl, hb5⟩

  have I5 := Lib.hid (I4.out.bel hb5)
  have HQ5 := Lib.hid (below_next hb1 (below_next hb2 (HB4.out.trans (hb5.mono hs4))))
  have g1 := G1.out
  clear G1
  generalize reserveV (l ++ [a2]) a1 = r2 at *
  generalize hr1 : reserveV l a1 = r1 at *
  have HR1 := Lib.hid hr1
  clear hr1
  have hl200 : l.length ≤ 200 := by omega
  have N2 := Lib.hid (show 0 ≤ a2 by omega)
  have N3 := Lib.hid (show 0 ≤ a3 by omega)
  clear h0
  go_wp2

  clear hc HM e0 e1 e2 hb1 hb2 hs3 HO3 HB3 hs4 HI4 HB4 hb5 g1
  go_loopw [11, 12] (fun v i wr => ∃ j : Nat, j ≤ l.length ∧ i = .int .i64 ((j : Int) - 1) ∧ Hid (OwnI W5.heap.size wr v (l.drop j).reverse) ∧ Hid (Below W5.heap.size W5 wr)) (fun _ i _ => (intOf i + 1).toNat)
  case atStart => exact ⟨l.length, Nat.le_refl _, rfl, by show OwnI _ _ _ _; simp; exact OwnI.nil _ _, Below.refl _ _⟩
  case round =>
    obtain ⟨j, hj, rfl, HO, HBL⟩ := hrel
    have hsz := HBL.out.size
    have Iw := Lib.hid (I5.out.bel HBL.out)
    cases j with
    | succ k =>
      have hk : k < l.length := by omega
      obtain ⟨b, off, rfl, _, hcell⟩ := Iw.out k hk
      have HR := Lib.hid (rev_drop_succ l k hk)
      have hln : (l.drop (k + 1)).reverse.length ≤ 200 := by simp; omega
      generalize l[k] = n at *
      generalize (l.drop (k + 1)).reverse = bl at *
      rw [show (((k + 1 : Nat) : Int) - 1) = (k : Int) by omega]
      go_wp2_with (at_builtin; refine wpList_append_ints rfl (.tmp 48) (.tmp 53) rfl W5.heap.size _ bl rfl (HO.out.alloc _) _ [n] rfl (srcI_one _ n) ?d1 ?d2 ?hh7)
      case d1 => simp; omega
      case d2 => simp; omega
      intro v6 W6 ho6 hg6
      have HB6 := Lib.hid (HBL.out.trans (((Below.refl _ _).alloc hsz _).trans (below_of_grownI (HO.out.alloc _) (by simp; omega) hg6)))
      rw [HR.out] at ho6
      have HO6 := Lib.hid ho6
      clear ho6 hg6
      go_wp2
      go_roundw
      case rel => exact ⟨k, by omega, by go_num, HO6, HB6⟩
      case measure => simp [intOf]
    | zero =>
      obtain ⟨va, vc, hv, hiv, _, _⟩ := HO.out.out
      rw [hv]
      clear hv HO
      have HIV := Lib.hid hiv
      clear hiv
      have hlr : (l.drop 0).reverse.length = l.length := by simp
      rw [hlr]
      have HWR := Lib.hid (show ∀ n ∈ (l.drop 0).reverse, (Lit.int .i64 n).wf = true from fun n hn => HWF.out n (by simpa using hn))
      have HB' := Lib.hid (show reserveV (l.drop 0).reverse a1 = r1 by simpa using HB.out)
      have HLR := Lib.hid hlr
      clear hlr HB
      generalize (l.drop 0).reverse = bl at *
      rw [show ((0 : Nat) : Int) - 1 = -1 by rfl]
      have HQ7 := Lib.hid (below_next HQ5.out HBL.out)
      clear HQ5 HBL hsz
      go_wp2_with fail
      refine (reserveN va _ vc bl a1 _ HLR.out (by omega) HWR.out HIV.out).mono ?_
      rintro e W7 ⟨rfl, hb7⟩
      rw [HB'.out]
      have I7 := Lib.hid (Iw.out.bel hb7)
      have HQ8 := Lib.hid (below_next HQ7.out hb7)
      clear HB' hb7 HIV HWR HLR Iw HQ7 I5
      by_cases hn0 : l.length = 0
      · go_wp2
        go_ret
        exact ⟨rfl, HQ8.out⟩
      have d0 : ((l.length : Int) == 0) = false := by simp; intro h; exact hn0 (by simp [h])
      by_cases hm : 1152921504606846976 < a2
      · have d1 : decide (1152921504606846976 < a2) = true := by simp; omega
        clear hm
        go_wp2
        go_ret
        exact ⟨rfl, HQ8.out⟩
      have d1 : decide (1152921504606846976 < a2) = false := by simp; omega
      have HM := Lib.hid hm
      clear hm
      obtain ⟨k, hmod, hk⟩ := tmod_nat a3 l.length N3.out hn0
      obtain ⟨b, off, hav, _, hcell⟩ := I7.out k hk
      have HS := Lib.hid (fun h0 => reserveV_set l k hk a2 a1 N2.out h0)
      have HCP := Lib.hid (SrcI.ofInts cap0 (I7.out.alloc (.cells #[] 2)))
      have HN := Lib.hid (rfl : l[k] = l[k])
      rw [hav] at HCP ⊢
      generalize hnk : l[k] = n at hcell HS
      have HNK := Lib.hid hnk
      clear hnk hn0 HN hav
      by_cases hbig : 1152921504606846976 < n
      · have d2 : decide (1152921504606846976 < n) = true := by simp; omega
        clear hbig
        go_wp2
        go_ret
        exact ⟨rfl, HQ8.out⟩
      have d2 : decide (1152921504606846976 < n) = false := by simp; omega
      by_cases hneg : n < 0
      · have d3 : decide (n < 0) = true := by simp; omega
        clear hbig hneg
        go_wp2
        go_ret
        exact ⟨rfl, HQ8.out⟩
      have d3 : decide (n < 0) = false := by simp; omega
      have hadd : IntKind.i64.wrap (n + a2) = n + a2 := by have := HM.out; have := N2.out; rw [IntKind.wrap_i64]; omega
      have HG := Lib.hid (HS.out (by omega))
      have HW9 := Lib.hid (wf_set (k := k) HWF.out (show 0 ≤ n + a2 by have := N2.out; omega) (by have := HM.out; omega))
      have hs200 : (l.set k (n + a2)).length ≤ 200 := by simp; exact hl200
      clear hbig hneg HS
      go_wp2_with (at_builtin; refine wpList_append_ints rfl (.tmp 85) (.tmp 86) rfl W7.heap.size _ [] rfl (OwnI.empty _ W7 (Nat.le_refl _)) _ l rfl HCP.out ?e1 ?e2 ?hh9)
      case e1 => simp
      case e2 => simp; omega
      intro v8 W8 ho8 hg8
      have HB8 := Lib.hid (show Below W7.heap.size W7 W8 from ((Below.refl _ W7).alloc (Nat.le_refl _) _).trans (below_of_grownI (OwnI.empty _ W7 (Nat.le_refl _)) (by simp) hg8))
      obtain ⟨g, c8, hv8, hBg, hgs, _, _, hcells, hfr, hset⟩ := ho8.get (by omega)
      have hc8 := hcells k hk
      rw [HNK.out] at hc8
      have hf8 := hfr k
      have HS9 := Lib.hid (hset k (n + a2) hk)
      rw [hv8] at HS9 ⊢
      clear hv8 hcells hfr hset ho8 hg8 hcell
      have HQ9 := Lib.hid (below_next HQ8.out (HB8.out.setCell hBg (.int .i64 (n + a2)) (p := ⟨g, k, none⟩)))
      go_wp2_with fail
      refine (reserveN _ _ c8 (l.set k (n + a2)) a1 _ (by simp) (by omega) HW9.out HS9.out.ints).mono ?_
      rintro e W9 ⟨rfl, hb9⟩
      have hge : r1 ≤ reserveV (l.set k (n + a2)) a1 := by have := HG.out; rw [HR1.out] at this; exact this
      generalize reserveV (l.set k (n + a2)) a1 = r9 at *
      go_wp2
      go_ret
      exact ⟨by simp, below_next HQ9.out hb9⟩
end Go.Proofs.Ytkfpolhglndbkaa
