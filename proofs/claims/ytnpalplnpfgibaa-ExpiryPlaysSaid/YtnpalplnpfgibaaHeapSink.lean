/- Contract of expiry's sink. -/
import Derived.Test.YtnpalplnpfgibaaHeap
namespace Go.Proofs.Ytnpalplnpfgibaa
open Go.RowKit
def HSink (bh : Nat) (v : Value) (l : List It) (w : World) (e : Ending) (w' : World) : Prop := e = .returned (.tuple #[]) ∧ ∃ l', l'.length = l.length ∧ IsHeap w' bh v l' ∧ HGrew bh w w' v v ∧ HeapL l' ∧ l'.Perm l
theorem down_min {l : List It} {n k : Nat} (hk : k < l.length) (h : ∀ c (h : c < l.length), 0 < c → (c - 1) / 2 = n → ¬ (l[c]).lt l[k]) (hn : n < l.length) (hlt : ¬ (l[k]).lt l[n]) : ∀ c (h : c < l.length), 0 < c → (hc : (c - 1) / 2 = n) → ¬ (l[c]).lt l[n] := fun c hc h0 he => It.le_trans hlt (h c hc h0 he)
set_option maxRecDepth 100000 in
set_option maxHeartbeats 8000000 in
theorem heapSink (bh : Nat) (l : List It) (g cap : Nat) (w : World) (h : IsHeap w bh (.slice (some ⟨g, 0, none⟩) l.length cap) l) (hd : DownInv l 0) (hsz : l.length ≤ 1000000001) :
    Calls Try.prog 69 #[.pointer (some ⟨bh, 0, none⟩)] w (HSink bh (.slice (some ⟨g, 0, none⟩) l.length cap) l w) := by
  have H := Lib.hid h
  have HD := Lib.hid hd
  have HG0 := Lib.hid (HGrew.refl bh w (.slice (some ⟨g, 0, none⟩) l.length cap))
  clear h hd
  go_enter Try.func69, Try.ntmps69
  go_wp2
  go_loopw [2, 3] (fun i _ wr => ∃ (n : Nat) (l' : List It), i = .int .i64 n ∧ (n = 0 ∨ n < l'.length) ∧ Hid (l'.length = l.length) ∧ Hid (IsHeap wr bh (.slice (some ⟨g, 0, none⟩) l'.length cap) l') ∧ Hid (DownInv l' n) ∧ Hid (l'.Perm l) ∧ Hid (HGrew bh w wr (.slice (some ⟨g, 0, none⟩) l.length cap) (.slice (some ⟨g, 0, none⟩) l.length cap))) (fun i _ _ => l.length - (intOf i).toNat)
  case atStart => exact ⟨0, l, rfl, .inl rfl, rfl, H, HD, List.Perm.refl _, HG0⟩
  case round =>
    obtain ⟨n, l', rfl, hn, HL, HI, HU, HP, HG⟩ := hrel
    have hck := HI.out.cell
    have bn : (n : Int) ≤ 1000000001 := by have := HL.out; omega
    have b0 : (0 : Int) ≤ (n : Int) := by omega
    have bl : (l'.length : Int) ≤ 1000000001 := by have := HL.out; omega
    obtain ⟨k1, hk1⟩ : ∃ k1, k1 = 2 * n + 1 := ⟨_, rfl⟩
    obtain ⟨k2, hk2⟩ : ∃ k2, k2 = k1 + 1 := ⟨_, rfl⟩
    have HE1 := Lib.hid (show (2 * (n : Int) + 1) = (k1 : Int) by omega)
    have HE2 := Lib.hid (show ((k1 : Int) + 1) = (k2 : Int) by omega)
    have HE0 := Lib.hid (And.intro hk1 hk2)
    have HNN := Lib.hid hn
    have HQ := Lib.hid (show ∀ wz, HGrew bh w wz (.slice (some ⟨g, 0, none⟩) l.length cap) (.slice (some ⟨g, 0, none⟩) l.length cap) → IsHeap wz bh (.slice (some ⟨g, 0, none⟩) l'.length cap) l' → HeapL l' → HSink bh (.slice (some ⟨g, 0, none⟩) l.length cap) l w (.returned (.tuple #[])) wz from fun wz h1 h2 h3 => ⟨rfl, l', HL.out, HL.out ▸ h2, h1, h3, HP.out⟩)
    by_cases hc2 : k2 < l'.length
    · have hn2 : n < l'.length := by omega
      have hk1l : k1 < l'.length := by omega
      have d1 : decide (2 * (n : Int) + 1 + 1 < (l'.length : Int)) = true := by simp; omega
      have HM := Lib.hid (show ∀ c (h : c < l'.length), 0 < c → (c - 1) / 2 = n → c = k1 ∨ c = k2 from fun c _ h0 hc => by omega)
      have HS1 := Lib.hid (show 0 < k1 ∧ (k1 - 1) / 2 = n ∧ 0 < k2 ∧ (k2 - 1) / 2 = n by omega)
      clear hk1 hk2 hn hsz
      by_cases hl2 : (l'[k2]).lt l'[k1]
      · have d2 := decide_eq_true hl2
        have HMIN := Lib.hid (show ∀ c (h : c < l'.length), 0 < c → (c - 1) / 2 = n → ¬ (l'[c]).lt l'[k2] from fun c h h0 hc => by rcases HM.out c h h0 hc with rfl | rfl; exact It.asymm hl2; exact It.irrefl _)
        clear hl2
        go_wp2_with fail
        rw [HE1.out, HE2.out]
        refine (heapLess bh l' g cap k2 k1 _ HI.out hc2 hk1l).mono ?_
        rintro e2 W6 ⟨rfl, hb6⟩
        have HI6 := Lib.hid (HI.out.bel hb6)
        have HG6 := Lib.hid (HG.out.trans (HGrew.of_below _ hb6))
        have hck6 := HI6.out.cell
        clear HI HG hb6 hck
        have d3 : decide ((l'.length : Int) ≤ (k1 : Int) + 1) = false := by have h1 := HE0.out; simp; omega
        by_cases hl3 : (l'[k2]).lt l'[n]
        · have d4 := decide_eq_true hl3
          have HL3 := Lib.hid hl3
          clear hl3
          go_wp2_with fail
          rw [HE2.out]
          refine (heapLess bh l' g cap k2 n _ HI6.out hc2 hn2).mono ?_
          rintro e2 W7 ⟨rfl, hb7⟩
          have HI7 := Lib.hid (HI6.out.bel hb7)
          have HG7 := Lib.hid (HG6.out.trans (HGrew.of_below _ hb7))
          clear HI6 HG6 hb7
          go_wp2_with fail
          refine (heapSwap bh l' g cap n k2 _ HI7.out hn2 hc2).mono ?_
          rintro e3 W8 ⟨rfl, hi8, hg8⟩
          have HI8 := Lib.hid hi8
          have HG8 := Lib.hid (HG7.out.trans (HL.out ▸ hg8))
          clear hi8 hg8 HI7 HG7
          go_wp2_with fail
          go_roundw
          case rel => exact ⟨k2, sw l' n k2 hn2 hc2, rfl, .inr (by rw [sw_len]; exact hc2), by rw [sw_len]; exact HL.out, by rw [sw_len]; exact HI8.out, down_step HU.out hc2 HS1.out.2.2.1 HS1.out.2.2.2 HL3.out HMIN.out, (sw_perm hn2 hc2).trans HP.out, HG8⟩
          case measure => have h1 := HE0.out; have h2 := HL.out; simp [intOf]; omega
        · have d4 := decide_eq_false hl3
          have HL3 := Lib.hid hl3
          clear hl3
          go_wp2_with fail
          rw [HE2.out]
          refine (heapLess bh l' g cap k2 n _ HI6.out hc2 hn2).mono ?_
          rintro e2 W7 ⟨rfl, hb7⟩
          have HI7 := Lib.hid (HI6.out.bel hb7)
          have HG7 := Lib.hid (HG6.out.trans (HGrew.of_below _ hb7))
          clear HI6 HG6 hb7
          go_wp2_with fail
          go_returns
          exact HQ.out _ HG7.out HI7.out (down_end HU.out (down_min hc2 HMIN.out hn2 HL3.out))
      · have d2 := decide_eq_false hl2
        have HMIN := Lib.hid (show ∀ c (h : c < l'.length), 0 < c → (c - 1) / 2 = n → ¬ (l'[c]).lt l'[k1] from fun c h h0 hc => by rcases HM.out c h h0 hc with rfl | rfl; exact It.irrefl _; exact hl2)
        clear hl2
        go_wp2_with fail
        rw [HE1.out, HE2.out]
        refine (heapLess bh l' g cap k2 k1 _ HI.out hc2 hk1l).mono ?_
        rintro e2 W6 ⟨rfl, hb6⟩
        have HI6 := Lib.hid (HI.out.bel hb6)
        have HG6 := Lib.hid (HG.out.trans (HGrew.of_below _ hb6))
        have hck6 := HI6.out.cell
        clear HI HG hb6 hck
        have d3 : decide ((l'.length : Int) ≤ (k1 : Int)) = false := by have h1 := HE0.out; simp; omega
        by_cases hl3 : (l'[k1]).lt l'[n]
        · have d4 := decide_eq_true hl3
          have HL3 := Lib.hid hl3
          clear hl3
          go_wp2_with fail
          refine (heapLess bh l' g cap k1 n _ HI6.out hk1l hn2).mono ?_
          rintro e2 W7 ⟨rfl, hb7⟩
          have HI7 := Lib.hid (HI6.out.bel hb7)
          have HG7 := Lib.hid (HG6.out.trans (HGrew.of_below _ hb7))
          clear HI6 HG6 hb7
          go_wp2_with fail
          refine (heapSwap bh l' g cap n k1 _ HI7.out hn2 hk1l).mono ?_
          rintro e3 W8 ⟨rfl, hi8, hg8⟩
          have HI8 := Lib.hid hi8
          have HG8 := Lib.hid (HG7.out.trans (HL.out ▸ hg8))
          clear hi8 hg8 HI7 HG7
          go_wp2_with fail
          go_roundw
          case rel => exact ⟨k1, sw l' n k1 hn2 hk1l, rfl, .inr (by rw [sw_len]; exact hk1l), by rw [sw_len]; exact HL.out, by rw [sw_len]; exact HI8.out, down_step HU.out hk1l HS1.out.1 HS1.out.2.1 HL3.out HMIN.out, (sw_perm hn2 hk1l).trans HP.out, HG8⟩
          case measure => have h1 := HE0.out; have h2 := HL.out; simp [intOf]; omega
        · have d4 := decide_eq_false hl3
          have HL3 := Lib.hid hl3
          clear hl3
          go_wp2_with fail
          refine (heapLess bh l' g cap k1 n _ HI6.out hk1l hn2).mono ?_
          rintro e2 W7 ⟨rfl, hb7⟩
          have HI7 := Lib.hid (HI6.out.bel hb7)
          have HG7 := Lib.hid (HG6.out.trans (HGrew.of_below _ hb7))
          clear HI6 HG6 hb7
          go_wp2_with fail
          go_returns
          exact HQ.out _ HG7.out HI7.out (down_end HU.out (down_min hk1l HMIN.out hn2 HL3.out))
    · have d1 : decide (2 * (n : Int) + 1 + 1 < (l'.length : Int)) = false := by simp; omega
      by_cases hc1 : k1 < l'.length
      · have hk1l := hc1
        have hn2 : n < l'.length := by omega
        have d3 : decide ((l'.length : Int) ≤ 2 * (n : Int) + 1) = false := by simp; omega
        have HMIN := Lib.hid (show ∀ c (h : c < l'.length), 0 < c → (c - 1) / 2 = n → ¬ (l'[c]).lt (l'[k1]'hk1l) from fun c h h0 hc => by
          obtain rfl : c = k1 := by omega
          exact It.irrefl _)
        have HS1 := Lib.hid (show 0 < k1 ∧ (k1 - 1) / 2 = n by omega)
        clear hk1 hk2 hn hc2 hc1 hsz
        have HI6 := HI
        have HG6 := HG
        clear HI HG
        by_cases hl3 : (l'[k1]).lt l'[n]
        · have d4 := decide_eq_true hl3
          have HL3 := Lib.hid hl3
          clear hl3
          go_wp2_with fail
          rw [HE1.out]
          refine (heapLess bh l' g cap k1 n _ HI6.out hk1l hn2).mono ?_
          rintro e2 W7 ⟨rfl, hb7⟩
          have HI7 := Lib.hid (HI6.out.bel hb7)
          have HG7 := Lib.hid (HG6.out.trans (HGrew.of_below _ hb7))
          clear HI6 HG6 hb7
          go_wp2_with fail
          refine (heapSwap bh l' g cap n k1 _ HI7.out hn2 hk1l).mono ?_
          rintro e3 W8 ⟨rfl, hi8, hg8⟩
          have HI8 := Lib.hid hi8
          have HG8 := Lib.hid (HG7.out.trans (HL.out ▸ hg8))
          clear hi8 hg8 HI7 HG7
          go_wp2_with fail
          go_roundw
          case rel => exact ⟨k1, sw l' n k1 hn2 hk1l, rfl, .inr (by rw [sw_len]; exact hk1l), by rw [sw_len]; exact HL.out, by rw [sw_len]; exact HI8.out, down_step HU.out hk1l HS1.out.1 HS1.out.2 HL3.out HMIN.out, (sw_perm hn2 hk1l).trans HP.out, HG8⟩
          case measure => have h1 := HE0.out; have h2 := HL.out; simp [intOf]; omega
        · have d4 := decide_eq_false hl3
          have HL3 := Lib.hid hl3
          clear hl3
          go_wp2_with fail
          rw [HE1.out]
          refine (heapLess bh l' g cap k1 n _ HI6.out hk1l hn2).mono ?_
          rintro e2 W7 ⟨rfl, hb7⟩
          have HI7 := Lib.hid (HI6.out.bel hb7)
          have HG7 := Lib.hid (HG6.out.trans (HGrew.of_below _ hb7))
          clear HI6 HG6 hb7
          go_wp2_with fail
          go_returns
          exact HQ.out _ HG7.out HI7.out (down_end HU.out (down_min hk1l HMIN.out hn2 HL3.out))
      · have d3 : decide ((l'.length : Int) ≤ 2 * (n : Int) + 1) = true := by simp; omega
        have HND := Lib.hid (show ∀ c (h : c < l'.length), 0 < c → (c - 1) / 2 = n → False from fun c h h0 hc => by omega)
        clear hk1 hk2 hn hc2 hc1 hsz
        go_wp2
        go_returns
        exact HQ.out _ HG.out HI.out (down_end HU.out fun c h h0 hc => (HND.out c h h0 hc).elim)
end Go.Proofs.Ytnpalplnpfgibaa
