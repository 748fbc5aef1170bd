/- The contract of torn.Scan and torn.Whole. -/
import Derived.Test.YtiihemmonncioaaPieceRow
import Derived.Test.YtiihemmonncioaaRecGets
import Derived.Test.YtiihemmonncioaaRefGet
import Derived.Test.YtiihemmonncioaaFrameUp
namespace Go.Proofs.Ytiihemmonncioaa
open Go.RowKit
theorem Reads.empty (w : World) (a : Option Addr) : Reads w (.slice a 0 0) [] := ⟨a, 0, rfl, IsBytes.nil _ _, Nat.le_refl _, Nat.zero_le _, fun _ => rfl, fun _ _ h => absurd h (by omega)⟩
theorem Reads.dropTo {w : World} {bl off n cap : Nat} {b : List UInt8} (h : Reads w (.slice (some ⟨bl, off, none⟩) n cap) b) (k : Nat) (hk : k ≤ n) (hc : k < cap) : Reads w (.slice (some ⟨bl, off + k, none⟩) (n - k) (cap - k)) (b.drop k) := by
  obtain ⟨a', cap', hv, hb, h1, h2, h3, h4⟩ := h
  simp only [Value.slice.injEq] at hv
  obtain ⟨rfl, hn, rfl⟩ := hv
  have hlt := (h4 _ rfl (by omega)).2
  exact ⟨_, cap - k, by rw [List.length_drop, hn], hb.drop k, by rw [List.length_drop]; omega, by omega, fun e => (by cases e), fun x hx _ => by cases hx; exact ⟨rfl, hlt⟩⟩
theorem Reads.addr {w : World} {a : Option Addr} {n cap : Nat} {b : List UInt8} (h : Reads w (.slice a n cap) b) : b.length = n ∧ n ≤ cap ∧ cap ≤ maxLen ∧ (cap = 0 ∨ ∃ bl off, a = some ⟨bl, off, none⟩) := by
  obtain ⟨a', cap', hv, hb, h1, h2, h3, h4⟩ := h
  simp only [Value.slice.injEq] at hv
  obtain ⟨rfl, hn, rfl⟩ := hv
  refine ⟨hn.symm, by omega, h2, ?_⟩
  cases a with
  | none => exact .inl (h3 rfl)
  | some x =>
    by_cases hc : cap = 0
    · exact .inl hc
    · obtain ⟨bl, off, sp⟩ := x
      have := (h4 _ rfl (by omega)).1
      simp at this
      subst this
      exact .inr ⟨bl, off, rfl⟩
def ScanOk (T : TypeId) (b : List UInt8) (w : World) (e : Ending) (w' : World) : Prop := Below w.heap.size w w' ∧ ∃ v, e = .returned (.tuple #[v, .int .i64 ((scanL b).2 : Int)]) ∧ OwnP T w.heap.size w' v (scanL b).1
set_option maxRecDepth 100000 in
set_option maxHeartbeats 4000000 in
theorem tornScan (a : Option Addr) (n cap : Nat) (b : List UInt8) (w : World) (hn : b.length = n) (hl : b.length ≤ 1000000000) (hr : Reads w (.slice a n cap) b) :
    Calls Try.prog 18 #[.slice a n cap] w (ScanOk 54 b w) := by
  subst hn
  have k2 := code_neq_nil
  have k4 := code_nil_neq_nil
  have HR := Lib.hid hr
  have HLL := Lib.hid hl
  clear hr hl
  go_enter Try.func18, Try.ntmps18
  go_wp2
  go_loopw [4, 5] (fun o i wr => ∃ (ps : List PieceL) (at_ : Nat), at_ ≤ b.length ∧ i = .int .i64 at_ ∧ Hid (OwnP 54 w.heap.size wr o ps) ∧ Hid (Below w.heap.size w wr) ∧ Hid (ps.length ≤ at_) ∧ Hid (scanL b = (ps ++ (scanAt b at_).1, (scanAt b at_).2))) (fun _ i _ => b.length - (intOf i).toNat)
  case atStart => exact ⟨[], 0, Nat.zero_le _, rfl, OwnP.nil _ _ _, Below.refl _ _, Nat.le_refl _, rfl⟩
  case round =>
    obtain ⟨ps, at_, hat, rfl, HO, HB, HPL, HS⟩ := hrel
    obtain ⟨ao, capo, rfl⟩ := HO.out.shape
    have HRW := Lib.hid (HR.out.bel HB.out)
    obtain ⟨_, hnc, hcm, hadr⟩ := HRW.out.addr
    have HST := Lib.hid (fun h => scanAt_stop (b := b) (at_ := at_) h)
    have HMO := Lib.hid (fun L h hL => scanAt_more (b := b) (at_ := at_) (L := L) hat h hL)
    have HGD := Lib.hid (fun h => getL_good (l := b.drop at_) h)
    have key : ∀ (a' : Option Addr) (c' : Nat), Reads wr (.slice a' (b.length - at_) c') (b.drop at_) → Calls Try.prog 14 #[.slice a' (b.length - at_) c'] wr (FrameGetOk (b.drop at_) wr) := fun a' c' h => frameGet a' _ c' (b.drop at_) wr (by rw [List.length_drop]) (by rw [List.length_drop]; have := HLL.out; omega) h
    have HKEY := Lib.hid key
    clear key
    have hi1 : (at_ : Int) ≤ (b.length : Int) := by omega
    have HCM := Lib.hid hcm
    clear hcm
    rcases (by omega : at_ = cap ∨ at_ < cap) with hcap | hcap
    · have hbl : b.length = at_ := by omega
      have hd0 : b.drop at_ = [] := List.drop_of_length_le (by omega)
      have hg0 : getL [] = ([], 0, 3) := by with_unfolding_all decide +kernel
      have HSS : Hid (scanL b = (ps, at_)) := by
        have h1 := HST.out (.inl (by rw [hd0, hg0]; decide))
        have h2 := HS.out
        rw [h1] at h2
        show scanL b = _
        rw [h2]
        simp
      have HK2 := Lib.hid (fun (a' : Option Addr) => frameGet a' 0 0 [] wr rfl (by simp) (Reads.empty wr a'))
      have HG0 := Lib.hid hg0
      clear hadr hg0 hd0 HST HMO HGD HKEY HS
      subst hcap
      rw [hbl] at hat hnc ⊢
      clear hat hnc hi1
      have HBL := Lib.hid hbl
      clear hbl
      go_wp2_with fail
      refine (HK2.out _).mono ?_
      rintro e W2 ⟨v2, rfl, _, hb2⟩
      rw [HG0.out, errV_code (by decide : (3 : Nat) ≠ 0)]
      have HB2 := Lib.hid (below_next HB.out hb2)
      have HO2 := Lib.hid (HO.out.bel hb2)
      clear hb2
      go_wp2_with fail
      go_ret2
      exact ⟨HB2.out, _, by rw [HSS.out]; rfl, by rw [HSS.out]; exact HO2.out⟩
    · obtain ⟨bl, off, rfl⟩ : ∃ bl off, a = some ⟨bl, off, none⟩ := by rcases hadr with h | h; omega; exact h
      have HD := Lib.hid (HRW.out.dropTo at_ hat hcap)
      clear hadr
      have hx1 : at_ ≤ b.length := hat
      have hx2 : ¬ (at_ = cap) := by omega
      have HAT := Lib.hid (And.intro hat hnc)
      go_wp2_with fail
      refine (HKEY.out _ _ HD.out).mono ?_
      rintro e W2 ⟨v2, rfl, ho2, hb2⟩
      have HB2 := Lib.hid (below_next HB.out hb2)
      have HO2 := Lib.hid (HO.out.bel hb2)
      have HV2 := Lib.hid ho2
      clear hb2 ho2 HD HKEY HO HB HRW hx1 hx2 hi1 hat hnc hcap
      generalize getL (b.drop at_) = q at *
      obtain ⟨y, m, c⟩ := q
      simp only at HST HMO HGD HV2 ⊢
      by_cases hc : c = 0
      · subst hc
        obtain ⟨g1, g2, g3, g4, _⟩ := HGD.out rfl
        have HGS := Lib.hid (And.intro g1 (And.intro g2 (And.intro g3 g4)))
        clear g1 g2 g3 g4 HGD
        rw [show errV 0 = .nilIface from rfl]
        have hrv := HV2.out.reads
        obtain ⟨av, cv, rfl, _, _⟩ := HV2.out.out
        have HRV := Lib.hid hrv
        clear hrv
        go_wp2_with fail
        refine (recGets av _ cv y _ rfl (by have := HGS.out.2.2.1; omega) HRV.out).mono ?_
        rintro e W3 ⟨hb3, hcase⟩
        have HB3 := Lib.hid (below_next HB2.out hb3)
        have HO3 := Lib.hid (HO2.out.bel hb3)
        have HSZ3 := Lib.hid HB2.out.size
        clear hb3 HB2 HO2 HRV HV2
        rcases hcase with ⟨hno, rfl⟩ | ⟨L, hL, v3, rfl, ho3⟩
        · have HSS : Hid (scanL b = (ps, at_)) := by
            have h1 := HST.out (.inr hno)
            have h2 := HS.out
            rw [h1] at h2
            show scanL b = _
            rw [h2]
            simp
          clear hno HST HMO HS
          go_wp2_with fail
          go_ret2
          exact ⟨HB3.out, _, by rw [HSS.out]; rfl, by rw [HSS.out]; exact HO3.out⟩
        · have HSS : Hid (scanL b = ((ps ++ [(at_, m, L)]) ++ (scanAt b (at_ + m)).1, (scanAt b (at_ + m)).2)) := by
            have h1 := HMO.out L (by simp) hL
            have h2 := HS.out
            rw [h1] at h2
            show scanL b = _
            rw [h2]
            simp
          have HWF := Lib.hid (fun r hr => ((recsOf_all y.length y (Nat.le_refl _) L hL).1 r hr).1)
          have HO3R := Lib.hid (OwnR.weak ho3 HSZ3.out)
          obtain ⟨a3, c3, rfl⟩ := ho3.shape
          clear ho3 hL HST HMO HS
          generalize L.length = nL at *
          have hwm : IntKind.i64.wrap ((at_ : Int) + (m : Int)) = ((at_ + m : Nat) : Int) := by have h1 := HGS.out.2.2.2; have h2 := HLL.out; have h3 := HAT.out.1; rw [List.length_drop] at h1; rw [IntKind.wrap_i64]; omega
          go_wp2_with (at_builtin; refine wpList_append_piece pieceT_torn rfl (.tmp 31) (.tmp 36) rfl w.heap.size _ ps rfl (HO3.out.bel ((Below.refl _ _).alloc (Nat.le_refl _) _)) _ at_ m (.slice a3 nL c3) L rfl (src_piece pieceT_torn W3 _ (at_, m, .slice a3 nL c3) rfl (0, 0) rfl) (HO3R.out.alloc _) HWF.out ?c1 ?c2 ?hh1)
          case c1 => have := HB3.out.size; simp; omega
          case c2 => have h1 := HPL.out; have h2 := HLL.out; have h3 := HAT.out.1; omega
          intro v4 W4 ho4 hb4
          have HO4 := Lib.hid ho4
          have HB4 := Lib.hid (HB3.out.trans (((Below.refl w.heap.size W3).alloc HB3.out.size _).trans hb4))
          have HM9 := Lib.hid (show 9 ≤ m by have := HGS.out.1; have := HGS.out.2.1; omega)
          have hle : at_ + m ≤ b.length := by have h1 := HGS.out.2.2.2; have h3 := HAT.out.1; rw [List.length_drop] at h1; omega
          clear ho4 hb4 HO3 HO3R
          go_wp2_with fail
          go_roundw
          case rel => exact ⟨ps ++ [(at_, m, L)], at_ + m, hle, by rfl, HO4, HB4, by have h1 := HPL.out; have h2 := HM9.out; show _ ≤ _; rw [List.length_append]; simp; omega, HSS⟩
          case measure => have h2 := HM9.out; simp [intOf]; omega
      · rw [errV_code hc]
        have HSS : Hid (scanL b = (ps, at_)) := by
          have h1 := HST.out (.inl hc)
          have h2 := HS.out
          rw [h1] at h2
          show scanL b = _
          rw [h2]
          simp
        clear hc HST HMO HGD HS
        go_wp2_with fail
        go_ret2
        exact ⟨HB2.out, _, by rw [HSS.out]; rfl, by rw [HSS.out]; exact HO2.out⟩
theorem tornWhole (a : Option Addr) (n cap : Nat) (b : List UInt8) (w : World) (hn : b.length = n) (hl : b.length ≤ 1000000000) (hr : Reads w (.slice a n cap) b) :
    Calls Try.prog 21 #[.slice a n cap] w (BoolOk (decide ((scanL b).2 = b.length)) w) := by
  subst hn
  have HC := Lib.hid (tornScan a _ cap b w rfl hl hr)
  clear hl hr
  go_enter Try.func21, Try.ntmps21
  go_wp2_with fail
  refine HC.out.mono ?_
  rintro e W1 ⟨hb1, v1, rfl, _⟩
  have HB1 := Lib.hid hb1
  clear hb1 HC
  generalize (scanL b).2 = q at *
  by_cases hq : q = b.length
  · have d1 : ((q : Int) == (b.length : Int)) = true := by rw [beq_iff_eq]; omega
    have HD := Lib.hid (decide_eq_true hq)
    clear hq
    go_wp2_with fail
    go_ret
    exact ⟨by rw [HD.out]; rfl, HB1.out⟩
  · have d1 : ((q : Int) == (b.length : Int)) = false := by rw [beq_eq_false_iff_ne]; omega
    have HD := Lib.hid (decide_eq_false hq)
    clear hq
    go_wp2_with fail
    go_ret
    exact ⟨by rw [HD.out]; rfl, HB1.out⟩
end Go.Proofs.Ytiihemmonncioaa
