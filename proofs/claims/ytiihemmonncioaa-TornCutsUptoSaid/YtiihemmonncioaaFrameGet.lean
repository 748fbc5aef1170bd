/- Contracts of bytes.Clone, frame.Size and frame.Get. -/
import Derived.Test.YtiihemmonncioaaFrame
import Derived.Test.YtiihemmonncioaaReader
import Derived.Lib.LazyBuf
namespace Go.Proofs.Ytiihemmonncioaa
open Go.RowKit

theorem OwnB.weak {B C : Nat} {w : World} {v : Value} {l : List UInt8} (h : OwnB C w v l) (hB : B ≤ C) : OwnB B w v l := by
  refine ⟨h.1, ?_⟩
  rcases h.2 with h2 | ⟨g, cap, cur, hv, hbg, hr⟩
  · exact .inl h2
  · exact .inr ⟨g, cap, cur, hv, Nat.le_trans hB hbg, hr⟩
def CloneOk (l : List UInt8) (w : World) (e : Ending) (w' : World) : Prop := ∃ v, e = .returned v ∧ OwnB w.heap.size w' v l ∧ Below w.heap.size w w'
set_option maxRecDepth 100000 in
set_option maxHeartbeats 1000000 in
theorem bytesClone (x : Addr) (n cap : Nat) (l : List UInt8) (w : World) (hn : l.length = n) (hl : l.length ≤ 100000000000) (hb : IsBytes w (some x) l) :
    Calls Try.prog 41 #[.slice (some x) n cap] w (CloneOk l w) := by
  subst hn
  have HB := Lib.hid hb
  have HN := Lib.hid hl
  clear hb hl
  have hnil := fun w => run_eql_slice_nil w 22 5 (some x) l.length cap Try.underlying22
  simp only [Option.isNone] at hnil
  go_enter Try.func41, Try.ntmps41
  go_wp2_with (at_builtin; refine wpList_append_bytes rfl (.tmp 5) (.tmp 6) 22 rfl w.heap.size _ [] rfl (OwnB.empty _ w (Nat.le_refl _)) _ l rfl (SrcB.ofBytes cap (HB.out.alloc _)) ?c1 ?c2 ?hh1)
  case c1 => simp
  case c2 => have := HN.out; simp; omega
  intro v4 w4 ho4 hg4
  have hb4 : Below w.heap.size w w4 := ((Below.refl _ w).alloc (Nat.le_refl _) _).trans (below_of_grown (OwnB.empty _ w (Nat.le_refl _)) (by simp) hg4)
  have HX := Lib.hid (And.intro ho4 hb4)
  clear ho4 hg4 hb4
  go_wp2
  go_ret
  exact ⟨v4, rfl, HX.out.1, HX.out.2⟩

theorem frameSize (n : Nat) (w : World) (h : n ≤ 100000000000) : Calls Try.prog 13 #[.int .i64 n] w (fun e w' => e = .returned (.int .i64 ((8 + n : Nat) : Int)) ∧ w = w') := by
  go_enter Try.func13, Try.ntmps13
  go_wp2
  go_ret
  exact ⟨by go_num, rfl⟩

/-- The error of a number. -/
def errV (c : Nat) : Value := if c = 0 then .nilIface else .iface 28 (.int .i64 (c : Int))
def FrameGetOk (b : List UInt8) (w : World) (e : Ending) (w' : World) : Prop :=
  ∃ v, e = .returned (.tuple #[v, .int .i64 ((getL b).2.1 : Int), errV (getL b).2.2]) ∧ OwnB w.heap.size w' v (getL b).1 ∧ Below w.heap.size w w'
/-- getL, step by step as the program goes. -/
theorem getL_steps (b : List UInt8) : ∃ n1 l1 s1 n2 l2 s2, rdNum 4 b false = (n1, l1, s1) ∧ rdNum 4 l1 s1 = (n2, l2, s2) ∧ n1 < 18446744073709551616 ∧ n2 < 18446744073709551616 ∧
    ((s2 = true ∧ getL b = ([], 0, 3)) ∨
     (s2 = false ∧ l2 = b.drop 8 ∧ 8 ≤ b.length ∧ n1 < 4294967296 ∧ n2 < 4294967296 ∧
      ((n1 = 0 ∧ getL b = ([], 0, 2)) ∨ (n1 ≠ 0 ∧ 20000 < n1 ∧ getL b = ([], 0, 2)) ∨
       (1 ≤ n1 ∧ n1 ≤ 20000 ∧ b.length - 8 < n1 ∧ getL b = ([], 0, 3)) ∨
       (1 ≤ n1 ∧ n1 ≤ 20000 ∧ n1 ≤ b.length - 8 ∧ getL b = if addN 0 ((b.drop 8).take n1) = n2 then ((b.drop 8).take n1, 8 + n1, 0) else ([], 0, 4))))) := by
  have h256 : ∀ t : List UInt8, t.length = 4 → numL t < 4294967296 := by
    intro t ht
    have := numL_lt t
    rw [ht] at this
    exact this
  by_cases h8 : b.length < 8
  · have hg : getL b = ([], 0, 3) := by
      with_unfolding_all (show (if b.length < 8 then _ else _) = _)
      rw [if_pos h8]
    have e1 : ∃ n1 l1 s1, rdNum 4 b false = (n1, l1, s1) ∧ (s1 = true ∨ l1.length < 4) := by
      unfold rdNum
      rw [if_neg (by omega)]
      by_cases h4 : b.length < 4
      · rw [if_pos (.inr (by omega))]
        exact ⟨_, _, _, rfl, .inl rfl⟩
      · rw [if_neg (by simp; omega)]
        exact ⟨_, _, _, rfl, .inr (by simp; omega)⟩
    obtain ⟨n1, l1, s1, e1, hs⟩ := e1
    have e2 : rdNum 4 l1 s1 = (0, l1, true) := by
      unfold rdNum
      rw [if_neg (by omega), if_pos (by rcases hs with h | h; exact .inl h; exact .inr (by omega))]
    refine ⟨n1, l1, s1, _, _, _, e1, e2, ?_, by omega, .inl ⟨rfl, hg⟩⟩
    have := rdNum_lt 4 b false
    rw [e1] at this
    exact this
  · have e1 : rdNum 4 b false = (numL (b.take 4), b.drop 4, false) := by
      unfold rdNum
      rw [if_neg (by omega), if_neg (by simp; omega)]
      rfl
    have e2 : rdNum 4 (b.drop 4) false = (numL ((b.drop 4).take 4), b.drop 8, false) := by
      unfold rdNum
      rw [if_neg (by omega), if_neg (by simp; omega)]
      simp [List.drop_drop]
    have eg : getL b = if numL (b.take 4) = 0 ∨ 20000 < numL (b.take 4) then ([], 0, 2)
        else if b.length - 8 < numL (b.take 4) then ([], 0, 3)
        else if addN 0 ((b.drop 8).take (numL (b.take 4))) ≠ numL ((b.drop 4).take 4) then ([], 0, 4)
        else ((b.drop 8).take (numL (b.take 4)), 8 + numL (b.take 4), 0) := by
      with_unfolding_all (show (if b.length < 8 then _ else _) = _)
      rw [if_neg h8]
    have b1 := h256 (b.take 4) (by simp; omega)
    have b2 := h256 ((b.drop 4).take 4) (by simp; omega)
    refine ⟨_, _, _, _, _, _, e1, e2, by omega, by omega, .inr ⟨rfl, rfl, by omega, b1, b2, ?_⟩⟩
    rw [eg]
    clear e1 e2 eg b1 b2
    generalize numL (b.take 4) = n1
    generalize numL ((b.drop 4).take 4) = n2
    by_cases g0 : n1 = 0
    · exact .inl ⟨g0, by rw [if_pos (.inl g0)]⟩
    by_cases g1 : 20000 < n1
    · exact .inr (.inl ⟨g0, g1, by rw [if_pos (.inr g1)]⟩)
    rw [if_neg (by omega)]
    by_cases g2 : b.length - 8 < n1
    · exact .inr (.inr (.inl ⟨by omega, by omega, g2, by rw [if_pos g2]⟩))
    rw [if_neg g2]
    refine .inr (.inr (.inr ⟨by omega, by omega, by omega, ?_⟩))
    by_cases g3 : addN 0 ((b.drop 8).take n1) = n2
    · rw [if_neg (by simpa using g3), if_pos g3]
    · rw [if_pos g3, if_neg g3]
set_option maxRecDepth 100000 in
set_option maxHeartbeats 2000000 in
theorem frameGet (a : Option Addr) (n cap : Nat) (b : List UInt8) (w : World) (hn : b.length = n) (hl : b.length ≤ 100000000000) (hr : Reads w (.slice a n cap) b) :
    Calls Try.prog 14 #[.slice a n cap] w (FrameGetOk b w) := by
  subst hn
  obtain ⟨n1, l1, s1, n2, l2, s2, e1, e2, hn1, hn2, hcase⟩ := getL_steps b
  have hslice : 8 < b.length → ∃ bl off, a = some ⟨bl, off, none⟩ ∧ b.length ≤ cap ∧ cap ≤ maxLen := by
    intro h8
    obtain ⟨a', cap', hv, hb, hc1, hc2, _, _⟩ := hr
    simp only [Value.slice.injEq] at hv
    obtain ⟨rfl, _, rfl⟩ := hv
    obtain ⟨bl, off, h1, _⟩ := hb 0 (by omega)
    exact ⟨bl, off, h1, hc1, hc2⟩
  have HSL := Lib.hid hslice
  have HRD := Lib.hid (isReader_new hr)
  have HR := Lib.hid hr
  have HE1 := Lib.hid e1
  have HE2 := Lib.hid e2
  have HN := Lib.hid (And.intro hn1 hn2)
  have HC := Lib.hid hcase
  have HL := Lib.hid hl
  clear hr e1 e2 hn1 hn2 hcase hl hslice
  have hb0 := (Below.refl w.heap.size w).alloc (Nat.le_refl _) (.cells #[.slice a b.length cap, .bool false] 91)
  go_enter Try.func14, Try.ntmps14
  go_wp2_with fail
  refine (packNew _ _ _ _).mono ?_
  rintro e w1 ⟨rfl, rfl⟩
  generalize hW1 : World.alloc w _ = W1 at HRD hb0 ⊢
  have HB0 := Lib.hid hb0
  clear hb0 hW1
  go_wp2_with fail
  refine (packNumber w.heap.size b false 4 _ HRD.out).mono ?_
  rw [HE1.out]
  rintro e w2 ⟨rfl, hr2, hg2⟩
  simp only at hr2 ⊢
  have HR2 := Lib.hid hr2
  have HB2 := Lib.hid (HB0.out.trans (below_grownBy hg2 HB0.out.size (Nat.le_refl _)))
  clear hr2 hg2
  go_wp2_with fail
  refine (packNumber w.heap.size l1 s1 4 _ HR2.out).mono ?_
  rw [HE2.out]
  rintro e w3 ⟨rfl, hr3, hg3⟩
  simp only at hr3 ⊢
  have HR3 := Lib.hid hr3
  have HB3 := Lib.hid (HB2.out.trans (below_grownBy hg3 HB2.out.size (Nat.le_refl _)))
  clear hr3 hg3
  go_wp2_with fail
  refine (packShort w.heap.size l2 s2 _ HR3.out).mono ?_
  rintro e w4 ⟨rfl, rfl⟩
  have HY : ∀ c w', Below w.heap.size w w' → getL b = ([], 0, c) → FrameGetOk b w (.returned (.tuple #[.slice none 0 0, .int .i64 0, errV c])) w' := fun c w' hb h => ⟨.slice none 0 0, by rw [h]; rfl, by rw [h]; exact OwnB.nil _ _, hb⟩
  have HZ := Lib.hid HY
  clear HY
  rcases HC.out with ⟨h, hg⟩ | ⟨h, hl2, h8, hm1, hm2, hcase⟩
  · subst h
    have HG := Lib.hid hg
    clear hg HC
    go_wp2_with fail
    go_ret3
    exact HZ.out 3 _ HB3.out HG.out
  subst h
  subst hl2
  have hleft : rdLeft (b.drop 8) false = b.length - 8 := by simp [rdLeft]
  rcases hcase with ⟨h, hg⟩ | ⟨h0, h, hg⟩ | ⟨h1, h2, h, hg⟩ | ⟨h1, h2, h, hg⟩
  · subst h
    have HG := Lib.hid hg
    clear hg HC hleft
    go_wp2_with fail
    go_ret3
    exact HZ.out 2 _ HB3.out HG.out
  · have d0 : ((n1 : Int) == 0) = false := by simp; omega
    have d1 : decide ((20000 : Int) < (n1 : Int)) = true := by simp; omega
    have HG := Lib.hid hg
    clear hg HC hleft
    go_wp2_with fail
    go_ret3
    exact HZ.out 2 _ HB3.out HG.out
  · have d0 : ((n1 : Int) == 0) = false := by simp; omega
    have d1 : decide ((20000 : Int) < (n1 : Int)) = false := by simp; omega
    have HG := Lib.hid hg
    have HLF := Lib.hid hleft
    clear hg HC hleft
    go_wp2_with fail
    refine (packLeft w.heap.size (b.drop 8) false _ HR3.out).mono ?_
    rintro e w5 ⟨rfl, rfl⟩
    rw [HLF.out]
    have hw : IntKind.u64.wrap ((b.length - 8 : Nat) : Int) = ((b.length - 8 : Nat) : Int) := by have := HL.out; rw [IntKind.wrap_u64]; omega
    have d2 : decide (((b.length - 8 : Nat) : Int) < (n1 : Int)) = true := by simp; omega
    generalize b.length - 8 = m at *
    go_wp2_with fail
    go_ret3
    exact HZ.out 3 _ HB3.out HG.out
  · have hlen : ((b.drop 8).take n1).length = n1 := by simp; omega
    have d0 : ((n1 : Int) == 0) = false := by simp; omega
    have d1 : decide ((20000 : Int) < (n1 : Int)) = false := by simp; omega
    have HG := Lib.hid hg
    have HLF := Lib.hid hleft
    have HLEN := Lib.hid hlen
    have HN1 := Lib.hid (show n1 ≤ b.length - 8 from h)
    clear hg HC hleft hlen h
    obtain ⟨bl, off, rfl, hcap, hcm⟩ := HSL.out (by have := HN1.out; omega)
    have HBY : Hid (IsBytes w3 (some ⟨bl, off, none⟩) b) := by
      obtain ⟨a', cap', hv, hb, _⟩ := HR.out
      simp only [Value.slice.injEq] at hv
      obtain ⟨rfl, _, rfl⟩ := hv
      exact hb.bel HB3.out
    go_wp2_with fail
    refine (packLeft w.heap.size (b.drop 8) false _ HR3.out).mono ?_
    rintro e w5 ⟨rfl, rfl⟩
    rw [HLF.out]
    have hw : IntKind.u64.wrap ((b.length - 8 : Nat) : Int) = ((b.length - 8 : Nat) : Int) := by have := HL.out; rw [IntKind.wrap_u64]; omega
    have d2 : decide (((b.length - 8 : Nat) : Int) < (n1 : Int)) = false := by have := HN1.out; simp; omega
    have d3 : decide (b.length - 8 < n1) = false := by have := HN1.out; simp; omega
    have hw2 : IntKind.u64.wrap (8 + (n1 : Int)) = 8 + (n1 : Int) := by rw [IntKind.wrap_u64]; omega
    have hx1 : 8 + (n1 : Int) ≤ (cap : Int) := by have := HN1.out; omega
    have hx2 : (8 : Int) ≤ 8 + (n1 : Int) := by omega
    have hx3 : (8 + (n1 : Int)).toNat = 8 + n1 := by omega
    have hx4 : 8 + n1 ≤ cap := by omega
    have hx5 : ¬ (8 = cap) := by omega
    have HCAP := Lib.hid hcm
    clear hcm
    generalize b.length - 8 = m at *
    go_wp2_with fail
    generalize hbd : (b.drop 8).take n1 = body at *
    have hb3 : IsBytes w3 (some ⟨bl, off + 8, none⟩) body := by rw [← hbd]; exact (HBY.out.drop 8).take n1
    have HB3' := Lib.hid hb3
    clear hb3 hbd hw hw2 hx1 hx2 hx3 hx4 hx5 d2 d3 hcap
    refine (bytesClone ⟨bl, off + 8, none⟩ n1 (cap - 8) body _ HLEN.out (by rw [HLEN.out]; omega) HB3'.out).mono ?_
    rintro e w6 ⟨v6, rfl, ho6, hb6⟩
    have HQ6 := Lib.hid (below_next HB3.out hb6)
    obtain ⟨a6, cap6, rfl, hby6, _, hcm6⟩ := ho6.out
    have HO6 := Lib.hid (And.intro ho6 (And.intro hby6 HB3.out.size))
    clear ho6 hby6 hb6 hcm6
    rw [HLEN.out] at HO6 ⊢
    go_wp2_with fail
    refine (crcSum a6 n1 cap6 body _ HLEN.out (by unfold maxLen; omega) HO6.out.2.1).mono ?_
    rintro e w7 ⟨rfl, hb7⟩
    have HQ7 := Lib.hid (below_next HQ6.out hb7)
    have HO7 := Lib.hid (HO6.out.1.bel hb7)
    have HLT := Lib.hid (addN_lt 0 body)
    clear hb7
    generalize addN 0 body = s at *
    have hws : IntKind.u64.wrap (s : Int) = (s : Int) := by have := HLT.out; rw [IntKind.wrap_u64]; omega
    by_cases hs : s = n2
    · have HG2 : Hid (getL b = (body, 8 + n1, 0)) := by have := HG.out; rw [if_pos hs] at this; exact this
      have d3 : ((s : Int) != (n2 : Int)) = false := by simp; omega
      clear hs HG
      have HFS := Lib.hid (frameSize n1)
      go_wp2_with fail
      refine (HFS.out _ (by omega)).mono ?_
      rintro e w8 ⟨rfl, rfl⟩
      go_wp2_with fail
      go_ret3
      refine ⟨_, by rw [HG2.out]; rfl, ?_, HQ7.out⟩
      rw [HG2.out]
      exact OwnB.weak HO7.out HO6.out.2.2
    · have HG2 : Hid (getL b = ([], 0, 4)) := by have := HG.out; rw [if_neg hs] at this; exact this
      have d3 : ((s : Int) != (n2 : Int)) = true := by simp; omega
      clear hs HG
      go_wp2_with fail
      go_ret3
      exact HZ.out 4 _ HQ7.out HG2.out
end Go.Proofs.Ytiihemmonncioaa
