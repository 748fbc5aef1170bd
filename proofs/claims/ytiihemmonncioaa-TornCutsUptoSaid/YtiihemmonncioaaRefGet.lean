/- The contract of the reference's Get. -/
import Derived.Test.YtiihemmonncioaaFrameGet
import Derived.Test.YtiihemmonncioaaRefReader
import Derived.Test.YtiihemmonncioaaCrcRef
namespace Go.Proofs.Ytiihemmonncioaa
open Go.RowKit

def RefGetOk (b : List UInt8) (w : World) (e : Ending) (w' : World) : Prop :=
  ∃ v, e = .returned (.tuple #[v, .int .i64 ((getL b).2.1 : Int), .int .i64 ((getL b).2.2 : Int)]) ∧ Reads w' v (getL b).1 ∧ Below w.heap.size w w'
theorem getL_refSteps (b : List UInt8) : ∃ n1 p1 s1 n2 p2 s2, refNum 4 b 0 false = (n1, p1, s1) ∧ refNum 4 b p1 s1 = (n2, p2, s2) ∧ n1 < 18446744073709551616 ∧ n2 < 18446744073709551616 ∧
    ((s2 = true ∧ getL b = ([], 0, 3)) ∨
     (s2 = false ∧ 8 ≤ b.length ∧ n1 < 4294967296 ∧ n2 < 4294967296 ∧
      ((n1 = 0 ∧ getL b = ([], 0, 2)) ∨ (n1 ≠ 0 ∧ 20000 < n1 ∧ getL b = ([], 0, 2)) ∨
       (1 ≤ n1 ∧ n1 ≤ 20000 ∧ b.length - 8 < n1 ∧ getL b = ([], 0, 3)) ∨
       (1 ≤ n1 ∧ n1 ≤ 20000 ∧ n1 ≤ b.length - 8 ∧ getL b = if addN 0 ((b.drop 8).take n1) = n2 then ((b.drop 8).take n1, 8 + n1, 0) else ([], 0, 4))))) := by
  obtain ⟨n1, l1, s1, n2, l2, s2, e1, e2, hn1, hn2, hcase⟩ := getL_steps b
  obtain ⟨h1, hp1⟩ := refNum_rdNum 4 b 0 false (Nat.zero_le _)
  cases hr1 : refNum 4 b 0 false with
  | mk m1 q1 =>
  obtain ⟨p1, t1⟩ := q1
  rw [hr1] at h1 hp1
  rw [List.drop_zero, e1] at h1
  simp only [Prod.mk.injEq] at h1 hp1
  obtain ⟨rfl, rfl, rfl⟩ := h1
  obtain ⟨h2, hp2⟩ := refNum_rdNum 4 b p1 s1 hp1
  cases hr2 : refNum 4 b p1 s1 with
  | mk m2 q2 =>
  obtain ⟨p2, t2⟩ := q2
  rw [hr2, e2] at h2
  simp only [Prod.mk.injEq] at h2
  obtain ⟨rfl, rfl, rfl⟩ := h2
  refine ⟨n1, p1, s1, n2, p2, s2, rfl, hr2, hn1, hn2, ?_⟩
  rcases hcase with h | ⟨h, _, h'⟩
  · exact .inl h
  · exact .inr ⟨h, h'⟩
theorem Reads.nil (w : World) : Reads w (.slice none 0 0) [] := ⟨none, 0, rfl, IsBytes.nil _ _, Nat.le_refl _, Nat.zero_le _, fun _ => rfl, fun x hx => by cases hx⟩
theorem Reads.bel {w w' : World} {v : Value} {l : List UInt8} (h : Reads w v l) (hb : Below w.heap.size w w') : Reads w' v l := by
  obtain ⟨a, cap, h0, h1, h2, h3, h4, h5⟩ := h
  exact ⟨a, cap, h0, h1.bel hb, h2, h3, h4, fun x hx hc => ⟨(h5 x hx hc).1, Nat.lt_of_lt_of_le (h5 x hx hc).2 hb.size⟩⟩
theorem isRef_new {w : World} {a : Option Addr} {cap : Nat} {b : List UInt8} (h : Reads w (.slice a b.length cap) b) (hlow : ∀ x, a = some x → 0 < cap → x.block + 1 < w.heap.size) :
    IsRef (w.alloc (.cells #[.slice a b.length cap, .int .i64 0, .bool false] 79)) w.heap.size b 0 false := by
  obtain ⟨a', cap', hv, hb, h1, h2, h3, h4⟩ := h
  simp only [Value.slice.injEq] at hv
  obtain ⟨rfl, _, rfl⟩ := hv
  exact ⟨a, cap, heap_alloc_new w _, hb.alloc _, h1, h2, Nat.zero_le _, fun x off e hc => hlow _ e hc, h3, fun x hx hc => ⟨(h4 x hx hc).1, by have := (h4 x hx hc).2; simp; omega⟩⟩

set_option maxRecDepth 100000 in
set_option maxHeartbeats 2000000 in
theorem refGet (a : Option Addr) (n cap : Nat) (b : List UInt8) (w : World) (hn : b.length = n) (hl : b.length ≤ 100000000000) (hr : Reads w (.slice a n cap) b) (hlow : ∀ x, a = some x → 0 < cap → x.block + 1 < w.heap.size) :
    Calls Try.prog 15 #[.slice a n cap] w (RefGetOk b w) := by
  subst hn
  obtain ⟨n1, p1, s1, n2, p2, s2, e1, e2, hn1, hn2, hcase⟩ := getL_refSteps b
  have hslice : 8 < b.length → ∃ bl off, a = some ⟨bl, off, none⟩ ∧ b.length ≤ cap ∧ cap ≤ maxLen := by
    intro h8
    obtain ⟨a', cap', hv, hb, hc1, hc2, _, _⟩ := hr
    simp only [Value.slice.injEq] at hv
    obtain ⟨rfl, _, rfl⟩ := hv
    obtain ⟨bl, off, h1, _⟩ := hb 0 (by omega)
    exact ⟨bl, off, h1, hc1, hc2⟩
  have HSL := Lib.hid hslice
  have HRD := Lib.hid (isRef_new hr hlow)
  have HR := Lib.hid hr
  have HE1 := Lib.hid e1
  have HE2 := Lib.hid e2
  have HN := Lib.hid (And.intro hn1 hn2)
  have HC := Lib.hid hcase
  have HL := Lib.hid hl
  clear hr e1 e2 hn1 hn2 hcase hl hslice hlow
  have hb0 := (Below.refl w.heap.size w).alloc (Nat.le_refl _) (.cells #[.slice a b.length cap, .int .i64 0, .bool false] 79)
  go_enter Try.func15, Try.ntmps15
  go_wp2_with fail
  generalize hW1 : World.alloc w _ = W1 at HRD hb0 ⊢
  have HB0 := Lib.hid hb0
  clear hb0 hW1
  refine (refNumber w.heap.size b 0 false 4 _ HRD.out HL.out).mono ?_
  rw [HE1.out]
  rintro e w2 ⟨rfl, hr2, hg2⟩
  simp only at hr2 ⊢
  have HR2 := Lib.hid hr2
  have HB2 := Lib.hid (HB0.out.trans (below_grownBy hg2 HB0.out.size (Nat.le_refl _)))
  clear hr2 hg2
  go_wp2_with fail
  refine (refNumber w.heap.size b p1 s1 4 _ HR2.out HL.out).mono ?_
  rw [HE2.out]
  rintro e w3 ⟨rfl, hr3, hg3⟩
  simp only at hr3 ⊢
  have HB3 := Lib.hid (HB2.out.trans (below_grownBy hg3 HB2.out.size (Nat.le_refl _)))
  have hc2 : w3.cell? ⟨w.heap.size, 2, none⟩ = some (.bool s2) := by
    obtain ⟨a3, cap3, hgr, _⟩ := hr3
    have := cell_of_row w3 w.heap.size 2 _ _ _ hgr
    simpa using this
  clear hr3 hg3
  have HY : ∀ c, getL b = ([], 0, c) → RefGetOk b w (.returned (.tuple #[.slice none 0 0, .int .i64 0, .int .i64 (c : Int)])) w3 := fun c h => ⟨.slice none 0 0, by rw [h]; rfl, by rw [h]; exact Reads.nil _, HB3.out⟩
  have HZ := Lib.hid HY
  clear HY
  rcases HC.out with ⟨h, hg⟩ | ⟨h, h8, hm1, hm2, hcase⟩
  · subst h
    have HG := Lib.hid hg
    clear hg HC
    go_wp2_with fail
    go_ret3
    exact HZ.out 3 HG.out
  subst h
  rcases hcase with ⟨h, hg⟩ | ⟨h0, h, hg⟩ | ⟨h1, h2, h, hg⟩ | ⟨h1, h2, h, hg⟩
  · subst h
    have HG := Lib.hid hg
    clear hg HC
    go_wp2_with fail
    go_ret3
    exact HZ.out 2 HG.out
  · have d0 : decide ((n1 : Int) < 1) = false := by simp; omega
    have d1 : decide ((20000 : Int) < (n1 : Int)) = true := by simp; omega
    have HG := Lib.hid hg
    clear hg HC
    go_wp2_with fail
    go_ret3
    exact HZ.out 2 HG.out
  · have d0 : decide ((n1 : Int) < 1) = false := by simp; omega
    have d1 : decide ((20000 : Int) < (n1 : Int)) = false := by simp; omega
    have hw : IntKind.i64.wrap (n1 : Int) = (n1 : Int) := by rw [IntKind.wrap_i64]; omega
    have hw2 : IntKind.i64.wrap ((b.length : Int) - 8) = (b.length : Int) - 8 := by have := HL.out; rw [IntKind.wrap_i64]; omega
    have d2 : decide ((b.length : Int) - 8 < (n1 : Int)) = true := by simp; omega
    have HG := Lib.hid hg
    clear hg HC
    go_wp2_with fail
    go_ret3
    exact HZ.out 3 HG.out
  · have hlen : ((b.drop 8).take n1).length = n1 := by simp; omega
    have d0 : decide ((n1 : Int) < 1) = false := by simp; omega
    have d1 : decide ((20000 : Int) < (n1 : Int)) = false := by simp; omega
    have HG := Lib.hid hg
    have HLEN := Lib.hid hlen
    have HN1 := Lib.hid (show n1 ≤ b.length - 8 from h)
    clear hg HC hlen h
    obtain ⟨bl, off, rfl, hcap, hcm⟩ := HSL.out (by have := HN1.out; omega)
    have HRD3 := Lib.hid (HR.out.bel HB3.out)
    have hw : IntKind.i64.wrap (n1 : Int) = (n1 : Int) := by rw [IntKind.wrap_i64]; omega
    have hw2 : IntKind.i64.wrap ((b.length : Int) - 8) = (b.length : Int) - 8 := by have := HL.out; rw [IntKind.wrap_i64]; omega
    have d2 : decide ((b.length : Int) - 8 < (n1 : Int)) = false := by have := HN1.out; simp; omega
    have hw3 : IntKind.i64.wrap (8 + (n1 : Int)) = 8 + (n1 : Int) := by rw [IntKind.wrap_i64]; omega
    have hx1 : 8 + (n1 : Int) ≤ (cap : Int) := by have := HN1.out; omega
    have hx2 : (8 : Int) ≤ 8 + (n1 : Int) := by omega
    have hx3 : (8 + (n1 : Int)).toNat = 8 + n1 := by omega
    have hx4 : 8 + n1 ≤ cap := by omega
    have hx5 : ¬ (8 = cap) := by omega
    have HCAP := Lib.hid (And.intro hcap hcm)
    clear hcm
    go_wp2_with fail
    generalize hbd : (b.drop 8).take n1 = body at *
    have hrd : Reads w3 (.slice (some ⟨bl, off + 8, none⟩) n1 (cap - 8)) body := by
      obtain ⟨a', cap', hv, hb, _, _, _, h5⟩ := HRD3.out
      simp only [Value.slice.injEq] at hv
      obtain ⟨rfl, _, rfl⟩ := hv
      have hlt := (h5 _ rfl (by omega)).2
      exact ⟨_, _, by rw [HLEN.out], by rw [← hbd]; exact (hb.drop 8).take n1, by rw [HLEN.out]; omega, by have := HCAP.out.2; omega, fun e => (by cases e), fun x hx _ => by cases hx; exact ⟨rfl, hlt⟩⟩
    have HRB := Lib.hid hrd
    have HBY : Hid (IsBytes w3 (some ⟨bl, off + 8, none⟩) body) := by
      obtain ⟨a', cap', hv, hb, _⟩ := hrd
      simp only [Value.slice.injEq] at hv
      obtain ⟨rfl, _, rfl⟩ := hv
      exact hb
    clear hrd hbd hw2 hx1 hx2 hx3 hx4 hx5 d2 hcap
    refine (refSum _ n1 (cap - 8) body _ HLEN.out (by unfold maxLen; omega) HBY.out).mono ?_
    rintro e w7 ⟨rfl, rfl⟩
    have HLT := Lib.hid (addN_lt 0 body)
    generalize addN 0 body = s at *
    have hws : IntKind.u64.wrap (s : Int) = (s : Int) := by have := HLT.out; rw [IntKind.wrap_u64]; omega
    by_cases hs : s = n2
    · have HG2 : Hid (getL b = (body, 8 + n1, 0)) := by have := HG.out; rw [if_pos hs] at this; exact this
      have d3 : ((s : Int) != (n2 : Int)) = false := by simp; omega
      clear hs HG
      go_wp2_with fail
      go_ret3
      refine ⟨_, by rw [HG2.out]; rfl, ?_, HB3.out⟩
      rw [HG2.out]
      exact HRB.out
    · have HG2 : Hid (getL b = ([], 0, 4)) := by have := HG.out; rw [if_neg hs] at this; exact this
      have d3 : ((s : Int) != (n2 : Int)) = true := by simp; omega
      clear hs HG
      go_wp2_with fail
      go_ret3
      exact HZ.out 4 HG2.out
end Go.Proofs.Ytiihemmonncioaa
