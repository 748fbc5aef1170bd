/- Contracts of the reference's reader: Number, Text, Left. -/
import Derived.Test.YtiihemmonncioaaReader
import Derived.BigQuiet
namespace Go.Proofs.Ytiihemmonncioaa
open Go.RowKit

theorem grownBy_of_below {w w' : World} {r : Option Nat} (h : Below w.heap.size w w') : w.grownBy w' r := ⟨h.os, h.tape, h.output, h.size, fun k hk _ => h.block k hk⟩
/-- Block bm is the reference's reader over the bytes b, at a place; whether it is short. -/
def IsRef (w : World) (bm : Nat) (b : List UInt8) (at_ : Nat) (sh : Bool) : Prop :=
  ∃ a cap, w.heap[bm]? = some (.cells #[.slice a b.length cap, .int .i64 at_, .bool sh] 79 (0, 0)) ∧ IsBytes w a b ∧ b.length ≤ cap ∧ cap ≤ maxLen ∧ at_ ≤ b.length ∧ (∀ x off, a = some ⟨x, off, none⟩ → 0 < cap → x + 1 < bm) ∧ (a = none → cap = 0) ∧ ∀ x, a = some x → 0 < cap → x.spot = none ∧ x.block < w.heap.size

theorem IsRef.bel {w w' : World} {br : Nat} {l : List UInt8} {at_ : Nat} {sh : Bool} (h : IsRef w br l at_ sh) (hb : Below w.heap.size w w') : IsRef w' br l at_ sh := by
  obtain ⟨a, cap, hg, h0, h1, h2, h6, h3, h4, h5⟩ := h
  exact ⟨a, cap, by rw [hb.block br (Array.getElem?_eq_some_iff.1 hg).1]; exact hg, h0.bel hb, h1, h2, h6, h3, h4, fun x hx hc => ⟨(h5 x hx hc).1, Nat.lt_of_lt_of_le (h5 x hx hc).2 hb.size⟩⟩
/-- A field of it turns. -/
theorem IsRef.set {w : World} {bm : Nat} {b : List UInt8} {at_ : Nat} {sh : Bool} (h : IsRef w bm b at_ sh) (i : Nat) (u : Value) (at2 : Nat) (sh2 : Bool) (hat : at2 ≤ b.length)
    (hset : ∀ x : Value, (#[x, .int .i64 at_, .bool sh] : Array Value).setIfInBounds i u = #[x, .int .i64 at2, .bool sh2]) : IsRef (w.setCell ⟨bm, i, none⟩ u) bm b at2 sh2 := by
  obtain ⟨a, cap, hg, h0, h1, h2, h6, h3, h4, h5⟩ := h
  refine ⟨a, cap, by rw [heap_setCell_same w bm i _ _ _ hg, hset], h0.setCell _ _ (fun x off e hl => by have := h3 x off e (by omega); exact (show x ≠ bm by omega)), h1, h2, hat, h3, h4, fun x hx hc => by simpa [World.setCell] using h5 x hx hc⟩

def RefNumOk (bm : Nat) (b : List UInt8) (v : Nat) (at2 : Nat) (sh2 : Bool) (w : World) (e : Ending) (w' : World) : Prop := e = .returned (.int .u64 (v : Int)) ∧ IsRef w' bm b at2 sh2 ∧ w.grownBy w' (some bm)

set_option maxHeartbeats 1000000 in
theorem refNumber_zero (bm : Nat) (b : List UInt8) (at_ : Nat) (sh : Bool) (k : Int) (w : World) (h : IsRef w bm b at_ sh) (hk : k < 1 ∨ 8 < k ∨ sh = true) :
    Calls Try.prog 42 #[.pointer (some ⟨bm, 0, none⟩), .int .i64 k] w (RefNumOk bm b 0 at_ sh w) := by
  obtain ⟨a, cap, hg, _⟩ := id h
  have hc2 := cell_of_row w bm 2 _ _ _ hg
  have H := Lib.hid h
  clear hg h
  simp at hc2
  by_cases h1 : k < 1
  · go_enter Try.func42, Try.ntmps42
    go_wp2
    go_ret
    exact ⟨rfl, H.out, grownBy_refl _ _⟩
  by_cases h8 : 8 < k
  · go_enter Try.func42, Try.ntmps42
    go_wp2
    go_ret
    exact ⟨rfl, H.out, grownBy_refl _ _⟩
  · obtain rfl : sh = true := by rcases hk with h | h | h; omega; omega; exact h
    go_enter Try.func42, Try.ntmps42
    go_wp2
    go_ret
    exact ⟨rfl, H.out, grownBy_refl _ _⟩

set_option maxHeartbeats 1000000 in
theorem refNumber_short (bm : Nat) (b : List UInt8) (at_ : Nat) (k : Nat) (w : World) (h : IsRef w bm b at_ false) (hk1 : 1 ≤ k) (hk8 : k ≤ 8) (hs : b.length < at_ + k) (hbl : b.length ≤ 100000000000) :
    Calls Try.prog 42 #[.pointer (some ⟨bm, 0, none⟩), .int .i64 k] w (RefNumOk bm b 0 at_ true w) := by
  obtain ⟨a, cap, hg, _, _, _, hat, _⟩ := id h
  have hc0 := cell_of_row w bm 0 _ _ _ hg
  have hc1 := cell_of_row w bm 1 _ _ _ hg
  have hc2 := cell_of_row w bm 2 _ _ _ hg
  have hf := frozen_of_row w bm 2 _ _ hg
  have H := Lib.hid h
  clear hg h
  simp at hc0 hc1 hc2
  have hw : IntKind.i64.wrap ((at_ : Int) + (k : Int)) = (at_ : Int) + (k : Int) := by rw [IntKind.wrap_i64]; omega
  have d1 : decide ((b.length : Int) < (at_ : Int) + (k : Int)) = true := by simp; omega
  go_enter Try.func42, Try.ntmps42
  go_wp2
  go_quiet (fail)
  go_wp2
  go_ret
  have hd : Below w.heap.size w (w.drewN nq) := below_drewN (Below.refl _ _) nq
  exact ⟨rfl, (H.out.bel hd).set 2 _ at_ true hat (fun _ => rfl), grownBy_trans (grownBy_of_below hd) (grownBy_setCell _ _ _)⟩

set_option maxRecDepth 100000 in
set_option maxHeartbeats 2000000 in
theorem refNumber_ok (bm : Nat) (b : List UInt8) (at_ : Nat) (k : Nat) (w : World) (h : IsRef w bm b at_ false) (hk1 : 1 ≤ k) (hk8 : k ≤ 8) (hs : at_ + k ≤ b.length) (hbl : b.length ≤ 100000000000) :
    Calls Try.prog 42 #[.pointer (some ⟨bm, 0, none⟩), .int .i64 k] w (RefNumOk bm b (numL ((b.drop at_).take k)) (at_ + k) false w) := by
  obtain ⟨a, cap, hg, hb, _, hcm, hat, _⟩ := id h
  have hc0 := cell_of_row w bm 0 _ _ _ hg
  have hc1 := cell_of_row w bm 1 _ _ _ hg
  have hc2 := cell_of_row w bm 2 _ _ _ hg
  have hf := frozen_of_row w bm 1 _ _ hg
  have H := Lib.hid h
  have HB := Lib.hid hb
  clear hg h hb
  simp at hc0 hc1 hc2
  have hw : IntKind.i64.wrap ((at_ : Int) + (k : Int)) = (at_ : Int) + (k : Int) := by rw [IntKind.wrap_i64]; omega
  have d1 : decide ((b.length : Int) < (at_ : Int) + (k : Int)) = false := by simp; omega
  go_enter Try.func42, Try.ntmps42
  go_wp2
  go_quiet (fail)
  clear hw
  go_wp2
  generalize hlt : (b.drop at_).take k = t at *
  have htl : t.length = k := by rw [← hlt]; simp; omega
  have hti : ∀ i (hi : i < t.length), ∃ hi2 : at_ + i < b.length, t[i] = b[at_ + i] := by
    intro i hi
    subst hlt
    have hi' : i < k := by omega
    exact ⟨by omega, by simp⟩
  have HTL := Lib.hid htl
  have HTI := Lib.hid hti
  clear hlt htl hti
  go_loopw [5, 6] (fun x i wr => ∃ (j m nq : Nat), j ≤ k ∧ i = .int .i64 ((j : Int) - 1) ∧ x = .int .u64 m ∧ m < 18446744073709551616 ∧ Hid (m = numL (t.drop j)) ∧ wr = w.drewN nq) (fun _ i _ => (intOf i + 1).toNat)
  case atStart => exact ⟨k, 0, nq, Nat.le_refl _, rfl, rfl, by omega, by show 0 = _; rw [List.drop_of_length_le (by rw [HTL.out]; exact Nat.le_refl _)]; rfl, rfl⟩
  case round =>
    obtain ⟨j, m, nq2, hj, rfl, rfl, hm, HM, rfl⟩ := hrel
    cases j with
    | zero =>
      rw [show (((0 : Nat) : Int) - 1) = -1 from rfl]
      have hE : m = numL t := HM
      have HE := Lib.hid hE
      clear hE
      go_wp2
      go_ret
      have hd : Below w.heap.size w (w.drewN nq2) := below_drewN (Below.refl _ _) nq2
      exact ⟨by rw [HE.out]; rfl, (H.out.bel hd).set 1 _ (at_ + k) false hs (fun _ => by simp), grownBy_trans (grownBy_of_below hd) (grownBy_setCell _ _ _)⟩
    | succ j =>
      rw [show (((j + 1 : Nat) : Int) - 1) = (j : Int) by omega]
      have hjt : j < t.length := by rw [HTL.out]; omega
      obtain ⟨hjb, hte⟩ := HTI.out j hjt
      obtain ⟨x, off, rfl, _, hc⟩ := HB.out (at_ + j) hjb
      have hbt := (t[j]).toNat_lt
      have hnum : numL (t.drop j) = (t[j]).toNat + 256 * m := by rw [List.drop_eq_getElem_cons hjt]; simp only [numL]; rw [← HM.out]
      have hnlt : numL (t.drop j) < 18446744073709551616 := by
        have h1 := numL_lt (t.drop j)
        have h2 : (t.drop j).length ≤ 8 := by simp; have := HTL.out; omega
        have h3 := Nat.pow_le_pow_right (n := 256) (by omega) h2
        omega
      rw [← hte] at hc
      have HN := Lib.hid hnum
      clear hte
      generalize t[j] = y at *
      have hx1 : IntKind.u64.wrap (256 * (m : Int)) = 256 * (m : Int) := by rw [IntKind.wrap_u64]; omega
      have hx2 : IntKind.u64.wrap (256 * (m : Int) + (y.toNat : Int)) = 256 * (m : Int) + (y.toNat : Int) := by rw [IntKind.wrap_u64]; omega
      have hx3 : IntKind.i64.wrap ((at_ : Int) + (j : Int)) = (at_ : Int) + (j : Int) := by rw [IntKind.wrap_i64]; omega
      have hx4 : ((at_ : Int) + (j : Int)).toNat = at_ + j := by omega
      have hx5 : 0 ≤ (at_ : Int) + (j : Int) := by omega
      have hx6 : (at_ : Int) + (j : Int) < (b.length : Int) := by omega
      have hx7 : IntKind.u64.wrap (y.toNat : Int) = (y.toNat : Int) := by rw [IntKind.wrap_u64]; omega
      have HLT := Lib.hid hnlt
      clear hnum hnlt
      go_wp2
      go_quiet (fail)
      clear hx1 hx2 hx3 hx4 hx5 hx6 hx7
      go_wp2
      exact ⟨⟨j, y.toNat + 256 * m, _, by omega, rfl, by rw [show ((y.toNat + 256 * m : Nat) : Int) = 256 * (m : Int) + (y.toNat : Int) by omega], by have h1 := HLT.out; rw [HN.out] at h1; exact h1, HN.out.symm, rfl⟩, by simp [intOf]⟩

/-- What the reference's reader tells as a number, and where it is then. -/
def refNum (k : Int) (b : List UInt8) (at_ : Nat) (sh : Bool) : Nat × Nat × Bool :=
  if k < 1 ∨ 8 < k ∨ sh = true then (0, at_, sh) else if b.length < at_ + k.toNat then (0, at_, true) else (numL ((b.drop at_).take k.toNat), at_ + k.toNat, false)
theorem refNumber (bm : Nat) (b : List UInt8) (at_ : Nat) (sh : Bool) (k : Int) (w : World) (h : IsRef w bm b at_ sh) (hbl : b.length ≤ 100000000000) :
    Calls Try.prog 42 #[.pointer (some ⟨bm, 0, none⟩), .int .i64 k] w (RefNumOk bm b (refNum k b at_ sh).1 (refNum k b at_ sh).2.1 (refNum k b at_ sh).2.2 w) := by
  by_cases h1 : k < 1 ∨ 8 < k ∨ sh = true
  · have hz : refNum k b at_ sh = (0, at_, sh) := by unfold refNum; rw [if_pos h1]
    rw [hz]
    exact refNumber_zero bm b at_ sh k w h h1
  · obtain ⟨n, rfl⟩ := Int.eq_ofNat_of_zero_le (show 0 ≤ k by omega)
    have hsh : sh = false := by cases sh <;> simp_all
    subst hsh
    by_cases h2 : b.length < at_ + n
    · have hz : refNum n b at_ false = (0, at_, true) := by unfold refNum; rw [if_neg h1, Int.toNat_natCast, if_pos h2]
      rw [hz]
      exact refNumber_short bm b at_ n w h (by omega) (by omega) h2 hbl
    · have hz : refNum n b at_ false = (numL ((b.drop at_).take n), at_ + n, false) := by unfold refNum; rw [if_neg h1, Int.toNat_natCast, if_neg h2]
      rw [hz]
      exact refNumber_ok bm b at_ n w h (by omega) (by omega) (by omega) hbl
/-- The two readers tell the same. -/
theorem refNum_rdNum (k : Int) (b : List UInt8) (at_ : Nat) (sh : Bool) (hat : at_ ≤ b.length) :
    rdNum k (b.drop at_) sh = ((refNum k b at_ sh).1, b.drop (refNum k b at_ sh).2.1, (refNum k b at_ sh).2.2) ∧ (refNum k b at_ sh).2.1 ≤ b.length := by
  unfold rdNum refNum
  by_cases h1 : k < 1 ∨ 8 < k
  · rw [if_pos h1, if_pos (by rcases h1 with h | h; exact .inl h; exact .inr (.inl h))]
    exact ⟨rfl, hat⟩
  · rw [if_neg h1]
    by_cases hs : sh = true
    · rw [if_pos (.inl hs), if_pos (.inr (.inr hs)), hs]
      exact ⟨rfl, hat⟩
    · by_cases h2 : b.length < at_ + k.toNat
      · rw [if_pos (.inr (by rw [List.length_drop]; omega)), if_neg (fun h => by rcases h with h | h | h; exact h1 (.inl h); exact h1 (.inr h); exact hs h), if_pos h2]
        exact ⟨rfl, hat⟩
      · rw [if_neg (fun h => by rcases h with h | h; exact hs h; rw [List.length_drop] at h; omega), if_neg (fun h => by rcases h with h | h | h; exact h1 (.inl h); exact h1 (.inr h); exact hs h), if_neg h2]
        exact ⟨by simp [List.drop_drop], by simp; omega⟩

/-- What the reference's reader tells as a text, and where it is then. -/
def refTxt (b : List UInt8) (at_ : Nat) (sh : Bool) : List UInt8 × Nat × Bool :=
  let r := refNum 2 b at_ sh
  if r.2.2 = true then ([], r.2.1, true) else if b.length < r.2.1 + r.1 then ([], r.2.1, true) else ((b.drop r.2.1).take r.1, r.2.1 + r.1, false)
def RefTextOk (bm : Nat) (b : List UInt8) (v : List UInt8) (at2 : Nat) (sh2 : Bool) (w : World) (e : Ending) (w' : World) : Prop := e = .returned (.string ⟨v.toArray⟩) ∧ IsRef w' bm b at2 sh2 ∧ w.grownBy w' (some bm)
theorem refTxt_rdText (b : List UInt8) (at_ : Nat) (sh : Bool) (hat : at_ ≤ b.length) :
    rdText (b.drop at_) sh = ((refTxt b at_ sh).1, b.drop (refTxt b at_ sh).2.1, (refTxt b at_ sh).2.2) ∧ (refTxt b at_ sh).2.1 ≤ b.length := by
  obtain ⟨h1, h2⟩ := refNum_rdNum 2 b at_ sh hat
  unfold rdText refTxt
  rw [h1]
  generalize refNum 2 b at_ sh = r at *
  obtain ⟨m, at2, sh2⟩ := r
  simp only at h2 ⊢
  by_cases hs : sh2 = true
  · rw [if_pos (.inl hs), if_pos hs]
    exact ⟨rfl, h2⟩
  · rw [if_neg hs]
    by_cases h3 : b.length < at2 + m
    · rw [if_pos (.inr (by rw [List.length_drop]; omega)), if_pos h3]
      exact ⟨rfl, h2⟩
    · rw [if_neg (fun h => by rcases h with h | h; exact hs h; rw [List.length_drop] at h; omega), if_neg h3]
      exact ⟨by simp [List.drop_drop], by simp; omega⟩
theorem refNum2_lt (b : List UInt8) (at_ : Nat) (sh : Bool) : (refNum 2 b at_ sh).1 < 65536 := by
  unfold refNum
  split
  · simp
  · split
    · simp
    · have h1 := numL_lt ((b.drop at_).take (2 : Int).toNat)
      have h2 : ((b.drop at_).take (2 : Int).toNat).length ≤ 2 := by simp; omega
      have h3 := Nat.pow_le_pow_right (n := 256) (by omega) h2
      simp only
      omega

set_option maxRecDepth 100000 in
set_option maxHeartbeats 2000000 in
theorem refReadText (bm : Nat) (b : List UInt8) (at_ : Nat) (sh : Bool) (w : World) (h : IsRef w bm b at_ sh) (hbl : b.length ≤ 100000000000) :
    Calls Try.prog 61 #[.pointer (some ⟨bm, 0, none⟩)] w (RefTextOk bm b (refTxt b at_ sh).1 (refTxt b at_ sh).2.1 (refTxt b at_ sh).2.2 w) := by
  have hlt := refNum2_lt b at_ sh
  have HR : Hid (refTxt b at_ sh = (if (refNum 2 b at_ sh).2.2 = true then ([], (refNum 2 b at_ sh).2.1, true) else if b.length < (refNum 2 b at_ sh).2.1 + (refNum 2 b at_ sh).1 then ([], (refNum 2 b at_ sh).2.1, true) else ((b.drop (refNum 2 b at_ sh).2.1).take (refNum 2 b at_ sh).1, (refNum 2 b at_ sh).2.1 + (refNum 2 b at_ sh).1, false))) := rfl
  have HC := Lib.hid (fun w h => refNumber bm b at_ sh 2 w h hbl)
  have H := Lib.hid h
  clear h
  generalize refNum 2 b at_ sh = r at *
  obtain ⟨m, at2, sh2⟩ := r
  simp only at HR hlt HC
  by_cases hs : sh2 = true
  · have hz : refTxt b at_ sh = ([], at2, true) := by rw [HR.out, if_pos hs]
    rw [hz]
    subst hs
    clear hz HR
    go_enter Try.func61, Try.ntmps61
    go_wp2_with fail
    refine (HC.out _ H.out).mono ?_
    rintro e w1 ⟨rfl, hr, hg⟩
    obtain ⟨a, cap, hgr, _⟩ := id hr
    have hc2 := cell_of_row w1 bm 2 _ _ _ hgr
    simp at hc2
    have HR1 := Lib.hid hr
    have HG := Lib.hid hg
    clear hr hg hgr
    go_wp2
    go_ret
    exact ⟨rfl, HR1.out, HG.out⟩
  have hsf : sh2 = false := by cases sh2 <;> simp_all
  subst hsf
  by_cases h3 : b.length < at2 + m
  · have hz : refTxt b at_ sh = ([], at2, true) := by rw [HR.out, if_neg hs, if_pos h3]
    rw [hz]
    clear hz HR hs
    go_enter Try.func61, Try.ntmps61
    go_wp2_with fail
    refine (HC.out _ H.out).mono ?_
    rintro e w1 ⟨rfl, hr, hg⟩
    obtain ⟨a, cap, hgr, _, _, _, hat2, _⟩ := id hr
    have hc0 := cell_of_row w1 bm 0 _ _ _ hgr
    have hc1 := cell_of_row w1 bm 1 _ _ _ hgr
    have hc2 := cell_of_row w1 bm 2 _ _ _ hgr
    have hf := frozen_of_row w1 bm 2 _ _ hgr
    simp at hc0 hc1 hc2
    have HR1 := Lib.hid hr
    have HG := Lib.hid hg
    clear hr hg hgr
    have hw : IntKind.i64.wrap ((at2 : Int) + (m : Int)) = (at2 : Int) + (m : Int) := by rw [IntKind.wrap_i64]; omega
    have d1 : decide ((b.length : Int) < (at2 : Int) + (m : Int)) = true := by simp; omega
    go_wp2
    go_quiet (fail)
    clear hw
    go_wp2
    go_ret
    have hd : Below w1.heap.size w1 (w1.drewN nq) := below_drewN (Below.refl _ _) nq
    exact ⟨rfl, (HR1.out.bel hd).set 2 _ at2 true hat2 (fun _ => rfl), grownBy_trans HG.out (grownBy_trans (grownBy_of_below hd) (grownBy_setCell _ _ _))⟩
  · have hz : refTxt b at_ sh = ((b.drop at2).take m, at2 + m, false) := by rw [HR.out, if_neg hs, if_neg h3]
    rw [hz]
    clear hz HR hs
    go_enter Try.func61, Try.ntmps61
    go_wp2_with fail
    refine (HC.out _ H.out).mono ?_
    rintro e w1 ⟨rfl, hr, hg⟩
    obtain ⟨a, cap, hgr, hb, hbc, hcm, hat2, hne, hnn, hsp⟩ := id hr
    have hc0 := cell_of_row w1 bm 0 _ _ _ hgr
    have hc1 := cell_of_row w1 bm 1 _ _ _ hgr
    have hc2 := cell_of_row w1 bm 2 _ _ _ hgr
    have hf := frozen_of_row w1 bm 1 _ _ hgr
    simp at hc0 hc1 hc2
    have HR1 := Lib.hid hr
    have HG := Lib.hid hg
    clear hr hg hgr
    have hw : IntKind.i64.wrap ((at2 : Int) + (m : Int)) = (at2 : Int) + (m : Int) := by rw [IntKind.wrap_i64]; omega
    have d1 : decide ((b.length : Int) < (at2 : Int) + (m : Int)) = false := by simp; omega
    go_wp2
    go_quiet (fail)
    go_wp2
    have hd : Below w1.heap.size w1 (w1.drewN nq) := below_drewN (Below.refl _ _) nq
    have hr2 := (HR1.out.bel hd).set 1 (.int .i64 ((at2 + m : Nat) : Int)) (at2 + m) false (by omega) (fun _ => rfl)
    have hg2 := grownBy_trans HG.out (grownBy_trans (grownBy_of_below hd) (grownBy_setCell (w1.drewN nq) ⟨bm, 1, none⟩ (.int .i64 ((at2 + m : Nat) : Int))))
    rw [show ((at2 : Int) + (m : Int)) = ((at2 + m : Nat) : Int) by omega]
    clear hw
    have HR2 := Lib.hid hr2
    have HG2 := Lib.hid hg2
    clear hr2 hg2 hd hc0 hc1 hc2 hf hb hnn hsp hne hbc hcm
    generalize hW : (w1.drewN nq).setCell ⟨bm, 1, none⟩ (.int .i64 ((at2 + m : Nat) : Int)) = W2 at *
    have HW := Lib.hid hW
    clear hW
    obtain ⟨a2, cap2, hgr, hb, hbc, hcm, _, _, hnn, hsp⟩ := HR2.out
    have hc0 := cell_of_row W2 bm 0 _ _ _ hgr
    have hc1 := cell_of_row W2 bm 1 _ _ _ hgr
    clear hgr
    simp at hc0 hc1
    rw [show ((at2 : Int) + (m : Int)) = ((at2 + m : Nat) : Int) by omega] at hc1
    have hlen : ((b.drop at2).take m).length = m := by simp; omega
    unfold maxLen at hcm
    have hw : IntKind.i64.wrap (((at2 + m : Nat) : Int) - (m : Int)) = (at2 : Int) := by rw [IntKind.wrap_i64]; omega
    have HB : ∀ a3 : Option Addr, (∀ k, (h : k < m) → ∃ x off, a2 = some ⟨x, off, none⟩ ∧ a3 = some ⟨x, off + at2, none⟩) → ∀ q, IsBytes (W2.drewN q) a3 ((b.drop at2).take m) := by
      intro a3 h q
      refine IsBytes.bel (w := W2) ?_ (below_drewN (Below.refl _ _) q)
      intro k hk
      obtain ⟨x, off, e1, e2⟩ := h k (by rw [hlen] at hk; exact hk)
      obtain ⟨x', off', e3, hx, hc⟩ := hb (at2 + k) (by rw [hlen] at hk; omega)
      rw [e1] at e3
      simp only [Option.some.injEq, Addr.mk.injEq] at e3
      obtain ⟨rfl, rfl, _⟩ := e3
      refine ⟨x, off + at2, e2, hx, ?_⟩
      rw [Nat.add_assoc, hc]
      simp [List.getElem_take, List.getElem_drop]
    by_cases hnc : at2 = cap2
    · have hm0 : m = 0 := by omega
      have hv := fun q => run_string_bytes (W2.drewN q) a2 0 ((b.drop at2).take m) (HB a2 (fun k hk => by omega) q)
      rw [hlen] at hv
      subst hm0
      subst hnc
      clear HB hlen
      have hw0 : IntKind.i64.wrap (at2 : Int) = (at2 : Int) := by rw [IntKind.wrap_i64]; omega
      clear hw
      simp only [Nat.add_zero, List.take_zero] at *
      cases a2 with
      | none =>
        have := hnn rfl
        subst this
        clear d1 hat2 hlt h3 hbc hcm hnn hsp
        simp only [Int.natCast_zero] at *
        go_quiet (fail)
        have hd2 : Below W2.heap.size W2 (W2.drewN nq) := below_drewN (Below.refl _ _) nq
        go_wp2
        go_ret
        exact ⟨rfl, HR2.out.bel hd2, grownBy_trans HG2.out (grownBy_of_below hd2)⟩
      | some x =>
        clear hnn
        go_quiet (fail)
        have hd2 : Below W2.heap.size W2 (W2.drewN nq) := below_drewN (Below.refl _ _) nq
        go_wp2
        go_ret
        exact ⟨rfl, HR2.out.bel hd2, grownBy_trans HG2.out (grownBy_of_below hd2)⟩
    · cases a2 with
      | none => have := hnn rfl; omega
      | some x =>
        obtain ⟨x, off, sp⟩ := x
        have hsp' := (hsp _ rfl (by omega)).1
        simp at hsp'
        subst hsp'
        have hv := fun q => run_string_bytes (W2.drewN q) (some ⟨x, off + at2, none⟩) (cap2 - at2) ((b.drop at2).take m) (HB _ (fun k hk => ⟨x, off, rfl, rfl⟩) q)
        rw [hlen] at hv
        clear HB hlen
        have hw0 : IntKind.i64.wrap (at2 : Int) = (at2 : Int) := by rw [IntKind.wrap_i64]; omega
        clear hw
        go_quiet (fail)
        have hd2 : Below W2.heap.size W2 (W2.drewN nq) := below_drewN (Below.refl _ _) nq
        go_wp2
        go_ret
        exact ⟨rfl, HR2.out.bel hd2, grownBy_trans HG2.out (grownBy_of_below hd2)⟩

set_option maxRecDepth 100000 in
set_option maxHeartbeats 1000000 in
theorem refLeft (bm : Nat) (b : List UInt8) (at_ : Nat) (sh : Bool) (w : World) (h : IsRef w bm b at_ sh) (hbl : b.length ≤ 100000000000) :
    Calls Try.prog 51 #[.pointer (some ⟨bm, 0, none⟩)] w (fun e w' => e = .returned (.int .i64 (rdLeft (b.drop at_) sh : Nat)) ∧ ∃ q, w' = w.drewN q) := by
  obtain ⟨a, cap, hg, _, _, _, hat, _⟩ := id h
  have hc0 := cell_of_row w bm 0 _ _ _ hg
  have hc1 := cell_of_row w bm 1 _ _ _ hg
  have hc2 := cell_of_row w bm 2 _ _ _ hg
  clear hg h
  simp at hc0 hc1 hc2
  cases sh with
  | true =>
    go_enter Try.func51, Try.ntmps51
    go_wp2
    go_ret
    exact ⟨by simp [rdLeft], 0, rfl⟩
  | false =>
    have hw : IntKind.i64.wrap ((b.length : Int) - (at_ : Int)) = (b.length : Int) - (at_ : Int) := by rw [IntKind.wrap_i64]; omega
    go_enter Try.func51, Try.ntmps51
    go_wp2
    go_quiet (fail)
    clear hw
    go_wp2
    go_ret
    exact ⟨by simp [rdLeft]; omega, _, rfl⟩
end Go.Proofs.Ytiihemmonncioaa
