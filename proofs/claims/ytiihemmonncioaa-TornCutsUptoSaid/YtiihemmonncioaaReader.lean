/- Contracts of pack.Reader: New, take, Number, Text, Left, Short. -/
import Derived.Test.YtiihemmonncioaaPackPure
import Derived.Test.YtiihemmonncioaaBytes
import Derived.Outline
import Derived.WalkSpells
import Derived.WalkLawsBesides
namespace Go.Proofs.Ytiihemmonncioaa
open Go.RowKit

/-- Block br is a reader: the bytes that are left, whether it is short. -/
def IsReader (w : World) (br : Nat) (l : List UInt8) (sh : Bool) : Prop :=
  ∃ a cap, w.heap[br]? = some (.cells #[.slice a l.length cap, .bool sh] 91 (0, 0)) ∧ IsBytes w a l ∧ l.length ≤ cap ∧ cap ≤ maxLen ∧ (∀ b off, a = some ⟨b, off, none⟩ → 0 < cap → b < br) ∧ (a = none → cap = 0) ∧ ∀ x, a = some x → 0 < cap → x.spot = none ∧ x.block < w.heap.size

/-- A slice that reads l, in a world. -/
def Reads (w : World) (v : Value) (l : List UInt8) : Prop := ∃ a cap, v = .slice a l.length cap ∧ IsBytes w a l ∧ l.length ≤ cap ∧ cap ≤ maxLen ∧ (a = none → cap = 0) ∧ ∀ x, a = some x → 0 < cap → x.spot = none ∧ x.block < w.heap.size

theorem packTake_short (br : Nat) (l : List UInt8) (sh : Bool) (n : Int) (w : World) (h : IsReader w br l sh) (hs : sh = true ∨ (l.length : Int) < n) :
    Calls Try.prog 54 #[.pointer (some ⟨br, 0, none⟩), .int .i64 n] w fun e w' => e = .returned (.slice none 0 0) ∧ w.setCell ⟨br, 1, none⟩ (.bool true) = w' := by
  obtain ⟨a, cap, hg, hb, h1, h2, h3, h4, h5⟩ := h
  have hc0 := cell_of_row w br 0 _ _ _ hg
  have hc1 := cell_of_row w br 1 _ _ _ hg
  have hf := frozen_of_row w br 1 _ _ hg
  have HG := Lib.hid hg
  clear hg hb
  simp at hc0 hc1
  unfold maxLen at h2
  cases sh with
  | true =>
    go_enter Try.func54, Try.ntmps54
    go_wp2
    go_ret
    exact ⟨rfl, rfl⟩
  | false =>
    have hs' : (l.length : Int) < n := by simpa using hs
    have hd : decide ((l.length : Int) < n) = true := decide_eq_true hs'
    go_enter Try.func54, Try.ntmps54
    go_wp2
    go_ret
    exact ⟨rfl, rfl⟩

theorem IsBytes.setCell {w : World} {a : Option Addr} {l : List UInt8} (h : IsBytes w a l) (p : Addr) (u : Value) (hne : ∀ b off, a = some ⟨b, off, none⟩ → 0 < l.length → b ≠ p.block) : IsBytes (w.setCell p u) a l := by
  intro i hi
  obtain ⟨b, off, h1, h2, h3⟩ := h i hi
  refine ⟨b, off, h1, by simpa [World.setCell] using h2, ?_⟩
  rw [← h3]
  exact World.cell?_of_block (w := w) (heap_setCell_other w p b u (hne b off h1 (by omega)))
theorem IsBytes.take {w : World} {a : Option Addr} {l : List UInt8} (h : IsBytes w a l) (n : Nat) : IsBytes w a (l.take n) := by
  intro i hi
  have hi' : i < l.length := by simp at hi; omega
  obtain ⟨b, off, h1, h2, h3⟩ := h i hi'
  exact ⟨b, off, h1, h2, by rw [h3]; simp⟩
theorem IsBytes.drop {w : World} {b off : Nat} {l : List UInt8} (h : IsBytes w (some ⟨b, off, none⟩) l) (n : Nat) : IsBytes w (some ⟨b, off + n, none⟩) (l.drop n) := by
  intro i hi
  have hi' : n + i < l.length := by simp at hi; omega
  obtain ⟨b', off', h1, h2, h3⟩ := h (n + i) hi'
  cases h1
  exact ⟨b, off + n, rfl, h2, by rw [Nat.add_assoc, h3]; simp⟩
theorem grownBy_setCell (w : World) (p : Addr) (u : Value) : w.grownBy (w.setCell p u) (some p.block) :=
  ⟨rfl, rfl, rfl, by simp [World.setCell], fun k _ hk => heap_setCell_other w p k u (fun e => hk (by rw [e]))⟩
/-- What a take that is not short leaves. -/
def TakeOk (br : Nat) (l : List UInt8) (n : Nat) (w : World) (e : Ending) (w' : World) : Prop := ∃ v, e = .returned v ∧ Reads w' v (l.take n) ∧ IsReader w' br (l.drop n) false ∧ w.grownBy w' (some br)
theorem takeOk_mk {br : Nat} {l : List UInt8} {n cap cap2 : Nat} {w : World} {a a2 : Option Addr} (hn : n ≤ l.length) (hg : w.heap[br]? = some (.cells #[.slice a l.length cap, .bool false] 91 (0, 0))) (hb : IsBytes w a l) (h1 : l.length ≤ cap) (h2 : cap ≤ maxLen)
    (h3 : ∀ b off, a = some ⟨b, off, none⟩ → 0 < cap → b < br) (h4 : a = none → cap = 0) (h5 : ∀ x, a = some x → 0 < cap → x.spot = none ∧ x.block < w.heap.size) (hb2 : IsBytes w a2 (l.drop n)) (h12 : l.length - n ≤ cap2) (h22 : cap2 ≤ maxLen) (h32 : ∀ b off, a2 = some ⟨b, off, none⟩ → 0 < cap2 → b < br) (h42 : a2 = none → cap2 = 0) (h52 : ∀ x, a2 = some x → 0 < cap2 → x.spot = none ∧ x.block < w.heap.size) (m : Nat) (hm : m = l.length - n) :
    TakeOk br l n w (.returned (.slice a n cap)) (w.setCell ⟨br, 0, none⟩ (.slice a2 m cap2)) := by
  subst hm
  refine ⟨_, rfl, ⟨a, cap, by simp; omega, (hb.setCell _ _ (fun b off e hl => Nat.ne_of_lt (h3 b off e (by omega)))).take n, by simp; omega, h2, h4, fun x hx hc => by simpa [World.setCell] using h5 x hx hc⟩, ⟨a2, cap2, ?_, hb2.setCell _ _ (fun b off e hl => Nat.ne_of_lt (h32 b off e (by simp at hl; omega))), by simpa using h12, h22, h32, h42, fun x hx hc => by simpa [World.setCell] using h52 x hx hc⟩, grownBy_setCell w _ _⟩
  rw [heap_setCell_same w br 0 _ _ _ hg]
  simp
set_option maxHeartbeats 1000000 in
theorem packTake_ok (br : Nat) (l : List UInt8) (n : Nat) (w : World) (h : IsReader w br l false) (hn : n ≤ l.length) :
    Calls Try.prog 54 #[.pointer (some ⟨br, 0, none⟩), .int .i64 n] w (TakeOk br l n w) := by
  obtain ⟨a, cap, hg, hb, h1, h2, h3, h4, h5⟩ := h
  have hc0 := cell_of_row w br 0 _ _ _ hg
  have hc1 := cell_of_row w br 1 _ _ _ hg
  have hf := frozen_of_row w br 0 _ _ hg
  have HG := Lib.hid hg
  have HB := Lib.hid hb
  have H2 := Lib.hid h2
  have H3 := Lib.hid h3
  clear hg hb h3
  simp at hc0 hc1
  unfold maxLen at h2
  have hd : decide ((l.length : Int) < (n : Int)) = false := by simp; omega
  have hd' : decide (l.length < n) = false := by simp; omega
  have H4 := Lib.hid h4
  have H5 := Lib.hid h5
  clear h4 h5
  by_cases hnc : n = cap
  · subst hnc
    have hl0 : l.length - n = 0 := by omega
    have HL0 := Lib.hid hl0
    clear hl0
    have hn0 : l.drop n = [] := List.drop_of_length_le (by omega)
    have HN0 := Lib.hid hn0
    clear hn0
    cases a with
    | none =>
      have hcap := H4.out rfl
      subst hcap
      go_enter Try.func54, Try.ntmps54
      go_wp2
      go_ret
      exact takeOk_mk hn HG.out HB.out h1 H2.out H3.out (fun _ => rfl) H5.out (by rw [HN0.out]; exact IsBytes.nil _ _) (by omega) (Nat.zero_le _) (fun _ _ e _ => by cases e) (fun _ => rfl) (fun x hx => by cases hx) _ (by omega)
    | some x =>
      go_enter Try.func54, Try.ntmps54
      go_wp2
      go_ret
      exact takeOk_mk hn HG.out HB.out h1 H2.out H3.out H4.out H5.out (by rw [HN0.out]; exact IsBytes.nil _ _) (by omega) (by unfold maxLen; omega) (fun _ _ _ h => by omega) (fun e => by cases e) (fun x _ h => by omega) _ (by omega)
  · have hlt : n < cap := by omega
    cases a with
    | none => have := H4.out rfl; omega
    | some x =>
      obtain ⟨b, off, sp⟩ := x
      have hsp := (H5.out _ rfl (by omega)).1
      simp at hsp
      subst hsp
      have HN : Hid (b < br) := H3.out b off rfl (by omega)
      have HS : Hid (b < w.heap.size) := (H5.out _ rfl (by omega)).2
      go_enter Try.func54, Try.ntmps54
      go_wp2
      go_ret
      refine takeOk_mk hn HG.out HB.out h1 H2.out H3.out H4.out H5.out (HB.out.drop n) ?_ ?_ ?_ ?_ ?_ _ ?_
      · omega
      · have := H2.out; omega
      · intro b' off' e _; cases e; exact HN.out
      · intro e; cases e
      · intro x hx _; cases hx; exact ⟨rfl, HS.out⟩
      · first | rfl | omega

theorem packNew (a : Option Addr) (n cap : Nat) (w : World) :
    Calls Try.prog 37 #[.slice a n cap] w fun e w' => e = .returned (.pointer (some ⟨w.heap.size, 0, none⟩)) ∧ w.alloc (.cells #[.slice a n cap, .bool false] 91) = w' := by
  go_enter Try.func37, Try.ntmps37
  go_wp2
  go_ret
  exact ⟨rfl, rfl⟩
theorem isReader_new {w : World} {a : Option Addr} {cap : Nat} {l : List UInt8} (h : Reads w (.slice a l.length cap) l) : IsReader (w.alloc (.cells #[.slice a l.length cap, .bool false] 91)) w.heap.size l false := by
  obtain ⟨a', cap', hv, hb, h1, h2, h3, h4⟩ := h
  simp only [Value.slice.injEq] at hv
  obtain ⟨rfl, _, rfl⟩ := hv
  refine ⟨a, cap, heap_alloc_new w _, hb.alloc _, h1, h2, fun b off e hc => ?_, h3, fun x hx hc => ⟨(h4 x hx hc).1, by have := (h4 x hx hc).2; simp; omega⟩⟩
  exact (h4 _ e hc).2

theorem IsReader.bel {w w' : World} {br : Nat} {l : List UInt8} {sh : Bool} (h : IsReader w br l sh) (hb : Below w.heap.size w w') : IsReader w' br l sh := by
  obtain ⟨a, cap, hg, h0, h1, h2, h3, h4, h5⟩ := h
  exact ⟨a, cap, by rw [hb.block br (Array.getElem?_eq_some_iff.1 hg).1]; exact hg, h0.bel hb, h1, h2, h3, h4, fun x hx hc => ⟨(h5 x hx hc).1, Nat.lt_of_lt_of_le (h5 x hx hc).2 hb.size⟩⟩
theorem IsReader.lt {w : World} {br : Nat} {l : List UInt8} {sh : Bool} (h : IsReader w br l sh) : br < w.heap.size := by
  obtain ⟨a, cap, hg, _⟩ := h
  exact (Array.getElem?_eq_some_iff.1 hg).1
theorem below_grownBy {B br : Nat} {w w' : World} (hg : w.grownBy w' (some br)) (hB : B ≤ w.heap.size) (hbr : B ≤ br) : Below B w w' :=
  (Below.refl B w).grown hg hB (fun k hk => by cases hk; exact hbr)
theorem OwnB.reads {B : Nat} {w : World} {v : Value} {l : List UInt8} (h : OwnB B w v l) : Reads w v l := by
  rcases h.2 with ⟨rfl, h0⟩ | ⟨g, cap, cur, rfl, hbg, hg, hnc, hcm, hcs, htake⟩
  · have : l = [] := List.eq_nil_of_length_eq_zero h0
    subst this
    exact ⟨none, 0, rfl, IsBytes.nil _ _, Nat.le_refl _, Nat.zero_le _, fun _ => rfl, fun x hx => by cases hx⟩
  · obtain ⟨a, cap', hv, hb, hc1, hc2⟩ := h.out
    simp only [Value.slice.injEq] at hv
    obtain ⟨rfl, _, rfl⟩ := hv
    exact ⟨_, cap, rfl, hb, hc1, hc2, fun e => (by cases e), fun x hx _ => by cases hx; exact ⟨rfl, (Array.getElem?_eq_some_iff.1 hg).1⟩⟩
/-- What a reader tells as a number, and what it is then. -/
def rdNum (k : Int) (l : List UInt8) (sh : Bool) : Nat × List UInt8 × Bool :=
  if k < 1 ∨ 8 < k then (0, l, sh) else if sh = true ∨ (l.length : Int) < k then (0, l, true) else (numL (l.take k.toNat), l.drop k.toNat, false)
def NumOk (br : Nat) (r : Nat × List UInt8 × Bool) (w : World) (e : Ending) (w' : World) : Prop := e = .returned (.int .u64 (r.1 : Int)) ∧ IsReader w' br r.2.1 r.2.2 ∧ w.grownBy w' (some br)
theorem grownBy_refl (w : World) (r : Option Nat) : w.grownBy w r := ⟨rfl, rfl, rfl, Nat.le_refl _, fun _ _ _ => rfl⟩
theorem isReader_short {w : World} {br : Nat} {l : List UInt8} {sh : Bool} (h : IsReader w br l sh) : IsReader (w.setCell ⟨br, 1, none⟩ (.bool true)) br l true := by
  obtain ⟨a, cap, hg, hb, h1, h2, h3, h4, h5⟩ := h
  refine ⟨a, cap, by rw [heap_setCell_same w br 1 _ _ _ hg]; simp, hb.setCell _ _ (fun b off e hl => Nat.ne_of_lt (h3 b off e (by omega))), h1, h2, h3, h4, fun x hx hc => by simpa [World.setCell] using h5 x hx hc⟩

set_option maxHeartbeats 1000000 in
theorem packNumber (br : Nat) (l : List UInt8) (sh : Bool) (k : Int) (w : World) (h : IsReader w br l sh) :
    Calls Try.prog 38 #[.pointer (some ⟨br, 0, none⟩), .int .i64 k] w (NumOk br (rdNum k l sh) w) := by
  have HR := Lib.hid h
  clear h
  by_cases hk1 : k < 1
  · have hz : rdNum k l sh = (0, l, sh) := by unfold rdNum; rw [if_pos (.inl hk1)]
    rw [hz]
    clear hz
    go_enter Try.func38, Try.ntmps38
    go_wp2
    go_ret
    exact ⟨rfl, HR.out, grownBy_refl _ _⟩
  by_cases hk8 : 8 < k
  · have hz : rdNum k l sh = (0, l, sh) := by unfold rdNum; rw [if_pos (.inr hk8)]
    rw [hz]
    clear hz
    go_enter Try.func38, Try.ntmps38
    go_wp2
    go_ret
    exact ⟨rfl, HR.out, grownBy_refl _ _⟩
  obtain ⟨n, rfl⟩ := Int.eq_ofNat_of_zero_le (show 0 ≤ k by omega)
  by_cases hs : sh = true ∨ (l.length : Int) < (n : Int)
  · have hz : rdNum n l sh = (0, l, true) := by unfold rdNum; rw [if_neg (by omega), if_pos hs]
    rw [hz]
    clear hz
    have HS := Lib.hid hs
    clear hs
    go_enter Try.func38, Try.ntmps38
    go_wp2_with fail
    refine (packTake_short br l sh n _ HR.out HS.out).mono ?_
    rintro e w1 ⟨rfl, rfl⟩
    go_wp2_with fail
    go_loop [5, 6, 7, 18] (fun x _ _ i => x = .int .u64 0 ∧ i = .int .i64 0) (fun _ _ _ _ => 0)
    case atStart => exact ⟨rfl, rfl⟩
    case round =>
      obtain ⟨rfl, rfl⟩ := hrel
      go_wp2
      go_ret
      exact ⟨rfl, isReader_short HR.out, grownBy_setCell _ _ _⟩
  · have hz : rdNum n l sh = (numL (l.take n), l.drop n, false) := by unfold rdNum; rw [if_neg (by omega), if_neg hs]; rfl
    rw [hz]
    clear hz
    have hsh : sh = false := by cases sh <;> simp_all
    subst hsh
    have hnl : n ≤ l.length := by simp at hs; omega
    clear hs
    go_enter Try.func38, Try.ntmps38
    go_wp2_with fail
    refine (packTake_ok br l n _ HR.out hnl).mono ?_
    rintro e w1 ⟨v, rfl, ⟨a, cap, rfl, hb, h1, h2, h3, h4⟩, hr, hg⟩
    have hlen : (l.take n).length = n := by simp; omega
    rw [hlen]
    have HB := Lib.hid hb
    have HR2 := Lib.hid hr
    have HG := Lib.hid hg
    have HL := Lib.hid hlen
    clear hb h1 h2 h3 h4 hr hg hlen
    generalize l.take n = t at *
    go_wp2_with fail
    go_loop [5, 6, 7, 18] (fun x _ _ i => ∃ j m : Nat, j ≤ n ∧ i = .int .i64 j ∧ x = .int .u64 m ∧ Hid (m = numL (t.take j))) (fun _ _ _ i => n - (intOf i).toNat)
    case atStart => exact ⟨0, 0, by omega, rfl, rfl, rfl⟩
    case round =>
      obtain ⟨j, m, hj, rfl, rfl, HM⟩ := hrel
      by_cases hlt : j < n
      · have hjl : j < t.length := by rw [HL.out]; exact hlt
        obtain ⟨b, off, rfl, _, hc⟩ := HB.out j hjl
        have hbt := (t[j]).toNat_lt
        have ht : t.take (j + 1) = t.take j ++ [t[j]] := by rw [List.take_succ_eq_append_getElem hjl]
        have hm256 : m < 256 ^ j := by rw [HM.out]; have := numL_lt (t.take j); simp at this; rw [show min j t.length = j by omega] at this; exact this
        have hnum : numL (t.take (j + 1)) = m + 256 ^ j * (t[j]).toNat := by rw [ht, numL_snoc, ← HM.out]; simp; rw [show min j t.length = j by omega]
        have HN := Lib.hid hnum
        clear ht hnum
        generalize t[j] = y at *
        have HO := Lib.hid (or_shift m y.toNat j (by omega) hm256 hbt)
        clear hm256
        go_wp2
        go_round
        case rel => exact ⟨j + 1, m + 256 ^ j * y.toNat, by omega, by go_num, by rw [HO.out], HN.out.symm⟩
        case measure => simp [intOf]; omega
      · obtain rfl : j = n := by omega
        have hE : m = numL t := by rw [HM.out, List.take_of_length_le (by rw [HL.out]; exact Nat.le_refl _)]
        have HE := Lib.hid hE
        clear hE
        go_wp2
        go_ret
        exact ⟨by rw [HE.out]; rfl, HR2.out, HG.out⟩

theorem rdNum_lt (k : Int) (l : List UInt8) (sh : Bool) : (rdNum k l sh).1 < 18446744073709551616 := by
  unfold rdNum
  split
  · simp
  · rename_i hk
    split
    · simp
    · have h1 := numL_lt (l.take k.toNat)
      have h2 : (l.take k.toNat).length ≤ 8 := by simp; omega
      have h3 := Nat.pow_le_pow_right (n := 256) (by omega) h2
      simp only
      omega
/-- What a reader tells as a text, and what it is then. -/
def rdText (l : List UInt8) (sh : Bool) : List UInt8 × List UInt8 × Bool :=
  let r := rdNum 2 l sh
  if r.2.2 = true ∨ r.2.1.length < r.1 then ([], r.2.1, true) else (r.2.1.take r.1, r.2.1.drop r.1, false)
def TextOk (br : Nat) (r : List UInt8 × List UInt8 × Bool) (w : World) (e : Ending) (w' : World) : Prop := e = .returned (.string ⟨r.1.toArray⟩) ∧ IsReader w' br r.2.1 r.2.2 ∧ w.grownBy w' (some br)
theorem grownBy_trans {w w1 w2 : World} {br : Nat} (h : w.grownBy w1 (some br)) (k : w1.grownBy w2 (some br)) : w.grownBy w2 (some br) :=
  ⟨k.os.trans h.os, k.tape.trans h.tape, k.output.trans h.output, Nat.le_trans h.size k.size, fun i hi hne => (k.block i (Nat.lt_of_lt_of_le hi h.size) hne).trans (h.block i hi hne)⟩

set_option maxRecDepth 100000 in
set_option maxHeartbeats 1000000 in
theorem packText (br : Nat) (l : List UInt8) (sh : Bool) (w : World) (h : IsReader w br l sh) :
    Calls Try.prog 60 #[.pointer (some ⟨br, 0, none⟩)] w (TextOk br (rdText l sh) w) := by
  have hlt := rdNum_lt 2 l sh
  have hlt2 : (rdNum 2 l sh).1 < 65536 := by
    unfold rdNum
    rw [if_neg (by omega)]
    split
    · simp
    · have h1 := numL_lt (l.take (2 : Int).toNat)
      have h2 : (l.take (2 : Int).toNat).length ≤ 2 := by simp; omega
      have h3 := Nat.pow_le_pow_right (n := 256) (by omega) h2
      simp only
      omega
  have HR : Hid (rdText l sh = (if (rdNum 2 l sh).2.2 = true ∨ (rdNum 2 l sh).2.1.length < (rdNum 2 l sh).1 then ([], (rdNum 2 l sh).2.1, true) else ((rdNum 2 l sh).2.1.take (rdNum 2 l sh).1, (rdNum 2 l sh).2.1.drop (rdNum 2 l sh).1, false))) := rfl
  have HC := fun w h => packNumber br l sh 2 w h
  have H := Lib.hid h
  clear h
  generalize rdNum 2 l sh = r at *
  obtain ⟨m, l', sh'⟩ := r
  simp only at HR hlt hlt2
  have HC' := Lib.hid HC
  clear HC
  by_cases hs : sh' = true ∨ l'.length < m
  · have hz : rdText l sh = ([], l', true) := by rw [HR.out, if_pos hs]
    rw [hz]
    clear hz HR
    have HS : Hid (sh' = true ∨ (l'.length : Int) < (m : Int)) := by rcases hs with h | h; exact .inl h; exact .inr (by omega)
    clear hs
    go_enter Try.func60, Try.ntmps60
    go_wp2_with fail
    refine (HC'.out _ H.out).mono ?_
    rintro e w1 ⟨rfl, hr, hg⟩
    have HR1 := Lib.hid hr
    have HG := Lib.hid hg
    clear hr hg
    simp only at HR1
    go_wp2_with fail
    refine (packTake_short br l' sh' m _ HR1.out HS.out).mono ?_
    rintro e w2 ⟨rfl, rfl⟩
    have kc := fun w => run_string_bytes w none 0 [] (IsBytes.nil _ _)
    simp only [List.length_nil] at kc
    go_wp2
    go_ret
    exact ⟨rfl, isReader_short HR1.out, grownBy_trans HG.out (grownBy_setCell _ _ _)⟩
  · have hz : rdText l sh = (l'.take m, l'.drop m, false) := by rw [HR.out, if_neg hs]
    rw [hz]
    clear hz HR
    have hsh : sh' = false := by cases sh' <;> simp_all
    subst hsh
    have hml : m ≤ l'.length := by simp at hs; omega
    clear hs
    go_enter Try.func60, Try.ntmps60
    go_wp2_with fail
    refine (HC'.out _ H.out).mono ?_
    rintro e w1 ⟨rfl, hr, hg⟩
    have HR1 := Lib.hid hr
    have HG := Lib.hid hg
    clear hr hg
    simp only at HR1
    go_wp2_with fail
    refine (packTake_ok br l' m _ HR1.out hml).mono ?_
    rintro e w2 ⟨v, rfl, ⟨a, cap, rfl, hb, h1, h2, h3, h4⟩, hr, hg⟩
    have HR2 := Lib.hid hr
    have HG2 := Lib.hid hg
    have kc := run_string_bytes w2 a cap _ hb
    have hlen : (l'.take m).length = m := by simp; omega
    rw [hlen] at kc ⊢
    clear hlen
    clear hb h1 h2 h3 h4 hr hg
    go_wp2
    go_ret
    exact ⟨rfl, HR2.out, grownBy_trans HG.out HG2.out⟩

def rdLeft (l : List UInt8) (sh : Bool) : Nat := if sh then 0 else l.length
theorem packLeft (br : Nat) (l : List UInt8) (sh : Bool) (w : World) (h : IsReader w br l sh) :
    Calls Try.prog 40 #[.pointer (some ⟨br, 0, none⟩)] w fun e w' => e = .returned (.int .i64 (rdLeft l sh : Int)) ∧ w = w' := by
  obtain ⟨a, cap, hg, hb, h1, h2, h3, h4, h5⟩ := h
  have hc0 := cell_of_row w br 0 _ _ _ hg
  have hc1 := cell_of_row w br 1 _ _ _ hg
  clear hg hb h3 h4 h5
  simp at hc0 hc1
  unfold maxLen at h2
  cases sh with
  | true =>
    go_enter Try.func40, Try.ntmps40
    go_wp2
    go_ret
    exact ⟨rfl, rfl⟩
  | false =>
    go_enter Try.func40, Try.ntmps40
    go_wp2
    go_ret
    exact ⟨rfl, rfl⟩
theorem packShort (br : Nat) (l : List UInt8) (sh : Bool) (w : World) (h : IsReader w br l sh) :
    Calls Try.prog 39 #[.pointer (some ⟨br, 0, none⟩)] w fun e w' => e = .returned (.bool sh) ∧ w = w' := by
  obtain ⟨a, cap, hg, hb, h1, h2, h3, h4, h5⟩ := h
  have hc1 := cell_of_row w br 1 _ _ _ hg
  clear hg hb h3 h4 h5
  simp at hc1
  go_enter Try.func39, Try.ntmps39
  go_wp2
  go_ret
  exact ⟨rfl, rfl⟩
end Go.Proofs.Ytiihemmonncioaa
