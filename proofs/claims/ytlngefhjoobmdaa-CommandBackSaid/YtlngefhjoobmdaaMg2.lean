/- Texts laid together: CmdState CmdRead. -/
import Derived.Test.YtlngefhjoobmdaaMg1
import Derived.WalkLawsBesides
import Derived.Handy
namespace Go.Proofs.Ytlngefhjoobmdaa
open Go.RowKit
abbrev RS := List UInt8 × Bool
def rN (k : Int) (s : RS) : Nat := (rdNum k s.1 s.2).1
def rN' (k : Int) (s : RS) : RS := ((rdNum k s.1 s.2).2.1, (rdNum k s.1 s.2).2.2)
def rT (s : RS) : ByteArray := ⟨(rdText s.1 s.2).1.toArray⟩
def rT' (s : RS) : RS := ((rdText s.1 s.2).2.1, (rdText s.1 s.2).2.2)
theorem rN_lt (k : Nat) (s : RS) : rN k s < 256 ^ k := by
  have h0 : 0 < 256 ^ k := Nat.pow_pos (by omega)
  unfold rN rdNum
  split
  · exact h0
  · split
    · exact h0
    · rename_i h1 h2
      have h3 := numL_lt (s.1.take (k : Int).toNat)
      have h4 : (s.1.take (k : Int).toNat).length = k := by rw [List.length_take, Int.toNat_natCast]; omega
      rw [h4] at h3
      exact h3
theorem rN1 (s : RS) : rN 1 s < 256 := rN_lt 1 s
theorem rN4 (s : RS) : rN 4 s < 4294967296 := rN_lt 4 s
theorem rN8 (s : RS) : rN 8 s < 18446744073709551616 := rN_lt 8 s
theorem rT_size (s : RS) : (rT s).size ≤ 65535 := by
  unfold rT rdText
  simp only
  split
  · exact Nat.zero_le _
  · have h1 : (rdNum 2 s.1 s.2).1 < 256 ^ 2 := rN_lt 2 s
    show ((rdNum 2 s.1 s.2).2.1.take (rdNum 2 s.1 s.2).1).toArray.size ≤ 65535
    rw [List.size_toArray, List.length_take]
    omega
/-- What may turn: the reader's two blocks, and new ones. -/
structure TG (bq br : Nat) (w w' : World) : Prop where
  os : w'.os = w.os
  tape : w'.tape = w.tape
  output : w'.output = w.output
  size : w.heap.size ≤ w'.heap.size
  block : ∀ k, k < w.heap.size → k ≠ bq → k ≠ br → w'.heap[k]? = w.heap[k]?
theorem TG.refl (bq br : Nat) (w : World) : TG bq br w w := ⟨rfl, rfl, rfl, Nat.le_refl _, fun _ _ _ _ => rfl⟩
theorem TG.trans {bq br : Nat} {w w1 w2 : World} (h : TG bq br w w1) (k : TG bq br w1 w2) : TG bq br w w2 :=
  ⟨k.os.trans h.os, k.tape.trans h.tape, k.output.trans h.output, Nat.le_trans h.size k.size, fun i hi h1 h2 => (k.block i (Nat.lt_of_lt_of_le hi h.size) h1 h2).trans (h.block i hi h1 h2)⟩
theorem TG.of_below {bq br : Nat} {w w' : World} (h : Below w.heap.size w w') : TG bq br w w' := ⟨h.os, h.tape, h.output, h.size, fun k hk _ _ => h.block k hk⟩
theorem TG.of_grown {bq br : Nat} {w w' : World} (h : w.grownBy w' (some br)) : TG bq br w w' := ⟨h.os, h.tape, h.output, h.size, fun k hk _ h2 => h.block k hk (fun e => h2 (by cases e; rfl))⟩
theorem TG.of_grown' {bq br : Nat} {w w' : World} (h : w.grownBy w' (some bq)) : TG bq br w w' := ⟨h.os, h.tape, h.output, h.size, fun k hk h2 _ => h.block k hk (fun e => h2 (by cases e; rfl))⟩
theorem TG.below {bq br B : Nat} {w w' : World} (h : TG bq br w w') (hB : B ≤ w.heap.size) (h1 : B ≤ bq) (h2 : B ≤ br) : Below B w w' :=
  ⟨h.os, h.tape, h.output, h.size, fun k hk => h.block k (by omega) (by omega) (by omega)⟩
abbrev RI := World → RS → Bool → Prop
/-- A reader's state: what does not turn it. -/
structure Good (bq br : Nat) (I : RI) : Prop where
  bel : ∀ {w w' s bad}, I w s bad → Below w.heap.size w w' → I w' s bad
  store : ∀ {w s bad} (p : Addr) (u : Value), I w s bad → br < p.block → p.block ≠ bq → I (w.setCell p u) s bad
  lt : ∀ {w s bad}, I w s bad → bq < w.heap.size ∧ br < w.heap.size
structure COk (bq br : Nat) (I : RI) (v : Value) (s' : RS) (bad' : Bool) (w : World) (e : Ending) (w' : World) : Prop where
  ret : e = .returned v
  rd : I w' s' bad'
  tg : TG bq br w w'
theorem IsReader.store {w : World} {br : Nat} {l : List UInt8} {sh : Bool} (h : IsReader w br l sh) (p : Addr) (u : Value) (hp : br < p.block) : IsReader (w.setCell p u) br l sh := by
  obtain ⟨a, cap, hg, hb, h1, h2, h3, h4, h5⟩ := h
  refine ⟨a, cap, (Below.heap_setCell _ _ _ _ (by omega)).trans hg, hb.setCell _ _ (fun b off e hl => by have := h3 b off e (by omega); omega), h1, h2, h3, h4, fun x hx hc => by simpa [World.setCell] using h5 x hx hc⟩
theorem IsRef.store {w : World} {br : Nat} {l : List UInt8} {at_ : Nat} {sh : Bool} (h : IsRef w br l at_ sh) (p : Addr) (u : Value) (hp : br < p.block) : IsRef (w.setCell p u) br l at_ sh := by
  obtain ⟨a, cap, hg, hb, h1, h2, h6, h3, h4, h5⟩ := h
  refine ⟨a, cap, (Below.heap_setCell _ _ _ _ (by omega)).trans hg, hb.setCell _ _ (fun b off e hl => by have := h3 b off e (by omega); omega), h1, h2, h6, h3, h4, fun x hx hc => by simpa [World.setCell] using h5 x hx hc⟩
/-- command's reader. -/
structure IsCR (bq br : Nat) (w : World) (s : RS) (bad : Bool) : Prop where
  box : w.heap[bq]? = some (.cells #[.pointer (some ⟨br, 0, none⟩), .bool bad] 74 (0, 0))
  rd : IsReader w br s.1 s.2
  ne : br < bq
/-- The reference's. -/
structure IsPR (bq br : Nat) (w : World) (s : RS) (bad : Bool) : Prop where
  box : w.heap[bq]? = some (.cells #[.pointer (some ⟨br, 0, none⟩), .bool bad] 87 (0, 0))
  rd : ∃ b at_, IsRef w br b at_ s.2 ∧ s.1 = b.drop at_ ∧ b.length ≤ 100000000000
  ne : br < bq
theorem IsRef.at_le {w : World} {bm : Nat} {b : List UInt8} {at_ : Nat} {sh : Bool} (h : IsRef w bm b at_ sh) : at_ ≤ b.length := by
  obtain ⟨_, _, _, _, _, _, h6, _⟩ := h
  exact h6
theorem IsRef.lt {w : World} {bm : Nat} {b : List UInt8} {at_ : Nat} {sh : Bool} (h : IsRef w bm b at_ sh) : bm < w.heap.size := by
  obtain ⟨_, _, hg, _⟩ := h
  exact (Array.getElem?_eq_some_iff.1 hg).1
theorem goodCR (bq br : Nat) : Good bq br (IsCR bq br) where
  bel h hb := ⟨(hb.block bq (Array.getElem?_eq_some_iff.1 h.box).1).trans h.box, h.rd.bel hb, h.ne⟩
  store p u h h1 h2 := ⟨(Below.heap_setCell _ _ _ _ (fun e => h2 e.symm)).trans h.box, h.rd.store p u h1, h.ne⟩
  lt h := ⟨(Array.getElem?_eq_some_iff.1 h.box).1, h.rd.lt⟩
theorem goodPR (bq br : Nat) : Good bq br (IsPR bq br) where
  bel h hb := by
    obtain ⟨b, at_, h1, h2, h3⟩ := h.rd
    exact ⟨(hb.block bq (Array.getElem?_eq_some_iff.1 h.box).1).trans h.box, ⟨b, at_, h1.bel hb, h2, h3⟩, h.ne⟩
  store p u h h1 h2 := by
    obtain ⟨b, at_, h3, h4, h5⟩ := h.rd
    exact ⟨(Below.heap_setCell _ _ _ _ (fun e => h2 e.symm)).trans h.box, ⟨b, at_, h3.store p u h1, h4, h5⟩, h.ne⟩
  lt h := by
    obtain ⟨b, at_, h3, _⟩ := h.rd
    exact ⟨(Array.getElem?_eq_some_iff.1 h.box).1, h3.lt⟩
/-- The boxes' cells. -/
structure BoxC (w : World) (bq br : Nat) (bad : Bool) : Prop where
  c0 : w.cell? ⟨bq, 0, none⟩ = some (.pointer (some ⟨br, 0, none⟩))
  c1 : w.cell? ⟨bq, 1, none⟩ = some (.bool bad)
  fr : w.frozen? ⟨bq, 1, none⟩ = false
theorem IsCR.cells {bq br : Nat} {w : World} {s : RS} {bad : Bool} (h : IsCR bq br w s bad) : BoxC w bq br bad := by
  have hc := fun j => cell_of_row w bq j _ _ _ h.box
  exact ⟨by simpa using hc 0, by simpa using hc 1, frozen_of_row w bq 1 _ _ h.box⟩
theorem IsPR.cells {bq br : Nat} {w : World} {s : RS} {bad : Bool} (h : IsPR bq br w s bad) : BoxC w bq br bad := by
  have hc := fun j => cell_of_row w bq j _ _ _ h.box
  exact ⟨by simpa using hc 0, by simpa using hc 1, frozen_of_row w bq 1 _ _ h.box⟩
theorem IsCR.setBad {bq br : Nat} {w : World} {s : RS} {bad : Bool} (h : IsCR bq br w s bad) (b : Bool) : IsCR bq br (w.setCell ⟨bq, 1, none⟩ (.bool b)) s b ∧ TG bq br w (w.setCell ⟨bq, 1, none⟩ (.bool b)) := by
  refine ⟨⟨by rw [heap_setCell_same w bq 1 _ _ _ h.box]; simp, h.rd.store _ _ h.ne, h.ne⟩, TG.of_grown' ⟨rfl, rfl, rfl, by simp [World.setCell], fun k _ hk => Below.heap_setCell _ _ _ _ (fun e => hk (by rw [e]))⟩⟩
theorem IsPR.setBad {bq br : Nat} {w : World} {s : RS} {bad : Bool} (h : IsPR bq br w s bad) (b : Bool) : IsPR bq br (w.setCell ⟨bq, 1, none⟩ (.bool b)) s b ∧ TG bq br w (w.setCell ⟨bq, 1, none⟩ (.bool b)) := by
  obtain ⟨b', at_, h3, h4, h5⟩ := h.rd
  refine ⟨⟨by rw [heap_setCell_same w bq 1 _ _ _ h.box]; simp, ⟨b', at_, h3.store _ _ h.ne, h4, h5⟩, h.ne⟩, TG.of_grown' ⟨rfl, rfl, rfl, by simp [World.setCell], fun k _ hk => Below.heap_setCell _ _ _ _ (fun e => hk (by rw [e]))⟩⟩
/-! ### numbers, texts -/
theorem crNum (bq br : Nat) (s : RS) (bad : Bool) (k : Int) (w : World) (h : IsCR bq br w s bad) : Calls Try.prog 21 #[.pointer (some ⟨br, 0, none⟩), .int .i64 k] w (COk bq br (IsCR bq br) (.int .u64 (rN k s : Int)) (rN' k s) bad w) := by
  refine (packNumber br s.1 s.2 k w h.rd).mono ?_
  rintro e w' ⟨h1, h2, h3⟩
  exact ⟨h1, ⟨(h3.block bq (Array.getElem?_eq_some_iff.1 h.box).1 (fun e => by cases e; have := h.ne; omega)).trans h.box, h2, h.ne⟩, TG.of_grown h3⟩
theorem crTxt (bq br : Nat) (s : RS) (bad : Bool) (w : World) (h : IsCR bq br w s bad) : Calls Try.prog 46 #[.pointer (some ⟨br, 0, none⟩)] w (COk bq br (IsCR bq br) (.string (rT s)) (rT' s) bad w) := by
  refine (packText br s.1 s.2 w h.rd).mono ?_
  rintro e w' ⟨h1, h2, h3⟩
  exact ⟨h1, ⟨(h3.block bq (Array.getElem?_eq_some_iff.1 h.box).1 (fun e => by cases e; have := h.ne; omega)).trans h.box, h2, h.ne⟩, TG.of_grown h3⟩
theorem prNum (bq br : Nat) (s : RS) (bad : Bool) (k : Int) (w : World) (h : IsPR bq br w s bad) : Calls Try.prog 28 #[.pointer (some ⟨br, 0, none⟩), .int .i64 k] w (COk bq br (IsPR bq br) (.int .u64 (rN k s : Int)) (rN' k s) bad w) := by
  obtain ⟨b, at_, h3, h4, h5⟩ := h.rd
  have he := refNum_rdNum k b at_ s.2 h3.at_le
  rw [← h4] at he
  refine (refNumber br b at_ s.2 k w h3 h5).mono ?_
  rintro e w' ⟨h1, h2, h6⟩
  refine ⟨by rw [h1]; unfold rN; rw [he.1], ⟨(h6.block bq (Array.getElem?_eq_some_iff.1 h.box).1 (fun e => by cases e; have := h.ne; omega)).trans h.box, ⟨b, (refNum k b at_ s.2).2.1, ?_, ?_, h5⟩, h.ne⟩, TG.of_grown h6⟩
  · unfold rN'; rw [he.1]; exact h2
  · unfold rN'; rw [he.1]
theorem prTxt (bq br : Nat) (s : RS) (bad : Bool) (w : World) (h : IsPR bq br w s bad) : Calls Try.prog 53 #[.pointer (some ⟨br, 0, none⟩)] w (COk bq br (IsPR bq br) (.string (rT s)) (rT' s) bad w) := by
  obtain ⟨b, at_, h3, h4, h5⟩ := h.rd
  have he := refTxt_rdText b at_ s.2 h3.at_le
  rw [← h4] at he
  refine (refReadText br b at_ s.2 w h3 h5).mono ?_
  rintro e w' ⟨h1, h2, h6⟩
  refine ⟨by rw [h1]; unfold rT; rw [he.1], ⟨(h6.block bq (Array.getElem?_eq_some_iff.1 h.box).1 (fun e => by cases e; have := h.ne; omega)).trans h.box, ⟨b, (refTxt b at_ s.2).2.1, ?_, ?_, h5⟩, h.ne⟩, TG.of_grown h6⟩
  · unfold rT'; rw [he.1]; exact h2
  · unfold rT'; rw [he.1]
end Go.Proofs.Ytlngefhjoobmdaa
namespace Go.Proofs.Ytlngefhjoobmdaa
open Go.RowKit
def okT (lo hi : Int) (t : ByteArray) : Bool := decide (lo ≤ (t.size : Int)) && decide ((t.size : Int) ≤ hi)
theorem COk.to {bq br : Nat} {I : RI} {v : Value} {s1 : RS} {b1 : Bool} {w W W' : World} (h : TG bq br w W) (hi : I W' s1 b1) (h2 : TG bq br W W') : COk bq br I v s1 b1 w (.returned v) W' := ⟨rfl, hi, h.trans h2⟩
set_option maxRecDepth 100000 in
set_option maxHeartbeats 2000000 in
theorem crMust (bq br : Nat) (s : RS) (bad ok : Bool) (w : World) (h : IsCR bq br w s bad) : Calls Try.prog 22 #[.pointer (some ⟨bq, 0, none⟩), .bool ok] w (COk bq br (IsCR bq br) (.tuple #[]) s (bad || !ok) w) := by
  obtain ⟨c0, c1, fr⟩ := h.cells
  have H := Lib.hid h
  clear h c0
  cases bad <;> cases ok
  · go_enter Try.func22, Try.ntmps22
    go_wp2
    go_returns
    exact ⟨rfl, (H.out.setBad true).1, (H.out.setBad true).2⟩
  · go_enter Try.func22, Try.ntmps22
    go_wp2
    go_returns
    exact ⟨rfl, (H.out.setBad false).1, (H.out.setBad false).2⟩
  · go_enter Try.func22, Try.ntmps22
    go_wp2
    go_returns
    exact ⟨rfl, (H.out.setBad true).1, (H.out.setBad true).2⟩
  · go_enter Try.func22, Try.ntmps22
    go_wp2
    go_returns
    exact ⟨rfl, (H.out.setBad true).1, (H.out.setBad true).2⟩
set_option maxRecDepth 100000 in
set_option maxHeartbeats 2000000 in
theorem crFlag (bq br : Nat) (s : RS) (bad : Bool) (w : World) (h : IsCR bq br w s bad) : Calls Try.prog 47 #[.pointer (some ⟨bq, 0, none⟩)] w (COk bq br (IsCR bq br) (.bool (decide (rN 1 s = 1))) (rN' 1 s) (bad || !decide (rN 1 s ≤ 1)) w) := by
  obtain ⟨c0, c1, fr⟩ := h.cells
  have H := Lib.hid h
  clear h c1 fr
  go_enter Try.func47, Try.ntmps47
  go_wp2_with fail
  refine (crNum bq br s bad 1 _ H.out).mono ?_
  rintro e W1 ⟨rfl, h1, g1⟩
  have H1 := Lib.hid h1
  have G1 := Lib.hid g1
  obtain ⟨d0, d1, df⟩ := h1.cells
  obtain ⟨n, hn⟩ : ∃ n, n = rN 1 s := ⟨_, rfl⟩
  rw [← hn]
  have HN := Lib.hid hn
  have bn : (n : Int) ≤ 255 := by have := rN1 s; omega
  clear h1 g1 hn
  obtain ⟨ok, hok⟩ : ∃ ok, ok = decide (n ≤ 1) := ⟨_, rfl⟩
  obtain ⟨fb, hfb⟩ : ∃ fb, fb = decide (n = 1) := ⟨_, rfl⟩
  have e1 : decide ((n : Int) ≤ 1) = ok := by rw [hok, Bool.eq_iff_iff]; simp <;> omega
  have e2 : decide (n ≤ 1) = ok := hok.symm
  have e3 : ((n : Int) == 1) = fb := by rw [hfb, Bool.eq_iff_iff]; simp <;> omega
  have e4 : decide ((n : Int) = 1) = fb := by rw [hfb, Bool.eq_iff_iff]; simp <;> omega
  have e5 : (n == 1) = fb := by rw [hfb, Bool.eq_iff_iff]; simp
  have HOK := Lib.hid hok
  have HFB := Lib.hid hfb
  clear hok hfb
  go_wp2_with fail
  refine (crMust bq br _ bad ok _ H1.out).mono ?_
  rintro e W2 ⟨rfl, h2, g2⟩
  have H2 := Lib.hid h2
  have G2 := Lib.hid (G1.out.trans g2)
  clear h2 g2
  go_wp2_with fail
  go_ret
  rw [← HN.out, ← HOK.out, ← HFB.out]
  exact ⟨rfl, H2.out, G2.out⟩
set_option maxRecDepth 100000 in
set_option maxHeartbeats 2000000 in
theorem prFlag (bq br : Nat) (s : RS) (bad : Bool) (w : World) (h : IsPR bq br w s bad) : Calls Try.prog 33 #[.pointer (some ⟨bq, 0, none⟩)] w (COk bq br (IsPR bq br) (.bool (decide (rN 1 s = 1))) (rN' 1 s) (bad || !decide (rN 1 s ≤ 1)) w) := by
  obtain ⟨c0, c1, fr⟩ := h.cells
  have H := Lib.hid h
  clear h c1 fr
  go_enter Try.func33, Try.ntmps33
  go_wp2_with fail
  refine (prNum bq br s bad 1 _ H.out).mono ?_
  rintro e W1 ⟨rfl, h1, g1⟩
  have H1 := Lib.hid h1
  have G1 := Lib.hid g1
  obtain ⟨d0, d1, df⟩ := h1.cells
  obtain ⟨n, hn⟩ : ∃ n, n = rN 1 s := ⟨_, rfl⟩
  rw [← hn]
  have HN := Lib.hid hn
  have bn : (n : Int) ≤ 255 := by have := rN1 s; omega
  clear h1 g1 hn
  obtain ⟨fb, hfb⟩ : ∃ fb, fb = decide (n = 1) := ⟨_, rfl⟩
  have e3 : ((n : Int) == 1) = fb := by rw [hfb, Bool.eq_iff_iff]; simp <;> omega
  have e4 : decide ((n : Int) = 1) = fb := by rw [hfb, Bool.eq_iff_iff]; simp <;> omega
  have e5 : (n == 1) = fb := by rw [hfb, Bool.eq_iff_iff]; simp
  have HFB := Lib.hid hfb
  clear hfb
  obtain ⟨ok, hok⟩ : ∃ ok, ok = decide (n ≤ 1) := ⟨_, rfl⟩
  have e1 : decide ((1 : Int) < (n : Int)) = !ok := by rw [hok, Bool.eq_iff_iff]; simp <;> omega
  have e2 : decide (1 < n) = !ok := by rw [hok, Bool.eq_iff_iff]; simp <;> omega
  have HOK := Lib.hid hok
  clear hok
  cases bad
  · go_wp2_with fail
    go_ret
    rw [← HN.out, ← HOK.out, ← HFB.out]
    exact COk.to G1.out (H1.out.setBad _).1 (H1.out.setBad _).2
  · go_wp2_with fail
    go_ret
    rw [← HN.out, ← HOK.out, ← HFB.out]
    exact COk.to G1.out (H1.out.setBad _).1 (H1.out.setBad _).2
set_option maxRecDepth 100000 in
set_option maxHeartbeats 2000000 in
theorem crText (bq br : Nat) (s : RS) (bad : Bool) (lo hi : Int) (w : World) (h : IsCR bq br w s bad) : Calls Try.prog 50 #[.pointer (some ⟨bq, 0, none⟩), .int .i64 lo, .int .i64 hi] w (COk bq br (IsCR bq br) (.string (rT s)) (rT' s) (bad || !okT lo hi (rT s)) w) := by
  obtain ⟨c0, c1, fr⟩ := h.cells
  have H := Lib.hid h
  clear h c1 fr
  go_enter Try.func50, Try.ntmps50
  go_wp2_with fail
  refine (crTxt bq br s bad _ H.out).mono ?_
  rintro e W1 ⟨rfl, h1, g1⟩
  have H1 := Lib.hid h1
  have G1 := Lib.hid g1
  obtain ⟨d0, d1, df⟩ := h1.cells
  obtain ⟨x, hx⟩ : ∃ x, x = rT s := ⟨_, rfl⟩
  rw [← hx]
  have HX := Lib.hid hx
  have bx : (x.size : Int) ≤ 65535 := by have := rT_size s; rw [← hx] at this; omega
  clear h1 g1 hx
  obtain ⟨p, hp⟩ : ∃ p, p = decide (lo ≤ (x.size : Int)) := ⟨_, rfl⟩
  obtain ⟨q, hq⟩ : ∃ q, q = decide ((x.size : Int) ≤ hi) := ⟨_, rfl⟩
  have HOK := Lib.hid (show okT lo hi x = (p && q) by rw [hp, hq]; rfl)
  have e1 : decide (lo ≤ (x.size : Int)) = p := hp.symm
  have e2 : decide ((x.size : Int) ≤ hi) = q := hq.symm
  clear hp hq
  cases p
  · go_wp2_with fail
    refine (crMust bq br _ bad false _ H1.out).mono ?_
    rintro e W2 ⟨rfl, h2, g2⟩
    have H2 := Lib.hid h2
    have G2 := Lib.hid (G1.out.trans g2)
    clear h2 g2
    go_wp2_with fail
    go_ret
    rw [← HX.out, HOK.out]
    exact ⟨rfl, H2.out, G2.out⟩
  · go_wp2_with fail
    refine (crMust bq br _ bad q _ H1.out).mono ?_
    rintro e W2 ⟨rfl, h2, g2⟩
    have H2 := Lib.hid h2
    have G2 := Lib.hid (G1.out.trans g2)
    clear h2 g2
    go_wp2_with fail
    go_ret
    rw [← HX.out, HOK.out]
    exact ⟨rfl, H2.out, G2.out⟩
set_option maxRecDepth 100000 in
set_option maxHeartbeats 2000000 in
theorem prText (bq br : Nat) (s : RS) (bad : Bool) (lo hi : Int) (w : World) (h : IsPR bq br w s bad) : Calls Try.prog 32 #[.pointer (some ⟨bq, 0, none⟩), .int .i64 lo, .int .i64 hi] w (COk bq br (IsPR bq br) (.string (rT s)) (rT' s) (bad || !okT lo hi (rT s)) w) := by
  obtain ⟨c0, c1, fr⟩ := h.cells
  have H := Lib.hid h
  clear h c1 fr
  go_enter Try.func32, Try.ntmps32
  go_wp2_with fail
  refine (prTxt bq br s bad _ H.out).mono ?_
  rintro e W1 ⟨rfl, h1, g1⟩
  have H1 := Lib.hid h1
  have G1 := Lib.hid g1
  obtain ⟨d0, d1, df⟩ := h1.cells
  obtain ⟨x, hx⟩ : ∃ x, x = rT s := ⟨_, rfl⟩
  rw [← hx]
  have HX := Lib.hid hx
  have bx : (x.size : Int) ≤ 65535 := by have := rT_size s; rw [← hx] at this; omega
  clear h1 g1 hx
  obtain ⟨p, hp⟩ : ∃ p, p = decide (lo ≤ (x.size : Int)) := ⟨_, rfl⟩
  obtain ⟨q, hq⟩ : ∃ q, q = decide ((x.size : Int) ≤ hi) := ⟨_, rfl⟩
  have HOK := Lib.hid (show okT lo hi x = (p && q) by rw [hp, hq]; rfl)
  have e1 : decide ((x.size : Int) < lo) = !p := by rw [hp, Bool.eq_iff_iff]; simp
  have e2 : decide (hi < (x.size : Int)) = !q := by rw [hq, Bool.eq_iff_iff]; simp
  clear hp hq
  cases bad
  · cases p
    · go_wp2_with fail
      go_ret
      rw [← HX.out, HOK.out]
      exact COk.to G1.out (H1.out.setBad _).1 (H1.out.setBad _).2
    · go_wp2_with fail
      go_ret
      rw [← HX.out, HOK.out]
      exact COk.to G1.out (H1.out.setBad _).1 (H1.out.setBad _).2
  · go_wp2_with fail
    go_ret
    rw [← HX.out, HOK.out]
    exact COk.to G1.out (H1.out.setBad _).1 (H1.out.setBad _).2
end Go.Proofs.Ytlngefhjoobmdaa
