/- Expiry's heap in the words of a list that rises; the head of layer 10's statements. -/
import Derived.Test.YtnpalplnpfgibaaHeapPush
import Derived.Test.YtnpalplnpfgibaaHeapDue
namespace Go.Proofs.Ytnpalplnpfgibaa
open Go.RowKit
/-- A heap whose items, rising, are m. -/
def HasIt (w : World) (bh : Nat) (v : Value) (m : List It) : Prop := ∃ l, IsHeap w bh v l ∧ Hm l m
theorem HasIt.bel {w w' : World} {bh : Nat} {v : Value} {m : List It} (h : HasIt w bh v m) (hb : Below w.heap.size w w') : HasIt w' bh v m := by
  obtain ⟨l, h1, h2⟩ := h
  exact ⟨l, h1.bel hb, h2⟩
theorem HasIt.lt {w : World} {bh : Nat} {v : Value} {m : List It} (h : HasIt w bh v m) : bh < w.heap.size := by
  obtain ⟨l, h1, h2⟩ := h
  exact h1.lt
theorem HasIt.own {w : World} {bh : Nat} {v : Value} {m : List It} (h : HasIt w bh v m) : ∀ k, v.ownBlock = some k → bh < k ∧ k < w.heap.size := by
  obtain ⟨l, h1, h2⟩ := h
  exact fun k hk => ⟨(h1.own.block k hk).1, (h1.own.block k hk).2⟩
theorem HasIt.below {w w' : World} {bh B : Nat} {v v' : Value} {m : List It} (h : HasIt w bh v m) (hg : HGrew bh w w' v v') (hB : B ≤ bh) : Below B w w' := by
  obtain ⟨l, h1, h2⟩ := h
  exact hg.below h1.own hB h1.lt
theorem HasIt.wf {w : World} {bh : Nat} {v : Value} {m : List It} (h : HasIt w bh v m) : ∀ a ∈ m, a.wf := by
  obtain ⟨l, h1, h2⟩ := h
  exact fun a ha => h1.wf a (h2.perm.mem_iff.1 ha)
theorem HasIt.sorted {w : World} {bh : Nat} {v : Value} {m : List It} (h : HasIt w bh v m) : m.Pairwise fun a b => ¬ b.lt a := by
  obtain ⟨l, h1, h2⟩ := h
  exact h2.sorted
def HPushed (bh : Nat) (v : Value) (m : List It) (w : World) (e : Ending) (w' : World) : Prop := e = .returned (.tuple #[]) ∧ ∃ v', HasIt w' bh v' m ∧ HGrew bh w w' v v'
theorem hasPush (bh : Nat) (v : Value) (m : List It) (x : It) (w : World) (h : HasIt w bh v m) (hx : x.wf) (hsz : m.length ≤ 1000000000) :
    Calls Try.prog 14 #[.pointer (some ⟨bh, 0, none⟩), .agg #[.int .u64 x.t, .string x.k]] w (HPushed bh v (ins x m) w) := by
  obtain ⟨l, h1, h2⟩ := h
  refine (heapPush bh v l x w h1 h2.heap hx (by have := h2.len; omega)).mono ?_
  rintro e w' ⟨rfl, v', l', h3, h4, h5, h6⟩
  exact ⟨rfl, v', ⟨l', h3, h2.push x h5 h6⟩, h4⟩
def HPopped (bh : Nat) (v : Value) (x : It) (m : List It) (w : World) (e : Ending) (w' : World) : Prop := e = .returned (.tuple #[.agg #[.int .u64 x.t, .string x.k], .bool true]) ∧ ∃ v', HasIt w' bh v' m ∧ HGrew bh w w' v v'
theorem hasPop (bh : Nat) (v : Value) (x : It) (m : List It) (w : World) (h : HasIt w bh v (x :: m)) (hsz : m.length ≤ 1000000000) : Calls Try.prog 15 #[.pointer (some ⟨bh, 0, none⟩)] w (HPopped bh v x m w) := by
  obtain ⟨l, h1, h2⟩ := h
  have hl := h2.len
  have h0 : 0 < l.length := by rw [← hl]; simp
  obtain ⟨m', e⟩ := h2.top h0
  obtain ⟨rfl, rfl⟩ := List.cons.inj e
  refine (heapPopYes bh v l w h1 h2.heap h0 (by rw [← hl]; simp; omega)).mono ?_
  rintro e w' ⟨rfl, v', l', h3, h4, h5, h6⟩
  exact ⟨rfl, v', ⟨l', h3, h2.pop h0 h5 h6⟩, h4⟩
def HEmpty (bh : Nat) (v : Value) (w : World) (e : Ending) (w' : World) : Prop := e = .returned (.tuple #[.agg #[.int .u64 0, .string ByteArray.empty], .bool false]) ∧ HasIt w' bh v [] ∧ Below w.heap.size w w'
theorem hasNo (bh : Nat) (v : Value) (w : World) (h : HasIt w bh v []) : Calls Try.prog 15 #[.pointer (some ⟨bh, 0, none⟩)] w (HEmpty bh v w) := by
  obtain ⟨l, h1, h2⟩ := h
  have hl := h2.len
  obtain rfl : l = [] := List.eq_nil_of_length_eq_zero (by simpa using hl.symm)
  refine (heapPopNo bh v w h1).mono ?_
  rintro e w' ⟨rfl, h3, h4⟩
  exact ⟨rfl, ⟨[], h3, h2⟩, h4⟩
theorem hasLen (bh : Nat) (v : Value) (m : List It) (w : World) (h : HasIt w bh v m) : Calls Try.prog 20 #[.pointer (some ⟨bh, 0, none⟩)] w (HLen m.length w) := by
  obtain ⟨l, h1, h2⟩ := h
  rw [h2.len]
  exact heapLen bh v l w h1
def HDued (bh : Nat) (v : Value) (m : List It) (now : Int) (w : World) (e : Ending) (w' : World) : Prop := ∃ ov v' d ms, e = .returned ov ∧ HasIt w' bh v' ms ∧ HGrew bh w w' v v' ∧ OwnT w.heap.size w' ov d ∧ DueL now m d ms ∧ (∀ k, ov.ownBlock = some k → v'.ownBlock ≠ some k)
theorem hasDue (bh : Nat) (v : Value) (m : List It) (now : Int) (w : World) (h : HasIt w bh v m) (hsz : m.length ≤ 1000000000) : Calls Try.prog 18 #[.pointer (some ⟨bh, 0, none⟩), .int .u64 now] w (HDued bh v m now w) := by
  obtain ⟨l, h1, h2⟩ := h
  refine (heapDue bh v l m now w h1 h2 (by rw [← h2.len]; exact hsz)).mono ?_
  rintro e w' ⟨ov, v', l', d, ms, rfl, h3, h4, h5, h6, h7, _, h9⟩
  exact ⟨ov, v', d, ms, rfl, ⟨l', h3, h5⟩, h4, h6, h7, h9⟩
def HNewed (w : World) (e : Ending) (w' : World) : Prop := e = .returned (.pointer (some ⟨w.heap.size, 0, none⟩)) ∧ HasIt w' w.heap.size (.slice none 0 0) [] ∧ Below w.heap.size w w'
theorem hasNew (w : World) : Calls Try.prog 13 #[] w (HNewed w) := by
  refine (heapNew w).mono ?_
  rintro e w' ⟨rfl, h1, h2⟩
  exact ⟨rfl, ⟨[], h1, Hm.nil⟩, h2⟩
theorem DueL.all {now : Int} {m d ms : List It} (h : DueL now m d ms) (ha : ∀ a ∈ m, a.t ≤ now) : ms = [] ∧ d = m := by
  obtain ⟨rfl, h1, h2⟩ := h
  cases ms with
  | nil => simp
  | cons x r =>
    have := h2 x r rfl
    have := ha x (by simp)
    omega
def it5a : It := ⟨5, ⟨#[97]⟩⟩
def it5b : It := ⟨5, ⟨#[98]⟩⟩
def it3c : It := ⟨3, ⟨#[99]⟩⟩
theorem up_ins : ins it5a (ins it3c (ins it5b [])) = [it3c, it5a, it5b] := by with_unfolding_all decide +kernel
set_option maxRecDepth 100000 in
set_option maxHeartbeats 4000000 in
theorem expiryUp (w : World) : Calls Try.prog 12 #[] w (fun e w' => e = .returned (.bool true) ∧ Below w.heap.size w w') := by
  go_enter Try.func12, Try.ntmps12
  go_wp2_with fail
  refine (hasNew w).mono ?_
  rintro e W1 ⟨rfl, h1, b1⟩
  go_wp2_with fail
  refine (hasPush _ _ _ it5b _ h1 (by unfold It.wf it5b; decide) (by simp)).mono ?_
  rintro e W2 ⟨rfl, v2, h2, g2⟩
  have B2 := Lib.hid (b1.trans (h1.below g2 (Nat.le_refl _)))
  clear b1 h1 g2
  go_wp2_with fail
  refine (hasPush _ _ _ it3c _ h2 (by unfold It.wf it3c; decide) (by simp [ins_len])).mono ?_
  rintro e W3 ⟨rfl, v3, h3, g3⟩
  have B3 := Lib.hid (B2.out.trans (h2.below g3 (Nat.le_refl _)))
  clear h2 g3 B2
  go_wp2_with fail
  refine (hasPush _ _ _ it5a _ h3 (by unfold It.wf it5a; decide) (by simp [ins_len])).mono ?_
  rintro e W4 ⟨rfl, v4, h4, g4⟩
  have B4 := Lib.hid (B3.out.trans (h3.below g4 (Nat.le_refl _)))
  rw [up_ins] at h4
  clear h3 g4 B3
  go_wp2_with fail
  refine (hasPop _ _ it3c _ _ h4 (by simp)).mono ?_
  rintro e W5 ⟨rfl, v5, h5, g5⟩
  have B5 := Lib.hid (B4.out.trans (h4.below g5 (Nat.le_refl _)))
  clear h4 g5 B4
  have hb5 := (Below.refl W5.heap.size W5).alloc (Nat.le_refl _) (.cells #[.int .u64 3, .string ⟨#[99]⟩] 30)
  have H5 := Lib.hid (h5.bel hb5)
  have B5' := Lib.hid (B5.out.trans (hb5.mono B5.out.size))
  have HX5 := Lib.hid (heap_alloc_new W5 (.cells #[.int .u64 3, .string ⟨#[99]⟩] 30))
  have HL5 := Lib.hid (And.intro h5.lt (fun e => by have := (h5.own _ e).2; omega : v5.ownBlock ≠ some W5.heap.size))
  clear h5 hb5 B5
  go_wp2_with fail
  refine (hasDue _ _ _ 5 _ H5.out (by simp)).mono ?_
  rintro e W6 ⟨ov, v6, d, ms, rfl, h6, g6, o6, l6, a6⟩
  obtain ⟨rfl, rfl⟩ := l6.all (by unfold it5a it5b; simp)
  have B6 := Lib.hid (B5'.out.trans (H5.out.below g6 (Nat.le_refl _)))
  have hx6 := (g6.block W5.heap.size (by simp) (fun e => by have := HL5.out.1; omega) HL5.out.2).trans HX5.out
  have H6 := Lib.hid h6
  obtain ⟨gg, cc, rfl, _, hgl, _, _, hcl, _⟩ := o6.get (by simp)
  have hk := (hcl 0 (by simp)).2
  clear l6 h6 g6 a6 hcl o6 H5 HX5 B5'
  go_wp2_with fail
  refine (hasNo _ _ _ H6.out).mono ?_
  rintro e W7 ⟨rfl, h7, b7⟩
  have B7 := Lib.hid (B6.out.trans (b7.mono B6.out.size))
  have hz6 : W5.heap.size < W6.heap.size := (Array.getElem?_eq_some_iff.1 hx6).1
  have hk7 : W7.cell? ⟨gg, 1, none⟩ = some (.string ⟨#[97]⟩) := (b7.cell (p := ⟨gg, 1, none⟩) hgl).trans (by simpa [it5a] using hk)
  have hx7 : W7.cell? ⟨W5.heap.size, 1, none⟩ = some (.string ⟨#[99]⟩) := by
    have := cell_of_row W7 W5.heap.size 1 _ _ _ ((b7.block _ hz6).trans hx6)
    simpa using this
  have hz7 : W5.heap.size < W7.heap.size ∧ gg < W7.heap.size := by have := b7.size; omega
  obtain ⟨hz7a, hz7b⟩ := hz7
  have HH7 := Lib.hid h7
  have hb8 := (Below.refl W7.heap.size W7).alloc (Nat.le_refl _) (.cells #[.int .u64 0, .string ByteArray.empty] 30)
  have H8 := Lib.hid (h7.bel hb8)
  have B8 := Lib.hid (B7.out.trans (hb8.mono B7.out.size))
  clear hk hx6 h7 b7 B7 B6 hb8 hgl hz6 H6
  go_wp2_with fail
  refine (hasLen _ _ _ _ H8.out).mono ?_
  rintro e W9 ⟨rfl, rfl⟩
  go_wp2_with fail
  go_ret
  exact ⟨rfl, B8.out⟩
end Go.Proofs.Ytnpalplnpfgibaa
