/- token, quota: both readers (layer 16). -/
import Derived.Test.YtlngefhjoobmdaaMg2
namespace Go.Proofs.Ytlngefhjoobmdaa
open Go.RowKit
def inQ (n : Int) : Bool := decide (0 ≤ n) && decide (n ≤ 1099511627776)
def quotaV (k b g : Int) : Value := .agg #[.int .i64 k, .int .i64 b, .int .i64 g]
def quotaB (k b g : Int) : Bool := inQ k && inQ b && inQ g
def BoolOk (b : Bool) (w : World) (e : Ending) (w' : World) : Prop := e = .returned (.bool b) ∧ Below w.heap.size w w'
def QuotaOk (k b g : Int) (w : World) (e : Ending) (w' : World) : Prop := e = .returned (.bool (quotaB k b g)) ∧ w.alloc (.cells #[.int .i64 k, .int .i64 b, .int .i64 g] 26) = w'
theorem recIn (n : Int) (w : World) : Calls Try.prog 56 #[.int .i64 n] w (fun e w' => e = .returned (.bool (inQ n)) ∧ w = w') := by
  by_cases h1 : 0 ≤ n
  · have d1 : decide (0 ≤ n) = true := by simp; omega
    have d0 : decide (n < 0) = false := by simp; omega
    have hd : inQ n = decide (n ≤ 1099511627776) := by unfold inQ; rw [d1]; rfl
    have HD := Lib.hid hd
    clear hd h1
    go_enter Try.func56, Try.ntmps56
    go_wp2
    go_ret
    exact ⟨by rw [HD.out]; rfl, rfl⟩
  · have d1 : decide (0 ≤ n) = false := by simp; omega
    have hd : inQ n = false := by unfold inQ; rw [d1]; rfl
    have HD := Lib.hid hd
    clear hd h1
    go_enter Try.func56, Try.ntmps56
    go_wp2
    go_ret
    exact ⟨by rw [HD.out]; rfl, rfl⟩
theorem refIn (n : Int) (w : World) : Calls Try.prog 52 #[.int .i64 n] w (fun e w' => e = .returned (.bool (inQ n)) ∧ w = w') := by
  by_cases h1 : 0 ≤ n
  · have d1 : decide (0 ≤ n) = true := by simp; omega
    have hd : inQ n = decide (n ≤ 1099511627776) := by unfold inQ; rw [d1]; rfl
    have HD := Lib.hid hd
    clear hd h1
    go_enter Try.func52, Try.ntmps52
    go_wp2
    go_ret
    exact ⟨by rw [HD.out]; rfl, rfl⟩
  · have d1 : decide (0 ≤ n) = false := by simp; omega
    have hd : inQ n = false := by unfold inQ; rw [d1]; rfl
    have HD := Lib.hid hd
    clear hd h1
    go_enter Try.func52, Try.ntmps52
    go_wp2
    go_ret
    exact ⟨by rw [HD.out]; rfl, rfl⟩
set_option maxHeartbeats 1000000 in
theorem recQuota (k b g : Int) (w : World) : Calls Try.prog 51 #[quotaV k b g] w (QuotaOk k b g w) := by
  have HQ : Hid (quotaB k b g = (inQ k && inQ b && inQ g)) := rfl
  have C1 := Lib.hid (recIn k)
  have C2 := Lib.hid (recIn b)
  have C3 := Lib.hid (recIn g)
  unfold quotaV
  generalize inQ k = x1 at *
  generalize inQ b = x2 at *
  generalize inQ g = x3 at *
  go_enter Try.func51, Try.ntmps51
  go_wp2_with fail
  refine (C1.out _).mono ?_
  rintro e w1 ⟨rfl, rfl⟩
  cases x1 with
  | false =>
    go_wp2_with fail
    go_ret
    exact ⟨by rw [HQ.out]; rfl, rfl⟩
  | true =>
    go_wp2_with fail
    refine (C2.out _).mono ?_
    rintro e w1 ⟨rfl, rfl⟩
    cases x2 with
    | false =>
      go_wp2_with fail
      go_ret
      exact ⟨by rw [HQ.out]; rfl, rfl⟩
    | true =>
      go_wp2_with fail
      refine (C3.out _).mono ?_
      rintro e w1 ⟨rfl, rfl⟩
      go_wp2_with fail
      go_ret
      exact ⟨by rw [HQ.out]; cases x3 <;> rfl, rfl⟩
set_option maxHeartbeats 1000000 in
theorem refQuota (k b g : Int) (w : World) : Calls Try.prog 30 #[quotaV k b g] w (QuotaOk k b g w) := by
  have HQ : Hid (quotaB k b g = (inQ k && inQ b && inQ g)) := rfl
  have C1 := Lib.hid (refIn k)
  have C2 := Lib.hid (refIn b)
  have C3 := Lib.hid (refIn g)
  unfold quotaV
  generalize inQ k = x1 at *
  generalize inQ b = x2 at *
  generalize inQ g = x3 at *
  go_enter Try.func30, Try.ntmps30
  go_wp2_with fail
  refine (C1.out _).mono ?_
  rintro e w1 ⟨rfl, rfl⟩
  go_wp2_with fail
  refine (C2.out _).mono ?_
  rintro e w1 ⟨rfl, rfl⟩
  go_wp2_with fail
  refine (C3.out _).mono ?_
  rintro e w1 ⟨rfl, rfl⟩
  cases x1 <;> cases x2
  all_goals (go_wp2_with fail; go_ret; exact ⟨by rw [HQ.out]; first | rfl | (cases x3 <;> rfl), rfl⟩)

/-- What a call has done that has two boxes of its own: the reader, the boxes. -/
structure C2 (bq br : Nat) (I : RI) (w0 : World) (b2 b3 : Nat) (T : TypeId) (Z C : Array Value) (s : RS) (bad : Bool) (W : World) : Prop where
  good : Good bq br I
  rd : I W s bad
  z : W.heap[b2]? = some (.cells Z T (0, 0))
  c : W.heap[b3]? = some (.cells C T (0, 0))
  tg : TG bq br w0 W
  lo2 : w0.heap.size ≤ b2
  lo3 : w0.heap.size ≤ b3
  ne : b2 ≠ b3
  lt : bq < w0.heap.size ∧ br < w0.heap.size
section
variable {bq br b2 b3 : Nat} {I : RI} {w0 W W' : World} {T : TypeId} {Z C : Array Value} {s s' : RS} {bad bad' : Bool}
theorem C2.call (h : C2 bq br I w0 b2 b3 T Z C s bad W) (hr : I W' s' bad') (hg : TG bq br W W') : C2 bq br I w0 b2 b3 T Z C s' bad' W' := by
  have h1 := h.lt
  have h2 := h.lo2
  have h3 := h.lo3
  exact ⟨h.good, hr, (hg.block b2 (Array.getElem?_eq_some_iff.1 h.z).1 (by omega) (by omega)).trans h.z, (hg.block b3 (Array.getElem?_eq_some_iff.1 h.c).1 (by omega) (by omega)).trans h.c, h.tg.trans hg, h2, h3, h.ne, h1⟩
theorem C2.store (h : C2 bq br I w0 b2 b3 T Z C s bad W) (i : Nat) (u : Value) {C' : Array Value} (hc : C.setIfInBounds i u = C') : C2 bq br I w0 b2 b3 T Z C' s bad (W.setCell ⟨b3, i, none⟩ u) := by
  have h1 := h.lt
  have h2 := h.lo2
  have h3 := h.lo3
  subst hc
  exact ⟨h.good, h.good.store _ _ h.rd (by simp only; omega) (by simp only; omega), (Below.heap_setCell _ _ _ _ h.ne).trans h.z, heap_setCell_same W b3 i C _ u h.c, ⟨h.tg.os, h.tg.tape, h.tg.output, by simpa [World.setCell] using h.tg.size, fun k hk a b => (Below.heap_setCell _ _ _ _ (by simp only; omega)).trans (h.tg.block k hk a b)⟩, h2, h3, h.ne, h1⟩
theorem C2.bel' (h : C2 bq br I w0 b2 b3 T Z C s bad W) (hb : Below W.heap.size W W') : C2 bq br I w0 b2 b3 T Z C s bad W' :=
  ⟨h.good, h.good.bel h.rd hb, (hb.block b2 (Array.getElem?_eq_some_iff.1 h.z).1).trans h.z, (hb.block b3 (Array.getElem?_eq_some_iff.1 h.c).1).trans h.c, h.tg.trans (TG.of_below hb), h.lo2, h.lo3, h.ne, h.lt⟩
theorem C2.start2 (G : Good bq br I) (h : I w0 s bad) (hb : w0.heap.size = b2) (hb3 : w0.heap.size + 1 = b3) : C2 bq br I w0 b2 b3 T Z C s bad ((w0.alloc (.cells Z T)).alloc (.cells C T)) := by
  subst hb hb3
  have e1 := (Below.refl w0.heap.size w0).alloc (Nat.le_refl _) (.cells Z T)
  have e2 := e1.alloc e1.size (.cells C T)
  have hn := heap_alloc_new (w0.alloc (.cells Z T)) (.cells C T (0, 0))
  rw [World.size_alloc] at hn
  exact ⟨G, G.bel h e2, (Below.heap_alloc _ _ _ (by simp)).trans (heap_alloc_new w0 _), hn, TG.of_below e2, Nat.le_refl _, by omega, by omega, G.lt h⟩
theorem C2.mid (G : Good bq br I) (h0 : I w0 s bad) (hr : I W s' bad') (hg : TG bq br (w0.alloc (.cells Z T)) W) : C2 bq br I w0 w0.heap.size W.heap.size T Z C s' bad' (W.alloc (.cells C T)) := by
  have h1 := G.lt h0
  have e1 := (Below.refl w0.heap.size w0).alloc (Nat.le_refl _) (.cells Z T)
  have e2 := (Below.refl W.heap.size W).alloc (Nat.le_refl _) (.cells C T)
  have h2 : w0.heap.size < W.heap.size := Nat.lt_of_lt_of_le (by simp) hg.size
  have hz := (hg.block w0.heap.size (by simp) (by omega) (by omega)).trans (heap_alloc_new w0 (.cells Z T (0, 0)))
  exact ⟨G, G.bel hr e2, (Below.heap_alloc _ _ _ h2).trans hz, heap_alloc_new W _, ((TG.of_below e1).trans hg).trans (TG.of_below e2), Nat.le_refl _, by omega, by omega, h1⟩
theorem setRow_grown (W : World) (g : Nat) (cs : Array Value) : W.grownBy (W.setRow g cs) (some g) :=
  ⟨rfl, rfl, rfl, by simp [World.setRow], fun k _ hk => setRow_other W g k cs (fun e => hk (by rw [e]))⟩
theorem run_storeRow (w : World) (T : TypeId) (g : Nat) (c c' : Array Value) (hg : w.heap[g]? = some (.cells c T (0, 0))) (hi : (Try.prog.info? T).map (·.size) = some c'.size) (hs : c.size = c'.size) (h1 : c'.all (·.oneCell') = true) :
    (Instr.storeAt T (.pointer (some ⟨g, 0, none⟩)) (.agg c')).run Try.prog w = .ok () (w.setRow g c') := by
  simp only [Instr.storeAt, Instr.sureAddr, Sem.run_bind, Sem.run_pure, Result.andThen]
  rw [run_storeVar_row _ g T T c c' hg hi hs h1]
end
/-- The reader's own laws are kept by a row that turns beyond it. -/
structure Goods (bq br : Nat) (I : RI) : Prop extends Good bq br I where
  row : ∀ {w s bad} (g : Nat) (cs : Array Value), I w s bad → br < g → g ≠ bq → I (w.setRow g cs) s bad
theorem IsBytes.row {w : World} {a : Option Addr} {l : List UInt8} (h : IsBytes w a l) (g : Nat) (cs : Array Value) (hne : ∀ b off, a = some ⟨b, off, none⟩ → 0 < l.length → b ≠ g) : IsBytes (w.setRow g cs) a l := by
  intro i hi
  obtain ⟨b, off, h1, h2, h3⟩ := h i hi
  exact ⟨b, off, h1, by simpa [World.setRow] using h2, (World.cell?_of_block (setRow_other w g b cs (hne b off h1 (by omega)))).trans h3⟩
theorem IsReader.row {w : World} {br : Nat} {l : List UInt8} {sh : Bool} (h : IsReader w br l sh) (g : Nat) (cs : Array Value) (hp : br < g) : IsReader (w.setRow g cs) br l sh := by
  obtain ⟨a, cap, hg, hb, h1, h2, h3, h4, h5⟩ := h
  exact ⟨a, cap, (setRow_other w g br cs (by omega)).trans hg, hb.row _ _ (fun b off e hl => by have := h3 b off e (by omega); omega), h1, h2, h3, h4, fun x hx hc => by simpa [World.setRow] using h5 x hx hc⟩
theorem IsRef.row {w : World} {br : Nat} {l : List UInt8} {at_ : Nat} {sh : Bool} (h : IsRef w br l at_ sh) (g : Nat) (cs : Array Value) (hp : br < g) : IsRef (w.setRow g cs) br l at_ sh := by
  obtain ⟨a, cap, hg, hb, h1, h2, h6, h3, h4, h5⟩ := h
  exact ⟨a, cap, (setRow_other w g br cs (by omega)).trans hg, hb.row _ _ (fun b off e hl => by have := h3 b off e (by omega); omega), h1, h2, h6, h3, h4, fun x hx hc => by simpa [World.setRow] using h5 x hx hc⟩
theorem goodsCR (bq br : Nat) : Goods bq br (IsCR bq br) where
  toGood := goodCR bq br
  row g cs h h1 h2 := ⟨(setRow_other _ g bq cs (fun e => h2 e.symm)).trans h.box, h.rd.row g cs h1, h.ne⟩
theorem goodsPR (bq br : Nat) : Goods bq br (IsPR bq br) where
  toGood := goodPR bq br
  row g cs h h1 h2 := by
    obtain ⟨b, at_, h3, h4, h5⟩ := h.rd
    exact ⟨(setRow_other _ g bq cs (fun e => h2 e.symm)).trans h.box, ⟨b, at_, h3.row g cs h1, h4, h5⟩, h.ne⟩
theorem C2.done {bq br b2 b3 : Nat} {I : RI} {w0 W : World} {T : TypeId} {Z C : Array Value} {s : RS} {bad : Bool} (h : C2 bq br I w0 b2 b3 T Z C s bad W) (G : Goods bq br I) (cs : Array Value) : I (W.setRow b2 cs) s bad ∧ TG bq br w0 (W.setRow b2 cs) := by
  have h1 := h.lt
  have h2 := h.lo2
  exact ⟨G.row b2 cs h.rd (by omega) (by omega), ⟨h.tg.os, h.tg.tape, h.tg.output, by simpa [World.setRow] using h.tg.size, fun k hk a b => (setRow_other W b2 k cs (by omega)).trans (h.tg.block k hk a b)⟩⟩
theorem tok_size : (Try.prog.info? 29).map (·.size) = some 4 := by kernel_rfl
theorem quo_size : (Try.prog.info? 26).map (·.size) = some 3 := by kernel_rfl
theorem op_size : (Try.prog.info? 93).map (·.size) = some 5 := by kernel_rfl
theorem rop_size : (Try.prog.info? 90).map (·.size) = some 5 := by kernel_rfl
def tokV (s : RS) : Value := .agg #[.int .i64 (rN 1 s : Int), .int .u32 (rN 4 (rN' 1 s) : Int), .int .u32 (rN 4 (rN' 4 (rN' 1 s)) : Int), .int .u64 (rN 8 (rN' 4 (rN' 4 (rN' 1 s))) : Int)]
def tok' (s : RS) : RS := rN' 8 (rN' 4 (rN' 4 (rN' 1 s)))
set_option maxRecDepth 100000 in
set_option maxHeartbeats 4000000 in
theorem crToken (bq br : Nat) (s : RS) (bad : Bool) (w : World) (h : IsCR bq br w s bad) : Calls Try.prog 23 #[.pointer (some ⟨bq, 0, none⟩)] w ((COk bq br (IsCR bq br) (tokV s) (tok' s) bad w)) := by
  obtain ⟨s0, hs0⟩ : ∃ x, x = s := ⟨_, rfl⟩
  obtain ⟨d0, hd0⟩ : ∃ x, x = bad := ⟨_, rfl⟩
  rw [← hs0, ← hd0] at h
  obtain ⟨n1, hn1⟩ : ∃ x, x = rN 1 s0 := ⟨_, rfl⟩
  obtain ⟨s1, hs1⟩ : ∃ x, x = rN' 1 s0 := ⟨_, rfl⟩
  obtain ⟨d1, hd1⟩ : ∃ x, x = d0 := ⟨_, rfl⟩
  have HQ1 := Lib.hid (fun W (hW : IsCR bq br W s0 d0) => by have := crNum bq br s0 d0 1 W hW; rw [← hn1, ← hs1, ← hd1] at this; exact this)
  have hb1 : (n1 : Int) ≤ 255 := by have := rN1 s0; omega
  have hw1 : IntKind.i64.wrap (n1 : Int) = (n1 : Int) := by rw [IntKind.wrap_i64]; omega
  obtain ⟨n2, hn2⟩ : ∃ x, x = rN 4 s1 := ⟨_, rfl⟩
  obtain ⟨s2, hs2⟩ : ∃ x, x = rN' 4 s1 := ⟨_, rfl⟩
  obtain ⟨d2, hd2⟩ : ∃ x, x = d1 := ⟨_, rfl⟩
  have HQ2 := Lib.hid (fun W (hW : IsCR bq br W s1 d1) => by have := crNum bq br s1 d1 4 W hW; rw [← hn2, ← hs2, ← hd2] at this; exact this)
  have hb2 : (n2 : Int) ≤ 4294967295 := by have := rN4 s1; omega
  have hw2 : IntKind.u32.wrap (n2 : Int) = (n2 : Int) := by rw [IntKind.wrap_u32]; omega
  obtain ⟨n3, hn3⟩ : ∃ x, x = rN 4 s2 := ⟨_, rfl⟩
  obtain ⟨s3, hs3⟩ : ∃ x, x = rN' 4 s2 := ⟨_, rfl⟩
  obtain ⟨d3, hd3⟩ : ∃ x, x = d2 := ⟨_, rfl⟩
  have HQ3 := Lib.hid (fun W (hW : IsCR bq br W s2 d2) => by have := crNum bq br s2 d2 4 W hW; rw [← hn3, ← hs3, ← hd3] at this; exact this)
  have hb3 : (n3 : Int) ≤ 4294967295 := by have := rN4 s2; omega
  have hw3 : IntKind.u32.wrap (n3 : Int) = (n3 : Int) := by rw [IntKind.wrap_u32]; omega
  obtain ⟨n4, hn4⟩ : ∃ x, x = rN 8 s3 := ⟨_, rfl⟩
  obtain ⟨s4, hs4⟩ : ∃ x, x = rN' 8 s3 := ⟨_, rfl⟩
  obtain ⟨d4, hd4⟩ : ∃ x, x = d3 := ⟨_, rfl⟩
  have HQ4 := Lib.hid (fun W (hW : IsCR bq br W s3 d3) => by have := crNum bq br s3 d3 8 W hW; rw [← hn4, ← hs4, ← hd4] at this; exact this)
  have hb4 : (n4 : Int) ≤ 18446744073709551615 := by have := rN8 s3; omega
  obtain ⟨C, hC⟩ : ∃ C : Array Value, C = #[.int .i64 (n1 : Int), .int .u32 (n2 : Int), .int .u32 (n3 : Int), .int .u64 (n4 : Int)] := ⟨_, rfl⟩
  have HFIN := Lib.hid (show ∀ e W', COk bq br (IsCR bq br) (.agg C) s4 d4 w e W' → (COk bq br (IsCR bq br) (tokV s) (tok' s) bad w) e W' from fun e W' hh => by
    subst hC
    simp only [hn1, hs1, hd1, hn2, hs2, hd2, hn3, hs3, hd3, hn4, hs4, hd4, hs0, hd0] at hh
    exact hh)
  have H := Lib.hid h
  have HLT := Lib.hid ((goodCR bq br).lt h)
  have q0 : (w.alloc (.cells #[.int .i64 0, .int .u32 0, .int .u32 0, .int .u64 0] 29)).cell? ⟨bq, 0, none⟩ = some (.pointer (some ⟨br, 0, none⟩)) := (((Below.refl w.heap.size w).alloc (Nat.le_refl _) _).cell (p := ⟨bq, 0, none⟩) HLT.out.1).trans h.cells.c0
  have HB0 := Lib.hid ((goodCR bq br).bel h ((Below.refl w.heap.size w).alloc (Nat.le_refl _) (.cells #[.int .i64 0, .int .u32 0, .int .u32 0, .int .u64 0] 29)))
  clear h hs0 hd0 hn1 hs1 hd1 hn2 hs2 hd2 hn3 hs3 hd3 hn4 hs4 hd4
  go_enter Try.func23, Try.ntmps23
  go_wp2_with fail
  refine (HQ1.out _ HB0.out).mono ?_
  rintro e W1 ⟨rfl, hr, hg⟩
  have HSa := Lib.hid (C2.mid (C := #[.int .i64 (n1 : Int), .int .u32 0, .int .u32 0, .int .u64 0]) (goodsCR bq br).toGood H.out hr hg)
  have q1 : ∀ o, (W1.alloc o).cell? ⟨bq, 0, none⟩ = some (.pointer (some ⟨br, 0, none⟩)) := fun o => (((Below.refl W1.heap.size W1).alloc (Nat.le_refl _) o).cell (p := ⟨bq, 0, none⟩) ((goodCR bq br).lt hr).1).trans hr.cells.c0
  clear hr hg HQ1 HB0 q0
  go_wp2_with fail
  generalize hW1' : World.alloc W1 _ = WA
  have HS1 : Hid (C2 bq br (IsCR bq br) w w.heap.size W1.heap.size 29 #[.int .i64 0, .int .u32 0, .int .u32 0, .int .u64 0] #[.int .i64 (n1 : Int), .int .u32 0, .int .u32 0, .int .u64 0] s1 d1 WA) := by rw [← hW1']; exact HSa
  clear hW1' HSa q1 hw1
  generalize W1.heap.size = b3 at *
  clear W1
  refine (HQ2.out _ HS1.out.rd).mono ?_
  rintro e W2 ⟨rfl, hr, hg⟩
  have HT := Lib.hid (HS1.out.call hr hg)
  have hc : W2.cell? ⟨b3, 1, none⟩ = some (.int .u32 0) := (cell_of_row _ b3 1 _ _ _ HT.out.c).trans rfl
  have hf := frozen_of_row _ b3 1 _ _ HT.out.c
  have hq : ∀ v, (W2.setCell ⟨b3, 1, none⟩ v).cell? ⟨bq, 0, none⟩ = some (.pointer (some ⟨br, 0, none⟩)) := fun v => (World.cell?_of_block (Below.heap_setCell _ _ _ _ (by have := HT.out.lo3; have := HT.out.lt; simp only; omega))).trans hr.cells.c0
  have HS2 := Lib.hid (HT.out.store (C' := #[.int .i64 (n1 : Int), .int .u32 (n2 : Int), .int .u32 0, .int .u64 0]) 1 (.int .u32 (n2 : Int)) rfl)
  clear hr hg HS1 HQ2 HT
  go_wp2_with fail
  generalize World.setCell W2 _ _ = WA at HS2 ⊢
  clear hc hf hq hw2
  refine (HQ3.out _ HS2.out.rd).mono ?_
  rintro e W3 ⟨rfl, hr, hg⟩
  have HT := Lib.hid (HS2.out.call hr hg)
  have hc : W3.cell? ⟨b3, 2, none⟩ = some (.int .u32 0) := (cell_of_row _ b3 2 _ _ _ HT.out.c).trans rfl
  have hf := frozen_of_row _ b3 2 _ _ HT.out.c
  have hq : ∀ v, (W3.setCell ⟨b3, 2, none⟩ v).cell? ⟨bq, 0, none⟩ = some (.pointer (some ⟨br, 0, none⟩)) := fun v => (World.cell?_of_block (Below.heap_setCell _ _ _ _ (by have := HT.out.lo3; have := HT.out.lt; simp only; omega))).trans hr.cells.c0
  have HS3 := Lib.hid (HT.out.store (C' := #[.int .i64 (n1 : Int), .int .u32 (n2 : Int), .int .u32 (n3 : Int), .int .u64 0]) 2 (.int .u32 (n3 : Int)) rfl)
  clear hr hg HS2 HQ3 HT
  go_wp2_with fail
  generalize World.setCell W3 _ _ = WA at HS3 ⊢
  clear hc hf hq hw3
  refine (HQ4.out _ HS3.out.rd).mono ?_
  rintro e W4 ⟨rfl, hr, hg⟩
  have HT := Lib.hid (HS3.out.call hr hg)
  have hc : W4.cell? ⟨b3, 3, none⟩ = some (.int .u64 0) := (cell_of_row _ b3 3 _ _ _ HT.out.c).trans rfl
  have hf := frozen_of_row _ b3 3 _ _ HT.out.c
  have hq : ∀ v, (W4.setCell ⟨b3, 3, none⟩ v).cell? ⟨bq, 0, none⟩ = some (.pointer (some ⟨br, 0, none⟩)) := fun v => (World.cell?_of_block (Below.heap_setCell _ _ _ _ (by have := HT.out.lo3; have := HT.out.lt; simp only; omega))).trans hr.cells.c0
  have HS4 := Lib.hid (HT.out.store (C' := #[.int .i64 (n1 : Int), .int .u32 (n2 : Int), .int .u32 (n3 : Int), .int .u64 (n4 : Int)]) 3 (.int .u64 (n4 : Int)) rfl)
  clear hr hg HS3 HQ4 HT
  rw [← hC] at HS4
  have HL := Lib.hid HS4.out.c
  have HST := Lib.hid (run_storeRow _ 29 w.heap.size #[.int .i64 0, .int .u32 0, .int .u32 0, .int .u64 0] C HS4.out.z (by rw [hC]; exact tok_size) (by rw [hC]; rfl) (by rw [hC]; simp [Value.oneCell']))
  have HSZ := Lib.hid (show (Try.prog.info? 29).map (·.size) = some C.size by rw [hC]; exact tok_size)
  clear hC
  go_wp2_with (first | ((with_reducible refine atLoad ?_); refine wpList_load_row rfl 29 (.tmp 3) rfl b3 rfl 29 C (0, 0) _ HL.out Try.underlying29 rfl HSZ.out ?_) | ((with_reducible refine atStore ?_); refine wpList_store_by rfl 29 (.tmp 2) (.tmp 31) rfl (.pointer (some ⟨w.heap.size, 0, none⟩)) _ rfl rfl HST.out ?_))
  refine bodyPost_ret (v := .agg C) (results_cell_row rfl _ _ w.heap.size 29 C (0, 0) _ rfl (setRow_heap _ _ _ _ _ _ HS4.out.z) Try.underlying29 rfl HSZ.out) rfl (HFIN.out _ _ ⟨rfl, (HS4.out.done (goodsCR bq br) C).1, (HS4.out.done (goodsCR bq br) C).2⟩)
set_option maxRecDepth 100000 in
set_option maxHeartbeats 4000000 in
theorem prToken (bq br : Nat) (s : RS) (bad : Bool) (w : World) (h : IsPR bq br w s bad) : Calls Try.prog 29 #[.pointer (some ⟨bq, 0, none⟩)] w ((COk bq br (IsPR bq br) (tokV s) (tok' s) bad w)) := by
  obtain ⟨s0, hs0⟩ : ∃ x, x = s := ⟨_, rfl⟩
  obtain ⟨d0, hd0⟩ : ∃ x, x = bad := ⟨_, rfl⟩
  rw [← hs0, ← hd0] at h
  obtain ⟨n1, hn1⟩ : ∃ x, x = rN 1 s0 := ⟨_, rfl⟩
  obtain ⟨s1, hs1⟩ : ∃ x, x = rN' 1 s0 := ⟨_, rfl⟩
  obtain ⟨d1, hd1⟩ : ∃ x, x = d0 := ⟨_, rfl⟩
  have HQ1 := Lib.hid (fun W (hW : IsPR bq br W s0 d0) => by have := prNum bq br s0 d0 1 W hW; rw [← hn1, ← hs1, ← hd1] at this; exact this)
  have hb1 : (n1 : Int) ≤ 255 := by have := rN1 s0; omega
  have hw1 : IntKind.i64.wrap (n1 : Int) = (n1 : Int) := by rw [IntKind.wrap_i64]; omega
  obtain ⟨n2, hn2⟩ : ∃ x, x = rN 4 s1 := ⟨_, rfl⟩
  obtain ⟨s2, hs2⟩ : ∃ x, x = rN' 4 s1 := ⟨_, rfl⟩
  obtain ⟨d2, hd2⟩ : ∃ x, x = d1 := ⟨_, rfl⟩
  have HQ2 := Lib.hid (fun W (hW : IsPR bq br W s1 d1) => by have := prNum bq br s1 d1 4 W hW; rw [← hn2, ← hs2, ← hd2] at this; exact this)
  have hb2 : (n2 : Int) ≤ 4294967295 := by have := rN4 s1; omega
  have hw2 : IntKind.u32.wrap (n2 : Int) = (n2 : Int) := by rw [IntKind.wrap_u32]; omega
  obtain ⟨n3, hn3⟩ : ∃ x, x = rN 4 s2 := ⟨_, rfl⟩
  obtain ⟨s3, hs3⟩ : ∃ x, x = rN' 4 s2 := ⟨_, rfl⟩
  obtain ⟨d3, hd3⟩ : ∃ x, x = d2 := ⟨_, rfl⟩
  have HQ3 := Lib.hid (fun W (hW : IsPR bq br W s2 d2) => by have := prNum bq br s2 d2 4 W hW; rw [← hn3, ← hs3, ← hd3] at this; exact this)
  have hb3 : (n3 : Int) ≤ 4294967295 := by have := rN4 s2; omega
  have hw3 : IntKind.u32.wrap (n3 : Int) = (n3 : Int) := by rw [IntKind.wrap_u32]; omega
  obtain ⟨n4, hn4⟩ : ∃ x, x = rN 8 s3 := ⟨_, rfl⟩
  obtain ⟨s4, hs4⟩ : ∃ x, x = rN' 8 s3 := ⟨_, rfl⟩
  obtain ⟨d4, hd4⟩ : ∃ x, x = d3 := ⟨_, rfl⟩
  have HQ4 := Lib.hid (fun W (hW : IsPR bq br W s3 d3) => by have := prNum bq br s3 d3 8 W hW; rw [← hn4, ← hs4, ← hd4] at this; exact this)
  have hb4 : (n4 : Int) ≤ 18446744073709551615 := by have := rN8 s3; omega
  obtain ⟨C, hC⟩ : ∃ C : Array Value, C = #[.int .i64 (n1 : Int), .int .u32 (n2 : Int), .int .u32 (n3 : Int), .int .u64 (n4 : Int)] := ⟨_, rfl⟩
  have HFIN := Lib.hid (show ∀ e W', COk bq br (IsPR bq br) (.agg C) s4 d4 w e W' → (COk bq br (IsPR bq br) (tokV s) (tok' s) bad w) e W' from fun e W' hh => by
    subst hC
    simp only [hn1, hs1, hd1, hn2, hs2, hd2, hn3, hs3, hd3, hn4, hs4, hd4, hs0, hd0] at hh
    exact hh)
  have H := Lib.hid h
  have HLT := Lib.hid ((goodPR bq br).lt h)
  have q0 : ((w.alloc (.cells #[.int .i64 0, .int .u32 0, .int .u32 0, .int .u64 0] 29)).alloc (.cells #[.int .i64 0, .int .u32 0, .int .u32 0, .int .u64 0] 29)).cell? ⟨bq, 0, none⟩ = some (.pointer (some ⟨br, 0, none⟩)) := ((((Below.refl w.heap.size w).alloc (Nat.le_refl _) _).alloc (by simp) _).cell (p := ⟨bq, 0, none⟩) HLT.out.1).trans h.cells.c0
  have HS0 := Lib.hid (C2.start2 (T := 29) (Z := #[.int .i64 0, .int .u32 0, .int .u32 0, .int .u64 0]) (C := #[.int .i64 0, .int .u32 0, .int .u32 0, .int .u64 0]) (goodsPR bq br).toGood h rfl rfl)
  clear h hs0 hd0 hn1 hs1 hd1 hn2 hs2 hd2 hn3 hs3 hd3 hn4 hs4 hd4
  go_enter Try.func29, Try.ntmps29
  go_wp2_with fail
  generalize hW0 : World.alloc (World.alloc w _) _ = WA
  have HS0 : Hid (C2 bq br (IsPR bq br) w w.heap.size (w.heap.size + 1) 29 #[.int .i64 0, .int .u32 0, .int .u32 0, .int .u64 0] #[.int .i64 0, .int .u32 0, .int .u32 0, .int .u64 0] s0 d0 WA) := by rw [← hW0]; exact HS0
  clear hW0 q0
  generalize w.heap.size + 1 = b3 at *
  refine (HQ1.out _ HS0.out.rd).mono ?_
  rintro e W1 ⟨rfl, hr, hg⟩
  have HT := Lib.hid (HS0.out.call hr hg)
  have hc : W1.cell? ⟨b3, 0, none⟩ = some (.int .i64 0) := (cell_of_row _ b3 0 _ _ _ HT.out.c).trans rfl
  have hf := frozen_of_row _ b3 0 _ _ HT.out.c
  have hq : ∀ v, (W1.setCell ⟨b3, 0, none⟩ v).cell? ⟨bq, 0, none⟩ = some (.pointer (some ⟨br, 0, none⟩)) := fun v => (World.cell?_of_block (Below.heap_setCell _ _ _ _ (by have := HT.out.lo3; have := HT.out.lt; simp only; omega))).trans hr.cells.c0
  have HS1 := Lib.hid (HT.out.store (C' := #[.int .i64 (n1 : Int), .int .u32 0, .int .u32 0, .int .u64 0]) 0 (.int .i64 (n1 : Int)) rfl)
  clear hr hg HS0 HQ1 HT
  go_wp2_with fail
  generalize World.setCell W1 _ _ = WA at HS1 ⊢
  clear hc hf hq hw1
  refine (HQ2.out _ HS1.out.rd).mono ?_
  rintro e W2 ⟨rfl, hr, hg⟩
  have HT := Lib.hid (HS1.out.call hr hg)
  have hc : W2.cell? ⟨b3, 1, none⟩ = some (.int .u32 0) := (cell_of_row _ b3 1 _ _ _ HT.out.c).trans rfl
  have hf := frozen_of_row _ b3 1 _ _ HT.out.c
  have hq : ∀ v, (W2.setCell ⟨b3, 1, none⟩ v).cell? ⟨bq, 0, none⟩ = some (.pointer (some ⟨br, 0, none⟩)) := fun v => (World.cell?_of_block (Below.heap_setCell _ _ _ _ (by have := HT.out.lo3; have := HT.out.lt; simp only; omega))).trans hr.cells.c0
  have HS2 := Lib.hid (HT.out.store (C' := #[.int .i64 (n1 : Int), .int .u32 (n2 : Int), .int .u32 0, .int .u64 0]) 1 (.int .u32 (n2 : Int)) rfl)
  clear hr hg HS1 HQ2 HT
  go_wp2_with fail
  generalize World.setCell W2 _ _ = WA at HS2 ⊢
  clear hc hf hq hw2
  refine (HQ3.out _ HS2.out.rd).mono ?_
  rintro e W3 ⟨rfl, hr, hg⟩
  have HT := Lib.hid (HS2.out.call hr hg)
  have hc : W3.cell? ⟨b3, 2, none⟩ = some (.int .u32 0) := (cell_of_row _ b3 2 _ _ _ HT.out.c).trans rfl
  have hf := frozen_of_row _ b3 2 _ _ HT.out.c
  have hq : ∀ v, (W3.setCell ⟨b3, 2, none⟩ v).cell? ⟨bq, 0, none⟩ = some (.pointer (some ⟨br, 0, none⟩)) := fun v => (World.cell?_of_block (Below.heap_setCell _ _ _ _ (by have := HT.out.lo3; have := HT.out.lt; simp only; omega))).trans hr.cells.c0
  have HS3 := Lib.hid (HT.out.store (C' := #[.int .i64 (n1 : Int), .int .u32 (n2 : Int), .int .u32 (n3 : Int), .int .u64 0]) 2 (.int .u32 (n3 : Int)) rfl)
  clear hr hg HS2 HQ3 HT
  go_wp2_with fail
  generalize World.setCell W3 _ _ = WA at HS3 ⊢
  clear hc hf hq hw3
  refine (HQ4.out _ HS3.out.rd).mono ?_
  rintro e W4 ⟨rfl, hr, hg⟩
  have HT := Lib.hid (HS3.out.call hr hg)
  have hc : W4.cell? ⟨b3, 3, none⟩ = some (.int .u64 0) := (cell_of_row _ b3 3 _ _ _ HT.out.c).trans rfl
  have hf := frozen_of_row _ b3 3 _ _ HT.out.c
  have hq : ∀ v, (W4.setCell ⟨b3, 3, none⟩ v).cell? ⟨bq, 0, none⟩ = some (.pointer (some ⟨br, 0, none⟩)) := fun v => (World.cell?_of_block (Below.heap_setCell _ _ _ _ (by have := HT.out.lo3; have := HT.out.lt; simp only; omega))).trans hr.cells.c0
  have HS4 := Lib.hid (HT.out.store (C' := #[.int .i64 (n1 : Int), .int .u32 (n2 : Int), .int .u32 (n3 : Int), .int .u64 (n4 : Int)]) 3 (.int .u64 (n4 : Int)) rfl)
  clear hr hg HS3 HQ4 HT
  rw [← hC] at HS4
  have HL := Lib.hid HS4.out.c
  have HST := Lib.hid (run_storeRow _ 29 w.heap.size #[.int .i64 0, .int .u32 0, .int .u32 0, .int .u64 0] C HS4.out.z (by rw [hC]; exact tok_size) (by rw [hC]; rfl) (by rw [hC]; simp [Value.oneCell']))
  have HSZ := Lib.hid (show (Try.prog.info? 29).map (·.size) = some C.size by rw [hC]; exact tok_size)
  clear hC
  go_wp2_with (first | ((with_reducible refine atLoad ?_); refine wpList_load_row rfl 29 (.tmp 3) rfl b3 rfl 29 C (0, 0) _ HL.out Try.underlying29 rfl HSZ.out ?_) | ((with_reducible refine atStore ?_); refine wpList_store_by rfl 29 (.tmp 2) (.tmp 31) rfl (.pointer (some ⟨w.heap.size, 0, none⟩)) _ rfl rfl HST.out ?_))
  refine bodyPost_ret (v := .agg C) (results_cell_row rfl _ _ w.heap.size 29 C (0, 0) _ rfl (setRow_heap _ _ _ _ _ _ HS4.out.z) Try.underlying29 rfl HSZ.out) rfl (HFIN.out _ _ ⟨rfl, (HS4.out.done (goodsPR bq br) C).1, (HS4.out.done (goodsPR bq br) C).2⟩)
def i64 (n : Nat) : Int := IntKind.i64.wrap (n : Int)
def quoK (s : RS) : Int := i64 (rN 8 s)
def quoB (s : RS) : Int := i64 (rN 8 (rN' 8 s))
def quoG (s : RS) : Int := i64 (rN 8 (rN' 8 (rN' 8 s)))
def quo' (s : RS) : RS := rN' 8 (rN' 8 (rN' 8 s))
def quoOk (s : RS) : Bool := quotaB (quoK s) (quoB s) (quoG s)
set_option maxRecDepth 100000 in
set_option maxHeartbeats 4000000 in
theorem crQuota (bq br : Nat) (s : RS) (bad : Bool) (w : World) (h : IsCR bq br w s bad) : Calls Try.prog 25 #[.pointer (some ⟨bq, 0, none⟩)] w ((COk bq br (IsCR bq br) (quotaV (quoK s) (quoB s) (quoG s)) (quo' s) (bad || !quoOk s) w)) := by
  obtain ⟨s0, hs0⟩ : ∃ x, x = s := ⟨_, rfl⟩
  obtain ⟨d0, hd0⟩ : ∃ x, x = bad := ⟨_, rfl⟩
  rw [← hs0, ← hd0] at h
  obtain ⟨n1, hn1⟩ : ∃ x, x = rN 8 s0 := ⟨_, rfl⟩
  obtain ⟨s1, hs1⟩ : ∃ x, x = rN' 8 s0 := ⟨_, rfl⟩
  obtain ⟨d1, hd1⟩ : ∃ x, x = d0 := ⟨_, rfl⟩
  have HQ1 := Lib.hid (fun W (hW : IsCR bq br W s0 d0) => by have := crNum bq br s0 d0 8 W hW; rw [← hn1, ← hs1, ← hd1] at this; exact this)
  have hb1 : (n1 : Int) ≤ 18446744073709551615 := by have := rN8 s0; omega
  obtain ⟨z1, hw1⟩ : ∃ z, IntKind.i64.wrap (n1 : Int) = z := ⟨_, rfl⟩
  obtain ⟨n2, hn2⟩ : ∃ x, x = rN 8 s1 := ⟨_, rfl⟩
  obtain ⟨s2, hs2⟩ : ∃ x, x = rN' 8 s1 := ⟨_, rfl⟩
  obtain ⟨d2, hd2⟩ : ∃ x, x = d1 := ⟨_, rfl⟩
  have HQ2 := Lib.hid (fun W (hW : IsCR bq br W s1 d1) => by have := crNum bq br s1 d1 8 W hW; rw [← hn2, ← hs2, ← hd2] at this; exact this)
  have hb2 : (n2 : Int) ≤ 18446744073709551615 := by have := rN8 s1; omega
  obtain ⟨z2, hw2⟩ : ∃ z, IntKind.i64.wrap (n2 : Int) = z := ⟨_, rfl⟩
  obtain ⟨n3, hn3⟩ : ∃ x, x = rN 8 s2 := ⟨_, rfl⟩
  obtain ⟨s3, hs3⟩ : ∃ x, x = rN' 8 s2 := ⟨_, rfl⟩
  obtain ⟨d3, hd3⟩ : ∃ x, x = d2 := ⟨_, rfl⟩
  have HQ3 := Lib.hid (fun W (hW : IsCR bq br W s2 d2) => by have := crNum bq br s2 d2 8 W hW; rw [← hn3, ← hs3, ← hd3] at this; exact this)
  have hb3 : (n3 : Int) ≤ 18446744073709551615 := by have := rN8 s2; omega
  obtain ⟨z3, hw3⟩ : ∃ z, IntKind.i64.wrap (n3 : Int) = z := ⟨_, rfl⟩
  obtain ⟨C, hC⟩ : ∃ C : Array Value, C = #[.int .i64 z1, .int .i64 z2, .int .i64 z3] := ⟨_, rfl⟩
  have HFIN := Lib.hid (show ∀ e W', COk bq br (IsCR bq br) (.agg C) s3 (d3 || !quotaB z1 z2 z3) w e W' → (COk bq br (IsCR bq br) (quotaV (quoK s) (quoB s) (quoG s)) (quo' s) (bad || !quoOk s) w) e W' from fun e W' hh => by
    subst hC
    unfold quoOk quoK quoB quoG i64
    simp only [hn1, hs1, hd1, hn2, hs2, hd2, hn3, hs3, hd3, hs0, hd0, ← hw1, ← hw2, ← hw3] at hh
    exact hh)
  have H := Lib.hid h
  have HLT := Lib.hid ((goodCR bq br).lt h)
  have q0 : (w.alloc (.cells #[.int .i64 0, .int .i64 0, .int .i64 0] 26)).cell? ⟨bq, 0, none⟩ = some (.pointer (some ⟨br, 0, none⟩)) := (((Below.refl w.heap.size w).alloc (Nat.le_refl _) _).cell (p := ⟨bq, 0, none⟩) HLT.out.1).trans h.cells.c0
  have HB0 := Lib.hid ((goodCR bq br).bel h ((Below.refl w.heap.size w).alloc (Nat.le_refl _) (.cells #[.int .i64 0, .int .i64 0, .int .i64 0] 26)))
  clear h hs0 hd0 hn1 hs1 hd1 hn2 hs2 hd2 hn3 hs3 hd3
  go_enter Try.func25, Try.ntmps25
  go_wp2_with fail
  refine (HQ1.out _ HB0.out).mono ?_
  rintro e W1 ⟨rfl, hr, hg⟩
  have HSa := Lib.hid (C2.mid (C := #[.int .i64 z1, .int .i64 0, .int .i64 0]) (goodsCR bq br).toGood H.out hr hg)
  have q1 : ∀ o, (W1.alloc o).cell? ⟨bq, 0, none⟩ = some (.pointer (some ⟨br, 0, none⟩)) := fun o => (((Below.refl W1.heap.size W1).alloc (Nat.le_refl _) o).cell (p := ⟨bq, 0, none⟩) ((goodCR bq br).lt hr).1).trans hr.cells.c0
  clear hr hg HQ1 HB0 q0
  go_wp2_with fail
  generalize hW1' : World.alloc W1 _ = WA
  have HS1 : Hid (C2 bq br (IsCR bq br) w w.heap.size W1.heap.size 26 #[.int .i64 0, .int .i64 0, .int .i64 0] #[.int .i64 z1, .int .i64 0, .int .i64 0] s1 d1 WA) := by rw [← hW1']; exact HSa
  clear hW1' HSa q1 hw1
  generalize W1.heap.size = b3 at *
  clear W1
  refine (HQ2.out _ HS1.out.rd).mono ?_
  rintro e W2 ⟨rfl, hr, hg⟩
  have HT := Lib.hid (HS1.out.call hr hg)
  have hc : W2.cell? ⟨b3, 1, none⟩ = some (.int .i64 0) := (cell_of_row _ b3 1 _ _ _ HT.out.c).trans rfl
  have hf := frozen_of_row _ b3 1 _ _ HT.out.c
  have hq : ∀ v, (W2.setCell ⟨b3, 1, none⟩ v).cell? ⟨bq, 0, none⟩ = some (.pointer (some ⟨br, 0, none⟩)) := fun v => (World.cell?_of_block (Below.heap_setCell _ _ _ _ (by have := HT.out.lo3; have := HT.out.lt; simp only; omega))).trans hr.cells.c0
  have HS2 := Lib.hid (HT.out.store (C' := #[.int .i64 z1, .int .i64 z2, .int .i64 0]) 1 (.int .i64 z2) rfl)
  clear hr hg HS1 HQ2 HT
  go_wp2_with fail
  generalize World.setCell W2 _ _ = WA at HS2 ⊢
  clear hc hf hq hw2
  refine (HQ3.out _ HS2.out.rd).mono ?_
  rintro e W3 ⟨rfl, hr, hg⟩
  have HT := Lib.hid (HS2.out.call hr hg)
  have hc : W3.cell? ⟨b3, 2, none⟩ = some (.int .i64 0) := (cell_of_row _ b3 2 _ _ _ HT.out.c).trans rfl
  have hf := frozen_of_row _ b3 2 _ _ HT.out.c
  have hq : ∀ v, (W3.setCell ⟨b3, 2, none⟩ v).cell? ⟨bq, 0, none⟩ = some (.pointer (some ⟨br, 0, none⟩)) := fun v => (World.cell?_of_block (Below.heap_setCell _ _ _ _ (by have := HT.out.lo3; have := HT.out.lt; simp only; omega))).trans hr.cells.c0
  have HS3 := Lib.hid (HT.out.store (C' := #[.int .i64 z1, .int .i64 z2, .int .i64 z3]) 2 (.int .i64 z3) rfl)
  clear hr hg HS2 HQ3 HT
  have HLq := Lib.hid HS3.out.c
  have HSQ := Lib.hid (show (Try.prog.info? 26).map (·.size) = some (#[.int .i64 z1, .int .i64 z2, .int .i64 z3] : Array Value).size from quo_size)
  go_wp2_with ((with_reducible refine atLoad ?_); refine wpList_load_row rfl 26 (.tmp 3) rfl b3 rfl 26 #[.int .i64 z1, .int .i64 z2, .int .i64 z3] (0, 0) _ HLq.out Try.underlying26 rfl HSQ.out ?_)
  clear hc hf hq
  refine (recQuota z1 z2 z3 _).mono ?_
  rintro e W4 ⟨rfl, hW4⟩
  have HS4 := Lib.hid (HS3.out.bel' (show Below _ _ W4 by rw [← hW4]; exact (Below.refl _ _).alloc (Nat.le_refl _) _))
  clear hW4 HS3 HLq
  go_wp2_with fail
  refine (crMust bq br _ _ (quotaB z1 z2 z3) _ HS4.out.rd).mono ?_
  rintro e W5 ⟨rfl, hr, hg⟩
  have HS3 := Lib.hid (HS4.out.call hr hg)
  clear hr hg HS4
  rw [← hC] at HS3
  have HL := Lib.hid HS3.out.c
  have HST := Lib.hid (run_storeRow _ 26 w.heap.size #[.int .i64 0, .int .i64 0, .int .i64 0] C HS3.out.z (by rw [hC]; exact quo_size) (by rw [hC]; rfl) (by rw [hC]; simp [Value.oneCell']))
  have HSZ := Lib.hid (show (Try.prog.info? 26).map (·.size) = some C.size by rw [hC]; exact quo_size)
  clear hC
  go_wp2_with (first | ((with_reducible refine atLoad ?_); refine wpList_load_row rfl 26 (.tmp 3) rfl b3 rfl 26 C (0, 0) _ HL.out Try.underlying26 rfl HSZ.out ?_) | ((with_reducible refine atStore ?_); refine wpList_store_by rfl 26 (.tmp 2) (.tmp 29) rfl (.pointer (some ⟨w.heap.size, 0, none⟩)) _ rfl rfl HST.out ?_))
  refine bodyPost_ret (v := .agg C) (results_cell_row rfl _ _ w.heap.size 26 C (0, 0) _ rfl (setRow_heap _ _ _ _ _ _ HS3.out.z) Try.underlying26 rfl HSZ.out) rfl (HFIN.out _ _ ⟨rfl, (HS3.out.done (goodsCR bq br) C).1, (HS3.out.done (goodsCR bq br) C).2⟩)
end Go.Proofs.Ytlngefhjoobmdaa
