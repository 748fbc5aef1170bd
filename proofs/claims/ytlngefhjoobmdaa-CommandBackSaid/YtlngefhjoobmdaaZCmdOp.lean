/- op: both readers (layer 16). -/
import Derived.Test.YtlngefhjoobmdaaZCmdTok
namespace Go.Proofs.Ytlngefhjoobmdaa
open Go.RowKit
structure COp where
  del : Bool
  key : ByteArray
  val : ByteArray
  cond : Nat
  ttl : Nat
def COp.cells (q : COp) : List Value := [.bool q.del, .string q.key, .string q.val, .int .u64 (q.cond : Int), .int .u64 (q.ttl : Int)]
def COp.v (q : COp) : Value := .agg q.cells.toArray
/-- What is read as an op. -/
def opN (tag : Nat) (s : RS) (bad : Bool) : COp × RS × Bool :=
  let f : Bool × RS × Bool := if tag = 9 then (decide (rN 1 s = 1), rN' 1 s, bad || !decide (rN 1 s ≤ 1)) else (decide (tag = 8), s, bad)
  let key := rT f.2.1
  let s2 := rT' f.2.1
  let b2 := f.2.2 || !okT 1 64 key
  if tag = 7 then (⟨f.1, key, ByteArray.empty, 0, 0⟩, s2, b2) else
  if f.1 = true then (⟨true, key, ByteArray.empty, rN 8 s2, 0⟩, rN' 8 s2, b2) else
  (⟨false, key, rT (rN' 8 s2), rN 8 s2, rN 8 (rT' (rN' 8 s2))⟩, rN' 8 (rT' (rN' 8 s2)), b2 || !okT 0 1000 (rT (rN' 8 s2)))
set_option maxRecDepth 100000 in
set_option maxHeartbeats 4000000 in
theorem crOp7 (bq br : Nat) (s : RS) (bad : Bool) (w : World) (h : IsCR bq br w s bad) : Calls Try.prog 49 #[.pointer (some ⟨bq, 0, none⟩), .int .i64 7] w ((COk bq br (IsCR bq br) (opN 7 s bad).1.v (opN 7 s bad).2.1 (opN 7 s bad).2.2 w)) := by
  obtain ⟨s0, hs0⟩ : ∃ x, x = s := ⟨_, rfl⟩
  obtain ⟨d0, hd0⟩ : ∃ x, x = bad := ⟨_, rfl⟩
  rw [← hs0, ← hd0] at h
  obtain ⟨x1, hn1⟩ : ∃ x, x = rT s0 := ⟨_, rfl⟩
  obtain ⟨s1, hs1⟩ : ∃ x, x = rT' s0 := ⟨_, rfl⟩
  obtain ⟨d1, hd1⟩ : ∃ x, x = (d0 || !okT 1 64 x1) := ⟨_, rfl⟩
  have HQ1 := Lib.hid (fun W (hW : IsCR bq br W s0 d0) => by have := crText bq br s0 d0 1 64 W hW; rw [← hn1, ← hs1, ← hd1] at this; exact this)
  obtain ⟨C, hC⟩ : ∃ C : Array Value, C = #[.bool false, .string x1, .string ByteArray.empty, .int .u64 0, .int .u64 0] := ⟨_, rfl⟩
  have HFIN := Lib.hid (show ∀ e W', COk bq br (IsCR bq br) (.agg C) s1 d1 w e W' → (COk bq br (IsCR bq br) (opN 7 s bad).1.v (opN 7 s bad).2.1 (opN 7 s bad).2.2 w) e W' from fun e W' hh => by
    subst hC
    have he : opN 7 s bad = (⟨false, x1, ByteArray.empty, 0, 0⟩, s1, d1) := by
      unfold opN
      simp only [hn1, hs1, hd1, hs0, hd0] <;> simp
    rw [he]
    exact hh)
  have H := Lib.hid h
  have HLT := Lib.hid ((goodCR bq br).lt h)
  have q0 : ((w.alloc (.cells #[.bool false, .string ByteArray.empty, .string ByteArray.empty, .int .u64 0, .int .u64 0] 93)).alloc (.cells #[.bool false, .string ByteArray.empty, .string ByteArray.empty, .int .u64 0, .int .u64 0] 93)).cell? ⟨bq, 0, none⟩ = some (.pointer (some ⟨br, 0, none⟩)) := ((((Below.refl w.heap.size w).alloc (Nat.le_refl _) _).alloc (by simp) _).cell (p := ⟨bq, 0, none⟩) HLT.out.1).trans h.cells.c0
  have HS0 := Lib.hid (C2.start2 (T := 93) (Z := #[.bool false, .string ByteArray.empty, .string ByteArray.empty, .int .u64 0, .int .u64 0]) (C := #[.bool false, .string ByteArray.empty, .string ByteArray.empty, .int .u64 0, .int .u64 0]) (goodsCR bq br).toGood h rfl rfl)
  clear h hs0 hd0 hn1 hs1 hd1
  go_enter Try.func49, Try.ntmps49
  go_wp2_with fail
  generalize hW0 : World.alloc (World.alloc w _) _ = WA
  have HS0 : Hid (C2 bq br (IsCR bq br) w w.heap.size (w.heap.size + 1) 93 #[.bool false, .string ByteArray.empty, .string ByteArray.empty, .int .u64 0, .int .u64 0] #[.bool false, .string ByteArray.empty, .string ByteArray.empty, .int .u64 0, .int .u64 0] s0 d0 WA) := by rw [← hW0]; exact HS0
  clear hW0 q0
  generalize w.heap.size + 1 = b3 at *
  refine (HQ1.out _ HS0.out.rd).mono ?_
  rintro e W1 ⟨rfl, hr, hg⟩
  have HT := Lib.hid (HS0.out.call hr hg)
  have hc : W1.cell? ⟨b3, 1, none⟩ = some (.string ByteArray.empty) := (cell_of_row _ b3 1 _ _ _ HT.out.c).trans rfl
  have hf := frozen_of_row _ b3 1 _ _ HT.out.c
  have hq : ∀ v, (W1.setCell ⟨b3, 1, none⟩ v).cell? ⟨bq, 0, none⟩ = some (.pointer (some ⟨br, 0, none⟩)) := fun v => (World.cell?_of_block (Below.heap_setCell _ _ _ _ (by have := HT.out.lo3; have := HT.out.lt; simp only; omega))).trans hr.cells.c0
  have HS1 := Lib.hid (HT.out.store (C' := #[.bool false, .string x1, .string ByteArray.empty, .int .u64 0, .int .u64 0]) 1 (.string x1) rfl)
  clear hr hg HS0 HQ1 HT
  rw [← hC] at HS1
  have HL := Lib.hid HS1.out.c
  have HST := Lib.hid (run_storeRow _ 93 w.heap.size #[.bool false, .string ByteArray.empty, .string ByteArray.empty, .int .u64 0, .int .u64 0] C HS1.out.z (by rw [hC]; exact op_size) (by rw [hC]; rfl) (by rw [hC]; simp [Value.oneCell']))
  have HSZ := Lib.hid (show (Try.prog.info? 93).map (·.size) = some C.size by rw [hC]; exact op_size)
  clear hC
  go_wp2_with (first | ((with_reducible refine atLoad ?_); refine wpList_load_row rfl 93 (.tmp 5) rfl b3 rfl 93 C (0, 0) _ HL.out Try.underlying93 rfl HSZ.out ?_) | ((with_reducible refine atStore ?_); refine wpList_store_by rfl 93 (.tmp 4) (.tmp 19) rfl (.pointer (some ⟨w.heap.size, 0, none⟩)) _ rfl rfl HST.out ?_))
  refine bodyPost_ret (v := .agg C) (results_cell_row rfl _ _ w.heap.size 93 C (0, 0) _ rfl (setRow_heap _ _ _ _ _ _ HS1.out.z) Try.underlying93 rfl HSZ.out) rfl (HFIN.out _ _ ⟨rfl, (HS1.out.done (goodsCR bq br) C).1, (HS1.out.done (goodsCR bq br) C).2⟩)
set_option maxRecDepth 100000 in
set_option maxHeartbeats 4000000 in
theorem crOp8 (bq br : Nat) (s : RS) (bad : Bool) (w : World) (h : IsCR bq br w s bad) : Calls Try.prog 49 #[.pointer (some ⟨bq, 0, none⟩), .int .i64 8] w ((COk bq br (IsCR bq br) (opN 8 s bad).1.v (opN 8 s bad).2.1 (opN 8 s bad).2.2 w)) := by
  obtain ⟨s0, hs0⟩ : ∃ x, x = s := ⟨_, rfl⟩
  obtain ⟨d0, hd0⟩ : ∃ x, x = bad := ⟨_, rfl⟩
  rw [← hs0, ← hd0] at h
  obtain ⟨x1, hn1⟩ : ∃ x, x = rT s0 := ⟨_, rfl⟩
  obtain ⟨s1, hs1⟩ : ∃ x, x = rT' s0 := ⟨_, rfl⟩
  obtain ⟨d1, hd1⟩ : ∃ x, x = (d0 || !okT 1 64 x1) := ⟨_, rfl⟩
  have HQ1 := Lib.hid (fun W (hW : IsCR bq br W s0 d0) => by have := crText bq br s0 d0 1 64 W hW; rw [← hn1, ← hs1, ← hd1] at this; exact this)
  obtain ⟨n2, hn2⟩ : ∃ x, x = rN 8 s1 := ⟨_, rfl⟩
  obtain ⟨s2, hs2⟩ : ∃ x, x = rN' 8 s1 := ⟨_, rfl⟩
  obtain ⟨d2, hd2⟩ : ∃ x, x = d1 := ⟨_, rfl⟩
  have HQ2 := Lib.hid (fun W (hW : IsCR bq br W s1 d1) => by have := crNum bq br s1 d1 8 W hW; rw [← hn2, ← hs2, ← hd2] at this; exact this)
  have hb2 : (n2 : Int) ≤ 18446744073709551615 := by have := rN8 s1; omega
  obtain ⟨C, hC⟩ : ∃ C : Array Value, C = #[.bool true, .string x1, .string ByteArray.empty, .int .u64 (n2 : Int), .int .u64 0] := ⟨_, rfl⟩
  have HFIN := Lib.hid (show ∀ e W', COk bq br (IsCR bq br) (.agg C) s2 d2 w e W' → (COk bq br (IsCR bq br) (opN 8 s bad).1.v (opN 8 s bad).2.1 (opN 8 s bad).2.2 w) e W' from fun e W' hh => by
    subst hC
    have he : opN 8 s bad = (⟨true, x1, ByteArray.empty, n2, 0⟩, s2, d2) := by
      unfold opN
      simp only [hn1, hs1, hd1, hn2, hs2, hd2, hs0, hd0] <;> simp
    rw [he]
    exact hh)
  have H := Lib.hid h
  have HLT := Lib.hid ((goodCR bq br).lt h)
  have q0 : ((w.alloc (.cells #[.bool false, .string ByteArray.empty, .string ByteArray.empty, .int .u64 0, .int .u64 0] 93)).alloc (.cells #[.bool true, .string ByteArray.empty, .string ByteArray.empty, .int .u64 0, .int .u64 0] 93)).cell? ⟨bq, 0, none⟩ = some (.pointer (some ⟨br, 0, none⟩)) := ((((Below.refl w.heap.size w).alloc (Nat.le_refl _) _).alloc (by simp) _).cell (p := ⟨bq, 0, none⟩) HLT.out.1).trans h.cells.c0
  have HS0 := Lib.hid (C2.start2 (T := 93) (Z := #[.bool false, .string ByteArray.empty, .string ByteArray.empty, .int .u64 0, .int .u64 0]) (C := #[.bool true, .string ByteArray.empty, .string ByteArray.empty, .int .u64 0, .int .u64 0]) (goodsCR bq br).toGood h rfl rfl)
  clear h hs0 hd0 hn1 hs1 hd1 hn2 hs2 hd2
  go_enter Try.func49, Try.ntmps49
  go_wp2_with fail
  generalize hW0 : World.alloc (World.alloc w _) _ = WA
  have HS0 : Hid (C2 bq br (IsCR bq br) w w.heap.size (w.heap.size + 1) 93 #[.bool false, .string ByteArray.empty, .string ByteArray.empty, .int .u64 0, .int .u64 0] #[.bool true, .string ByteArray.empty, .string ByteArray.empty, .int .u64 0, .int .u64 0] s0 d0 WA) := by rw [← hW0]; exact HS0
  clear hW0 q0
  generalize w.heap.size + 1 = b3 at *
  refine (HQ1.out _ HS0.out.rd).mono ?_
  rintro e W1 ⟨rfl, hr, hg⟩
  have HT := Lib.hid (HS0.out.call hr hg)
  have hc : W1.cell? ⟨b3, 1, none⟩ = some (.string ByteArray.empty) := (cell_of_row _ b3 1 _ _ _ HT.out.c).trans rfl
  have hf := frozen_of_row _ b3 1 _ _ HT.out.c
  have hq : ∀ v, (W1.setCell ⟨b3, 1, none⟩ v).cell? ⟨bq, 0, none⟩ = some (.pointer (some ⟨br, 0, none⟩)) := fun v => (World.cell?_of_block (Below.heap_setCell _ _ _ _ (by have := HT.out.lo3; have := HT.out.lt; simp only; omega))).trans hr.cells.c0
  have HS1 := Lib.hid (HT.out.store (C' := #[.bool true, .string x1, .string ByteArray.empty, .int .u64 0, .int .u64 0]) 1 (.string x1) rfl)
  clear hr hg HS0 HQ1 HT
  go_wp2_with fail
  generalize World.setCell W1 _ _ = WA at HS1 ⊢
  clear hc hf hq
  refine (HQ2.out _ HS1.out.rd).mono ?_
  rintro e W2 ⟨rfl, hr, hg⟩
  have HT := Lib.hid (HS1.out.call hr hg)
  have hc : W2.cell? ⟨b3, 3, none⟩ = some (.int .u64 0) := (cell_of_row _ b3 3 _ _ _ HT.out.c).trans rfl
  have hf := frozen_of_row _ b3 3 _ _ HT.out.c
  have hq : ∀ v, (W2.setCell ⟨b3, 3, none⟩ v).cell? ⟨bq, 0, none⟩ = some (.pointer (some ⟨br, 0, none⟩)) := fun v => (World.cell?_of_block (Below.heap_setCell _ _ _ _ (by have := HT.out.lo3; have := HT.out.lt; simp only; omega))).trans hr.cells.c0
  have hx0 : W2.cell? ⟨b3, 0, none⟩ = some (.bool true) := (cell_of_row _ b3 0 _ _ _ HT.out.c).trans rfl
  have HS2 := Lib.hid (HT.out.store (C' := #[.bool true, .string x1, .string ByteArray.empty, .int .u64 (n2 : Int), .int .u64 0]) 3 (.int .u64 (n2 : Int)) rfl)
  clear hr hg HS1 HQ2 HT
  rw [← hC] at HS2
  have HL := Lib.hid HS2.out.c
  have HST := Lib.hid (run_storeRow _ 93 w.heap.size #[.bool false, .string ByteArray.empty, .string ByteArray.empty, .int .u64 0, .int .u64 0] C HS2.out.z (by rw [hC]; exact op_size) (by rw [hC]; rfl) (by rw [hC]; simp [Value.oneCell']))
  have HSZ := Lib.hid (show (Try.prog.info? 93).map (·.size) = some C.size by rw [hC]; exact op_size)
  clear hC
  go_wp2_with (first | ((with_reducible refine atLoad ?_); refine wpList_load_row rfl 93 (.tmp 5) rfl b3 rfl 93 C (0, 0) _ HL.out Try.underlying93 rfl HSZ.out ?_) | ((with_reducible refine atStore ?_); refine wpList_store_by rfl 93 (.tmp 4) (.tmp 38) rfl (.pointer (some ⟨w.heap.size, 0, none⟩)) _ rfl rfl HST.out ?_))
  refine bodyPost_ret (v := .agg C) (results_cell_row rfl _ _ w.heap.size 93 C (0, 0) _ rfl (setRow_heap _ _ _ _ _ _ HS2.out.z) Try.underlying93 rfl HSZ.out) rfl (HFIN.out _ _ ⟨rfl, (HS2.out.done (goodsCR bq br) C).1, (HS2.out.done (goodsCR bq br) C).2⟩)
set_option maxRecDepth 100000 in
set_option maxHeartbeats 4000000 in
theorem crOp6 (bq br : Nat) (s : RS) (bad : Bool) (w : World) (h : IsCR bq br w s bad) : Calls Try.prog 49 #[.pointer (some ⟨bq, 0, none⟩), .int .i64 6] w ((COk bq br (IsCR bq br) (opN 6 s bad).1.v (opN 6 s bad).2.1 (opN 6 s bad).2.2 w)) := by
  obtain ⟨s0, hs0⟩ : ∃ x, x = s := ⟨_, rfl⟩
  obtain ⟨d0, hd0⟩ : ∃ x, x = bad := ⟨_, rfl⟩
  rw [← hs0, ← hd0] at h
  obtain ⟨x1, hn1⟩ : ∃ x, x = rT s0 := ⟨_, rfl⟩
  obtain ⟨s1, hs1⟩ : ∃ x, x = rT' s0 := ⟨_, rfl⟩
  obtain ⟨d1, hd1⟩ : ∃ x, x = (d0 || !okT 1 64 x1) := ⟨_, rfl⟩
  have HQ1 := Lib.hid (fun W (hW : IsCR bq br W s0 d0) => by have := crText bq br s0 d0 1 64 W hW; rw [← hn1, ← hs1, ← hd1] at this; exact this)
  obtain ⟨n2, hn2⟩ : ∃ x, x = rN 8 s1 := ⟨_, rfl⟩
  obtain ⟨s2, hs2⟩ : ∃ x, x = rN' 8 s1 := ⟨_, rfl⟩
  obtain ⟨d2, hd2⟩ : ∃ x, x = d1 := ⟨_, rfl⟩
  have HQ2 := Lib.hid (fun W (hW : IsCR bq br W s1 d1) => by have := crNum bq br s1 d1 8 W hW; rw [← hn2, ← hs2, ← hd2] at this; exact this)
  have hb2 : (n2 : Int) ≤ 18446744073709551615 := by have := rN8 s1; omega
  obtain ⟨x3, hn3⟩ : ∃ x, x = rT s2 := ⟨_, rfl⟩
  obtain ⟨s3, hs3⟩ : ∃ x, x = rT' s2 := ⟨_, rfl⟩
  obtain ⟨d3, hd3⟩ : ∃ x, x = (d2 || !okT 0 1000 x3) := ⟨_, rfl⟩
  have HQ3 := Lib.hid (fun W (hW : IsCR bq br W s2 d2) => by have := crText bq br s2 d2 0 1000 W hW; rw [← hn3, ← hs3, ← hd3] at this; exact this)
  obtain ⟨n4, hn4⟩ : ∃ x, x = rN 8 s3 := ⟨_, rfl⟩
  obtain ⟨s4, hs4⟩ : ∃ x, x = rN' 8 s3 := ⟨_, rfl⟩
  obtain ⟨d4, hd4⟩ : ∃ x, x = d3 := ⟨_, rfl⟩
  have HQ4 := Lib.hid (fun W (hW : IsCR bq br W s3 d3) => by have := crNum bq br s3 d3 8 W hW; rw [← hn4, ← hs4, ← hd4] at this; exact this)
  have hb4 : (n4 : Int) ≤ 18446744073709551615 := by have := rN8 s3; omega
  obtain ⟨C, hC⟩ : ∃ C : Array Value, C = #[.bool false, .string x1, .string x3, .int .u64 (n2 : Int), .int .u64 (n4 : Int)] := ⟨_, rfl⟩
  have HFIN := Lib.hid (show ∀ e W', COk bq br (IsCR bq br) (.agg C) s4 d4 w e W' → (COk bq br (IsCR bq br) (opN 6 s bad).1.v (opN 6 s bad).2.1 (opN 6 s bad).2.2 w) e W' from fun e W' hh => by
    subst hC
    have he : opN 6 s bad = (⟨false, x1, x3, n2, n4⟩, s4, d4) := by
      unfold opN
      simp only [hn1, hs1, hd1, hn2, hs2, hd2, hn3, hs3, hd3, hn4, hs4, hd4, hs0, hd0] <;> simp
    rw [he]
    exact hh)
  have H := Lib.hid h
  have HLT := Lib.hid ((goodCR bq br).lt h)
  have q0 : ((w.alloc (.cells #[.bool false, .string ByteArray.empty, .string ByteArray.empty, .int .u64 0, .int .u64 0] 93)).alloc (.cells #[.bool false, .string ByteArray.empty, .string ByteArray.empty, .int .u64 0, .int .u64 0] 93)).cell? ⟨bq, 0, none⟩ = some (.pointer (some ⟨br, 0, none⟩)) := ((((Below.refl w.heap.size w).alloc (Nat.le_refl _) _).alloc (by simp) _).cell (p := ⟨bq, 0, none⟩) HLT.out.1).trans h.cells.c0
  have HS0 := Lib.hid (C2.start2 (T := 93) (Z := #[.bool false, .string ByteArray.empty, .string ByteArray.empty, .int .u64 0, .int .u64 0]) (C := #[.bool false, .string ByteArray.empty, .string ByteArray.empty, .int .u64 0, .int .u64 0]) (goodsCR bq br).toGood h rfl rfl)
  clear h hs0 hd0 hn1 hs1 hd1 hn2 hs2 hd2 hn3 hs3 hd3 hn4 hs4 hd4
  go_enter Try.func49, Try.ntmps49
  go_wp2_with fail
  generalize hW0 : World.alloc (World.alloc w _) _ = WA
  have HS0 : Hid (C2 bq br (IsCR bq br) w w.heap.size (w.heap.size + 1) 93 #[.bool false, .string ByteArray.empty, .string ByteArray.empty, .int .u64 0, .int .u64 0] #[.bool false, .string ByteArray.empty, .string ByteArray.empty, .int .u64 0, .int .u64 0] s0 d0 WA) := by rw [← hW0]; exact HS0
  clear hW0 q0
  generalize w.heap.size + 1 = b3 at *
  refine (HQ1.out _ HS0.out.rd).mono ?_
  rintro e W1 ⟨rfl, hr, hg⟩
  have HT := Lib.hid (HS0.out.call hr hg)
  have hc : W1.cell? ⟨b3, 1, none⟩ = some (.string ByteArray.empty) := (cell_of_row _ b3 1 _ _ _ HT.out.c).trans rfl
  have hf := frozen_of_row _ b3 1 _ _ HT.out.c
  have hq : ∀ v, (W1.setCell ⟨b3, 1, none⟩ v).cell? ⟨bq, 0, none⟩ = some (.pointer (some ⟨br, 0, none⟩)) := fun v => (World.cell?_of_block (Below.heap_setCell _ _ _ _ (by have := HT.out.lo3; have := HT.out.lt; simp only; omega))).trans hr.cells.c0
  have HS1 := Lib.hid (HT.out.store (C' := #[.bool false, .string x1, .string ByteArray.empty, .int .u64 0, .int .u64 0]) 1 (.string x1) rfl)
  clear hr hg HS0 HQ1 HT
  go_wp2_with fail
  generalize World.setCell W1 _ _ = WA at HS1 ⊢
  clear hc hf hq
  refine (HQ2.out _ HS1.out.rd).mono ?_
  rintro e W2 ⟨rfl, hr, hg⟩
  have HT := Lib.hid (HS1.out.call hr hg)
  have hc : W2.cell? ⟨b3, 3, none⟩ = some (.int .u64 0) := (cell_of_row _ b3 3 _ _ _ HT.out.c).trans rfl
  have hf := frozen_of_row _ b3 3 _ _ HT.out.c
  have hq : ∀ v, (W2.setCell ⟨b3, 3, none⟩ v).cell? ⟨bq, 0, none⟩ = some (.pointer (some ⟨br, 0, none⟩)) := fun v => (World.cell?_of_block (Below.heap_setCell _ _ _ _ (by have := HT.out.lo3; have := HT.out.lt; simp only; omega))).trans hr.cells.c0
  have hx0 : W2.cell? ⟨b3, 0, none⟩ = some (.bool false) := (cell_of_row _ b3 0 _ _ _ HT.out.c).trans rfl
  have HS2 := Lib.hid (HT.out.store (C' := #[.bool false, .string x1, .string ByteArray.empty, .int .u64 (n2 : Int), .int .u64 0]) 3 (.int .u64 (n2 : Int)) rfl)
  clear hr hg HS1 HQ2 HT
  go_wp2_with fail
  generalize World.setCell W2 _ _ = WA at HS2 ⊢
  clear hc hf hq hx0
  refine (HQ3.out _ HS2.out.rd).mono ?_
  rintro e W3 ⟨rfl, hr, hg⟩
  have HT := Lib.hid (HS2.out.call hr hg)
  have hc : W3.cell? ⟨b3, 2, none⟩ = some (.string ByteArray.empty) := (cell_of_row _ b3 2 _ _ _ HT.out.c).trans rfl
  have hf := frozen_of_row _ b3 2 _ _ HT.out.c
  have hq : ∀ v, (W3.setCell ⟨b3, 2, none⟩ v).cell? ⟨bq, 0, none⟩ = some (.pointer (some ⟨br, 0, none⟩)) := fun v => (World.cell?_of_block (Below.heap_setCell _ _ _ _ (by have := HT.out.lo3; have := HT.out.lt; simp only; omega))).trans hr.cells.c0
  have HS3 := Lib.hid (HT.out.store (C' := #[.bool false, .string x1, .string x3, .int .u64 (n2 : Int), .int .u64 0]) 2 (.string x3) rfl)
  clear hr hg HS2 HQ3 HT
  go_wp2_with fail
  generalize World.setCell W3 _ _ = WA at HS3 ⊢
  clear hc hf hq
  refine (HQ4.out _ HS3.out.rd).mono ?_
  rintro e W4 ⟨rfl, hr, hg⟩
  have HT := Lib.hid (HS3.out.call hr hg)
  have hc : W4.cell? ⟨b3, 4, none⟩ = some (.int .u64 0) := (cell_of_row _ b3 4 _ _ _ HT.out.c).trans rfl
  have hf := frozen_of_row _ b3 4 _ _ HT.out.c
  have hq : ∀ v, (W4.setCell ⟨b3, 4, none⟩ v).cell? ⟨bq, 0, none⟩ = some (.pointer (some ⟨br, 0, none⟩)) := fun v => (World.cell?_of_block (Below.heap_setCell _ _ _ _ (by have := HT.out.lo3; have := HT.out.lt; simp only; omega))).trans hr.cells.c0
  have HS4 := Lib.hid (HT.out.store (C' := #[.bool false, .string x1, .string x3, .int .u64 (n2 : Int), .int .u64 (n4 : Int)]) 4 (.int .u64 (n4 : Int)) rfl)
  clear hr hg HS3 HQ4 HT
  rw [← hC] at HS4
  have HL := Lib.hid HS4.out.c
  have HST := Lib.hid (run_storeRow _ 93 w.heap.size #[.bool false, .string ByteArray.empty, .string ByteArray.empty, .int .u64 0, .int .u64 0] C HS4.out.z (by rw [hC]; exact op_size) (by rw [hC]; rfl) (by rw [hC]; simp [Value.oneCell']))
  have HSZ := Lib.hid (show (Try.prog.info? 93).map (·.size) = some C.size by rw [hC]; exact op_size)
  clear hC
  go_wp2_with (first | ((with_reducible refine atLoad ?_); refine wpList_load_row rfl 93 (.tmp 5) rfl b3 rfl 93 C (0, 0) _ HL.out Try.underlying93 rfl HSZ.out ?_) | ((with_reducible refine atStore ?_); refine wpList_store_by rfl 93 (.tmp 4) (.tmp 38) rfl (.pointer (some ⟨w.heap.size, 0, none⟩)) _ rfl rfl HST.out ?_))
  refine bodyPost_ret (v := .agg C) (results_cell_row rfl _ _ w.heap.size 93 C (0, 0) _ rfl (setRow_heap _ _ _ _ _ _ HS4.out.z) Try.underlying93 rfl HSZ.out) rfl (HFIN.out _ _ ⟨rfl, (HS4.out.done (goodsCR bq br) C).1, (HS4.out.done (goodsCR bq br) C).2⟩)
set_option maxRecDepth 100000 in
set_option maxHeartbeats 4000000 in
theorem crOp9d (bq br : Nat) (s : RS) (bad : Bool) (w : World) (h : IsCR bq br w s bad) (hfl : decide (rN 1 s = 1) = true) : Calls Try.prog 49 #[.pointer (some ⟨bq, 0, none⟩), .int .i64 9] w ((COk bq br (IsCR bq br) (opN 9 s bad).1.v (opN 9 s bad).2.1 (opN 9 s bad).2.2 w)) := by
  obtain ⟨s0, hs0⟩ : ∃ x, x = s := ⟨_, rfl⟩
  obtain ⟨d0, hd0⟩ : ∃ x, x = bad := ⟨_, rfl⟩
  rw [← hs0, ← hd0] at h
  have hn1 : true = decide (rN 1 s0 = 1) := by rw [hs0]; exact hfl.symm
  obtain ⟨s1, hs1⟩ : ∃ x, x = rN' 1 s0 := ⟨_, rfl⟩
  obtain ⟨d1, hd1⟩ : ∃ x, x = (d0 || !decide (rN 1 s0 ≤ 1)) := ⟨_, rfl⟩
  have HQ1 := Lib.hid (fun W (hW : IsCR bq br W s0 d0) => by have := crFlag bq br s0 d0 W hW; rw [← hn1, ← hs1, ← hd1] at this; exact this)
  obtain ⟨x2, hn2⟩ : ∃ x, x = rT s1 := ⟨_, rfl⟩
  obtain ⟨s2, hs2⟩ : ∃ x, x = rT' s1 := ⟨_, rfl⟩
  obtain ⟨d2, hd2⟩ : ∃ x, x = (d1 || !okT 1 64 x2) := ⟨_, rfl⟩
  have HQ2 := Lib.hid (fun W (hW : IsCR bq br W s1 d1) => by have := crText bq br s1 d1 1 64 W hW; rw [← hn2, ← hs2, ← hd2] at this; exact this)
  obtain ⟨n3, hn3⟩ : ∃ x, x = rN 8 s2 := ⟨_, rfl⟩
  obtain ⟨s3, hs3⟩ : ∃ x, x = rN' 8 s2 := ⟨_, rfl⟩
  obtain ⟨d3, hd3⟩ : ∃ x, x = d2 := ⟨_, rfl⟩
  have HQ3 := Lib.hid (fun W (hW : IsCR bq br W s2 d2) => by have := crNum bq br s2 d2 8 W hW; rw [← hn3, ← hs3, ← hd3] at this; exact this)
  have hb3 : (n3 : Int) ≤ 18446744073709551615 := by have := rN8 s2; omega
  obtain ⟨C, hC⟩ : ∃ C : Array Value, C = #[.bool true, .string x2, .string ByteArray.empty, .int .u64 (n3 : Int), .int .u64 0] := ⟨_, rfl⟩
  have HFIN := Lib.hid (show ∀ e W', COk bq br (IsCR bq br) (.agg C) s3 d3 w e W' → (COk bq br (IsCR bq br) (opN 9 s bad).1.v (opN 9 s bad).2.1 (opN 9 s bad).2.2 w) e W' from fun e W' hh => by
    subst hC
    have he : opN 9 s bad = (⟨true, x2, ByteArray.empty, n3, 0⟩, s3, d3) := by
      unfold opN
      simp only [hn1, hs1, hd1, hn2, hs2, hd2, hn3, hs3, hd3, hs0, hd0] <;> simp [of_decide_eq_true hfl]
    rw [he]
    exact hh)
  have H := Lib.hid h
  have HLT := Lib.hid ((goodCR bq br).lt h)
  have q0 : ((w.alloc (.cells #[.bool false, .string ByteArray.empty, .string ByteArray.empty, .int .u64 0, .int .u64 0] 93)).alloc (.cells #[.bool false, .string ByteArray.empty, .string ByteArray.empty, .int .u64 0, .int .u64 0] 93)).cell? ⟨bq, 0, none⟩ = some (.pointer (some ⟨br, 0, none⟩)) := ((((Below.refl w.heap.size w).alloc (Nat.le_refl _) _).alloc (by simp) _).cell (p := ⟨bq, 0, none⟩) HLT.out.1).trans h.cells.c0
  have HS0 := Lib.hid (C2.start2 (T := 93) (Z := #[.bool false, .string ByteArray.empty, .string ByteArray.empty, .int .u64 0, .int .u64 0]) (C := #[.bool false, .string ByteArray.empty, .string ByteArray.empty, .int .u64 0, .int .u64 0]) (goodsCR bq br).toGood h rfl rfl)
  clear h hs0 hd0 hn1 hs1 hd1 hn2 hs2 hd2 hn3 hs3 hd3
  go_enter Try.func49, Try.ntmps49
  go_wp2_with fail
  generalize hW0 : World.alloc (World.alloc w _) _ = WA
  have HS0 : Hid (C2 bq br (IsCR bq br) w w.heap.size (w.heap.size + 1) 93 #[.bool false, .string ByteArray.empty, .string ByteArray.empty, .int .u64 0, .int .u64 0] #[.bool false, .string ByteArray.empty, .string ByteArray.empty, .int .u64 0, .int .u64 0] s0 d0 WA) := by rw [← hW0]; exact HS0
  clear hW0 q0
  generalize w.heap.size + 1 = b3 at *
  refine (HQ1.out _ HS0.out.rd).mono ?_
  rintro e W1 ⟨rfl, hr, hg⟩
  have HT := Lib.hid (HS0.out.call hr hg)
  have hc : W1.cell? ⟨b3, 0, none⟩ = some (.bool false) := (cell_of_row _ b3 0 _ _ _ HT.out.c).trans rfl
  have hf := frozen_of_row _ b3 0 _ _ HT.out.c
  have hq : ∀ v, (W1.setCell ⟨b3, 0, none⟩ v).cell? ⟨bq, 0, none⟩ = some (.pointer (some ⟨br, 0, none⟩)) := fun v => (World.cell?_of_block (Below.heap_setCell _ _ _ _ (by have := HT.out.lo3; have := HT.out.lt; simp only; omega))).trans hr.cells.c0
  have HS1 := Lib.hid (HT.out.store (C' := #[.bool true, .string ByteArray.empty, .string ByteArray.empty, .int .u64 0, .int .u64 0]) 0 (.bool true) rfl)
  clear hr hg HS0 HQ1 HT
  go_wp2_with fail
  generalize World.setCell W1 _ _ = WA at HS1 ⊢
  clear hc hf hq
  refine (HQ2.out _ HS1.out.rd).mono ?_
  rintro e W2 ⟨rfl, hr, hg⟩
  have HT := Lib.hid (HS1.out.call hr hg)
  have hc : W2.cell? ⟨b3, 1, none⟩ = some (.string ByteArray.empty) := (cell_of_row _ b3 1 _ _ _ HT.out.c).trans rfl
  have hf := frozen_of_row _ b3 1 _ _ HT.out.c
  have hq : ∀ v, (W2.setCell ⟨b3, 1, none⟩ v).cell? ⟨bq, 0, none⟩ = some (.pointer (some ⟨br, 0, none⟩)) := fun v => (World.cell?_of_block (Below.heap_setCell _ _ _ _ (by have := HT.out.lo3; have := HT.out.lt; simp only; omega))).trans hr.cells.c0
  have HS2 := Lib.hid (HT.out.store (C' := #[.bool true, .string x2, .string ByteArray.empty, .int .u64 0, .int .u64 0]) 1 (.string x2) rfl)
  clear hr hg HS1 HQ2 HT
  go_wp2_with fail
  generalize World.setCell W2 _ _ = WA at HS2 ⊢
  clear hc hf hq
  refine (HQ3.out _ HS2.out.rd).mono ?_
  rintro e W3 ⟨rfl, hr, hg⟩
  have HT := Lib.hid (HS2.out.call hr hg)
  have hc : W3.cell? ⟨b3, 3, none⟩ = some (.int .u64 0) := (cell_of_row _ b3 3 _ _ _ HT.out.c).trans rfl
  have hf := frozen_of_row _ b3 3 _ _ HT.out.c
  have hq : ∀ v, (W3.setCell ⟨b3, 3, none⟩ v).cell? ⟨bq, 0, none⟩ = some (.pointer (some ⟨br, 0, none⟩)) := fun v => (World.cell?_of_block (Below.heap_setCell _ _ _ _ (by have := HT.out.lo3; have := HT.out.lt; simp only; omega))).trans hr.cells.c0
  have hx0 : W3.cell? ⟨b3, 0, none⟩ = some (.bool true) := (cell_of_row _ b3 0 _ _ _ HT.out.c).trans rfl
  have HS3 := Lib.hid (HT.out.store (C' := #[.bool true, .string x2, .string ByteArray.empty, .int .u64 (n3 : Int), .int .u64 0]) 3 (.int .u64 (n3 : Int)) rfl)
  clear hr hg HS2 HQ3 HT
  rw [← hC] at HS3
  have HL := Lib.hid HS3.out.c
  have HST := Lib.hid (run_storeRow _ 93 w.heap.size #[.bool false, .string ByteArray.empty, .string ByteArray.empty, .int .u64 0, .int .u64 0] C HS3.out.z (by rw [hC]; exact op_size) (by rw [hC]; rfl) (by rw [hC]; simp [Value.oneCell']))
  have HSZ := Lib.hid (show (Try.prog.info? 93).map (·.size) = some C.size by rw [hC]; exact op_size)
  clear hC
  go_wp2_with (first | ((with_reducible refine atLoad ?_); refine wpList_load_row rfl 93 (.tmp 5) rfl b3 rfl 93 C (0, 0) _ HL.out Try.underlying93 rfl HSZ.out ?_) | ((with_reducible refine atStore ?_); refine wpList_store_by rfl 93 (.tmp 4) (.tmp 38) rfl (.pointer (some ⟨w.heap.size, 0, none⟩)) _ rfl rfl HST.out ?_))
  refine bodyPost_ret (v := .agg C) (results_cell_row rfl _ _ w.heap.size 93 C (0, 0) _ rfl (setRow_heap _ _ _ _ _ _ HS3.out.z) Try.underlying93 rfl HSZ.out) rfl (HFIN.out _ _ ⟨rfl, (HS3.out.done (goodsCR bq br) C).1, (HS3.out.done (goodsCR bq br) C).2⟩)
set_option maxRecDepth 100000 in
set_option maxHeartbeats 4000000 in
theorem crOp9p (bq br : Nat) (s : RS) (bad : Bool) (w : World) (h : IsCR bq br w s bad) (hfl : decide (rN 1 s = 1) = false) : Calls Try.prog 49 #[.pointer (some ⟨bq, 0, none⟩), .int .i64 9] w ((COk bq br (IsCR bq br) (opN 9 s bad).1.v (opN 9 s bad).2.1 (opN 9 s bad).2.2 w)) := by
  obtain ⟨s0, hs0⟩ : ∃ x, x = s := ⟨_, rfl⟩
  obtain ⟨d0, hd0⟩ : ∃ x, x = bad := ⟨_, rfl⟩
  rw [← hs0, ← hd0] at h
  have hn1 : false = decide (rN 1 s0 = 1) := by rw [hs0]; exact hfl.symm
  obtain ⟨s1, hs1⟩ : ∃ x, x = rN' 1 s0 := ⟨_, rfl⟩
  obtain ⟨d1, hd1⟩ : ∃ x, x = (d0 || !decide (rN 1 s0 ≤ 1)) := ⟨_, rfl⟩
  have HQ1 := Lib.hid (fun W (hW : IsCR bq br W s0 d0) => by have := crFlag bq br s0 d0 W hW; rw [← hn1, ← hs1, ← hd1] at this; exact this)
  obtain ⟨x2, hn2⟩ : ∃ x, x = rT s1 := ⟨_, rfl⟩
  obtain ⟨s2, hs2⟩ : ∃ x, x = rT' s1 := ⟨_, rfl⟩
  obtain ⟨d2, hd2⟩ : ∃ x, x = (d1 || !okT 1 64 x2) := ⟨_, rfl⟩
  have HQ2 := Lib.hid (fun W (hW : IsCR bq br W s1 d1) => by have := crText bq br s1 d1 1 64 W hW; rw [← hn2, ← hs2, ← hd2] at this; exact this)
  obtain ⟨n3, hn3⟩ : ∃ x, x = rN 8 s2 := ⟨_, rfl⟩
  obtain ⟨s3, hs3⟩ : ∃ x, x = rN' 8 s2 := ⟨_, rfl⟩
  obtain ⟨d3, hd3⟩ : ∃ x, x = d2 := ⟨_, rfl⟩
  have HQ3 := Lib.hid (fun W (hW : IsCR bq br W s2 d2) => by have := crNum bq br s2 d2 8 W hW; rw [← hn3, ← hs3, ← hd3] at this; exact this)
  have hb3 : (n3 : Int) ≤ 18446744073709551615 := by have := rN8 s2; omega
  obtain ⟨x4, hn4⟩ : ∃ x, x = rT s3 := ⟨_, rfl⟩
  obtain ⟨s4, hs4⟩ : ∃ x, x = rT' s3 := ⟨_, rfl⟩
  obtain ⟨d4, hd4⟩ : ∃ x, x = (d3 || !okT 0 1000 x4) := ⟨_, rfl⟩
  have HQ4 := Lib.hid (fun W (hW : IsCR bq br W s3 d3) => by have := crText bq br s3 d3 0 1000 W hW; rw [← hn4, ← hs4, ← hd4] at this; exact this)
  obtain ⟨n5, hn5⟩ : ∃ x, x = rN 8 s4 := ⟨_, rfl⟩
  obtain ⟨s5, hs5⟩ : ∃ x, x = rN' 8 s4 := ⟨_, rfl⟩
  obtain ⟨d5, hd5⟩ : ∃ x, x = d4 := ⟨_, rfl⟩
  have HQ5 := Lib.hid (fun W (hW : IsCR bq br W s4 d4) => by have := crNum bq br s4 d4 8 W hW; rw [← hn5, ← hs5, ← hd5] at this; exact this)
  have hb5 : (n5 : Int) ≤ 18446744073709551615 := by have := rN8 s4; omega
  obtain ⟨C, hC⟩ : ∃ C : Array Value, C = #[.bool false, .string x2, .string x4, .int .u64 (n3 : Int), .int .u64 (n5 : Int)] := ⟨_, rfl⟩
  have HFIN := Lib.hid (show ∀ e W', COk bq br (IsCR bq br) (.agg C) s5 d5 w e W' → (COk bq br (IsCR bq br) (opN 9 s bad).1.v (opN 9 s bad).2.1 (opN 9 s bad).2.2 w) e W' from fun e W' hh => by
    subst hC
    have he : opN 9 s bad = (⟨false, x2, x4, n3, n5⟩, s5, d5) := by
      unfold opN
      simp only [hn1, hs1, hd1, hn2, hs2, hd2, hn3, hs3, hd3, hn4, hs4, hd4, hn5, hs5, hd5, hs0, hd0] <;> simp [of_decide_eq_false hfl]
    rw [he]
    exact hh)
  have H := Lib.hid h
  have HLT := Lib.hid ((goodCR bq br).lt h)
  have q0 : ((w.alloc (.cells #[.bool false, .string ByteArray.empty, .string ByteArray.empty, .int .u64 0, .int .u64 0] 93)).alloc (.cells #[.bool false, .string ByteArray.empty, .string ByteArray.empty, .int .u64 0, .int .u64 0] 93)).cell? ⟨bq, 0, none⟩ = some (.pointer (some ⟨br, 0, none⟩)) := ((((Below.refl w.heap.size w).alloc (Nat.le_refl _) _).alloc (by simp) _).cell (p := ⟨bq, 0, none⟩) HLT.out.1).trans h.cells.c0
  have HS0 := Lib.hid (C2.start2 (T := 93) (Z := #[.bool false, .string ByteArray.empty, .string ByteArray.empty, .int .u64 0, .int .u64 0]) (C := #[.bool false, .string ByteArray.empty, .string ByteArray.empty, .int .u64 0, .int .u64 0]) (goodsCR bq br).toGood h rfl rfl)
  clear h hs0 hd0 hn1 hs1 hd1 hn2 hs2 hd2 hn3 hs3 hd3 hn4 hs4 hd4 hn5 hs5 hd5
  go_enter Try.func49, Try.ntmps49
  go_wp2_with fail
  generalize hW0 : World.alloc (World.alloc w _) _ = WA
  have HS0 : Hid (C2 bq br (IsCR bq br) w w.heap.size (w.heap.size + 1) 93 #[.bool false, .string ByteArray.empty, .string ByteArray.empty, .int .u64 0, .int .u64 0] #[.bool false, .string ByteArray.empty, .string ByteArray.empty, .int .u64 0, .int .u64 0] s0 d0 WA) := by rw [← hW0]; exact HS0
  clear hW0 q0
  generalize w.heap.size + 1 = b3 at *
  refine (HQ1.out _ HS0.out.rd).mono ?_
  rintro e W1 ⟨rfl, hr, hg⟩
  have HT := Lib.hid (HS0.out.call hr hg)
  have hc : W1.cell? ⟨b3, 0, none⟩ = some (.bool false) := (cell_of_row _ b3 0 _ _ _ HT.out.c).trans rfl
  have hf := frozen_of_row _ b3 0 _ _ HT.out.c
  have hq : ∀ v, (W1.setCell ⟨b3, 0, none⟩ v).cell? ⟨bq, 0, none⟩ = some (.pointer (some ⟨br, 0, none⟩)) := fun v => (World.cell?_of_block (Below.heap_setCell _ _ _ _ (by have := HT.out.lo3; have := HT.out.lt; simp only; omega))).trans hr.cells.c0
  have HS1 := Lib.hid (HT.out.store (C' := #[.bool false, .string ByteArray.empty, .string ByteArray.empty, .int .u64 0, .int .u64 0]) 0 (.bool false) rfl)
  clear hr hg HS0 HQ1 HT
  go_wp2_with fail
  generalize World.setCell W1 _ _ = WA at HS1 ⊢
  clear hc hf hq
  refine (HQ2.out _ HS1.out.rd).mono ?_
  rintro e W2 ⟨rfl, hr, hg⟩
  have HT := Lib.hid (HS1.out.call hr hg)
  have hc : W2.cell? ⟨b3, 1, none⟩ = some (.string ByteArray.empty) := (cell_of_row _ b3 1 _ _ _ HT.out.c).trans rfl
  have hf := frozen_of_row _ b3 1 _ _ HT.out.c
  have hq : ∀ v, (W2.setCell ⟨b3, 1, none⟩ v).cell? ⟨bq, 0, none⟩ = some (.pointer (some ⟨br, 0, none⟩)) := fun v => (World.cell?_of_block (Below.heap_setCell _ _ _ _ (by have := HT.out.lo3; have := HT.out.lt; simp only; omega))).trans hr.cells.c0
  have HS2 := Lib.hid (HT.out.store (C' := #[.bool false, .string x2, .string ByteArray.empty, .int .u64 0, .int .u64 0]) 1 (.string x2) rfl)
  clear hr hg HS1 HQ2 HT
  go_wp2_with fail
  generalize World.setCell W2 _ _ = WA at HS2 ⊢
  clear hc hf hq
  refine (HQ3.out _ HS2.out.rd).mono ?_
  rintro e W3 ⟨rfl, hr, hg⟩
  have HT := Lib.hid (HS2.out.call hr hg)
  have hc : W3.cell? ⟨b3, 3, none⟩ = some (.int .u64 0) := (cell_of_row _ b3 3 _ _ _ HT.out.c).trans rfl
  have hf := frozen_of_row _ b3 3 _ _ HT.out.c
  have hq : ∀ v, (W3.setCell ⟨b3, 3, none⟩ v).cell? ⟨bq, 0, none⟩ = some (.pointer (some ⟨br, 0, none⟩)) := fun v => (World.cell?_of_block (Below.heap_setCell _ _ _ _ (by have := HT.out.lo3; have := HT.out.lt; simp only; omega))).trans hr.cells.c0
  have hx0 : W3.cell? ⟨b3, 0, none⟩ = some (.bool false) := (cell_of_row _ b3 0 _ _ _ HT.out.c).trans rfl
  have HS3 := Lib.hid (HT.out.store (C' := #[.bool false, .string x2, .string ByteArray.empty, .int .u64 (n3 : Int), .int .u64 0]) 3 (.int .u64 (n3 : Int)) rfl)
  clear hr hg HS2 HQ3 HT
  go_wp2_with fail
  generalize World.setCell W3 _ _ = WA at HS3 ⊢
  clear hc hf hq hx0
  refine (HQ4.out _ HS3.out.rd).mono ?_
  rintro e W4 ⟨rfl, hr, hg⟩
  have HT := Lib.hid (HS3.out.call hr hg)
  have hc : W4.cell? ⟨b3, 2, none⟩ = some (.string ByteArray.empty) := (cell_of_row _ b3 2 _ _ _ HT.out.c).trans rfl
  have hf := frozen_of_row _ b3 2 _ _ HT.out.c
  have hq : ∀ v, (W4.setCell ⟨b3, 2, none⟩ v).cell? ⟨bq, 0, none⟩ = some (.pointer (some ⟨br, 0, none⟩)) := fun v => (World.cell?_of_block (Below.heap_setCell _ _ _ _ (by have := HT.out.lo3; have := HT.out.lt; simp only; omega))).trans hr.cells.c0
  have HS4 := Lib.hid (HT.out.store (C' := #[.bool false, .string x2, .string x4, .int .u64 (n3 : Int), .int .u64 0]) 2 (.string x4) rfl)
  clear hr hg HS3 HQ4 HT
  go_wp2_with fail
  generalize World.setCell W4 _ _ = WA at HS4 ⊢
  clear hc hf hq
  refine (HQ5.out _ HS4.out.rd).mono ?_
  rintro e W5 ⟨rfl, hr, hg⟩
  have HT := Lib.hid (HS4.out.call hr hg)
  have hc : W5.cell? ⟨b3, 4, none⟩ = some (.int .u64 0) := (cell_of_row _ b3 4 _ _ _ HT.out.c).trans rfl
  have hf := frozen_of_row _ b3 4 _ _ HT.out.c
  have hq : ∀ v, (W5.setCell ⟨b3, 4, none⟩ v).cell? ⟨bq, 0, none⟩ = some (.pointer (some ⟨br, 0, none⟩)) := fun v => (World.cell?_of_block (Below.heap_setCell _ _ _ _ (by have := HT.out.lo3; have := HT.out.lt; simp only; omega))).trans hr.cells.c0
  have HS5 := Lib.hid (HT.out.store (C' := #[.bool false, .string x2, .string x4, .int .u64 (n3 : Int), .int .u64 (n5 : Int)]) 4 (.int .u64 (n5 : Int)) rfl)
  clear hr hg HS4 HQ5 HT
  rw [← hC] at HS5
  have HL := Lib.hid HS5.out.c
  have HST := Lib.hid (run_storeRow _ 93 w.heap.size #[.bool false, .string ByteArray.empty, .string ByteArray.empty, .int .u64 0, .int .u64 0] C HS5.out.z (by rw [hC]; exact op_size) (by rw [hC]; rfl) (by rw [hC]; simp [Value.oneCell']))
  have HSZ := Lib.hid (show (Try.prog.info? 93).map (·.size) = some C.size by rw [hC]; exact op_size)
  clear hC
  go_wp2_with (first | ((with_reducible refine atLoad ?_); refine wpList_load_row rfl 93 (.tmp 5) rfl b3 rfl 93 C (0, 0) _ HL.out Try.underlying93 rfl HSZ.out ?_) | ((with_reducible refine atStore ?_); refine wpList_store_by rfl 93 (.tmp 4) (.tmp 38) rfl (.pointer (some ⟨w.heap.size, 0, none⟩)) _ rfl rfl HST.out ?_))
  refine bodyPost_ret (v := .agg C) (results_cell_row rfl _ _ w.heap.size 93 C (0, 0) _ rfl (setRow_heap _ _ _ _ _ _ HS5.out.z) Try.underlying93 rfl HSZ.out) rfl (HFIN.out _ _ ⟨rfl, (HS5.out.done (goodsCR bq br) C).1, (HS5.out.done (goodsCR bq br) C).2⟩)
set_option maxRecDepth 100000 in
set_option maxHeartbeats 4000000 in
theorem prOp7 (bq br : Nat) (s : RS) (bad : Bool) (w : World) (h : IsPR bq br w s bad) : Calls Try.prog 31 #[.pointer (some ⟨bq, 0, none⟩), .int .i64 7] w ((COk bq br (IsPR bq br) (opN 7 s bad).1.v (opN 7 s bad).2.1 (opN 7 s bad).2.2 w)) := by
  obtain ⟨s0, hs0⟩ : ∃ x, x = s := ⟨_, rfl⟩
  obtain ⟨d0, hd0⟩ : ∃ x, x = bad := ⟨_, rfl⟩
  rw [← hs0, ← hd0] at h
  obtain ⟨x1, hn1⟩ : ∃ x, x = rT s0 := ⟨_, rfl⟩
  obtain ⟨s1, hs1⟩ : ∃ x, x = rT' s0 := ⟨_, rfl⟩
  obtain ⟨d1, hd1⟩ : ∃ x, x = (d0 || !okT 1 64 x1) := ⟨_, rfl⟩
  have HQ1 := Lib.hid (fun W (hW : IsPR bq br W s0 d0) => by have := prText bq br s0 d0 1 64 W hW; rw [← hn1, ← hs1, ← hd1] at this; exact this)
  obtain ⟨C, hC⟩ : ∃ C : Array Value, C = #[.bool false, .string x1, .string ByteArray.empty, .int .u64 0, .int .u64 0] := ⟨_, rfl⟩
  have HFIN := Lib.hid (show ∀ e W', COk bq br (IsPR bq br) (.agg C) s1 d1 w e W' → (COk bq br (IsPR bq br) (opN 7 s bad).1.v (opN 7 s bad).2.1 (opN 7 s bad).2.2 w) e W' from fun e W' hh => by
    subst hC
    have he : opN 7 s bad = (⟨false, x1, ByteArray.empty, 0, 0⟩, s1, d1) := by
      unfold opN
      simp only [hn1, hs1, hd1, hs0, hd0] <;> simp
    rw [he]
    exact hh)
  have H := Lib.hid h
  have HLT := Lib.hid ((goodPR bq br).lt h)
  have q0 : ((w.alloc (.cells #[.bool false, .string ByteArray.empty, .string ByteArray.empty, .int .u64 0, .int .u64 0] 90)).alloc (.cells #[.bool false, .string ByteArray.empty, .string ByteArray.empty, .int .u64 0, .int .u64 0] 90)).cell? ⟨bq, 0, none⟩ = some (.pointer (some ⟨br, 0, none⟩)) := ((((Below.refl w.heap.size w).alloc (Nat.le_refl _) _).alloc (by simp) _).cell (p := ⟨bq, 0, none⟩) HLT.out.1).trans h.cells.c0
  have HS0 := Lib.hid (C2.start2 (T := 90) (Z := #[.bool false, .string ByteArray.empty, .string ByteArray.empty, .int .u64 0, .int .u64 0]) (C := #[.bool false, .string ByteArray.empty, .string ByteArray.empty, .int .u64 0, .int .u64 0]) (goodsPR bq br).toGood h rfl rfl)
  clear h hs0 hd0 hn1 hs1 hd1
  go_enter Try.func31, Try.ntmps31
  go_wp2_with fail
  generalize hW0 : World.alloc (World.alloc w _) _ = WA
  have HS0 : Hid (C2 bq br (IsPR bq br) w w.heap.size (w.heap.size + 1) 90 #[.bool false, .string ByteArray.empty, .string ByteArray.empty, .int .u64 0, .int .u64 0] #[.bool false, .string ByteArray.empty, .string ByteArray.empty, .int .u64 0, .int .u64 0] s0 d0 WA) := by rw [← hW0]; exact HS0
  clear hW0 q0
  generalize w.heap.size + 1 = b3 at *
  refine (HQ1.out _ HS0.out.rd).mono ?_
  rintro e W1 ⟨rfl, hr, hg⟩
  have HT := Lib.hid (HS0.out.call hr hg)
  have hc : W1.cell? ⟨b3, 1, none⟩ = some (.string ByteArray.empty) := (cell_of_row _ b3 1 _ _ _ HT.out.c).trans rfl
  have hf := frozen_of_row _ b3 1 _ _ HT.out.c
  have hq : ∀ v, (W1.setCell ⟨b3, 1, none⟩ v).cell? ⟨bq, 0, none⟩ = some (.pointer (some ⟨br, 0, none⟩)) := fun v => (World.cell?_of_block (Below.heap_setCell _ _ _ _ (by have := HT.out.lo3; have := HT.out.lt; simp only; omega))).trans hr.cells.c0
  have HS1 := Lib.hid (HT.out.store (C' := #[.bool false, .string x1, .string ByteArray.empty, .int .u64 0, .int .u64 0]) 1 (.string x1) rfl)
  clear hr hg HS0 HQ1 HT
  rw [← hC] at HS1
  have HL := Lib.hid HS1.out.c
  have HST := Lib.hid (run_storeRow _ 90 w.heap.size #[.bool false, .string ByteArray.empty, .string ByteArray.empty, .int .u64 0, .int .u64 0] C HS1.out.z (by rw [hC]; exact rop_size) (by rw [hC]; rfl) (by rw [hC]; simp [Value.oneCell']))
  have HSZ := Lib.hid (show (Try.prog.info? 90).map (·.size) = some C.size by rw [hC]; exact rop_size)
  clear hC
  go_wp2_with (first | ((with_reducible refine atLoad ?_); refine wpList_load_row rfl 90 (.tmp 5) rfl b3 rfl 90 C (0, 0) _ HL.out Try.underlying90 rfl HSZ.out ?_) | ((with_reducible refine atStore ?_); refine wpList_store_by rfl 90 (.tmp 4) (.tmp 19) rfl (.pointer (some ⟨w.heap.size, 0, none⟩)) _ rfl rfl HST.out ?_))
  refine bodyPost_ret (v := .agg C) (results_cell_row rfl _ _ w.heap.size 90 C (0, 0) _ rfl (setRow_heap _ _ _ _ _ _ HS1.out.z) Try.underlying90 rfl HSZ.out) rfl (HFIN.out _ _ ⟨rfl, (HS1.out.done (goodsPR bq br) C).1, (HS1.out.done (goodsPR bq br) C).2⟩)
set_option maxRecDepth 100000 in
set_option maxHeartbeats 4000000 in
theorem prOp8 (bq br : Nat) (s : RS) (bad : Bool) (w : World) (h : IsPR bq br w s bad) : Calls Try.prog 31 #[.pointer (some ⟨bq, 0, none⟩), .int .i64 8] w ((COk bq br (IsPR bq br) (opN 8 s bad).1.v (opN 8 s bad).2.1 (opN 8 s bad).2.2 w)) := by
  obtain ⟨s0, hs0⟩ : ∃ x, x = s := ⟨_, rfl⟩
  obtain ⟨d0, hd0⟩ : ∃ x, x = bad := ⟨_, rfl⟩
  rw [← hs0, ← hd0] at h
  obtain ⟨x1, hn1⟩ : ∃ x, x = rT s0 := ⟨_, rfl⟩
  obtain ⟨s1, hs1⟩ : ∃ x, x = rT' s0 := ⟨_, rfl⟩
  obtain ⟨d1, hd1⟩ : ∃ x, x = (d0 || !okT 1 64 x1) := ⟨_, rfl⟩
  have HQ1 := Lib.hid (fun W (hW : IsPR bq br W s0 d0) => by have := prText bq br s0 d0 1 64 W hW; rw [← hn1, ← hs1, ← hd1] at this; exact this)
  obtain ⟨n2, hn2⟩ : ∃ x, x = rN 8 s1 := ⟨_, rfl⟩
  obtain ⟨s2, hs2⟩ : ∃ x, x = rN' 8 s1 := ⟨_, rfl⟩
  obtain ⟨d2, hd2⟩ : ∃ x, x = d1 := ⟨_, rfl⟩
  have HQ2 := Lib.hid (fun W (hW : IsPR bq br W s1 d1) => by have := prNum bq br s1 d1 8 W hW; rw [← hn2, ← hs2, ← hd2] at this; exact this)
  have hb2 : (n2 : Int) ≤ 18446744073709551615 := by have := rN8 s1; omega
  obtain ⟨C, hC⟩ : ∃ C : Array Value, C = #[.bool true, .string x1, .string ByteArray.empty, .int .u64 (n2 : Int), .int .u64 0] := ⟨_, rfl⟩
  have HFIN := Lib.hid (show ∀ e W', COk bq br (IsPR bq br) (.agg C) s2 d2 w e W' → (COk bq br (IsPR bq br) (opN 8 s bad).1.v (opN 8 s bad).2.1 (opN 8 s bad).2.2 w) e W' from fun e W' hh => by
    subst hC
    have he : opN 8 s bad = (⟨true, x1, ByteArray.empty, n2, 0⟩, s2, d2) := by
      unfold opN
      simp only [hn1, hs1, hd1, hn2, hs2, hd2, hs0, hd0] <;> simp
    rw [he]
    exact hh)
  have H := Lib.hid h
  have HLT := Lib.hid ((goodPR bq br).lt h)
  have q0 : ((w.alloc (.cells #[.bool false, .string ByteArray.empty, .string ByteArray.empty, .int .u64 0, .int .u64 0] 90)).alloc (.cells #[.bool true, .string ByteArray.empty, .string ByteArray.empty, .int .u64 0, .int .u64 0] 90)).cell? ⟨bq, 0, none⟩ = some (.pointer (some ⟨br, 0, none⟩)) := ((((Below.refl w.heap.size w).alloc (Nat.le_refl _) _).alloc (by simp) _).cell (p := ⟨bq, 0, none⟩) HLT.out.1).trans h.cells.c0
  have HS0 := Lib.hid (C2.start2 (T := 90) (Z := #[.bool false, .string ByteArray.empty, .string ByteArray.empty, .int .u64 0, .int .u64 0]) (C := #[.bool true, .string ByteArray.empty, .string ByteArray.empty, .int .u64 0, .int .u64 0]) (goodsPR bq br).toGood h rfl rfl)
  clear h hs0 hd0 hn1 hs1 hd1 hn2 hs2 hd2
  go_enter Try.func31, Try.ntmps31
  go_wp2_with fail
  generalize hW0 : World.alloc (World.alloc w _) _ = WA
  have HS0 : Hid (C2 bq br (IsPR bq br) w w.heap.size (w.heap.size + 1) 90 #[.bool false, .string ByteArray.empty, .string ByteArray.empty, .int .u64 0, .int .u64 0] #[.bool true, .string ByteArray.empty, .string ByteArray.empty, .int .u64 0, .int .u64 0] s0 d0 WA) := by rw [← hW0]; exact HS0
  clear hW0 q0
  generalize w.heap.size + 1 = b3 at *
  refine (HQ1.out _ HS0.out.rd).mono ?_
  rintro e W1 ⟨rfl, hr, hg⟩
  have HT := Lib.hid (HS0.out.call hr hg)
  have hc : W1.cell? ⟨b3, 1, none⟩ = some (.string ByteArray.empty) := (cell_of_row _ b3 1 _ _ _ HT.out.c).trans rfl
  have hf := frozen_of_row _ b3 1 _ _ HT.out.c
  have hq : ∀ v, (W1.setCell ⟨b3, 1, none⟩ v).cell? ⟨bq, 0, none⟩ = some (.pointer (some ⟨br, 0, none⟩)) := fun v => (World.cell?_of_block (Below.heap_setCell _ _ _ _ (by have := HT.out.lo3; have := HT.out.lt; simp only; omega))).trans hr.cells.c0
  have HS1 := Lib.hid (HT.out.store (C' := #[.bool true, .string x1, .string ByteArray.empty, .int .u64 0, .int .u64 0]) 1 (.string x1) rfl)
  clear hr hg HS0 HQ1 HT
  go_wp2_with fail
  generalize World.setCell W1 _ _ = WA at HS1 ⊢
  clear hc hf hq
  refine (HQ2.out _ HS1.out.rd).mono ?_
  rintro e W2 ⟨rfl, hr, hg⟩
  have HT := Lib.hid (HS1.out.call hr hg)
  have hc : W2.cell? ⟨b3, 3, none⟩ = some (.int .u64 0) := (cell_of_row _ b3 3 _ _ _ HT.out.c).trans rfl
  have hf := frozen_of_row _ b3 3 _ _ HT.out.c
  have hq : ∀ v, (W2.setCell ⟨b3, 3, none⟩ v).cell? ⟨bq, 0, none⟩ = some (.pointer (some ⟨br, 0, none⟩)) := fun v => (World.cell?_of_block (Below.heap_setCell _ _ _ _ (by have := HT.out.lo3; have := HT.out.lt; simp only; omega))).trans hr.cells.c0
  have hx0 : W2.cell? ⟨b3, 0, none⟩ = some (.bool true) := (cell_of_row _ b3 0 _ _ _ HT.out.c).trans rfl
  have HS2 := Lib.hid (HT.out.store (C' := #[.bool true, .string x1, .string ByteArray.empty, .int .u64 (n2 : Int), .int .u64 0]) 3 (.int .u64 (n2 : Int)) rfl)
  clear hr hg HS1 HQ2 HT
  rw [← hC] at HS2
  have HL := Lib.hid HS2.out.c
  have HST := Lib.hid (run_storeRow _ 90 w.heap.size #[.bool false, .string ByteArray.empty, .string ByteArray.empty, .int .u64 0, .int .u64 0] C HS2.out.z (by rw [hC]; exact rop_size) (by rw [hC]; rfl) (by rw [hC]; simp [Value.oneCell']))
  have HSZ := Lib.hid (show (Try.prog.info? 90).map (·.size) = some C.size by rw [hC]; exact rop_size)
  clear hC
  go_wp2_with (first | ((with_reducible refine atLoad ?_); refine wpList_load_row rfl 90 (.tmp 5) rfl b3 rfl 90 C (0, 0) _ HL.out Try.underlying90 rfl HSZ.out ?_) | ((with_reducible refine atStore ?_); refine wpList_store_by rfl 90 (.tmp 4) (.tmp 38) rfl (.pointer (some ⟨w.heap.size, 0, none⟩)) _ rfl rfl HST.out ?_))
  refine bodyPost_ret (v := .agg C) (results_cell_row rfl _ _ w.heap.size 90 C (0, 0) _ rfl (setRow_heap _ _ _ _ _ _ HS2.out.z) Try.underlying90 rfl HSZ.out) rfl (HFIN.out _ _ ⟨rfl, (HS2.out.done (goodsPR bq br) C).1, (HS2.out.done (goodsPR bq br) C).2⟩)
set_option maxRecDepth 100000 in
set_option maxHeartbeats 4000000 in
theorem prOp6 (bq br : Nat) (s : RS) (bad : Bool) (w : World) (h : IsPR bq br w s bad) : Calls Try.prog 31 #[.pointer (some ⟨bq, 0, none⟩), .int .i64 6] w ((COk bq br (IsPR bq br) (opN 6 s bad).1.v (opN 6 s bad).2.1 (opN 6 s bad).2.2 w)) := by
  obtain ⟨s0, hs0⟩ : ∃ x, x = s := ⟨_, rfl⟩
  obtain ⟨d0, hd0⟩ : ∃ x, x = bad := ⟨_, rfl⟩
  rw [← hs0, ← hd0] at h
  obtain ⟨x1, hn1⟩ : ∃ x, x = rT s0 := ⟨_, rfl⟩
  obtain ⟨s1, hs1⟩ : ∃ x, x = rT' s0 := ⟨_, rfl⟩
  obtain ⟨d1, hd1⟩ : ∃ x, x = (d0 || !okT 1 64 x1) := ⟨_, rfl⟩
  have HQ1 := Lib.hid (fun W (hW : IsPR bq br W s0 d0) => by have := prText bq br s0 d0 1 64 W hW; rw [← hn1, ← hs1, ← hd1] at this; exact this)
  obtain ⟨n2, hn2⟩ : ∃ x, x = rN 8 s1 := ⟨_, rfl⟩
  obtain ⟨s2, hs2⟩ : ∃ x, x = rN' 8 s1 := ⟨_, rfl⟩
  obtain ⟨d2, hd2⟩ : ∃ x, x = d1 := ⟨_, rfl⟩
  have HQ2 := Lib.hid (fun W (hW : IsPR bq br W s1 d1) => by have := prNum bq br s1 d1 8 W hW; rw [← hn2, ← hs2, ← hd2] at this; exact this)
  have hb2 : (n2 : Int) ≤ 18446744073709551615 := by have := rN8 s1; omega
  obtain ⟨x3, hn3⟩ : ∃ x, x = rT s2 := ⟨_, rfl⟩
  obtain ⟨s3, hs3⟩ : ∃ x, x = rT' s2 := ⟨_, rfl⟩
  obtain ⟨d3, hd3⟩ : ∃ x, x = (d2 || !okT 0 1000 x3) := ⟨_, rfl⟩
  have HQ3 := Lib.hid (fun W (hW : IsPR bq br W s2 d2) => by have := prText bq br s2 d2 0 1000 W hW; rw [← hn3, ← hs3, ← hd3] at this; exact this)
  obtain ⟨n4, hn4⟩ : ∃ x, x = rN 8 s3 := ⟨_, rfl⟩
  obtain ⟨s4, hs4⟩ : ∃ x, x = rN' 8 s3 := ⟨_, rfl⟩
  obtain ⟨d4, hd4⟩ : ∃ x, x = d3 := ⟨_, rfl⟩
  have HQ4 := Lib.hid (fun W (hW : IsPR bq br W s3 d3) => by have := prNum bq br s3 d3 8 W hW; rw [← hn4, ← hs4, ← hd4] at this; exact this)
  have hb4 : (n4 : Int) ≤ 18446744073709551615 := by have := rN8 s3; omega
  obtain ⟨C, hC⟩ : ∃ C : Array Value, C = #[.bool false, .string x1, .string x3, .int .u64 (n2 : Int), .int .u64 (n4 : Int)] := ⟨_, rfl⟩
  have HFIN := Lib.hid (show ∀ e W', COk bq br (IsPR bq br) (.agg C) s4 d4 w e W' → (COk bq br (IsPR bq br) (opN 6 s bad).1.v (opN 6 s bad).2.1 (opN 6 s bad).2.2 w) e W' from fun e W' hh => by
    subst hC
    have he : opN 6 s bad = (⟨false, x1, x3, n2, n4⟩, s4, d4) := by
      unfold opN
      simp only [hn1, hs1, hd1, hn2, hs2, hd2, hn3, hs3, hd3, hn4, hs4, hd4, hs0, hd0] <;> simp
    rw [he]
    exact hh)
  have H := Lib.hid h
  have HLT := Lib.hid ((goodPR bq br).lt h)
  have q0 : ((w.alloc (.cells #[.bool false, .string ByteArray.empty, .string ByteArray.empty, .int .u64 0, .int .u64 0] 90)).alloc (.cells #[.bool false, .string ByteArray.empty, .string ByteArray.empty, .int .u64 0, .int .u64 0] 90)).cell? ⟨bq, 0, none⟩ = some (.pointer (some ⟨br, 0, none⟩)) := ((((Below.refl w.heap.size w).alloc (Nat.le_refl _) _).alloc (by simp) _).cell (p := ⟨bq, 0, none⟩) HLT.out.1).trans h.cells.c0
  have HS0 := Lib.hid (C2.start2 (T := 90) (Z := #[.bool false, .string ByteArray.empty, .string ByteArray.empty, .int .u64 0, .int .u64 0]) (C := #[.bool false, .string ByteArray.empty, .string ByteArray.empty, .int .u64 0, .int .u64 0]) (goodsPR bq br).toGood h rfl rfl)
  clear h hs0 hd0 hn1 hs1 hd1 hn2 hs2 hd2 hn3 hs3 hd3 hn4 hs4 hd4
  go_enter Try.func31, Try.ntmps31
  go_wp2_with fail
  generalize hW0 : World.alloc (World.alloc w _) _ = WA
  have HS0 : Hid (C2 bq br (IsPR bq br) w w.heap.size (w.heap.size + 1) 90 #[.bool false, .string ByteArray.empty, .string ByteArray.empty, .int .u64 0, .int .u64 0] #[.bool false, .string ByteArray.empty, .string ByteArray.empty, .int .u64 0, .int .u64 0] s0 d0 WA) := by rw [← hW0]; exact HS0
  clear hW0 q0
  generalize w.heap.size + 1 = b3 at *
  refine (HQ1.out _ HS0.out.rd).mono ?_
  rintro e W1 ⟨rfl, hr, hg⟩
  have HT := Lib.hid (HS0.out.call hr hg)
  have hc : W1.cell? ⟨b3, 1, none⟩ = some (.string ByteArray.empty) := (cell_of_row _ b3 1 _ _ _ HT.out.c).trans rfl
  have hf := frozen_of_row _ b3 1 _ _ HT.out.c
  have hq : ∀ v, (W1.setCell ⟨b3, 1, none⟩ v).cell? ⟨bq, 0, none⟩ = some (.pointer (some ⟨br, 0, none⟩)) := fun v => (World.cell?_of_block (Below.heap_setCell _ _ _ _ (by have := HT.out.lo3; have := HT.out.lt; simp only; omega))).trans hr.cells.c0
  have HS1 := Lib.hid (HT.out.store (C' := #[.bool false, .string x1, .string ByteArray.empty, .int .u64 0, .int .u64 0]) 1 (.string x1) rfl)
  clear hr hg HS0 HQ1 HT
  go_wp2_with fail
  generalize World.setCell W1 _ _ = WA at HS1 ⊢
  clear hc hf hq
  refine (HQ2.out _ HS1.out.rd).mono ?_
  rintro e W2 ⟨rfl, hr, hg⟩
  have HT := Lib.hid (HS1.out.call hr hg)
  have hc : W2.cell? ⟨b3, 3, none⟩ = some (.int .u64 0) := (cell_of_row _ b3 3 _ _ _ HT.out.c).trans rfl
  have hf := frozen_of_row _ b3 3 _ _ HT.out.c
  have hq : ∀ v, (W2.setCell ⟨b3, 3, none⟩ v).cell? ⟨bq, 0, none⟩ = some (.pointer (some ⟨br, 0, none⟩)) := fun v => (World.cell?_of_block (Below.heap_setCell _ _ _ _ (by have := HT.out.lo3; have := HT.out.lt; simp only; omega))).trans hr.cells.c0
  have hx0 : W2.cell? ⟨b3, 0, none⟩ = some (.bool false) := (cell_of_row _ b3 0 _ _ _ HT.out.c).trans rfl
  have HS2 := Lib.hid (HT.out.store (C' := #[.bool false, .string x1, .string ByteArray.empty, .int .u64 (n2 : Int), .int .u64 0]) 3 (.int .u64 (n2 : Int)) rfl)
  clear hr hg HS1 HQ2 HT
  go_wp2_with fail
  generalize World.setCell W2 _ _ = WA at HS2 ⊢
  clear hc hf hq hx0
  refine (HQ3.out _ HS2.out.rd).mono ?_
  rintro e W3 ⟨rfl, hr, hg⟩
  have HT := Lib.hid (HS2.out.call hr hg)
  have hc : W3.cell? ⟨b3, 2, none⟩ = some (.string ByteArray.empty) := (cell_of_row _ b3 2 _ _ _ HT.out.c).trans rfl
  have hf := frozen_of_row _ b3 2 _ _ HT.out.c
  have hq : ∀ v, (W3.setCell ⟨b3, 2, none⟩ v).cell? ⟨bq, 0, none⟩ = some (.pointer (some ⟨br, 0, none⟩)) := fun v => (World.cell?_of_block (Below.heap_setCell _ _ _ _ (by have := HT.out.lo3; have := HT.out.lt; simp only; omega))).trans hr.cells.c0
  have HS3 := Lib.hid (HT.out.store (C' := #[.bool false, .string x1, .string x3, .int .u64 (n2 : Int), .int .u64 0]) 2 (.string x3) rfl)
  clear hr hg HS2 HQ3 HT
  go_wp2_with fail
  generalize World.setCell W3 _ _ = WA at HS3 ⊢
  clear hc hf hq
  refine (HQ4.out _ HS3.out.rd).mono ?_
  rintro e W4 ⟨rfl, hr, hg⟩
  have HT := Lib.hid (HS3.out.call hr hg)
  have hc : W4.cell? ⟨b3, 4, none⟩ = some (.int .u64 0) := (cell_of_row _ b3 4 _ _ _ HT.out.c).trans rfl
  have hf := frozen_of_row _ b3 4 _ _ HT.out.c
  have hq : ∀ v, (W4.setCell ⟨b3, 4, none⟩ v).cell? ⟨bq, 0, none⟩ = some (.pointer (some ⟨br, 0, none⟩)) := fun v => (World.cell?_of_block (Below.heap_setCell _ _ _ _ (by have := HT.out.lo3; have := HT.out.lt; simp only; omega))).trans hr.cells.c0
  have HS4 := Lib.hid (HT.out.store (C' := #[.bool false, .string x1, .string x3, .int .u64 (n2 : Int), .int .u64 (n4 : Int)]) 4 (.int .u64 (n4 : Int)) rfl)
  clear hr hg HS3 HQ4 HT
  rw [← hC] at HS4
  have HL := Lib.hid HS4.out.c
  have HST := Lib.hid (run_storeRow _ 90 w.heap.size #[.bool false, .string ByteArray.empty, .string ByteArray.empty, .int .u64 0, .int .u64 0] C HS4.out.z (by rw [hC]; exact rop_size) (by rw [hC]; rfl) (by rw [hC]; simp [Value.oneCell']))
  have HSZ := Lib.hid (show (Try.prog.info? 90).map (·.size) = some C.size by rw [hC]; exact rop_size)
  clear hC
  go_wp2_with (first | ((with_reducible refine atLoad ?_); refine wpList_load_row rfl 90 (.tmp 5) rfl b3 rfl 90 C (0, 0) _ HL.out Try.underlying90 rfl HSZ.out ?_) | ((with_reducible refine atStore ?_); refine wpList_store_by rfl 90 (.tmp 4) (.tmp 38) rfl (.pointer (some ⟨w.heap.size, 0, none⟩)) _ rfl rfl HST.out ?_))
  refine bodyPost_ret (v := .agg C) (results_cell_row rfl _ _ w.heap.size 90 C (0, 0) _ rfl (setRow_heap _ _ _ _ _ _ HS4.out.z) Try.underlying90 rfl HSZ.out) rfl (HFIN.out _ _ ⟨rfl, (HS4.out.done (goodsPR bq br) C).1, (HS4.out.done (goodsPR bq br) C).2⟩)
set_option maxRecDepth 100000 in
set_option maxHeartbeats 4000000 in
theorem prOp9d (bq br : Nat) (s : RS) (bad : Bool) (w : World) (h : IsPR bq br w s bad) (hfl : decide (rN 1 s = 1) = true) : Calls Try.prog 31 #[.pointer (some ⟨bq, 0, none⟩), .int .i64 9] w ((COk bq br (IsPR bq br) (opN 9 s bad).1.v (opN 9 s bad).2.1 (opN 9 s bad).2.2 w)) := by
  obtain ⟨s0, hs0⟩ : ∃ x, x = s := ⟨_, rfl⟩
  obtain ⟨d0, hd0⟩ : ∃ x, x = bad := ⟨_, rfl⟩
  rw [← hs0, ← hd0] at h
  have hn1 : true = decide (rN 1 s0 = 1) := by rw [hs0]; exact hfl.symm
  obtain ⟨s1, hs1⟩ : ∃ x, x = rN' 1 s0 := ⟨_, rfl⟩
  obtain ⟨d1, hd1⟩ : ∃ x, x = (d0 || !decide (rN 1 s0 ≤ 1)) := ⟨_, rfl⟩
  have HQ1 := Lib.hid (fun W (hW : IsPR bq br W s0 d0) => by have := prFlag bq br s0 d0 W hW; rw [← hn1, ← hs1, ← hd1] at this; exact this)
  obtain ⟨x2, hn2⟩ : ∃ x, x = rT s1 := ⟨_, rfl⟩
  obtain ⟨s2, hs2⟩ : ∃ x, x = rT' s1 := ⟨_, rfl⟩
  obtain ⟨d2, hd2⟩ : ∃ x, x = (d1 || !okT 1 64 x2) := ⟨_, rfl⟩
  have HQ2 := Lib.hid (fun W (hW : IsPR bq br W s1 d1) => by have := prText bq br s1 d1 1 64 W hW; rw [← hn2, ← hs2, ← hd2] at this; exact this)
  obtain ⟨n3, hn3⟩ : ∃ x, x = rN 8 s2 := ⟨_, rfl⟩
  obtain ⟨s3, hs3⟩ : ∃ x, x = rN' 8 s2 := ⟨_, rfl⟩
  obtain ⟨d3, hd3⟩ : ∃ x, x = d2 := ⟨_, rfl⟩
  have HQ3 := Lib.hid (fun W (hW : IsPR bq br W s2 d2) => by have := prNum bq br s2 d2 8 W hW; rw [← hn3, ← hs3, ← hd3] at this; exact this)
  have hb3 : (n3 : Int) ≤ 18446744073709551615 := by have := rN8 s2; omega
  obtain ⟨C, hC⟩ : ∃ C : Array Value, C = #[.bool true, .string x2, .string ByteArray.empty, .int .u64 (n3 : Int), .int .u64 0] := ⟨_, rfl⟩
  have HFIN := Lib.hid (show ∀ e W', COk bq br (IsPR bq br) (.agg C) s3 d3 w e W' → (COk bq br (IsPR bq br) (opN 9 s bad).1.v (opN 9 s bad).2.1 (opN 9 s bad).2.2 w) e W' from fun e W' hh => by
    subst hC
    have he : opN 9 s bad = (⟨true, x2, ByteArray.empty, n3, 0⟩, s3, d3) := by
      unfold opN
      simp only [hn1, hs1, hd1, hn2, hs2, hd2, hn3, hs3, hd3, hs0, hd0] <;> simp [of_decide_eq_true hfl]
    rw [he]
    exact hh)
  have H := Lib.hid h
  have HLT := Lib.hid ((goodPR bq br).lt h)
  have q0 : ((w.alloc (.cells #[.bool false, .string ByteArray.empty, .string ByteArray.empty, .int .u64 0, .int .u64 0] 90)).alloc (.cells #[.bool false, .string ByteArray.empty, .string ByteArray.empty, .int .u64 0, .int .u64 0] 90)).cell? ⟨bq, 0, none⟩ = some (.pointer (some ⟨br, 0, none⟩)) := ((((Below.refl w.heap.size w).alloc (Nat.le_refl _) _).alloc (by simp) _).cell (p := ⟨bq, 0, none⟩) HLT.out.1).trans h.cells.c0
  have HS0 := Lib.hid (C2.start2 (T := 90) (Z := #[.bool false, .string ByteArray.empty, .string ByteArray.empty, .int .u64 0, .int .u64 0]) (C := #[.bool false, .string ByteArray.empty, .string ByteArray.empty, .int .u64 0, .int .u64 0]) (goodsPR bq br).toGood h rfl rfl)
  clear h hs0 hd0 hn1 hs1 hd1 hn2 hs2 hd2 hn3 hs3 hd3
  go_enter Try.func31, Try.ntmps31
  go_wp2_with fail
  generalize hW0 : World.alloc (World.alloc w _) _ = WA
  have HS0 : Hid (C2 bq br (IsPR bq br) w w.heap.size (w.heap.size + 1) 90 #[.bool false, .string ByteArray.empty, .string ByteArray.empty, .int .u64 0, .int .u64 0] #[.bool false, .string ByteArray.empty, .string ByteArray.empty, .int .u64 0, .int .u64 0] s0 d0 WA) := by rw [← hW0]; exact HS0
  clear hW0 q0
  generalize w.heap.size + 1 = b3 at *
  refine (HQ1.out _ HS0.out.rd).mono ?_
  rintro e W1 ⟨rfl, hr, hg⟩
  have HT := Lib.hid (HS0.out.call hr hg)
  have hc : W1.cell? ⟨b3, 0, none⟩ = some (.bool false) := (cell_of_row _ b3 0 _ _ _ HT.out.c).trans rfl
  have hf := frozen_of_row _ b3 0 _ _ HT.out.c
  have hq : ∀ v, (W1.setCell ⟨b3, 0, none⟩ v).cell? ⟨bq, 0, none⟩ = some (.pointer (some ⟨br, 0, none⟩)) := fun v => (World.cell?_of_block (Below.heap_setCell _ _ _ _ (by have := HT.out.lo3; have := HT.out.lt; simp only; omega))).trans hr.cells.c0
  have HS1 := Lib.hid (HT.out.store (C' := #[.bool true, .string ByteArray.empty, .string ByteArray.empty, .int .u64 0, .int .u64 0]) 0 (.bool true) rfl)
  clear hr hg HS0 HQ1 HT
  go_wp2_with fail
  generalize World.setCell W1 _ _ = WA at HS1 ⊢
  clear hc hf hq
  refine (HQ2.out _ HS1.out.rd).mono ?_
  rintro e W2 ⟨rfl, hr, hg⟩
  have HT := Lib.hid (HS1.out.call hr hg)
  have hc : W2.cell? ⟨b3, 1, none⟩ = some (.string ByteArray.empty) := (cell_of_row _ b3 1 _ _ _ HT.out.c).trans rfl
  have hf := frozen_of_row _ b3 1 _ _ HT.out.c
  have hq : ∀ v, (W2.setCell ⟨b3, 1, none⟩ v).cell? ⟨bq, 0, none⟩ = some (.pointer (some ⟨br, 0, none⟩)) := fun v => (World.cell?_of_block (Below.heap_setCell _ _ _ _ (by have := HT.out.lo3; have := HT.out.lt; simp only; omega))).trans hr.cells.c0
  have HS2 := Lib.hid (HT.out.store (C' := #[.bool true, .string x2, .string ByteArray.empty, .int .u64 0, .int .u64 0]) 1 (.string x2) rfl)
  clear hr hg HS1 HQ2 HT
  go_wp2_with fail
  generalize World.setCell W2 _ _ = WA at HS2 ⊢
  clear hc hf hq
  refine (HQ3.out _ HS2.out.rd).mono ?_
  rintro e W3 ⟨rfl, hr, hg⟩
  have HT := Lib.hid (HS2.out.call hr hg)
  have hc : W3.cell? ⟨b3, 3, none⟩ = some (.int .u64 0) := (cell_of_row _ b3 3 _ _ _ HT.out.c).trans rfl
  have hf := frozen_of_row _ b3 3 _ _ HT.out.c
  have hq : ∀ v, (W3.setCell ⟨b3, 3, none⟩ v).cell? ⟨bq, 0, none⟩ = some (.pointer (some ⟨br, 0, none⟩)) := fun v => (World.cell?_of_block (Below.heap_setCell _ _ _ _ (by have := HT.out.lo3; have := HT.out.lt; simp only; omega))).trans hr.cells.c0
  have hx0 : W3.cell? ⟨b3, 0, none⟩ = some (.bool true) := (cell_of_row _ b3 0 _ _ _ HT.out.c).trans rfl
  have HS3 := Lib.hid (HT.out.store (C' := #[.bool true, .string x2, .string ByteArray.empty, .int .u64 (n3 : Int), .int .u64 0]) 3 (.int .u64 (n3 : Int)) rfl)
  clear hr hg HS2 HQ3 HT
  rw [← hC] at HS3
  have HL := Lib.hid HS3.out.c
  have HST := Lib.hid (run_storeRow _ 90 w.heap.size #[.bool false, .string ByteArray.empty, .string ByteArray.empty, .int .u64 0, .int .u64 0] C HS3.out.z (by rw [hC]; exact rop_size) (by rw [hC]; rfl) (by rw [hC]; simp [Value.oneCell']))
  have HSZ := Lib.hid (show (Try.prog.info? 90).map (·.size) = some C.size by rw [hC]; exact rop_size)
  clear hC
  go_wp2_with (first | ((with_reducible refine atLoad ?_); refine wpList_load_row rfl 90 (.tmp 5) rfl b3 rfl 90 C (0, 0) _ HL.out Try.underlying90 rfl HSZ.out ?_) | ((with_reducible refine atStore ?_); refine wpList_store_by rfl 90 (.tmp 4) (.tmp 38) rfl (.pointer (some ⟨w.heap.size, 0, none⟩)) _ rfl rfl HST.out ?_))
  refine bodyPost_ret (v := .agg C) (results_cell_row rfl _ _ w.heap.size 90 C (0, 0) _ rfl (setRow_heap _ _ _ _ _ _ HS3.out.z) Try.underlying90 rfl HSZ.out) rfl (HFIN.out _ _ ⟨rfl, (HS3.out.done (goodsPR bq br) C).1, (HS3.out.done (goodsPR bq br) C).2⟩)
set_option maxRecDepth 100000 in
set_option maxHeartbeats 4000000 in
theorem prOp9p (bq br : Nat) (s : RS) (bad : Bool) (w : World) (h : IsPR bq br w s bad) (hfl : decide (rN 1 s = 1) = false) : Calls Try.prog 31 #[.pointer (some ⟨bq, 0, none⟩), .int .i64 9] w ((COk bq br (IsPR bq br) (opN 9 s bad).1.v (opN 9 s bad).2.1 (opN 9 s bad).2.2 w)) := by
  obtain ⟨s0, hs0⟩ : ∃ x, x = s := ⟨_, rfl⟩
  obtain ⟨d0, hd0⟩ : ∃ x, x = bad := ⟨_, rfl⟩
  rw [← hs0, ← hd0] at h
  have hn1 : false = decide (rN 1 s0 = 1) := by rw [hs0]; exact hfl.symm
  obtain ⟨s1, hs1⟩ : ∃ x, x = rN' 1 s0 := ⟨_, rfl⟩
  obtain ⟨d1, hd1⟩ : ∃ x, x = (d0 || !decide (rN 1 s0 ≤ 1)) := ⟨_, rfl⟩
  have HQ1 := Lib.hid (fun W (hW : IsPR bq br W s0 d0) => by have := prFlag bq br s0 d0 W hW; rw [← hn1, ← hs1, ← hd1] at this; exact this)
  obtain ⟨x2, hn2⟩ : ∃ x, x = rT s1 := ⟨_, rfl⟩
  obtain ⟨s2, hs2⟩ : ∃ x, x = rT' s1 := ⟨_, rfl⟩
  obtain ⟨d2, hd2⟩ : ∃ x, x = (d1 || !okT 1 64 x2) := ⟨_, rfl⟩
  have HQ2 := Lib.hid (fun W (hW : IsPR bq br W s1 d1) => by have := prText bq br s1 d1 1 64 W hW; rw [← hn2, ← hs2, ← hd2] at this; exact this)
  obtain ⟨n3, hn3⟩ : ∃ x, x = rN 8 s2 := ⟨_, rfl⟩
  obtain ⟨s3, hs3⟩ : ∃ x, x = rN' 8 s2 := ⟨_, rfl⟩
  obtain ⟨d3, hd3⟩ : ∃ x, x = d2 := ⟨_, rfl⟩
  have HQ3 := Lib.hid (fun W (hW : IsPR bq br W s2 d2) => by have := prNum bq br s2 d2 8 W hW; rw [← hn3, ← hs3, ← hd3] at this; exact this)
  have hb3 : (n3 : Int) ≤ 18446744073709551615 := by have := rN8 s2; omega
  obtain ⟨x4, hn4⟩ : ∃ x, x = rT s3 := ⟨_, rfl⟩
  obtain ⟨s4, hs4⟩ : ∃ x, x = rT' s3 := ⟨_, rfl⟩
  obtain ⟨d4, hd4⟩ : ∃ x, x = (d3 || !okT 0 1000 x4) := ⟨_, rfl⟩
  have HQ4 := Lib.hid (fun W (hW : IsPR bq br W s3 d3) => by have := prText bq br s3 d3 0 1000 W hW; rw [← hn4, ← hs4, ← hd4] at this; exact this)
  obtain ⟨n5, hn5⟩ : ∃ x, x = rN 8 s4 := ⟨_, rfl⟩
  obtain ⟨s5, hs5⟩ : ∃ x, x = rN' 8 s4 := ⟨_, rfl⟩
  obtain ⟨d5, hd5⟩ : ∃ x, x = d4 := ⟨_, rfl⟩
  have HQ5 := Lib.hid (fun W (hW : IsPR bq br W s4 d4) => by have := prNum bq br s4 d4 8 W hW; rw [← hn5, ← hs5, ← hd5] at this; exact this)
  have hb5 : (n5 : Int) ≤ 18446744073709551615 := by have := rN8 s4; omega
  obtain ⟨C, hC⟩ : ∃ C : Array Value, C = #[.bool false, .string x2, .string x4, .int .u64 (n3 : Int), .int .u64 (n5 : Int)] := ⟨_, rfl⟩
  have HFIN := Lib.hid (show ∀ e W', COk bq br (IsPR bq br) (.agg C) s5 d5 w e W' → (COk bq br (IsPR bq br) (opN 9 s bad).1.v (opN 9 s bad).2.1 (opN 9 s bad).2.2 w) e W' from fun e W' hh => by
    subst hC
    have he : opN 9 s bad = (⟨false, x2, x4, n3, n5⟩, s5, d5) := by
      unfold opN
      simp only [hn1, hs1, hd1, hn2, hs2, hd2, hn3, hs3, hd3, hn4, hs4, hd4, hn5, hs5, hd5, hs0, hd0] <;> simp [of_decide_eq_false hfl]
    rw [he]
    exact hh)
  have H := Lib.hid h
  have HLT := Lib.hid ((goodPR bq br).lt h)
  have q0 : ((w.alloc (.cells #[.bool false, .string ByteArray.empty, .string ByteArray.empty, .int .u64 0, .int .u64 0] 90)).alloc (.cells #[.bool false, .string ByteArray.empty, .string ByteArray.empty, .int .u64 0, .int .u64 0] 90)).cell? ⟨bq, 0, none⟩ = some (.pointer (some ⟨br, 0, none⟩)) := ((((Below.refl w.heap.size w).alloc (Nat.le_refl _) _).alloc (by simp) _).cell (p := ⟨bq, 0, none⟩) HLT.out.1).trans h.cells.c0
  have HS0 := Lib.hid (C2.start2 (T := 90) (Z := #[.bool false, .string ByteArray.empty, .string ByteArray.empty, .int .u64 0, .int .u64 0]) (C := #[.bool false, .string ByteArray.empty, .string ByteArray.empty, .int .u64 0, .int .u64 0]) (goodsPR bq br).toGood h rfl rfl)
  clear h hs0 hd0 hn1 hs1 hd1 hn2 hs2 hd2 hn3 hs3 hd3 hn4 hs4 hd4 hn5 hs5 hd5
  go_enter Try.func31, Try.ntmps31
  go_wp2_with fail
  generalize hW0 : World.alloc (World.alloc w _) _ = WA
  have HS0 : Hid (C2 bq br (IsPR bq br) w w.heap.size (w.heap.size + 1) 90 #[.bool false, .string ByteArray.empty, .string ByteArray.empty, .int .u64 0, .int .u64 0] #[.bool false, .string ByteArray.empty, .string ByteArray.empty, .int .u64 0, .int .u64 0] s0 d0 WA) := by rw [← hW0]; exact HS0
  clear hW0 q0
  generalize w.heap.size + 1 = b3 at *
  refine (HQ1.out _ HS0.out.rd).mono ?_
  rintro e W1 ⟨rfl, hr, hg⟩
  have HT := Lib.hid (HS0.out.call hr hg)
  have hc : W1.cell? ⟨b3, 0, none⟩ = some (.bool false) := (cell_of_row _ b3 0 _ _ _ HT.out.c).trans rfl
  have hf := frozen_of_row _ b3 0 _ _ HT.out.c
  have hq : ∀ v, (W1.setCell ⟨b3, 0, none⟩ v).cell? ⟨bq, 0, none⟩ = some (.pointer (some ⟨br, 0, none⟩)) := fun v => (World.cell?_of_block (Below.heap_setCell _ _ _ _ (by have := HT.out.lo3; have := HT.out.lt; simp only; omega))).trans hr.cells.c0
  have HS1 := Lib.hid (HT.out.store (C' := #[.bool false, .string ByteArray.empty, .string ByteArray.empty, .int .u64 0, .int .u64 0]) 0 (.bool false) rfl)
  clear hr hg HS0 HQ1 HT
  go_wp2_with fail
  generalize World.setCell W1 _ _ = WA at HS1 ⊢
  clear hc hf hq
  refine (HQ2.out _ HS1.out.rd).mono ?_
  rintro e W2 ⟨rfl, hr, hg⟩
  have HT := Lib.hid (HS1.out.call hr hg)
  have hc : W2.cell? ⟨b3, 1, none⟩ = some (.string ByteArray.empty) := (cell_of_row _ b3 1 _ _ _ HT.out.c).trans rfl
  have hf := frozen_of_row _ b3 1 _ _ HT.out.c
  have hq : ∀ v, (W2.setCell ⟨b3, 1, none⟩ v).cell? ⟨bq, 0, none⟩ = some (.pointer (some ⟨br, 0, none⟩)) := fun v => (World.cell?_of_block (Below.heap_setCell _ _ _ _ (by have := HT.out.lo3; have := HT.out.lt; simp only; omega))).trans hr.cells.c0
  have HS2 := Lib.hid (HT.out.store (C' := #[.bool false, .string x2, .string ByteArray.empty, .int .u64 0, .int .u64 0]) 1 (.string x2) rfl)
  clear hr hg HS1 HQ2 HT
  go_wp2_with fail
  generalize World.setCell W2 _ _ = WA at HS2 ⊢
  clear hc hf hq
  refine (HQ3.out _ HS2.out.rd).mono ?_
  rintro e W3 ⟨rfl, hr, hg⟩
  have HT := Lib.hid (HS2.out.call hr hg)
  have hc : W3.cell? ⟨b3, 3, none⟩ = some (.int .u64 0) := (cell_of_row _ b3 3 _ _ _ HT.out.c).trans rfl
  have hf := frozen_of_row _ b3 3 _ _ HT.out.c
  have hq : ∀ v, (W3.setCell ⟨b3, 3, none⟩ v).cell? ⟨bq, 0, none⟩ = some (.pointer (some ⟨br, 0, none⟩)) := fun v => (World.cell?_of_block (Below.heap_setCell _ _ _ _ (by have := HT.out.lo3; have := HT.out.lt; simp only; omega))).trans hr.cells.c0
  have hx0 : W3.cell? ⟨b3, 0, none⟩ = some (.bool false) := (cell_of_row _ b3 0 _ _ _ HT.out.c).trans rfl
  have HS3 := Lib.hid (HT.out.store (C' := #[.bool false, .string x2, .string ByteArray.empty, .int .u64 (n3 : Int), .int .u64 0]) 3 (.int .u64 (n3 : Int)) rfl)
  clear hr hg HS2 HQ3 HT
  go_wp2_with fail
  generalize World.setCell W3 _ _ = WA at HS3 ⊢
  clear hc hf hq hx0
  refine (HQ4.out _ HS3.out.rd).mono ?_
  rintro e W4 ⟨rfl, hr, hg⟩
  have HT := Lib.hid (HS3.out.call hr hg)
  have hc : W4.cell? ⟨b3, 2, none⟩ = some (.string ByteArray.empty) := (cell_of_row _ b3 2 _ _ _ HT.out.c).trans rfl
  have hf := frozen_of_row _ b3 2 _ _ HT.out.c
  have hq : ∀ v, (W4.setCell ⟨b3, 2, none⟩ v).cell? ⟨bq, 0, none⟩ = some (.pointer (some ⟨br, 0, none⟩)) := fun v => (World.cell?_of_block (Below.heap_setCell _ _ _ _ (by have := HT.out.lo3; have := HT.out.lt; simp only; omega))).trans hr.cells.c0
  have HS4 := Lib.hid (HT.out.store (C' := #[.bool false, .string x2, .string x4, .int .u64 (n3 : Int), .int .u64 0]) 2 (.string x4) rfl)
  clear hr hg HS3 HQ4 HT
  go_wp2_with fail
  generalize World.setCell W4 _ _ = WA at HS4 ⊢
  clear hc hf hq
  refine (HQ5.out _ HS4.out.rd).mono ?_
  rintro e W5 ⟨rfl, hr, hg⟩
  have HT := Lib.hid (HS4.out.call hr hg)
  have hc : W5.cell? ⟨b3, 4, none⟩ = some (.int .u64 0) := (cell_of_row _ b3 4 _ _ _ HT.out.c).trans rfl
  have hf := frozen_of_row _ b3 4 _ _ HT.out.c
  have hq : ∀ v, (W5.setCell ⟨b3, 4, none⟩ v).cell? ⟨bq, 0, none⟩ = some (.pointer (some ⟨br, 0, none⟩)) := fun v => (World.cell?_of_block (Below.heap_setCell _ _ _ _ (by have := HT.out.lo3; have := HT.out.lt; simp only; omega))).trans hr.cells.c0
  have HS5 := Lib.hid (HT.out.store (C' := #[.bool false, .string x2, .string x4, .int .u64 (n3 : Int), .int .u64 (n5 : Int)]) 4 (.int .u64 (n5 : Int)) rfl)
  clear hr hg HS4 HQ5 HT
  rw [← hC] at HS5
  have HL := Lib.hid HS5.out.c
  have HST := Lib.hid (run_storeRow _ 90 w.heap.size #[.bool false, .string ByteArray.empty, .string ByteArray.empty, .int .u64 0, .int .u64 0] C HS5.out.z (by rw [hC]; exact rop_size) (by rw [hC]; rfl) (by rw [hC]; simp [Value.oneCell']))
  have HSZ := Lib.hid (show (Try.prog.info? 90).map (·.size) = some C.size by rw [hC]; exact rop_size)
  clear hC
  go_wp2_with (first | ((with_reducible refine atLoad ?_); refine wpList_load_row rfl 90 (.tmp 5) rfl b3 rfl 90 C (0, 0) _ HL.out Try.underlying90 rfl HSZ.out ?_) | ((with_reducible refine atStore ?_); refine wpList_store_by rfl 90 (.tmp 4) (.tmp 38) rfl (.pointer (some ⟨w.heap.size, 0, none⟩)) _ rfl rfl HST.out ?_))
  refine bodyPost_ret (v := .agg C) (results_cell_row rfl _ _ w.heap.size 90 C (0, 0) _ rfl (setRow_heap _ _ _ _ _ _ HS5.out.z) Try.underlying90 rfl HSZ.out) rfl (HFIN.out _ _ ⟨rfl, (HS5.out.done (goodsPR bq br) C).1, (HS5.out.done (goodsPR bq br) C).2⟩)
theorem crOp (bq br : Nat) (tag : Nat) (s : RS) (bad : Bool) (w : World) (h : IsCR bq br w s bad) (ht : tag = 6 ∨ tag = 7 ∨ tag = 8 ∨ tag = 9) : Calls Try.prog 49 #[.pointer (some ⟨bq, 0, none⟩), .int .i64 (tag : Int)] w (COk bq br (IsCR bq br) (opN tag s bad).1.v (opN tag s bad).2.1 (opN tag s bad).2.2 w) := by
  rcases ht with rfl | rfl | rfl | rfl
  · exact crOp6 bq br s bad w h
  · exact crOp7 bq br s bad w h
  · exact crOp8 bq br s bad w h
  · cases hf : decide (rN 1 s = 1) with
    | true => exact crOp9d bq br s bad w h hf
    | false => exact crOp9p bq br s bad w h hf
theorem prOp (bq br : Nat) (tag : Nat) (s : RS) (bad : Bool) (w : World) (h : IsPR bq br w s bad) (ht : tag = 6 ∨ tag = 7 ∨ tag = 8 ∨ tag = 9) : Calls Try.prog 31 #[.pointer (some ⟨bq, 0, none⟩), .int .i64 (tag : Int)] w (COk bq br (IsPR bq br) (opN tag s bad).1.v (opN tag s bad).2.1 (opN tag s bad).2.2 w) := by
  rcases ht with rfl | rfl | rfl | rfl
  · exact prOp6 bq br s bad w h
  · exact prOp7 bq br s bad w h
  · exact prOp8 bq br s bad w h
  · cases hf : decide (rN 1 s = 1) with
    | true => exact prOp9d bq br s bad w h hf
    | false => exact prOp9p bq br s bad w h hf
end Go.Proofs.Ytlngefhjoobmdaa
