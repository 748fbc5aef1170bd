/- command.same (layer 16). -/
import Derived.Test.YtlngefhjoobmdaaMg5
namespace Go.Proofs.Ytlngefhjoobmdaa
open Go.RowKit
set_option maxRecDepth 100000 in
set_option maxHeartbeats 4000000 in
theorem cSame12 (tag : Int) (ad : Nat) (bu : Int) (qk : Int) (qb : Int) (qg : Int) (tb : Int) (tg : Nat) (ts : Nat) (tc : Nat) (ops : List COp) (af : ByteArray) (fi1 fi2 : Bool) (co1 co2 : Int) (ri1 ri2 : Int) (se1 se2 : Nat) (a1 a2 : Option Addr) (cap1 cap2 : Nat) (w : World) (h1 : IsRowOf COp.cells (fun _ => True) 5 w a1 ops) (h2 : IsRowOf COp.cells (fun _ => True) 5 w a2 ops) (hl : ops.length ≤ 1000000000) (hne : fi1 ≠ fi2) :
    Calls Try.prog 36 #[.agg #[.int .i64 tag, .int .u64 (ad : Int), .int .i64 bu, .int .i64 qk, .int .i64 qb, .int .i64 qg, .int .i64 tb, .int .u32 (tg : Int), .int .u32 (ts : Int), .int .u64 (tc : Int), .slice a1 ops.length cap1, .string af, .bool fi1, .int .i64 co1, .int .i64 ri1, .int .u32 (se1 : Int)], .agg #[.int .i64 tag, .int .u64 (ad : Int), .int .i64 bu, .int .i64 qk, .int .i64 qb, .int .i64 qg, .int .i64 tb, .int .u32 (tg : Int), .int .u32 (ts : Int), .int .u64 (tc : Int), .slice a2 ops.length cap2, .string af, .bool fi2, .int .i64 co2, .int .i64 ri2, .int .u32 (se2 : Int)]] w (BoolIs false w) := by
  have hd : (fi1 == fi2) = false := by simpa using hne
  have hd2 : (fi1 != fi2) = true := by simpa using hne
  have H1 := Lib.hid h1
  have H2 := Lib.hid h2
  have HL := Lib.hid hl
  clear h1 h2 hl
  have HB := Lib.hid (((Below.refl w.heap.size w).alloc (Nat.le_refl _) (.cells #[.int .i64 tag, .int .u64 (ad : Int), .int .i64 bu, .int .i64 qk, .int .i64 qb, .int .i64 qg, .int .i64 tb, .int .u32 (tg : Int), .int .u32 (ts : Int), .int .u64 (tc : Int), .slice a1 ops.length cap1, .string af, .bool fi1, .int .i64 co1, .int .i64 ri1, .int .u32 (se1 : Int)] 32)).alloc (by simp) (.cells #[.int .i64 tag, .int .u64 (ad : Int), .int .i64 bu, .int .i64 qk, .int .i64 qb, .int .i64 qg, .int .i64 tb, .int .u32 (tg : Int), .int .u32 (ts : Int), .int .u64 (tc : Int), .slice a2 ops.length cap2, .string af, .bool fi2, .int .i64 co2, .int .i64 ri2, .int .u32 (se2 : Int)] 32))
  have HR1 := Lib.hid ((Below.heap_alloc (w.alloc (.cells #[.int .i64 tag, .int .u64 (ad : Int), .int .i64 bu, .int .i64 qk, .int .i64 qb, .int .i64 qg, .int .i64 tb, .int .u32 (tg : Int), .int .u32 (ts : Int), .int .u64 (tc : Int), .slice a1 ops.length cap1, .string af, .bool fi1, .int .i64 co1, .int .i64 ri1, .int .u32 (se1 : Int)] 32)) (.cells #[.int .i64 tag, .int .u64 (ad : Int), .int .i64 bu, .int .i64 qk, .int .i64 qb, .int .i64 qg, .int .i64 tb, .int .u32 (tg : Int), .int .u32 (ts : Int), .int .u64 (tc : Int), .slice a2 ops.length cap2, .string af, .bool fi2, .int .i64 co2, .int .i64 ri2, .int .u32 (se2 : Int)] 32) w.heap.size (by simp)).trans (heap_alloc_new w (.cells #[.int .i64 tag, .int .u64 (ad : Int), .int .i64 bu, .int .i64 qk, .int .i64 qb, .int .i64 qg, .int .i64 tb, .int .u32 (tg : Int), .int .u32 (ts : Int), .int .u64 (tc : Int), .slice a1 ops.length cap1, .string af, .bool fi1, .int .i64 co1, .int .i64 ri1, .int .u32 (se1 : Int)] 32)))
  have HR2 := Lib.hid (heap_alloc_new (w.alloc (.cells #[.int .i64 tag, .int .u64 (ad : Int), .int .i64 bu, .int .i64 qk, .int .i64 qb, .int .i64 qg, .int .i64 tb, .int .u32 (tg : Int), .int .u32 (ts : Int), .int .u64 (tc : Int), .slice a1 ops.length cap1, .string af, .bool fi1, .int .i64 co1, .int .i64 ri1, .int .u32 (se1 : Int)] 32)) (.cells #[.int .i64 tag, .int .u64 (ad : Int), .int .i64 bu, .int .i64 qk, .int .i64 qb, .int .i64 qg, .int .i64 tb, .int .u32 (tg : Int), .int .u32 (ts : Int), .int .u64 (tc : Int), .slice a2 ops.length cap2, .string af, .bool fi2, .int .i64 co2, .int .i64 ri2, .int .u32 (se2 : Int)] 32))
  rw [World.size_alloc] at HR2
  go_enter Try.func36, Try.ntmps36
  go_wp2_with fail
  refine (cEqual a1 cap1 ops a2 cap2 ops _ HL.out (H1.out.bel (HB.out)) (H2.out.bel (HB.out))).mono ?_
  rintro e W9 ⟨rfl, hb9⟩
  have c1_11 := (cell_of_row W9 w.heap.size 11 _ _ _ ((hb9.block _ (by simp; omega)).trans HR1.out)).trans (show _ = some (.string af) from rfl)
  have c1_12 := (cell_of_row W9 w.heap.size 12 _ _ _ ((hb9.block _ (by simp; omega)).trans HR1.out)).trans (show _ = some (.bool fi1) from rfl)
  have c1_13 := (cell_of_row W9 w.heap.size 13 _ _ _ ((hb9.block _ (by simp; omega)).trans HR1.out)).trans (show _ = some (.int .i64 co1) from rfl)
  have c1_14 := (cell_of_row W9 w.heap.size 14 _ _ _ ((hb9.block _ (by simp; omega)).trans HR1.out)).trans (show _ = some (.int .i64 ri1) from rfl)
  have c1_15 := (cell_of_row W9 w.heap.size 15 _ _ _ ((hb9.block _ (by simp; omega)).trans HR1.out)).trans (show _ = some (.int .u32 (se1 : Int)) from rfl)
  have c2_11 := (cell_of_row W9 (w.heap.size + 1) 11 _ _ _ ((hb9.block _ (by simp)).trans HR2.out)).trans (show _ = some (.string af) from rfl)
  have c2_12 := (cell_of_row W9 (w.heap.size + 1) 12 _ _ _ ((hb9.block _ (by simp)).trans HR2.out)).trans (show _ = some (.bool fi2) from rfl)
  have c2_13 := (cell_of_row W9 (w.heap.size + 1) 13 _ _ _ ((hb9.block _ (by simp)).trans HR2.out)).trans (show _ = some (.int .i64 co2) from rfl)
  have c2_14 := (cell_of_row W9 (w.heap.size + 1) 14 _ _ _ ((hb9.block _ (by simp)).trans HR2.out)).trans (show _ = some (.int .i64 ri2) from rfl)
  have c2_15 := (cell_of_row W9 (w.heap.size + 1) 15 _ _ _ ((hb9.block _ (by simp)).trans HR2.out)).trans (show _ = some (.int .u32 (se2 : Int)) from rfl)
  have HB9 := Lib.hid (below_next HB.out hb9)
  clear hb9
  rw [decide_eq_true (rfl : ops = ops)]
  go_wp2
  go_ret
  exact ⟨rfl, HB9.out⟩
set_option maxRecDepth 100000 in
set_option maxHeartbeats 4000000 in
theorem cSame13 (tag : Int) (ad : Nat) (bu : Int) (qk : Int) (qb : Int) (qg : Int) (tb : Int) (tg : Nat) (ts : Nat) (tc : Nat) (ops : List COp) (af : ByteArray) (fi : Bool) (co1 co2 : Int) (ri1 ri2 : Int) (se1 se2 : Nat) (a1 a2 : Option Addr) (cap1 cap2 : Nat) (w : World) (h1 : IsRowOf COp.cells (fun _ => True) 5 w a1 ops) (h2 : IsRowOf COp.cells (fun _ => True) 5 w a2 ops) (hl : ops.length ≤ 1000000000) (hne : co1 ≠ co2) :
    Calls Try.prog 36 #[.agg #[.int .i64 tag, .int .u64 (ad : Int), .int .i64 bu, .int .i64 qk, .int .i64 qb, .int .i64 qg, .int .i64 tb, .int .u32 (tg : Int), .int .u32 (ts : Int), .int .u64 (tc : Int), .slice a1 ops.length cap1, .string af, .bool fi, .int .i64 co1, .int .i64 ri1, .int .u32 (se1 : Int)], .agg #[.int .i64 tag, .int .u64 (ad : Int), .int .i64 bu, .int .i64 qk, .int .i64 qb, .int .i64 qg, .int .i64 tb, .int .u32 (tg : Int), .int .u32 (ts : Int), .int .u64 (tc : Int), .slice a2 ops.length cap2, .string af, .bool fi, .int .i64 co2, .int .i64 ri2, .int .u32 (se2 : Int)]] w (BoolIs false w) := by
  have hd : (co1 == co2) = false := by simpa using hne
  have hd2 : (co1 != co2) = true := by simpa using hne
  have hd3 : decide (co1 = co2) = false := by simpa using hne
  have H1 := Lib.hid h1
  have H2 := Lib.hid h2
  have HL := Lib.hid hl
  clear h1 h2 hl
  have HB := Lib.hid (((Below.refl w.heap.size w).alloc (Nat.le_refl _) (.cells #[.int .i64 tag, .int .u64 (ad : Int), .int .i64 bu, .int .i64 qk, .int .i64 qb, .int .i64 qg, .int .i64 tb, .int .u32 (tg : Int), .int .u32 (ts : Int), .int .u64 (tc : Int), .slice a1 ops.length cap1, .string af, .bool fi, .int .i64 co1, .int .i64 ri1, .int .u32 (se1 : Int)] 32)).alloc (by simp) (.cells #[.int .i64 tag, .int .u64 (ad : Int), .int .i64 bu, .int .i64 qk, .int .i64 qb, .int .i64 qg, .int .i64 tb, .int .u32 (tg : Int), .int .u32 (ts : Int), .int .u64 (tc : Int), .slice a2 ops.length cap2, .string af, .bool fi, .int .i64 co2, .int .i64 ri2, .int .u32 (se2 : Int)] 32))
  have HR1 := Lib.hid ((Below.heap_alloc (w.alloc (.cells #[.int .i64 tag, .int .u64 (ad : Int), .int .i64 bu, .int .i64 qk, .int .i64 qb, .int .i64 qg, .int .i64 tb, .int .u32 (tg : Int), .int .u32 (ts : Int), .int .u64 (tc : Int), .slice a1 ops.length cap1, .string af, .bool fi, .int .i64 co1, .int .i64 ri1, .int .u32 (se1 : Int)] 32)) (.cells #[.int .i64 tag, .int .u64 (ad : Int), .int .i64 bu, .int .i64 qk, .int .i64 qb, .int .i64 qg, .int .i64 tb, .int .u32 (tg : Int), .int .u32 (ts : Int), .int .u64 (tc : Int), .slice a2 ops.length cap2, .string af, .bool fi, .int .i64 co2, .int .i64 ri2, .int .u32 (se2 : Int)] 32) w.heap.size (by simp)).trans (heap_alloc_new w (.cells #[.int .i64 tag, .int .u64 (ad : Int), .int .i64 bu, .int .i64 qk, .int .i64 qb, .int .i64 qg, .int .i64 tb, .int .u32 (tg : Int), .int .u32 (ts : Int), .int .u64 (tc : Int), .slice a1 ops.length cap1, .string af, .bool fi, .int .i64 co1, .int .i64 ri1, .int .u32 (se1 : Int)] 32)))
  have HR2 := Lib.hid (heap_alloc_new (w.alloc (.cells #[.int .i64 tag, .int .u64 (ad : Int), .int .i64 bu, .int .i64 qk, .int .i64 qb, .int .i64 qg, .int .i64 tb, .int .u32 (tg : Int), .int .u32 (ts : Int), .int .u64 (tc : Int), .slice a1 ops.length cap1, .string af, .bool fi, .int .i64 co1, .int .i64 ri1, .int .u32 (se1 : Int)] 32)) (.cells #[.int .i64 tag, .int .u64 (ad : Int), .int .i64 bu, .int .i64 qk, .int .i64 qb, .int .i64 qg, .int .i64 tb, .int .u32 (tg : Int), .int .u32 (ts : Int), .int .u64 (tc : Int), .slice a2 ops.length cap2, .string af, .bool fi, .int .i64 co2, .int .i64 ri2, .int .u32 (se2 : Int)] 32))
  rw [World.size_alloc] at HR2
  go_enter Try.func36, Try.ntmps36
  go_wp2_with fail
  refine (cEqual a1 cap1 ops a2 cap2 ops _ HL.out (H1.out.bel (HB.out)) (H2.out.bel (HB.out))).mono ?_
  rintro e W9 ⟨rfl, hb9⟩
  have c1_11 := (cell_of_row W9 w.heap.size 11 _ _ _ ((hb9.block _ (by simp; omega)).trans HR1.out)).trans (show _ = some (.string af) from rfl)
  have c1_12 := (cell_of_row W9 w.heap.size 12 _ _ _ ((hb9.block _ (by simp; omega)).trans HR1.out)).trans (show _ = some (.bool fi) from rfl)
  have c1_13 := (cell_of_row W9 w.heap.size 13 _ _ _ ((hb9.block _ (by simp; omega)).trans HR1.out)).trans (show _ = some (.int .i64 co1) from rfl)
  have c1_14 := (cell_of_row W9 w.heap.size 14 _ _ _ ((hb9.block _ (by simp; omega)).trans HR1.out)).trans (show _ = some (.int .i64 ri1) from rfl)
  have c1_15 := (cell_of_row W9 w.heap.size 15 _ _ _ ((hb9.block _ (by simp; omega)).trans HR1.out)).trans (show _ = some (.int .u32 (se1 : Int)) from rfl)
  have c2_11 := (cell_of_row W9 (w.heap.size + 1) 11 _ _ _ ((hb9.block _ (by simp)).trans HR2.out)).trans (show _ = some (.string af) from rfl)
  have c2_12 := (cell_of_row W9 (w.heap.size + 1) 12 _ _ _ ((hb9.block _ (by simp)).trans HR2.out)).trans (show _ = some (.bool fi) from rfl)
  have c2_13 := (cell_of_row W9 (w.heap.size + 1) 13 _ _ _ ((hb9.block _ (by simp)).trans HR2.out)).trans (show _ = some (.int .i64 co2) from rfl)
  have c2_14 := (cell_of_row W9 (w.heap.size + 1) 14 _ _ _ ((hb9.block _ (by simp)).trans HR2.out)).trans (show _ = some (.int .i64 ri2) from rfl)
  have c2_15 := (cell_of_row W9 (w.heap.size + 1) 15 _ _ _ ((hb9.block _ (by simp)).trans HR2.out)).trans (show _ = some (.int .u32 (se2 : Int)) from rfl)
  have HB9 := Lib.hid (below_next HB.out hb9)
  clear hb9
  rw [decide_eq_true (rfl : ops = ops)]
  go_wp2
  go_ret
  exact ⟨rfl, HB9.out⟩
set_option maxRecDepth 100000 in
set_option maxHeartbeats 4000000 in
theorem cSame14 (tag : Int) (ad : Nat) (bu : Int) (qk : Int) (qb : Int) (qg : Int) (tb : Int) (tg : Nat) (ts : Nat) (tc : Nat) (ops : List COp) (af : ByteArray) (fi : Bool) (co : Int) (ri1 ri2 : Int) (se1 se2 : Nat) (a1 a2 : Option Addr) (cap1 cap2 : Nat) (w : World) (h1 : IsRowOf COp.cells (fun _ => True) 5 w a1 ops) (h2 : IsRowOf COp.cells (fun _ => True) 5 w a2 ops) (hl : ops.length ≤ 1000000000) (hne : ri1 ≠ ri2) :
    Calls Try.prog 36 #[.agg #[.int .i64 tag, .int .u64 (ad : Int), .int .i64 bu, .int .i64 qk, .int .i64 qb, .int .i64 qg, .int .i64 tb, .int .u32 (tg : Int), .int .u32 (ts : Int), .int .u64 (tc : Int), .slice a1 ops.length cap1, .string af, .bool fi, .int .i64 co, .int .i64 ri1, .int .u32 (se1 : Int)], .agg #[.int .i64 tag, .int .u64 (ad : Int), .int .i64 bu, .int .i64 qk, .int .i64 qb, .int .i64 qg, .int .i64 tb, .int .u32 (tg : Int), .int .u32 (ts : Int), .int .u64 (tc : Int), .slice a2 ops.length cap2, .string af, .bool fi, .int .i64 co, .int .i64 ri2, .int .u32 (se2 : Int)]] w (BoolIs false w) := by
  have hd : (ri1 == ri2) = false := by simpa using hne
  have hd2 : (ri1 != ri2) = true := by simpa using hne
  have hd3 : decide (ri1 = ri2) = false := by simpa using hne
  have H1 := Lib.hid h1
  have H2 := Lib.hid h2
  have HL := Lib.hid hl
  clear h1 h2 hl
  have HB := Lib.hid (((Below.refl w.heap.size w).alloc (Nat.le_refl _) (.cells #[.int .i64 tag, .int .u64 (ad : Int), .int .i64 bu, .int .i64 qk, .int .i64 qb, .int .i64 qg, .int .i64 tb, .int .u32 (tg : Int), .int .u32 (ts : Int), .int .u64 (tc : Int), .slice a1 ops.length cap1, .string af, .bool fi, .int .i64 co, .int .i64 ri1, .int .u32 (se1 : Int)] 32)).alloc (by simp) (.cells #[.int .i64 tag, .int .u64 (ad : Int), .int .i64 bu, .int .i64 qk, .int .i64 qb, .int .i64 qg, .int .i64 tb, .int .u32 (tg : Int), .int .u32 (ts : Int), .int .u64 (tc : Int), .slice a2 ops.length cap2, .string af, .bool fi, .int .i64 co, .int .i64 ri2, .int .u32 (se2 : Int)] 32))
  have HR1 := Lib.hid ((Below.heap_alloc (w.alloc (.cells #[.int .i64 tag, .int .u64 (ad : Int), .int .i64 bu, .int .i64 qk, .int .i64 qb, .int .i64 qg, .int .i64 tb, .int .u32 (tg : Int), .int .u32 (ts : Int), .int .u64 (tc : Int), .slice a1 ops.length cap1, .string af, .bool fi, .int .i64 co, .int .i64 ri1, .int .u32 (se1 : Int)] 32)) (.cells #[.int .i64 tag, .int .u64 (ad : Int), .int .i64 bu, .int .i64 qk, .int .i64 qb, .int .i64 qg, .int .i64 tb, .int .u32 (tg : Int), .int .u32 (ts : Int), .int .u64 (tc : Int), .slice a2 ops.length cap2, .string af, .bool fi, .int .i64 co, .int .i64 ri2, .int .u32 (se2 : Int)] 32) w.heap.size (by simp)).trans (heap_alloc_new w (.cells #[.int .i64 tag, .int .u64 (ad : Int), .int .i64 bu, .int .i64 qk, .int .i64 qb, .int .i64 qg, .int .i64 tb, .int .u32 (tg : Int), .int .u32 (ts : Int), .int .u64 (tc : Int), .slice a1 ops.length cap1, .string af, .bool fi, .int .i64 co, .int .i64 ri1, .int .u32 (se1 : Int)] 32)))
  have HR2 := Lib.hid (heap_alloc_new (w.alloc (.cells #[.int .i64 tag, .int .u64 (ad : Int), .int .i64 bu, .int .i64 qk, .int .i64 qb, .int .i64 qg, .int .i64 tb, .int .u32 (tg : Int), .int .u32 (ts : Int), .int .u64 (tc : Int), .slice a1 ops.length cap1, .string af, .bool fi, .int .i64 co, .int .i64 ri1, .int .u32 (se1 : Int)] 32)) (.cells #[.int .i64 tag, .int .u64 (ad : Int), .int .i64 bu, .int .i64 qk, .int .i64 qb, .int .i64 qg, .int .i64 tb, .int .u32 (tg : Int), .int .u32 (ts : Int), .int .u64 (tc : Int), .slice a2 ops.length cap2, .string af, .bool fi, .int .i64 co, .int .i64 ri2, .int .u32 (se2 : Int)] 32))
  rw [World.size_alloc] at HR2
  go_enter Try.func36, Try.ntmps36
  go_wp2_with fail
  refine (cEqual a1 cap1 ops a2 cap2 ops _ HL.out (H1.out.bel (HB.out)) (H2.out.bel (HB.out))).mono ?_
  rintro e W9 ⟨rfl, hb9⟩
  have c1_11 := (cell_of_row W9 w.heap.size 11 _ _ _ ((hb9.block _ (by simp; omega)).trans HR1.out)).trans (show _ = some (.string af) from rfl)
  have c1_12 := (cell_of_row W9 w.heap.size 12 _ _ _ ((hb9.block _ (by simp; omega)).trans HR1.out)).trans (show _ = some (.bool fi) from rfl)
  have c1_13 := (cell_of_row W9 w.heap.size 13 _ _ _ ((hb9.block _ (by simp; omega)).trans HR1.out)).trans (show _ = some (.int .i64 co) from rfl)
  have c1_14 := (cell_of_row W9 w.heap.size 14 _ _ _ ((hb9.block _ (by simp; omega)).trans HR1.out)).trans (show _ = some (.int .i64 ri1) from rfl)
  have c1_15 := (cell_of_row W9 w.heap.size 15 _ _ _ ((hb9.block _ (by simp; omega)).trans HR1.out)).trans (show _ = some (.int .u32 (se1 : Int)) from rfl)
  have c2_11 := (cell_of_row W9 (w.heap.size + 1) 11 _ _ _ ((hb9.block _ (by simp)).trans HR2.out)).trans (show _ = some (.string af) from rfl)
  have c2_12 := (cell_of_row W9 (w.heap.size + 1) 12 _ _ _ ((hb9.block _ (by simp)).trans HR2.out)).trans (show _ = some (.bool fi) from rfl)
  have c2_13 := (cell_of_row W9 (w.heap.size + 1) 13 _ _ _ ((hb9.block _ (by simp)).trans HR2.out)).trans (show _ = some (.int .i64 co) from rfl)
  have c2_14 := (cell_of_row W9 (w.heap.size + 1) 14 _ _ _ ((hb9.block _ (by simp)).trans HR2.out)).trans (show _ = some (.int .i64 ri2) from rfl)
  have c2_15 := (cell_of_row W9 (w.heap.size + 1) 15 _ _ _ ((hb9.block _ (by simp)).trans HR2.out)).trans (show _ = some (.int .u32 (se2 : Int)) from rfl)
  have HB9 := Lib.hid (below_next HB.out hb9)
  clear hb9
  rw [decide_eq_true (rfl : ops = ops)]
  go_wp2
  go_ret
  exact ⟨rfl, HB9.out⟩
set_option maxRecDepth 100000 in
set_option maxHeartbeats 4000000 in
theorem cSame15 (tag : Int) (ad : Nat) (bu : Int) (qk : Int) (qb : Int) (qg : Int) (tb : Int) (tg : Nat) (ts : Nat) (tc : Nat) (ops : List COp) (af : ByteArray) (fi : Bool) (co : Int) (ri : Int) (se1 se2 : Nat) (a1 a2 : Option Addr) (cap1 cap2 : Nat) (w : World) (h1 : IsRowOf COp.cells (fun _ => True) 5 w a1 ops) (h2 : IsRowOf COp.cells (fun _ => True) 5 w a2 ops) (hl : ops.length ≤ 1000000000) (hne : se1 ≠ se2) :
    Calls Try.prog 36 #[.agg #[.int .i64 tag, .int .u64 (ad : Int), .int .i64 bu, .int .i64 qk, .int .i64 qb, .int .i64 qg, .int .i64 tb, .int .u32 (tg : Int), .int .u32 (ts : Int), .int .u64 (tc : Int), .slice a1 ops.length cap1, .string af, .bool fi, .int .i64 co, .int .i64 ri, .int .u32 (se1 : Int)], .agg #[.int .i64 tag, .int .u64 (ad : Int), .int .i64 bu, .int .i64 qk, .int .i64 qb, .int .i64 qg, .int .i64 tb, .int .u32 (tg : Int), .int .u32 (ts : Int), .int .u64 (tc : Int), .slice a2 ops.length cap2, .string af, .bool fi, .int .i64 co, .int .i64 ri, .int .u32 (se2 : Int)]] w (BoolIs false w) := by
  have hn2 : ¬ ((se1 : Int) = (se2 : Int)) := by omega
  have hd : ((se1 : Int) == (se2 : Int)) = false := by simpa using hn2
  have hd2 : ((se1 : Int) != (se2 : Int)) = true := by simpa using hn2
  have hd3 : decide ((se1 : Int) = (se2 : Int)) = false := by simpa using hn2
  have hd4 : (se1 == se2) = false := by simpa using hne
  have H1 := Lib.hid h1
  have H2 := Lib.hid h2
  have HL := Lib.hid hl
  clear h1 h2 hl
  have HB := Lib.hid (((Below.refl w.heap.size w).alloc (Nat.le_refl _) (.cells #[.int .i64 tag, .int .u64 (ad : Int), .int .i64 bu, .int .i64 qk, .int .i64 qb, .int .i64 qg, .int .i64 tb, .int .u32 (tg : Int), .int .u32 (ts : Int), .int .u64 (tc : Int), .slice a1 ops.length cap1, .string af, .bool fi, .int .i64 co, .int .i64 ri, .int .u32 (se1 : Int)] 32)).alloc (by simp) (.cells #[.int .i64 tag, .int .u64 (ad : Int), .int .i64 bu, .int .i64 qk, .int .i64 qb, .int .i64 qg, .int .i64 tb, .int .u32 (tg : Int), .int .u32 (ts : Int), .int .u64 (tc : Int), .slice a2 ops.length cap2, .string af, .bool fi, .int .i64 co, .int .i64 ri, .int .u32 (se2 : Int)] 32))
  have HR1 := Lib.hid ((Below.heap_alloc (w.alloc (.cells #[.int .i64 tag, .int .u64 (ad : Int), .int .i64 bu, .int .i64 qk, .int .i64 qb, .int .i64 qg, .int .i64 tb, .int .u32 (tg : Int), .int .u32 (ts : Int), .int .u64 (tc : Int), .slice a1 ops.length cap1, .string af, .bool fi, .int .i64 co, .int .i64 ri, .int .u32 (se1 : Int)] 32)) (.cells #[.int .i64 tag, .int .u64 (ad : Int), .int .i64 bu, .int .i64 qk, .int .i64 qb, .int .i64 qg, .int .i64 tb, .int .u32 (tg : Int), .int .u32 (ts : Int), .int .u64 (tc : Int), .slice a2 ops.length cap2, .string af, .bool fi, .int .i64 co, .int .i64 ri, .int .u32 (se2 : Int)] 32) w.heap.size (by simp)).trans (heap_alloc_new w (.cells #[.int .i64 tag, .int .u64 (ad : Int), .int .i64 bu, .int .i64 qk, .int .i64 qb, .int .i64 qg, .int .i64 tb, .int .u32 (tg : Int), .int .u32 (ts : Int), .int .u64 (tc : Int), .slice a1 ops.length cap1, .string af, .bool fi, .int .i64 co, .int .i64 ri, .int .u32 (se1 : Int)] 32)))
  have HR2 := Lib.hid (heap_alloc_new (w.alloc (.cells #[.int .i64 tag, .int .u64 (ad : Int), .int .i64 bu, .int .i64 qk, .int .i64 qb, .int .i64 qg, .int .i64 tb, .int .u32 (tg : Int), .int .u32 (ts : Int), .int .u64 (tc : Int), .slice a1 ops.length cap1, .string af, .bool fi, .int .i64 co, .int .i64 ri, .int .u32 (se1 : Int)] 32)) (.cells #[.int .i64 tag, .int .u64 (ad : Int), .int .i64 bu, .int .i64 qk, .int .i64 qb, .int .i64 qg, .int .i64 tb, .int .u32 (tg : Int), .int .u32 (ts : Int), .int .u64 (tc : Int), .slice a2 ops.length cap2, .string af, .bool fi, .int .i64 co, .int .i64 ri, .int .u32 (se2 : Int)] 32))
  rw [World.size_alloc] at HR2
  go_enter Try.func36, Try.ntmps36
  go_wp2_with fail
  refine (cEqual a1 cap1 ops a2 cap2 ops _ HL.out (H1.out.bel (HB.out)) (H2.out.bel (HB.out))).mono ?_
  rintro e W9 ⟨rfl, hb9⟩
  have c1_11 := (cell_of_row W9 w.heap.size 11 _ _ _ ((hb9.block _ (by simp; omega)).trans HR1.out)).trans (show _ = some (.string af) from rfl)
  have c1_12 := (cell_of_row W9 w.heap.size 12 _ _ _ ((hb9.block _ (by simp; omega)).trans HR1.out)).trans (show _ = some (.bool fi) from rfl)
  have c1_13 := (cell_of_row W9 w.heap.size 13 _ _ _ ((hb9.block _ (by simp; omega)).trans HR1.out)).trans (show _ = some (.int .i64 co) from rfl)
  have c1_14 := (cell_of_row W9 w.heap.size 14 _ _ _ ((hb9.block _ (by simp; omega)).trans HR1.out)).trans (show _ = some (.int .i64 ri) from rfl)
  have c1_15 := (cell_of_row W9 w.heap.size 15 _ _ _ ((hb9.block _ (by simp; omega)).trans HR1.out)).trans (show _ = some (.int .u32 (se1 : Int)) from rfl)
  have c2_11 := (cell_of_row W9 (w.heap.size + 1) 11 _ _ _ ((hb9.block _ (by simp)).trans HR2.out)).trans (show _ = some (.string af) from rfl)
  have c2_12 := (cell_of_row W9 (w.heap.size + 1) 12 _ _ _ ((hb9.block _ (by simp)).trans HR2.out)).trans (show _ = some (.bool fi) from rfl)
  have c2_13 := (cell_of_row W9 (w.heap.size + 1) 13 _ _ _ ((hb9.block _ (by simp)).trans HR2.out)).trans (show _ = some (.int .i64 co) from rfl)
  have c2_14 := (cell_of_row W9 (w.heap.size + 1) 14 _ _ _ ((hb9.block _ (by simp)).trans HR2.out)).trans (show _ = some (.int .i64 ri) from rfl)
  have c2_15 := (cell_of_row W9 (w.heap.size + 1) 15 _ _ _ ((hb9.block _ (by simp)).trans HR2.out)).trans (show _ = some (.int .u32 (se2 : Int)) from rfl)
  have HB9 := Lib.hid (below_next HB.out hb9)
  clear hb9
  rw [decide_eq_true (rfl : ops = ops)]
  go_wp2
  go_ret
  exact ⟨rfl, HB9.out⟩
set_option maxRecDepth 100000 in
set_option maxHeartbeats 4000000 in
theorem cSame16 (tag : Int) (ad : Nat) (bu : Int) (qk : Int) (qb : Int) (qg : Int) (tb : Int) (tg : Nat) (ts : Nat) (tc : Nat) (ops : List COp) (af : ByteArray) (fi : Bool) (co : Int) (ri : Int) (se : Nat) (a1 a2 : Option Addr) (cap1 cap2 : Nat) (w : World) (h1 : IsRowOf COp.cells (fun _ => True) 5 w a1 ops) (h2 : IsRowOf COp.cells (fun _ => True) 5 w a2 ops) (hl : ops.length ≤ 1000000000) :
    Calls Try.prog 36 #[.agg #[.int .i64 tag, .int .u64 (ad : Int), .int .i64 bu, .int .i64 qk, .int .i64 qb, .int .i64 qg, .int .i64 tb, .int .u32 (tg : Int), .int .u32 (ts : Int), .int .u64 (tc : Int), .slice a1 ops.length cap1, .string af, .bool fi, .int .i64 co, .int .i64 ri, .int .u32 (se : Int)], .agg #[.int .i64 tag, .int .u64 (ad : Int), .int .i64 bu, .int .i64 qk, .int .i64 qb, .int .i64 qg, .int .i64 tb, .int .u32 (tg : Int), .int .u32 (ts : Int), .int .u64 (tc : Int), .slice a2 ops.length cap2, .string af, .bool fi, .int .i64 co, .int .i64 ri, .int .u32 (se : Int)]] w (BoolIs true w) := by
  have H1 := Lib.hid h1
  have H2 := Lib.hid h2
  have HL := Lib.hid hl
  clear h1 h2 hl
  have HB := Lib.hid (((Below.refl w.heap.size w).alloc (Nat.le_refl _) (.cells #[.int .i64 tag, .int .u64 (ad : Int), .int .i64 bu, .int .i64 qk, .int .i64 qb, .int .i64 qg, .int .i64 tb, .int .u32 (tg : Int), .int .u32 (ts : Int), .int .u64 (tc : Int), .slice a1 ops.length cap1, .string af, .bool fi, .int .i64 co, .int .i64 ri, .int .u32 (se : Int)] 32)).alloc (by simp) (.cells #[.int .i64 tag, .int .u64 (ad : Int), .int .i64 bu, .int .i64 qk, .int .i64 qb, .int .i64 qg, .int .i64 tb, .int .u32 (tg : Int), .int .u32 (ts : Int), .int .u64 (tc : Int), .slice a2 ops.length cap2, .string af, .bool fi, .int .i64 co, .int .i64 ri, .int .u32 (se : Int)] 32))
  have HR1 := Lib.hid ((Below.heap_alloc (w.alloc (.cells #[.int .i64 tag, .int .u64 (ad : Int), .int .i64 bu, .int .i64 qk, .int .i64 qb, .int .i64 qg, .int .i64 tb, .int .u32 (tg : Int), .int .u32 (ts : Int), .int .u64 (tc : Int), .slice a1 ops.length cap1, .string af, .bool fi, .int .i64 co, .int .i64 ri, .int .u32 (se : Int)] 32)) (.cells #[.int .i64 tag, .int .u64 (ad : Int), .int .i64 bu, .int .i64 qk, .int .i64 qb, .int .i64 qg, .int .i64 tb, .int .u32 (tg : Int), .int .u32 (ts : Int), .int .u64 (tc : Int), .slice a2 ops.length cap2, .string af, .bool fi, .int .i64 co, .int .i64 ri, .int .u32 (se : Int)] 32) w.heap.size (by simp)).trans (heap_alloc_new w (.cells #[.int .i64 tag, .int .u64 (ad : Int), .int .i64 bu, .int .i64 qk, .int .i64 qb, .int .i64 qg, .int .i64 tb, .int .u32 (tg : Int), .int .u32 (ts : Int), .int .u64 (tc : Int), .slice a1 ops.length cap1, .string af, .bool fi, .int .i64 co, .int .i64 ri, .int .u32 (se : Int)] 32)))
  have HR2 := Lib.hid (heap_alloc_new (w.alloc (.cells #[.int .i64 tag, .int .u64 (ad : Int), .int .i64 bu, .int .i64 qk, .int .i64 qb, .int .i64 qg, .int .i64 tb, .int .u32 (tg : Int), .int .u32 (ts : Int), .int .u64 (tc : Int), .slice a1 ops.length cap1, .string af, .bool fi, .int .i64 co, .int .i64 ri, .int .u32 (se : Int)] 32)) (.cells #[.int .i64 tag, .int .u64 (ad : Int), .int .i64 bu, .int .i64 qk, .int .i64 qb, .int .i64 qg, .int .i64 tb, .int .u32 (tg : Int), .int .u32 (ts : Int), .int .u64 (tc : Int), .slice a2 ops.length cap2, .string af, .bool fi, .int .i64 co, .int .i64 ri, .int .u32 (se : Int)] 32))
  rw [World.size_alloc] at HR2
  go_enter Try.func36, Try.ntmps36
  go_wp2_with fail
  refine (cEqual a1 cap1 ops a2 cap2 ops _ HL.out (H1.out.bel (HB.out)) (H2.out.bel (HB.out))).mono ?_
  rintro e W9 ⟨rfl, hb9⟩
  have c1_11 := (cell_of_row W9 w.heap.size 11 _ _ _ ((hb9.block _ (by simp; omega)).trans HR1.out)).trans (show _ = some (.string af) from rfl)
  have c1_12 := (cell_of_row W9 w.heap.size 12 _ _ _ ((hb9.block _ (by simp; omega)).trans HR1.out)).trans (show _ = some (.bool fi) from rfl)
  have c1_13 := (cell_of_row W9 w.heap.size 13 _ _ _ ((hb9.block _ (by simp; omega)).trans HR1.out)).trans (show _ = some (.int .i64 co) from rfl)
  have c1_14 := (cell_of_row W9 w.heap.size 14 _ _ _ ((hb9.block _ (by simp; omega)).trans HR1.out)).trans (show _ = some (.int .i64 ri) from rfl)
  have c1_15 := (cell_of_row W9 w.heap.size 15 _ _ _ ((hb9.block _ (by simp; omega)).trans HR1.out)).trans (show _ = some (.int .u32 (se : Int)) from rfl)
  have c2_11 := (cell_of_row W9 (w.heap.size + 1) 11 _ _ _ ((hb9.block _ (by simp)).trans HR2.out)).trans (show _ = some (.string af) from rfl)
  have c2_12 := (cell_of_row W9 (w.heap.size + 1) 12 _ _ _ ((hb9.block _ (by simp)).trans HR2.out)).trans (show _ = some (.bool fi) from rfl)
  have c2_13 := (cell_of_row W9 (w.heap.size + 1) 13 _ _ _ ((hb9.block _ (by simp)).trans HR2.out)).trans (show _ = some (.int .i64 co) from rfl)
  have c2_14 := (cell_of_row W9 (w.heap.size + 1) 14 _ _ _ ((hb9.block _ (by simp)).trans HR2.out)).trans (show _ = some (.int .i64 ri) from rfl)
  have c2_15 := (cell_of_row W9 (w.heap.size + 1) 15 _ _ _ ((hb9.block _ (by simp)).trans HR2.out)).trans (show _ = some (.int .u32 (se : Int)) from rfl)
  have HB9 := Lib.hid (below_next HB.out hb9)
  clear hb9
  rw [decide_eq_true (rfl : ops = ops)]
  go_wp2
  go_ret
  exact ⟨rfl, HB9.out⟩
end Go.Proofs.Ytlngefhjoobmdaa
