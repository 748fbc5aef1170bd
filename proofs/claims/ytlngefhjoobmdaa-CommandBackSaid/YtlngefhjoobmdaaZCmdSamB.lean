/- command.same (layer 16). -/
import Derived.Test.YtlngefhjoobmdaaMg5
namespace Go.Proofs.Ytlngefhjoobmdaa
open Go.RowKit
set_option maxRecDepth 100000 in
set_option maxHeartbeats 4000000 in
theorem cSame4 (tag : Int) (ad : Nat) (bu : Int) (qk : Int) (qb1 qb2 : Int) (qg1 qg2 : Int) (tb1 tb2 : Int) (tg1 tg2 : Nat) (ts1 ts2 : Nat) (tc1 tc2 : Nat) (ops1 ops2 : List COp) (af1 af2 : ByteArray) (fi1 fi2 : Bool) (co1 co2 : Int) (ri1 ri2 : Int) (se1 se2 : Nat) (a1 a2 : Option Addr) (cap1 cap2 : Nat) (w : World) (h1 : IsRowOf COp.cells (fun _ => True) 5 w a1 ops1) (h2 : IsRowOf COp.cells (fun _ => True) 5 w a2 ops2) (hl : ops1.length ≤ 1000000000) (hne : qb1 ≠ qb2) :
    Calls Try.prog 36 #[.agg #[.int .i64 tag, .int .u64 (ad : Int), .int .i64 bu, .int .i64 qk, .int .i64 qb1, .int .i64 qg1, .int .i64 tb1, .int .u32 (tg1 : Int), .int .u32 (ts1 : Int), .int .u64 (tc1 : Int), .slice a1 ops1.length cap1, .string af1, .bool fi1, .int .i64 co1, .int .i64 ri1, .int .u32 (se1 : Int)], .agg #[.int .i64 tag, .int .u64 (ad : Int), .int .i64 bu, .int .i64 qk, .int .i64 qb2, .int .i64 qg2, .int .i64 tb2, .int .u32 (tg2 : Int), .int .u32 (ts2 : Int), .int .u64 (tc2 : Int), .slice a2 ops2.length cap2, .string af2, .bool fi2, .int .i64 co2, .int .i64 ri2, .int .u32 (se2 : Int)]] w (BoolIs false w) := by
  have hd : (qb1 == qb2) = false := by simpa using hne
  have hd2 : (qb1 != qb2) = true := by simpa using hne
  have hd3 : decide (qb1 = qb2) = false := by simpa using hne
  have H1 := Lib.hid h1
  have H2 := Lib.hid h2
  have HL := Lib.hid hl
  clear h1 h2 hl
  have HB := Lib.hid (((Below.refl w.heap.size w).alloc (Nat.le_refl _) (.cells #[.int .i64 tag, .int .u64 (ad : Int), .int .i64 bu, .int .i64 qk, .int .i64 qb1, .int .i64 qg1, .int .i64 tb1, .int .u32 (tg1 : Int), .int .u32 (ts1 : Int), .int .u64 (tc1 : Int), .slice a1 ops1.length cap1, .string af1, .bool fi1, .int .i64 co1, .int .i64 ri1, .int .u32 (se1 : Int)] 32)).alloc (by simp) (.cells #[.int .i64 tag, .int .u64 (ad : Int), .int .i64 bu, .int .i64 qk, .int .i64 qb2, .int .i64 qg2, .int .i64 tb2, .int .u32 (tg2 : Int), .int .u32 (ts2 : Int), .int .u64 (tc2 : Int), .slice a2 ops2.length cap2, .string af2, .bool fi2, .int .i64 co2, .int .i64 ri2, .int .u32 (se2 : Int)] 32))
  have HR1 := Lib.hid ((Below.heap_alloc (w.alloc (.cells #[.int .i64 tag, .int .u64 (ad : Int), .int .i64 bu, .int .i64 qk, .int .i64 qb1, .int .i64 qg1, .int .i64 tb1, .int .u32 (tg1 : Int), .int .u32 (ts1 : Int), .int .u64 (tc1 : Int), .slice a1 ops1.length cap1, .string af1, .bool fi1, .int .i64 co1, .int .i64 ri1, .int .u32 (se1 : Int)] 32)) (.cells #[.int .i64 tag, .int .u64 (ad : Int), .int .i64 bu, .int .i64 qk, .int .i64 qb2, .int .i64 qg2, .int .i64 tb2, .int .u32 (tg2 : Int), .int .u32 (ts2 : Int), .int .u64 (tc2 : Int), .slice a2 ops2.length cap2, .string af2, .bool fi2, .int .i64 co2, .int .i64 ri2, .int .u32 (se2 : Int)] 32) w.heap.size (by simp)).trans (heap_alloc_new w (.cells #[.int .i64 tag, .int .u64 (ad : Int), .int .i64 bu, .int .i64 qk, .int .i64 qb1, .int .i64 qg1, .int .i64 tb1, .int .u32 (tg1 : Int), .int .u32 (ts1 : Int), .int .u64 (tc1 : Int), .slice a1 ops1.length cap1, .string af1, .bool fi1, .int .i64 co1, .int .i64 ri1, .int .u32 (se1 : Int)] 32)))
  have HR2 := Lib.hid (heap_alloc_new (w.alloc (.cells #[.int .i64 tag, .int .u64 (ad : Int), .int .i64 bu, .int .i64 qk, .int .i64 qb1, .int .i64 qg1, .int .i64 tb1, .int .u32 (tg1 : Int), .int .u32 (ts1 : Int), .int .u64 (tc1 : Int), .slice a1 ops1.length cap1, .string af1, .bool fi1, .int .i64 co1, .int .i64 ri1, .int .u32 (se1 : Int)] 32)) (.cells #[.int .i64 tag, .int .u64 (ad : Int), .int .i64 bu, .int .i64 qk, .int .i64 qb2, .int .i64 qg2, .int .i64 tb2, .int .u32 (tg2 : Int), .int .u32 (ts2 : Int), .int .u64 (tc2 : Int), .slice a2 ops2.length cap2, .string af2, .bool fi2, .int .i64 co2, .int .i64 ri2, .int .u32 (se2 : Int)] 32))
  rw [World.size_alloc] at HR2
  go_enter Try.func36, Try.ntmps36
  go_wp2_with fail
  go_ret
  exact ⟨rfl, HB.out⟩
set_option maxRecDepth 100000 in
set_option maxHeartbeats 4000000 in
theorem cSame5 (tag : Int) (ad : Nat) (bu : Int) (qk : Int) (qb : Int) (qg1 qg2 : Int) (tb1 tb2 : Int) (tg1 tg2 : Nat) (ts1 ts2 : Nat) (tc1 tc2 : Nat) (ops1 ops2 : List COp) (af1 af2 : ByteArray) (fi1 fi2 : Bool) (co1 co2 : Int) (ri1 ri2 : Int) (se1 se2 : Nat) (a1 a2 : Option Addr) (cap1 cap2 : Nat) (w : World) (h1 : IsRowOf COp.cells (fun _ => True) 5 w a1 ops1) (h2 : IsRowOf COp.cells (fun _ => True) 5 w a2 ops2) (hl : ops1.length ≤ 1000000000) (hne : qg1 ≠ qg2) :
    Calls Try.prog 36 #[.agg #[.int .i64 tag, .int .u64 (ad : Int), .int .i64 bu, .int .i64 qk, .int .i64 qb, .int .i64 qg1, .int .i64 tb1, .int .u32 (tg1 : Int), .int .u32 (ts1 : Int), .int .u64 (tc1 : Int), .slice a1 ops1.length cap1, .string af1, .bool fi1, .int .i64 co1, .int .i64 ri1, .int .u32 (se1 : Int)], .agg #[.int .i64 tag, .int .u64 (ad : Int), .int .i64 bu, .int .i64 qk, .int .i64 qb, .int .i64 qg2, .int .i64 tb2, .int .u32 (tg2 : Int), .int .u32 (ts2 : Int), .int .u64 (tc2 : Int), .slice a2 ops2.length cap2, .string af2, .bool fi2, .int .i64 co2, .int .i64 ri2, .int .u32 (se2 : Int)]] w (BoolIs false w) := by
  have hd : (qg1 == qg2) = false := by simpa using hne
  have hd2 : (qg1 != qg2) = true := by simpa using hne
  have hd3 : decide (qg1 = qg2) = false := by simpa using hne
  have H1 := Lib.hid h1
  have H2 := Lib.hid h2
  have HL := Lib.hid hl
  clear h1 h2 hl
  have HB := Lib.hid (((Below.refl w.heap.size w).alloc (Nat.le_refl _) (.cells #[.int .i64 tag, .int .u64 (ad : Int), .int .i64 bu, .int .i64 qk, .int .i64 qb, .int .i64 qg1, .int .i64 tb1, .int .u32 (tg1 : Int), .int .u32 (ts1 : Int), .int .u64 (tc1 : Int), .slice a1 ops1.length cap1, .string af1, .bool fi1, .int .i64 co1, .int .i64 ri1, .int .u32 (se1 : Int)] 32)).alloc (by simp) (.cells #[.int .i64 tag, .int .u64 (ad : Int), .int .i64 bu, .int .i64 qk, .int .i64 qb, .int .i64 qg2, .int .i64 tb2, .int .u32 (tg2 : Int), .int .u32 (ts2 : Int), .int .u64 (tc2 : Int), .slice a2 ops2.length cap2, .string af2, .bool fi2, .int .i64 co2, .int .i64 ri2, .int .u32 (se2 : Int)] 32))
  have HR1 := Lib.hid ((Below.heap_alloc (w.alloc (.cells #[.int .i64 tag, .int .u64 (ad : Int), .int .i64 bu, .int .i64 qk, .int .i64 qb, .int .i64 qg1, .int .i64 tb1, .int .u32 (tg1 : Int), .int .u32 (ts1 : Int), .int .u64 (tc1 : Int), .slice a1 ops1.length cap1, .string af1, .bool fi1, .int .i64 co1, .int .i64 ri1, .int .u32 (se1 : Int)] 32)) (.cells #[.int .i64 tag, .int .u64 (ad : Int), .int .i64 bu, .int .i64 qk, .int .i64 qb, .int .i64 qg2, .int .i64 tb2, .int .u32 (tg2 : Int), .int .u32 (ts2 : Int), .int .u64 (tc2 : Int), .slice a2 ops2.length cap2, .string af2, .bool fi2, .int .i64 co2, .int .i64 ri2, .int .u32 (se2 : Int)] 32) w.heap.size (by simp)).trans (heap_alloc_new w (.cells #[.int .i64 tag, .int .u64 (ad : Int), .int .i64 bu, .int .i64 qk, .int .i64 qb, .int .i64 qg1, .int .i64 tb1, .int .u32 (tg1 : Int), .int .u32 (ts1 : Int), .int .u64 (tc1 : Int), .slice a1 ops1.length cap1, .string af1, .bool fi1, .int .i64 co1, .int .i64 ri1, .int .u32 (se1 : Int)] 32)))
  have HR2 := Lib.hid (heap_alloc_new (w.alloc (.cells #[.int .i64 tag, .int .u64 (ad : Int), .int .i64 bu, .int .i64 qk, .int .i64 qb, .int .i64 qg1, .int .i64 tb1, .int .u32 (tg1 : Int), .int .u32 (ts1 : Int), .int .u64 (tc1 : Int), .slice a1 ops1.length cap1, .string af1, .bool fi1, .int .i64 co1, .int .i64 ri1, .int .u32 (se1 : Int)] 32)) (.cells #[.int .i64 tag, .int .u64 (ad : Int), .int .i64 bu, .int .i64 qk, .int .i64 qb, .int .i64 qg2, .int .i64 tb2, .int .u32 (tg2 : Int), .int .u32 (ts2 : Int), .int .u64 (tc2 : Int), .slice a2 ops2.length cap2, .string af2, .bool fi2, .int .i64 co2, .int .i64 ri2, .int .u32 (se2 : Int)] 32))
  rw [World.size_alloc] at HR2
  go_enter Try.func36, Try.ntmps36
  go_wp2_with fail
  go_ret
  exact ⟨rfl, HB.out⟩
set_option maxRecDepth 100000 in
set_option maxHeartbeats 4000000 in
theorem cSame6 (tag : Int) (ad : Nat) (bu : Int) (qk : Int) (qb : Int) (qg : Int) (tb1 tb2 : Int) (tg1 tg2 : Nat) (ts1 ts2 : Nat) (tc1 tc2 : Nat) (ops1 ops2 : List COp) (af1 af2 : ByteArray) (fi1 fi2 : Bool) (co1 co2 : Int) (ri1 ri2 : Int) (se1 se2 : Nat) (a1 a2 : Option Addr) (cap1 cap2 : Nat) (w : World) (h1 : IsRowOf COp.cells (fun _ => True) 5 w a1 ops1) (h2 : IsRowOf COp.cells (fun _ => True) 5 w a2 ops2) (hl : ops1.length ≤ 1000000000) (hne : tb1 ≠ tb2) :
    Calls Try.prog 36 #[.agg #[.int .i64 tag, .int .u64 (ad : Int), .int .i64 bu, .int .i64 qk, .int .i64 qb, .int .i64 qg, .int .i64 tb1, .int .u32 (tg1 : Int), .int .u32 (ts1 : Int), .int .u64 (tc1 : Int), .slice a1 ops1.length cap1, .string af1, .bool fi1, .int .i64 co1, .int .i64 ri1, .int .u32 (se1 : Int)], .agg #[.int .i64 tag, .int .u64 (ad : Int), .int .i64 bu, .int .i64 qk, .int .i64 qb, .int .i64 qg, .int .i64 tb2, .int .u32 (tg2 : Int), .int .u32 (ts2 : Int), .int .u64 (tc2 : Int), .slice a2 ops2.length cap2, .string af2, .bool fi2, .int .i64 co2, .int .i64 ri2, .int .u32 (se2 : Int)]] w (BoolIs false w) := by
  have hd : (tb1 == tb2) = false := by simpa using hne
  have hd2 : (tb1 != tb2) = true := by simpa using hne
  have hd3 : decide (tb1 = tb2) = false := by simpa using hne
  have H1 := Lib.hid h1
  have H2 := Lib.hid h2
  have HL := Lib.hid hl
  clear h1 h2 hl
  have HB := Lib.hid (((Below.refl w.heap.size w).alloc (Nat.le_refl _) (.cells #[.int .i64 tag, .int .u64 (ad : Int), .int .i64 bu, .int .i64 qk, .int .i64 qb, .int .i64 qg, .int .i64 tb1, .int .u32 (tg1 : Int), .int .u32 (ts1 : Int), .int .u64 (tc1 : Int), .slice a1 ops1.length cap1, .string af1, .bool fi1, .int .i64 co1, .int .i64 ri1, .int .u32 (se1 : Int)] 32)).alloc (by simp) (.cells #[.int .i64 tag, .int .u64 (ad : Int), .int .i64 bu, .int .i64 qk, .int .i64 qb, .int .i64 qg, .int .i64 tb2, .int .u32 (tg2 : Int), .int .u32 (ts2 : Int), .int .u64 (tc2 : Int), .slice a2 ops2.length cap2, .string af2, .bool fi2, .int .i64 co2, .int .i64 ri2, .int .u32 (se2 : Int)] 32))
  have HR1 := Lib.hid ((Below.heap_alloc (w.alloc (.cells #[.int .i64 tag, .int .u64 (ad : Int), .int .i64 bu, .int .i64 qk, .int .i64 qb, .int .i64 qg, .int .i64 tb1, .int .u32 (tg1 : Int), .int .u32 (ts1 : Int), .int .u64 (tc1 : Int), .slice a1 ops1.length cap1, .string af1, .bool fi1, .int .i64 co1, .int .i64 ri1, .int .u32 (se1 : Int)] 32)) (.cells #[.int .i64 tag, .int .u64 (ad : Int), .int .i64 bu, .int .i64 qk, .int .i64 qb, .int .i64 qg, .int .i64 tb2, .int .u32 (tg2 : Int), .int .u32 (ts2 : Int), .int .u64 (tc2 : Int), .slice a2 ops2.length cap2, .string af2, .bool fi2, .int .i64 co2, .int .i64 ri2, .int .u32 (se2 : Int)] 32) w.heap.size (by simp)).trans (heap_alloc_new w (.cells #[.int .i64 tag, .int .u64 (ad : Int), .int .i64 bu, .int .i64 qk, .int .i64 qb, .int .i64 qg, .int .i64 tb1, .int .u32 (tg1 : Int), .int .u32 (ts1 : Int), .int .u64 (tc1 : Int), .slice a1 ops1.length cap1, .string af1, .bool fi1, .int .i64 co1, .int .i64 ri1, .int .u32 (se1 : Int)] 32)))
  have HR2 := Lib.hid (heap_alloc_new (w.alloc (.cells #[.int .i64 tag, .int .u64 (ad : Int), .int .i64 bu, .int .i64 qk, .int .i64 qb, .int .i64 qg, .int .i64 tb1, .int .u32 (tg1 : Int), .int .u32 (ts1 : Int), .int .u64 (tc1 : Int), .slice a1 ops1.length cap1, .string af1, .bool fi1, .int .i64 co1, .int .i64 ri1, .int .u32 (se1 : Int)] 32)) (.cells #[.int .i64 tag, .int .u64 (ad : Int), .int .i64 bu, .int .i64 qk, .int .i64 qb, .int .i64 qg, .int .i64 tb2, .int .u32 (tg2 : Int), .int .u32 (ts2 : Int), .int .u64 (tc2 : Int), .slice a2 ops2.length cap2, .string af2, .bool fi2, .int .i64 co2, .int .i64 ri2, .int .u32 (se2 : Int)] 32))
  rw [World.size_alloc] at HR2
  go_enter Try.func36, Try.ntmps36
  go_wp2_with fail
  go_ret
  exact ⟨rfl, HB.out⟩
set_option maxRecDepth 100000 in
set_option maxHeartbeats 4000000 in
theorem cSame7 (tag : Int) (ad : Nat) (bu : Int) (qk : Int) (qb : Int) (qg : Int) (tb : Int) (tg1 tg2 : Nat) (ts1 ts2 : Nat) (tc1 tc2 : Nat) (ops1 ops2 : List COp) (af1 af2 : ByteArray) (fi1 fi2 : Bool) (co1 co2 : Int) (ri1 ri2 : Int) (se1 se2 : Nat) (a1 a2 : Option Addr) (cap1 cap2 : Nat) (w : World) (h1 : IsRowOf COp.cells (fun _ => True) 5 w a1 ops1) (h2 : IsRowOf COp.cells (fun _ => True) 5 w a2 ops2) (hl : ops1.length ≤ 1000000000) (hne : tg1 ≠ tg2) :
    Calls Try.prog 36 #[.agg #[.int .i64 tag, .int .u64 (ad : Int), .int .i64 bu, .int .i64 qk, .int .i64 qb, .int .i64 qg, .int .i64 tb, .int .u32 (tg1 : Int), .int .u32 (ts1 : Int), .int .u64 (tc1 : Int), .slice a1 ops1.length cap1, .string af1, .bool fi1, .int .i64 co1, .int .i64 ri1, .int .u32 (se1 : Int)], .agg #[.int .i64 tag, .int .u64 (ad : Int), .int .i64 bu, .int .i64 qk, .int .i64 qb, .int .i64 qg, .int .i64 tb, .int .u32 (tg2 : Int), .int .u32 (ts2 : Int), .int .u64 (tc2 : Int), .slice a2 ops2.length cap2, .string af2, .bool fi2, .int .i64 co2, .int .i64 ri2, .int .u32 (se2 : Int)]] w (BoolIs false w) := by
  have hn2 : ¬ ((tg1 : Int) = (tg2 : Int)) := by omega
  have hd : ((tg1 : Int) == (tg2 : Int)) = false := by simpa using hn2
  have hd2 : ((tg1 : Int) != (tg2 : Int)) = true := by simpa using hn2
  have hd3 : decide ((tg1 : Int) = (tg2 : Int)) = false := by simpa using hn2
  have hd4 : (tg1 == tg2) = false := by simpa using hne
  have H1 := Lib.hid h1
  have H2 := Lib.hid h2
  have HL := Lib.hid hl
  clear h1 h2 hl
  have HB := Lib.hid (((Below.refl w.heap.size w).alloc (Nat.le_refl _) (.cells #[.int .i64 tag, .int .u64 (ad : Int), .int .i64 bu, .int .i64 qk, .int .i64 qb, .int .i64 qg, .int .i64 tb, .int .u32 (tg1 : Int), .int .u32 (ts1 : Int), .int .u64 (tc1 : Int), .slice a1 ops1.length cap1, .string af1, .bool fi1, .int .i64 co1, .int .i64 ri1, .int .u32 (se1 : Int)] 32)).alloc (by simp) (.cells #[.int .i64 tag, .int .u64 (ad : Int), .int .i64 bu, .int .i64 qk, .int .i64 qb, .int .i64 qg, .int .i64 tb, .int .u32 (tg2 : Int), .int .u32 (ts2 : Int), .int .u64 (tc2 : Int), .slice a2 ops2.length cap2, .string af2, .bool fi2, .int .i64 co2, .int .i64 ri2, .int .u32 (se2 : Int)] 32))
  have HR1 := Lib.hid ((Below.heap_alloc (w.alloc (.cells #[.int .i64 tag, .int .u64 (ad : Int), .int .i64 bu, .int .i64 qk, .int .i64 qb, .int .i64 qg, .int .i64 tb, .int .u32 (tg1 : Int), .int .u32 (ts1 : Int), .int .u64 (tc1 : Int), .slice a1 ops1.length cap1, .string af1, .bool fi1, .int .i64 co1, .int .i64 ri1, .int .u32 (se1 : Int)] 32)) (.cells #[.int .i64 tag, .int .u64 (ad : Int), .int .i64 bu, .int .i64 qk, .int .i64 qb, .int .i64 qg, .int .i64 tb, .int .u32 (tg2 : Int), .int .u32 (ts2 : Int), .int .u64 (tc2 : Int), .slice a2 ops2.length cap2, .string af2, .bool fi2, .int .i64 co2, .int .i64 ri2, .int .u32 (se2 : Int)] 32) w.heap.size (by simp)).trans (heap_alloc_new w (.cells #[.int .i64 tag, .int .u64 (ad : Int), .int .i64 bu, .int .i64 qk, .int .i64 qb, .int .i64 qg, .int .i64 tb, .int .u32 (tg1 : Int), .int .u32 (ts1 : Int), .int .u64 (tc1 : Int), .slice a1 ops1.length cap1, .string af1, .bool fi1, .int .i64 co1, .int .i64 ri1, .int .u32 (se1 : Int)] 32)))
  have HR2 := Lib.hid (heap_alloc_new (w.alloc (.cells #[.int .i64 tag, .int .u64 (ad : Int), .int .i64 bu, .int .i64 qk, .int .i64 qb, .int .i64 qg, .int .i64 tb, .int .u32 (tg1 : Int), .int .u32 (ts1 : Int), .int .u64 (tc1 : Int), .slice a1 ops1.length cap1, .string af1, .bool fi1, .int .i64 co1, .int .i64 ri1, .int .u32 (se1 : Int)] 32)) (.cells #[.int .i64 tag, .int .u64 (ad : Int), .int .i64 bu, .int .i64 qk, .int .i64 qb, .int .i64 qg, .int .i64 tb, .int .u32 (tg2 : Int), .int .u32 (ts2 : Int), .int .u64 (tc2 : Int), .slice a2 ops2.length cap2, .string af2, .bool fi2, .int .i64 co2, .int .i64 ri2, .int .u32 (se2 : Int)] 32))
  rw [World.size_alloc] at HR2
  go_enter Try.func36, Try.ntmps36
  go_wp2_with fail
  go_ret
  exact ⟨rfl, HB.out⟩
end Go.Proofs.Ytlngefhjoobmdaa
