/- The reference's Same (layer 16). -/
import Derived.Test.YtlngefhjoobmdaaMg5
namespace Go.Proofs.Ytlngefhjoobmdaa
open Go.RowKit
set_option maxRecDepth 100000 in
set_option maxHeartbeats 4000000 in
theorem rSame13 (tag : Int) (ad : Nat) (bu : Int) (qk : Int) (qb : Int) (qg : Int) (tb : Int) (tg : Nat) (ts : Nat) (tc : Nat) (n : Nat) (af : ByteArray) (fi : Bool) (co1 co2 : Int) (ri1 ri2 : Int) (se1 se2 : Nat) (a1 a2 : Option Addr) (cap1 cap2 : Nat) (w : World) (hne : co1 ≠ co2) :
    Calls Try.prog 10 #[.agg #[.int .i64 tag, .int .u64 (ad : Int), .int .i64 bu, .int .i64 qk, .int .i64 qb, .int .i64 qg, .int .i64 tb, .int .u32 (tg : Int), .int .u32 (ts : Int), .int .u64 (tc : Int), .slice a1 n cap1, .string af, .bool fi, .int .i64 co1, .int .i64 ri1, .int .u32 (se1 : Int)], .agg #[.int .i64 tag, .int .u64 (ad : Int), .int .i64 bu, .int .i64 qk, .int .i64 qb, .int .i64 qg, .int .i64 tb, .int .u32 (tg : Int), .int .u32 (ts : Int), .int .u64 (tc : Int), .slice a2 n cap2, .string af, .bool fi, .int .i64 co2, .int .i64 ri2, .int .u32 (se2 : Int)]] w (BoolIs false w) := by
  have hd : (co1 == co2) = false := by simpa using hne
  have hd2 : (co1 != co2) = true := by simpa using hne
  have hd3 : decide (co1 = co2) = false := by simpa using hne
  have HB := Lib.hid (((Below.refl w.heap.size w).alloc (Nat.le_refl _) (.cells #[.int .i64 tag, .int .u64 (ad : Int), .int .i64 bu, .int .i64 qk, .int .i64 qb, .int .i64 qg, .int .i64 tb, .int .u32 (tg : Int), .int .u32 (ts : Int), .int .u64 (tc : Int), .slice a1 n cap1, .string af, .bool fi, .int .i64 co1, .int .i64 ri1, .int .u32 (se1 : Int)] 39)).alloc (by simp) (.cells #[.int .i64 tag, .int .u64 (ad : Int), .int .i64 bu, .int .i64 qk, .int .i64 qb, .int .i64 qg, .int .i64 tb, .int .u32 (tg : Int), .int .u32 (ts : Int), .int .u64 (tc : Int), .slice a2 n cap2, .string af, .bool fi, .int .i64 co2, .int .i64 ri2, .int .u32 (se2 : Int)] 39))
  go_enter Try.func10, Try.ntmps10
  go_wp2_with fail
  go_ret
  exact ⟨rfl, HB.out⟩
set_option maxRecDepth 100000 in
set_option maxHeartbeats 4000000 in
theorem rSame14 (tag : Int) (ad : Nat) (bu : Int) (qk : Int) (qb : Int) (qg : Int) (tb : Int) (tg : Nat) (ts : Nat) (tc : Nat) (n : Nat) (af : ByteArray) (fi : Bool) (co : Int) (ri1 ri2 : Int) (se1 se2 : Nat) (a1 a2 : Option Addr) (cap1 cap2 : Nat) (w : World) (hne : ri1 ≠ ri2) :
    Calls Try.prog 10 #[.agg #[.int .i64 tag, .int .u64 (ad : Int), .int .i64 bu, .int .i64 qk, .int .i64 qb, .int .i64 qg, .int .i64 tb, .int .u32 (tg : Int), .int .u32 (ts : Int), .int .u64 (tc : Int), .slice a1 n cap1, .string af, .bool fi, .int .i64 co, .int .i64 ri1, .int .u32 (se1 : Int)], .agg #[.int .i64 tag, .int .u64 (ad : Int), .int .i64 bu, .int .i64 qk, .int .i64 qb, .int .i64 qg, .int .i64 tb, .int .u32 (tg : Int), .int .u32 (ts : Int), .int .u64 (tc : Int), .slice a2 n cap2, .string af, .bool fi, .int .i64 co, .int .i64 ri2, .int .u32 (se2 : Int)]] w (BoolIs false w) := by
  have hd : (ri1 == ri2) = false := by simpa using hne
  have hd2 : (ri1 != ri2) = true := by simpa using hne
  have hd3 : decide (ri1 = ri2) = false := by simpa using hne
  have HB := Lib.hid (((Below.refl w.heap.size w).alloc (Nat.le_refl _) (.cells #[.int .i64 tag, .int .u64 (ad : Int), .int .i64 bu, .int .i64 qk, .int .i64 qb, .int .i64 qg, .int .i64 tb, .int .u32 (tg : Int), .int .u32 (ts : Int), .int .u64 (tc : Int), .slice a1 n cap1, .string af, .bool fi, .int .i64 co, .int .i64 ri1, .int .u32 (se1 : Int)] 39)).alloc (by simp) (.cells #[.int .i64 tag, .int .u64 (ad : Int), .int .i64 bu, .int .i64 qk, .int .i64 qb, .int .i64 qg, .int .i64 tb, .int .u32 (tg : Int), .int .u32 (ts : Int), .int .u64 (tc : Int), .slice a2 n cap2, .string af, .bool fi, .int .i64 co, .int .i64 ri2, .int .u32 (se2 : Int)] 39))
  go_enter Try.func10, Try.ntmps10
  go_wp2_with fail
  go_ret
  exact ⟨rfl, HB.out⟩
set_option maxRecDepth 100000 in
set_option maxHeartbeats 4000000 in
theorem rSame15 (tag : Int) (ad : Nat) (bu : Int) (qk : Int) (qb : Int) (qg : Int) (tb : Int) (tg : Nat) (ts : Nat) (tc : Nat) (n : Nat) (af : ByteArray) (fi : Bool) (co : Int) (ri : Int) (se1 se2 : Nat) (a1 a2 : Option Addr) (cap1 cap2 : Nat) (w : World) (hne : se1 ≠ se2) :
    Calls Try.prog 10 #[.agg #[.int .i64 tag, .int .u64 (ad : Int), .int .i64 bu, .int .i64 qk, .int .i64 qb, .int .i64 qg, .int .i64 tb, .int .u32 (tg : Int), .int .u32 (ts : Int), .int .u64 (tc : Int), .slice a1 n cap1, .string af, .bool fi, .int .i64 co, .int .i64 ri, .int .u32 (se1 : Int)], .agg #[.int .i64 tag, .int .u64 (ad : Int), .int .i64 bu, .int .i64 qk, .int .i64 qb, .int .i64 qg, .int .i64 tb, .int .u32 (tg : Int), .int .u32 (ts : Int), .int .u64 (tc : Int), .slice a2 n cap2, .string af, .bool fi, .int .i64 co, .int .i64 ri, .int .u32 (se2 : Int)]] w (BoolIs false w) := by
  have hn2 : ¬ ((se1 : Int) = (se2 : Int)) := by omega
  have hd : ((se1 : Int) == (se2 : Int)) = false := by simpa using hn2
  have hd2 : ((se1 : Int) != (se2 : Int)) = true := by simpa using hn2
  have hd3 : decide ((se1 : Int) = (se2 : Int)) = false := by simpa using hn2
  have HB := Lib.hid (((Below.refl w.heap.size w).alloc (Nat.le_refl _) (.cells #[.int .i64 tag, .int .u64 (ad : Int), .int .i64 bu, .int .i64 qk, .int .i64 qb, .int .i64 qg, .int .i64 tb, .int .u32 (tg : Int), .int .u32 (ts : Int), .int .u64 (tc : Int), .slice a1 n cap1, .string af, .bool fi, .int .i64 co, .int .i64 ri, .int .u32 (se1 : Int)] 39)).alloc (by simp) (.cells #[.int .i64 tag, .int .u64 (ad : Int), .int .i64 bu, .int .i64 qk, .int .i64 qb, .int .i64 qg, .int .i64 tb, .int .u32 (tg : Int), .int .u32 (ts : Int), .int .u64 (tc : Int), .slice a2 n cap2, .string af, .bool fi, .int .i64 co, .int .i64 ri, .int .u32 (se2 : Int)] 39))
  go_enter Try.func10, Try.ntmps10
  go_wp2_with fail
  go_ret
  exact ⟨rfl, HB.out⟩
end Go.Proofs.Ytlngefhjoobmdaa
