/- The reference's Same (layer 16). -/
import Derived.Test.YtlngefhjoobmdaaMg5
namespace Go.Proofs.Ytlngefhjoobmdaa
open Go.RowKit
set_option maxRecDepth 100000 in
set_option maxHeartbeats 4000000 in
theorem rSame9 (tag : Int) (ad : Nat) (bu : Int) (qk : Int) (qb : Int) (qg : Int) (tb : Int) (tg : Nat) (ts : Nat) (tc1 tc2 : Nat) (n1 n2 : Nat) (af1 af2 : ByteArray) (fi1 fi2 : Bool) (co1 co2 : Int) (ri1 ri2 : Int) (se1 se2 : Nat) (a1 a2 : Option Addr) (cap1 cap2 : Nat) (w : World) (hne : tc1 ≠ tc2) :
    Calls Try.prog 10 #[.agg #[.int .i64 tag, .int .u64 (ad : Int), .int .i64 bu, .int .i64 qk, .int .i64 qb, .int .i64 qg, .int .i64 tb, .int .u32 (tg : Int), .int .u32 (ts : Int), .int .u64 (tc1 : Int), .slice a1 n1 cap1, .string af1, .bool fi1, .int .i64 co1, .int .i64 ri1, .int .u32 (se1 : Int)], .agg #[.int .i64 tag, .int .u64 (ad : Int), .int .i64 bu, .int .i64 qk, .int .i64 qb, .int .i64 qg, .int .i64 tb, .int .u32 (tg : Int), .int .u32 (ts : Int), .int .u64 (tc2 : Int), .slice a2 n2 cap2, .string af2, .bool fi2, .int .i64 co2, .int .i64 ri2, .int .u32 (se2 : Int)]] w (BoolIs false w) := by
  have hn2 : ¬ ((tc1 : Int) = (tc2 : Int)) := by omega
  have hd : ((tc1 : Int) == (tc2 : Int)) = false := by simpa using hn2
  have hd2 : ((tc1 : Int) != (tc2 : Int)) = true := by simpa using hn2
  have hd3 : decide ((tc1 : Int) = (tc2 : Int)) = false := by simpa using hn2
  have HB := Lib.hid (((Below.refl w.heap.size w).alloc (Nat.le_refl _) (.cells #[.int .i64 tag, .int .u64 (ad : Int), .int .i64 bu, .int .i64 qk, .int .i64 qb, .int .i64 qg, .int .i64 tb, .int .u32 (tg : Int), .int .u32 (ts : Int), .int .u64 (tc1 : Int), .slice a1 n1 cap1, .string af1, .bool fi1, .int .i64 co1, .int .i64 ri1, .int .u32 (se1 : Int)] 39)).alloc (by simp) (.cells #[.int .i64 tag, .int .u64 (ad : Int), .int .i64 bu, .int .i64 qk, .int .i64 qb, .int .i64 qg, .int .i64 tb, .int .u32 (tg : Int), .int .u32 (ts : Int), .int .u64 (tc2 : Int), .slice a2 n2 cap2, .string af2, .bool fi2, .int .i64 co2, .int .i64 ri2, .int .u32 (se2 : Int)] 39))
  go_enter Try.func10, Try.ntmps10
  go_wp2_with fail
  go_ret
  exact ⟨rfl, HB.out⟩
set_option maxRecDepth 100000 in
set_option maxHeartbeats 4000000 in
theorem rSame10 (tag : Int) (ad : Nat) (bu : Int) (qk : Int) (qb : Int) (qg : Int) (tb : Int) (tg : Nat) (ts : Nat) (tc : Nat) (n1 n2 : Nat) (af1 af2 : ByteArray) (fi1 fi2 : Bool) (co1 co2 : Int) (ri1 ri2 : Int) (se1 se2 : Nat) (a1 a2 : Option Addr) (cap1 cap2 : Nat) (w : World) (hne : n1 ≠ n2) :
    Calls Try.prog 10 #[.agg #[.int .i64 tag, .int .u64 (ad : Int), .int .i64 bu, .int .i64 qk, .int .i64 qb, .int .i64 qg, .int .i64 tb, .int .u32 (tg : Int), .int .u32 (ts : Int), .int .u64 (tc : Int), .slice a1 n1 cap1, .string af1, .bool fi1, .int .i64 co1, .int .i64 ri1, .int .u32 (se1 : Int)], .agg #[.int .i64 tag, .int .u64 (ad : Int), .int .i64 bu, .int .i64 qk, .int .i64 qb, .int .i64 qg, .int .i64 tb, .int .u32 (tg : Int), .int .u32 (ts : Int), .int .u64 (tc : Int), .slice a2 n2 cap2, .string af2, .bool fi2, .int .i64 co2, .int .i64 ri2, .int .u32 (se2 : Int)]] w (BoolIs false w) := by
  have hn2 : ¬ ((n1 : Int) = (n2 : Int)) := by omega
  have hd : ((n1 : Int) == (n2 : Int)) = false := by simpa using hn2
  have hd2 : ((n1 : Int) != (n2 : Int)) = true := by simpa using hn2
  have hd3 : decide ((n1 : Int) = (n2 : Int)) = false := by simpa using hn2
  have HB := Lib.hid (((Below.refl w.heap.size w).alloc (Nat.le_refl _) (.cells #[.int .i64 tag, .int .u64 (ad : Int), .int .i64 bu, .int .i64 qk, .int .i64 qb, .int .i64 qg, .int .i64 tb, .int .u32 (tg : Int), .int .u32 (ts : Int), .int .u64 (tc : Int), .slice a1 n1 cap1, .string af1, .bool fi1, .int .i64 co1, .int .i64 ri1, .int .u32 (se1 : Int)] 39)).alloc (by simp) (.cells #[.int .i64 tag, .int .u64 (ad : Int), .int .i64 bu, .int .i64 qk, .int .i64 qb, .int .i64 qg, .int .i64 tb, .int .u32 (tg : Int), .int .u32 (ts : Int), .int .u64 (tc : Int), .slice a2 n2 cap2, .string af2, .bool fi2, .int .i64 co2, .int .i64 ri2, .int .u32 (se2 : Int)] 39))
  go_enter Try.func10, Try.ntmps10
  go_wp2_with fail
  go_ret
  exact ⟨rfl, HB.out⟩
set_option maxRecDepth 100000 in
set_option maxHeartbeats 4000000 in
theorem rSame11 (tag : Int) (ad : Nat) (bu : Int) (qk : Int) (qb : Int) (qg : Int) (tb : Int) (tg : Nat) (ts : Nat) (tc : Nat) (n : Nat) (af1 af2 : ByteArray) (fi1 fi2 : Bool) (co1 co2 : Int) (ri1 ri2 : Int) (se1 se2 : Nat) (a1 a2 : Option Addr) (cap1 cap2 : Nat) (w : World) (hne : af1 ≠ af2) :
    Calls Try.prog 10 #[.agg #[.int .i64 tag, .int .u64 (ad : Int), .int .i64 bu, .int .i64 qk, .int .i64 qb, .int .i64 qg, .int .i64 tb, .int .u32 (tg : Int), .int .u32 (ts : Int), .int .u64 (tc : Int), .slice a1 n cap1, .string af1, .bool fi1, .int .i64 co1, .int .i64 ri1, .int .u32 (se1 : Int)], .agg #[.int .i64 tag, .int .u64 (ad : Int), .int .i64 bu, .int .i64 qk, .int .i64 qb, .int .i64 qg, .int .i64 tb, .int .u32 (tg : Int), .int .u32 (ts : Int), .int .u64 (tc : Int), .slice a2 n cap2, .string af2, .bool fi2, .int .i64 co2, .int .i64 ri2, .int .u32 (se2 : Int)]] w (BoolIs false w) := by
  have hn2 : ¬ (af1.toList = af2.toList) := fun e => hne (bytes_of_toList e)
  have hd3 : decide (af1 = af2) = false := by simpa using hne
  have HB := Lib.hid (((Below.refl w.heap.size w).alloc (Nat.le_refl _) (.cells #[.int .i64 tag, .int .u64 (ad : Int), .int .i64 bu, .int .i64 qk, .int .i64 qb, .int .i64 qg, .int .i64 tb, .int .u32 (tg : Int), .int .u32 (ts : Int), .int .u64 (tc : Int), .slice a1 n cap1, .string af1, .bool fi1, .int .i64 co1, .int .i64 ri1, .int .u32 (se1 : Int)] 39)).alloc (by simp) (.cells #[.int .i64 tag, .int .u64 (ad : Int), .int .i64 bu, .int .i64 qk, .int .i64 qb, .int .i64 qg, .int .i64 tb, .int .u32 (tg : Int), .int .u32 (ts : Int), .int .u64 (tc : Int), .slice a2 n cap2, .string af2, .bool fi2, .int .i64 co2, .int .i64 ri2, .int .u32 (se2 : Int)] 39))
  go_enter Try.func10, Try.ntmps10
  go_wp2_with fail
  go_ret
  exact ⟨rfl, HB.out⟩
set_option maxRecDepth 100000 in
set_option maxHeartbeats 4000000 in
theorem rSame12 (tag : Int) (ad : Nat) (bu : Int) (qk : Int) (qb : Int) (qg : Int) (tb : Int) (tg : Nat) (ts : Nat) (tc : Nat) (n : Nat) (af : ByteArray) (fi1 fi2 : Bool) (co1 co2 : Int) (ri1 ri2 : Int) (se1 se2 : Nat) (a1 a2 : Option Addr) (cap1 cap2 : Nat) (w : World) (hne : fi1 ≠ fi2) :
    Calls Try.prog 10 #[.agg #[.int .i64 tag, .int .u64 (ad : Int), .int .i64 bu, .int .i64 qk, .int .i64 qb, .int .i64 qg, .int .i64 tb, .int .u32 (tg : Int), .int .u32 (ts : Int), .int .u64 (tc : Int), .slice a1 n cap1, .string af, .bool fi1, .int .i64 co1, .int .i64 ri1, .int .u32 (se1 : Int)], .agg #[.int .i64 tag, .int .u64 (ad : Int), .int .i64 bu, .int .i64 qk, .int .i64 qb, .int .i64 qg, .int .i64 tb, .int .u32 (tg : Int), .int .u32 (ts : Int), .int .u64 (tc : Int), .slice a2 n cap2, .string af, .bool fi2, .int .i64 co2, .int .i64 ri2, .int .u32 (se2 : Int)]] w (BoolIs false w) := by
  have hd : (fi1 == fi2) = false := by simpa using hne
  have hd2 : (fi1 != fi2) = true := by simpa using hne
  have HB := Lib.hid (((Below.refl w.heap.size w).alloc (Nat.le_refl _) (.cells #[.int .i64 tag, .int .u64 (ad : Int), .int .i64 bu, .int .i64 qk, .int .i64 qb, .int .i64 qg, .int .i64 tb, .int .u32 (tg : Int), .int .u32 (ts : Int), .int .u64 (tc : Int), .slice a1 n cap1, .string af, .bool fi1, .int .i64 co1, .int .i64 ri1, .int .u32 (se1 : Int)] 39)).alloc (by simp) (.cells #[.int .i64 tag, .int .u64 (ad : Int), .int .i64 bu, .int .i64 qk, .int .i64 qb, .int .i64 qg, .int .i64 tb, .int .u32 (tg : Int), .int .u32 (ts : Int), .int .u64 (tc : Int), .slice a2 n cap2, .string af, .bool fi2, .int .i64 co2, .int .i64 ri2, .int .u32 (se2 : Int)] 39))
  go_enter Try.func10, Try.ntmps10
  go_wp2_with fail
  go_ret
  exact ⟨rfl, HB.out⟩
end Go.Proofs.Ytlngefhjoobmdaa
