/- The reference's Same (layer 16). -/
import Derived.Test.YtlngefhjoobmdaaMg5
namespace Go.Proofs.Ytlngefhjoobmdaa
open Go.RowKit
set_option maxRecDepth 100000 in
set_option maxHeartbeats 4000000 in
theorem rSame0 (tag1 tag2 : Int) (ad1 ad2 : Nat) (bu1 bu2 : Int) (qk1 qk2 : Int) (qb1 qb2 : Int) (qg1 qg2 : Int) (tb1 tb2 : Int) (tg1 tg2 : Nat) (ts1 ts2 : Nat) (tc1 tc2 : Nat) (n1 n2 : Nat) (af1 af2 : ByteArray) (fi1 fi2 : Bool) (co1 co2 : Int) (ri1 ri2 : Int) (se1 se2 : Nat) (a1 a2 : Option Addr) (cap1 cap2 : Nat) (w : World) (hne : tag1 ≠ tag2) :
    Calls Try.prog 10 #[.agg #[.int .i64 tag1, .int .u64 (ad1 : Int), .int .i64 bu1, .int .i64 qk1, .int .i64 qb1, .int .i64 qg1, .int .i64 tb1, .int .u32 (tg1 : Int), .int .u32 (ts1 : Int), .int .u64 (tc1 : Int), .slice a1 n1 cap1, .string af1, .bool fi1, .int .i64 co1, .int .i64 ri1, .int .u32 (se1 : Int)], .agg #[.int .i64 tag2, .int .u64 (ad2 : Int), .int .i64 bu2, .int .i64 qk2, .int .i64 qb2, .int .i64 qg2, .int .i64 tb2, .int .u32 (tg2 : Int), .int .u32 (ts2 : Int), .int .u64 (tc2 : Int), .slice a2 n2 cap2, .string af2, .bool fi2, .int .i64 co2, .int .i64 ri2, .int .u32 (se2 : Int)]] w (BoolIs false w) := by
  have hd : (tag1 == tag2) = false := by simpa using hne
  have hd2 : (tag1 != tag2) = true := by simpa using hne
  have hd3 : decide (tag1 = tag2) = false := by simpa using hne
  have HB := Lib.hid (((Below.refl w.heap.size w).alloc (Nat.le_refl _) (.cells #[.int .i64 tag1, .int .u64 (ad1 : Int), .int .i64 bu1, .int .i64 qk1, .int .i64 qb1, .int .i64 qg1, .int .i64 tb1, .int .u32 (tg1 : Int), .int .u32 (ts1 : Int), .int .u64 (tc1 : Int), .slice a1 n1 cap1, .string af1, .bool fi1, .int .i64 co1, .int .i64 ri1, .int .u32 (se1 : Int)] 39)).alloc (by simp) (.cells #[.int .i64 tag2, .int .u64 (ad2 : Int), .int .i64 bu2, .int .i64 qk2, .int .i64 qb2, .int .i64 qg2, .int .i64 tb2, .int .u32 (tg2 : Int), .int .u32 (ts2 : Int), .int .u64 (tc2 : Int), .slice a2 n2 cap2, .string af2, .bool fi2, .int .i64 co2, .int .i64 ri2, .int .u32 (se2 : Int)] 39))
  go_enter Try.func10, Try.ntmps10
  go_wp2_with fail
  go_ret
  exact ⟨rfl, HB.out⟩
set_option maxRecDepth 100000 in
set_option maxHeartbeats 4000000 in
theorem rSame1 (tag : Int) (ad1 ad2 : Nat) (bu1 bu2 : Int) (qk1 qk2 : Int) (qb1 qb2 : Int) (qg1 qg2 : Int) (tb1 tb2 : Int) (tg1 tg2 : Nat) (ts1 ts2 : Nat) (tc1 tc2 : Nat) (n1 n2 : Nat) (af1 af2 : ByteArray) (fi1 fi2 : Bool) (co1 co2 : Int) (ri1 ri2 : Int) (se1 se2 : Nat) (a1 a2 : Option Addr) (cap1 cap2 : Nat) (w : World) (hne : ad1 ≠ ad2) :
    Calls Try.prog 10 #[.agg #[.int .i64 tag, .int .u64 (ad1 : Int), .int .i64 bu1, .int .i64 qk1, .int .i64 qb1, .int .i64 qg1, .int .i64 tb1, .int .u32 (tg1 : Int), .int .u32 (ts1 : Int), .int .u64 (tc1 : Int), .slice a1 n1 cap1, .string af1, .bool fi1, .int .i64 co1, .int .i64 ri1, .int .u32 (se1 : Int)], .agg #[.int .i64 tag, .int .u64 (ad2 : Int), .int .i64 bu2, .int .i64 qk2, .int .i64 qb2, .int .i64 qg2, .int .i64 tb2, .int .u32 (tg2 : Int), .int .u32 (ts2 : Int), .int .u64 (tc2 : Int), .slice a2 n2 cap2, .string af2, .bool fi2, .int .i64 co2, .int .i64 ri2, .int .u32 (se2 : Int)]] w (BoolIs false w) := by
  have hn2 : ¬ ((ad1 : Int) = (ad2 : Int)) := by omega
  have hd : ((ad1 : Int) == (ad2 : Int)) = false := by simpa using hn2
  have hd2 : ((ad1 : Int) != (ad2 : Int)) = true := by simpa using hn2
  have hd3 : decide ((ad1 : Int) = (ad2 : Int)) = false := by simpa using hn2
  have HB := Lib.hid (((Below.refl w.heap.size w).alloc (Nat.le_refl _) (.cells #[.int .i64 tag, .int .u64 (ad1 : Int), .int .i64 bu1, .int .i64 qk1, .int .i64 qb1, .int .i64 qg1, .int .i64 tb1, .int .u32 (tg1 : Int), .int .u32 (ts1 : Int), .int .u64 (tc1 : Int), .slice a1 n1 cap1, .string af1, .bool fi1, .int .i64 co1, .int .i64 ri1, .int .u32 (se1 : Int)] 39)).alloc (by simp) (.cells #[.int .i64 tag, .int .u64 (ad2 : Int), .int .i64 bu2, .int .i64 qk2, .int .i64 qb2, .int .i64 qg2, .int .i64 tb2, .int .u32 (tg2 : Int), .int .u32 (ts2 : Int), .int .u64 (tc2 : Int), .slice a2 n2 cap2, .string af2, .bool fi2, .int .i64 co2, .int .i64 ri2, .int .u32 (se2 : Int)] 39))
  go_enter Try.func10, Try.ntmps10
  go_wp2_with fail
  go_ret
  exact ⟨rfl, HB.out⟩
set_option maxRecDepth 100000 in
set_option maxHeartbeats 4000000 in
theorem rSame2 (tag : Int) (ad : Nat) (bu1 bu2 : Int) (qk1 qk2 : Int) (qb1 qb2 : Int) (qg1 qg2 : Int) (tb1 tb2 : Int) (tg1 tg2 : Nat) (ts1 ts2 : Nat) (tc1 tc2 : Nat) (n1 n2 : Nat) (af1 af2 : ByteArray) (fi1 fi2 : Bool) (co1 co2 : Int) (ri1 ri2 : Int) (se1 se2 : Nat) (a1 a2 : Option Addr) (cap1 cap2 : Nat) (w : World) (hne : bu1 ≠ bu2) :
    Calls Try.prog 10 #[.agg #[.int .i64 tag, .int .u64 (ad : Int), .int .i64 bu1, .int .i64 qk1, .int .i64 qb1, .int .i64 qg1, .int .i64 tb1, .int .u32 (tg1 : Int), .int .u32 (ts1 : Int), .int .u64 (tc1 : Int), .slice a1 n1 cap1, .string af1, .bool fi1, .int .i64 co1, .int .i64 ri1, .int .u32 (se1 : Int)], .agg #[.int .i64 tag, .int .u64 (ad : Int), .int .i64 bu2, .int .i64 qk2, .int .i64 qb2, .int .i64 qg2, .int .i64 tb2, .int .u32 (tg2 : Int), .int .u32 (ts2 : Int), .int .u64 (tc2 : Int), .slice a2 n2 cap2, .string af2, .bool fi2, .int .i64 co2, .int .i64 ri2, .int .u32 (se2 : Int)]] w (BoolIs false w) := by
  have hd : (bu1 == bu2) = false := by simpa using hne
  have hd2 : (bu1 != bu2) = true := by simpa using hne
  have hd3 : decide (bu1 = bu2) = false := by simpa using hne
  have HB := Lib.hid (((Below.refl w.heap.size w).alloc (Nat.le_refl _) (.cells #[.int .i64 tag, .int .u64 (ad : Int), .int .i64 bu1, .int .i64 qk1, .int .i64 qb1, .int .i64 qg1, .int .i64 tb1, .int .u32 (tg1 : Int), .int .u32 (ts1 : Int), .int .u64 (tc1 : Int), .slice a1 n1 cap1, .string af1, .bool fi1, .int .i64 co1, .int .i64 ri1, .int .u32 (se1 : Int)] 39)).alloc (by simp) (.cells #[.int .i64 tag, .int .u64 (ad : Int), .int .i64 bu2, .int .i64 qk2, .int .i64 qb2, .int .i64 qg2, .int .i64 tb2, .int .u32 (tg2 : Int), .int .u32 (ts2 : Int), .int .u64 (tc2 : Int), .slice a2 n2 cap2, .string af2, .bool fi2, .int .i64 co2, .int .i64 ri2, .int .u32 (se2 : Int)] 39))
  go_enter Try.func10, Try.ntmps10
  go_wp2_with fail
  go_ret
  exact ⟨rfl, HB.out⟩
set_option maxRecDepth 100000 in
set_option maxHeartbeats 4000000 in
theorem rSame3 (tag : Int) (ad : Nat) (bu : Int) (qk1 qk2 : Int) (qb1 qb2 : Int) (qg1 qg2 : Int) (tb1 tb2 : Int) (tg1 tg2 : Nat) (ts1 ts2 : Nat) (tc1 tc2 : Nat) (n1 n2 : Nat) (af1 af2 : ByteArray) (fi1 fi2 : Bool) (co1 co2 : Int) (ri1 ri2 : Int) (se1 se2 : Nat) (a1 a2 : Option Addr) (cap1 cap2 : Nat) (w : World) (hne : qk1 ≠ qk2) :
    Calls Try.prog 10 #[.agg #[.int .i64 tag, .int .u64 (ad : Int), .int .i64 bu, .int .i64 qk1, .int .i64 qb1, .int .i64 qg1, .int .i64 tb1, .int .u32 (tg1 : Int), .int .u32 (ts1 : Int), .int .u64 (tc1 : Int), .slice a1 n1 cap1, .string af1, .bool fi1, .int .i64 co1, .int .i64 ri1, .int .u32 (se1 : Int)], .agg #[.int .i64 tag, .int .u64 (ad : Int), .int .i64 bu, .int .i64 qk2, .int .i64 qb2, .int .i64 qg2, .int .i64 tb2, .int .u32 (tg2 : Int), .int .u32 (ts2 : Int), .int .u64 (tc2 : Int), .slice a2 n2 cap2, .string af2, .bool fi2, .int .i64 co2, .int .i64 ri2, .int .u32 (se2 : Int)]] w (BoolIs false w) := by
  have hd : (qk1 == qk2) = false := by simpa using hne
  have hd2 : (qk1 != qk2) = true := by simpa using hne
  have hd3 : decide (qk1 = qk2) = false := by simpa using hne
  have HB := Lib.hid (((Below.refl w.heap.size w).alloc (Nat.le_refl _) (.cells #[.int .i64 tag, .int .u64 (ad : Int), .int .i64 bu, .int .i64 qk1, .int .i64 qb1, .int .i64 qg1, .int .i64 tb1, .int .u32 (tg1 : Int), .int .u32 (ts1 : Int), .int .u64 (tc1 : Int), .slice a1 n1 cap1, .string af1, .bool fi1, .int .i64 co1, .int .i64 ri1, .int .u32 (se1 : Int)] 39)).alloc (by simp) (.cells #[.int .i64 tag, .int .u64 (ad : Int), .int .i64 bu, .int .i64 qk2, .int .i64 qb2, .int .i64 qg2, .int .i64 tb2, .int .u32 (tg2 : Int), .int .u32 (ts2 : Int), .int .u64 (tc2 : Int), .slice a2 n2 cap2, .string af2, .bool fi2, .int .i64 co2, .int .i64 ri2, .int .u32 (se2 : Int)] 39))
  go_enter Try.func10, Try.ntmps10
  go_wp2_with fail
  go_ret
  exact ⟨rfl, HB.out⟩
set_option maxRecDepth 100000 in
set_option maxHeartbeats 4000000 in
theorem rSame4 (tag : Int) (ad : Nat) (bu : Int) (qk : Int) (qb1 qb2 : Int) (qg1 qg2 : Int) (tb1 tb2 : Int) (tg1 tg2 : Nat) (ts1 ts2 : Nat) (tc1 tc2 : Nat) (n1 n2 : Nat) (af1 af2 : ByteArray) (fi1 fi2 : Bool) (co1 co2 : Int) (ri1 ri2 : Int) (se1 se2 : Nat) (a1 a2 : Option Addr) (cap1 cap2 : Nat) (w : World) (hne : qb1 ≠ qb2) :
    Calls Try.prog 10 #[.agg #[.int .i64 tag, .int .u64 (ad : Int), .int .i64 bu, .int .i64 qk, .int .i64 qb1, .int .i64 qg1, .int .i64 tb1, .int .u32 (tg1 : Int), .int .u32 (ts1 : Int), .int .u64 (tc1 : Int), .slice a1 n1 cap1, .string af1, .bool fi1, .int .i64 co1, .int .i64 ri1, .int .u32 (se1 : Int)], .agg #[.int .i64 tag, .int .u64 (ad : Int), .int .i64 bu, .int .i64 qk, .int .i64 qb2, .int .i64 qg2, .int .i64 tb2, .int .u32 (tg2 : Int), .int .u32 (ts2 : Int), .int .u64 (tc2 : Int), .slice a2 n2 cap2, .string af2, .bool fi2, .int .i64 co2, .int .i64 ri2, .int .u32 (se2 : Int)]] w (BoolIs false w) := by
  have hd : (qb1 == qb2) = false := by simpa using hne
  have hd2 : (qb1 != qb2) = true := by simpa using hne
  have hd3 : decide (qb1 = qb2) = false := by simpa using hne
  have HB := Lib.hid (((Below.refl w.heap.size w).alloc (Nat.le_refl _) (.cells #[.int .i64 tag, .int .u64 (ad : Int), .int .i64 bu, .int .i64 qk, .int .i64 qb1, .int .i64 qg1, .int .i64 tb1, .int .u32 (tg1 : Int), .int .u32 (ts1 : Int), .int .u64 (tc1 : Int), .slice a1 n1 cap1, .string af1, .bool fi1, .int .i64 co1, .int .i64 ri1, .int .u32 (se1 : Int)] 39)).alloc (by simp) (.cells #[.int .i64 tag, .int .u64 (ad : Int), .int .i64 bu, .int .i64 qk, .int .i64 qb2, .int .i64 qg2, .int .i64 tb2, .int .u32 (tg2 : Int), .int .u32 (ts2 : Int), .int .u64 (tc2 : Int), .slice a2 n2 cap2, .string af2, .bool fi2, .int .i64 co2, .int .i64 ri2, .int .u32 (se2 : Int)] 39))
  go_enter Try.func10, Try.ntmps10
  go_wp2_with fail
  go_ret
  exact ⟨rfl, HB.out⟩
end Go.Proofs.Ytlngefhjoobmdaa
