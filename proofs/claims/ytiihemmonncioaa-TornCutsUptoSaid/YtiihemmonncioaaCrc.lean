/- Contracts of crc: Table, Add, Sum. -/
import Derived.Test.YtiihemmonncioaaCrcRef
import Derived.Deep.WholeRow
import Derived.Laws.Unary
namespace Go.Proofs.Ytiihemmonncioaa
open Go.RowKit

theorem crc_table_info : (Try.prog.info? 97).map (fun i => (i.zero, i.size)) = some (some (.agg (Array.replicate 256 (.int .u32 0))), 256) := by kernel_rfl

theorem crc_step (m : Nat) (h : m < 4294967296) : bits .xor .u32 ((m : Int) / 2) (bits .and .u32 3988292384 (-(bits .and .u32 (m : Int) 1) % 4294967296)) = (shN m : Int) := by
  have h1 := u32_and_nat m 1 h (by omega)
  rw [Nat.and_one_is_mod] at h1
  have h1' : bits .and .u32 (m : Int) 1 = ((m % 2 : Nat) : Int) := h1
  rw [h1']
  unfold shN
  rcases Nat.mod_two_eq_zero_or_one m with h2 | h2
  · rw [h2, if_neg (by omega)]
    have h3 := u32_and_nat 3988292384 0 (by omega) (by omega)
    rw [Nat.and_zero] at h3
    have h4 : bits .and .u32 3988292384 (-((0 : Nat) : Int) % 4294967296) = ((0 : Nat) : Int) := h3
    rw [h4]
    have h5 := u32_xor_nat (m / 2) 0 (by omega) (by omega)
    rw [Nat.xor_zero] at h5
    rw [← h5]; simp
  · rw [h2, if_pos rfl]
    have h3 := u32_and_nat 3988292384 4294967295 (by omega) (by omega)
    rw [show (3988292384 &&& 4294967295 : Nat) = 3988292384 by decide] at h3
    have h4 : bits .and .u32 3988292384 (-((1 : Nat) : Int) % 4294967296) = ((3988292384 : Nat) : Int) := h3
    rw [h4]
    have h5 := u32_xor_nat (m / 2) 3988292384 (by omega) (by omega)
    rw [← h5]; simp

/-- The table, as far as it is filled. -/
def tabV (k : Nat) : Array Value := ((List.range 256).map fun j => Value.int .u32 (if j < k then (shK 8 j : Int) else 0)).toArray
theorem tabV_size (k : Nat) : (tabV k).size = 256 := by simp [tabV]
theorem tabV_zero : tabV 0 = Array.replicate 256 (.int .u32 0) := by
  apply Array.ext
  · simp [tabV]
  · intro i h1 h2; simp [tabV]
theorem tabV_set (k : Nat) : (tabV k).setIfInBounds k (.int .u32 (shK 8 k)) = tabV (k + 1) := by
  apply Array.ext
  · simp [tabV]
  · intro i h1 h2
    simp [tabV] at h2
    by_cases hik : k = i
    · subst hik; simp [tabV]
    · rw [Array.getElem_setIfInBounds_ne (by simpa [tabV] using h2) hik]
      simp only [tabV, List.getElem_toArray, List.getElem_map, List.getElem_range]
      by_cases hlt : i < k
      · rw [if_pos hlt, if_pos (by omega)]
      · rw [if_neg hlt, if_neg (by omega)]
theorem tabV_at (k j : Nat) (hj : j < 256) : (tabV k)[j]? = some (.int .u32 (if j < k then (shK 8 j : Int) else 0)) := by
  simp [tabV, hj]
theorem tabV_one (k : Nat) : (tabV k).all (·.oneCell') = true := by
  rw [Array.all_eq_true]
  intro i hi
  simp [tabV, Value.oneCell']
attribute [irreducible] tabV
/-- A whole array into the last block but one. -/
theorem run_storeAt_first {P : Program} (w : World) (t : TypeId) (c c' : Array Value) (hi : (P.info? t).map (·.size) = some c'.size) (ho : c.size = c'.size) (h1 : c'.all (·.oneCell') = true) :
    (Instr.storeAt t (.pointer (some ⟨w.heap.size, 0, none⟩)) (.agg c')).run P ((w.alloc (.cells c t)).alloc (.cells c' t)) = .ok () ((w.alloc (.cells c' t)).alloc (.cells c' t)) := by
  simp only [Instr.storeAt, Instr.sureAddr, Sem.run_bind, Sem.run_pure, Result.andThen]
  rw [run_storeVar_row _ w.heap.size t t c c' (heap_alloc2_old w _ _) hi ho h1]
  congr 1
  simp only [World.setRow, World.alloc]
  congr 1
  apply Array.ext_getElem?
  intro i
  rw [Array.getElem?_modify]
  by_cases h : w.heap.size = i
  · subst h
    simp [Array.getElem?_push]
  · have h' : ¬ i = w.heap.size := fun e => h e.symm
    simp [h, h', Array.getElem?_push]

set_option maxRecDepth 100000 in
set_option maxHeartbeats 400000 in
theorem crcTable (w : World) :
    Calls Try.prog 62 #[] w fun e w' => e = .returned (.agg (tabV 256)) ∧ Below w.heap.size w w' := by
  obtain ⟨hz, hsz⟩ := zero_of_info crc_table_info
  have HSZ := Lib.hid hsz
  clear hsz
  rw [← tabV_zero] at hz
  go_enter Try.func62, Try.ntmps62
  go_wp2
  go_loopw [2, 3, 4, 9] (fun _ _ i _ wr => ∃ k : Nat, k ≤ 256 ∧ i = .int .i64 k ∧ wr = (w.alloc (.cells (tabV 0) 97)).alloc (.cells (tabV k) 97)) (fun _ _ i _ _ => 256 - (intOf i).toNat)
  case atStart => exact ⟨0, by omega, rfl, rfl⟩
  case round =>
    obtain ⟨k, hk, rfl, rfl⟩ := hrel
    by_cases hlt : k < 256
    · go_wp2
      go_loop [3, 9] (fun n j => ∃ i m : Nat, i ≤ 8 ∧ j = .int .i64 i ∧ m < 4294967296 ∧ n = .int .u32 m ∧ Hid (shK (8 - i) m = shK 8 k)) (fun _ j => 8 - (intOf j).toNat)
      case atStart => exact ⟨0, k, by omega, rfl, by omega, rfl, rfl⟩
      case round =>
        obtain ⟨i, m, hi, rfl, hm, rfl, HI⟩ := hrel
        by_cases hi8 : i < 8
        · have HC := Lib.hid (crc_step m hm)
          go_wp2
          go_round
          case rel => exact ⟨i + 1, shN m, by omega, by go_num, shN_lt m hm, by rw [← HC.out], by rw [← HI.out]; show shK (8 - (i + 1)) (shN m) = _; rw [show 8 - i = (8 - (i + 1)) + 1 by omega]; rfl⟩
          case measure => simp [intOf]; omega
        · obtain rfl : i = 8 := by omega
          have HM : Hid (m = shK 8 k) := HI
          have hk2 := tabV_size k
          go_wp2
          exact ⟨⟨k + 1, by omega, by go_num, by rw [HM.out, tabV_set]⟩, by simp [intOf]; omega⟩
    · obtain rfl : k = 256 := by omega
      have hl := run_loadAt_new (P := Try.prog) (w.alloc (.cells (tabV 0) 97)) 97 (tabV 256) 256 56 Try.underlying97 (by rw [HSZ.out, tabV_size])
      have hst := run_storeAt_first (P := Try.prog) w 97 (tabV 0) (tabV 256) (by rw [HSZ.out, tabV_size]) (by rw [tabV_size, tabV_size]) (tabV_one 256)
      have e1 : (w.alloc (.cells (tabV 0) 97)).heap.size = w.heap.size + 1 := by simp
      rw [e1] at hl
      clear e1
      have HL := Lib.hid hl
      have HS := Lib.hid hst
      clear hl hst
      go_wp2_with (first | (refine wpList_load_by rfl 97 _ rfl (.pointer (some ⟨w.heap.size + 1, 0, none⟩)) _ rfl HL.out ?_) | (refine wpList_store_by rfl 97 _ _ rfl (.pointer (some ⟨w.heap.size, 0, none⟩)) _ rfl rfl HS.out ?_))
      refine bodyPost_ret (v := .agg (tabV 256)) (results_cell_row rfl _ _ w.heap.size 97 (tabV 256) (0, 0) _ rfl (heap_alloc2_old w _ _) Try.underlying97 rfl (by rw [HSZ.out, tabV_size])) rfl ⟨rfl, ?_⟩
      exact ((Below.refl _ _).alloc (Nat.le_refl _) _).alloc (by simp) _
theorem crc_not (s : Nat) (h : s < 4294967296) : bits .xor .u32 IntKind.u32.max (s : Int) = ((4294967295 - s : Nat) : Int) := by
  have h1 := u32_xor_nat 4294967295 s (by omega) h
  have h2 : (4294967295 ^^^ s) = 4294967295 - s := by
    apply Nat.eq_of_testBit_eq
    intro i
    have h3 := Nat.testBit_two_pow_sub_succ (n := 32) (x := s) h i
    have h4 : (2 ^ 32 - (s + 1)) = 4294967295 - s := by omega
    rw [h4] at h3
    rw [h3, Nat.testBit_xor, show (4294967295 : Nat) = 2 ^ 32 - 1 from rfl, Nat.testBit_two_pow_sub_one]
    by_cases hi : i < 32
    · simp [hi]
    · have := Nat.testBit_lt_two_pow (Nat.lt_of_lt_of_le h (Nat.pow_le_pow_right (n := 2) (by omega) (show 32 ≤ i by omega)))
      simp [hi, this]
  rw [h2] at h1
  exact h1
theorem crc_table_cell (w : World) (t : Nat) (h : t < 256) : (w.alloc (.cells (tabV 256) 97)).cell? ⟨w.heap.size, t, none⟩ = some (.int .u32 (shK 8 t)) := by
  have h1 := cell_of_row _ w.heap.size t (tabV 256) 97 (0, 0) (heap_alloc_last w (.cells (tabV 256) 97))
  rw [h1, tabV_at 256 t h, if_pos h]
set_option maxRecDepth 100000 in
set_option maxHeartbeats 400000 in
theorem crcAdd (s : Nat) (a : Option Addr) (n cap : Nat) (l : List UInt8) (w : World) (hs : s < 4294967296) (hl : l.length = n) (hn : n ≤ maxLen) (hb : IsBytes w a l) :
    Calls Try.prog 52 #[.int .u32 s, .slice a n cap] w fun e w' => e = .returned (.int .u32 (addN s l)) ∧ Below w.heap.size w w' := by
  obtain ⟨hz, hsz⟩ := zero_of_info crc_table_info
  rw [← tabV_zero] at hz
  have HSZ := Lib.hid hsz
  clear hsz
  unfold maxLen at hn
  go_enter Try.func52, Try.ntmps52
  go_wp2_with fail
  refine (crcTable _).mono ?_
  rintro e w1 ⟨rfl, hb1⟩
  have HB := Lib.hid ((hb.bel hb1).alloc (.cells (tabV 256) 97))
  have HL := Lib.hid hl
  clear hb hl
  have HN := Lib.hid (crc_not s hs)
  have HS := Lib.hid (run_storeAt_new (P := Try.prog) w1 97 (tabV 0) (tabV 256) (by rw [HSZ.out, tabV_size]) (by rw [tabV_size, tabV_size]) (tabV_one 256))
  go_wp2_with (first | (refine wpList_store_by rfl 97 _ _ rfl (.pointer (some ⟨w1.heap.size, 0, none⟩)) _ rfl rfl HS.out ?_))
  rw [HN.out]
  have hc0 : comeL (4294967295 - s) (l.take 0) = 4294967295 - s := rfl
  have HC0 := Lib.hid hc0
  clear hc0
  go_loop [6, 8, 14] (fun q _ i => ∃ k m : Nat, k ≤ n ∧ i = .int .i64 k ∧ m < 4294967296 ∧ q = .int .u32 m ∧ Hid (m = comeL (4294967295 - s) (l.take k))) (fun _ _ i => n - (intOf i).toNat)
  case atStart => exact ⟨0, 4294967295 - s, by omega, rfl, by omega, rfl, HC0.out.symm⟩
  case round =>
    obtain ⟨k, m, hk, rfl, hm, rfl, HE⟩ := hrel
    by_cases hlt : k < n
    · have hkl : k < l.length := by rw [HL.out]; exact hlt
      obtain ⟨b, off, rfl, _, hc⟩ := HB.out k hkl
      have hbt := (l[k]).toNat_lt
      have HT := Lib.hid (comeL_take (4294967295 - s) l k hkl)
      generalize l[k] = x at *
      have hx := u8_xor_nat (m % 256) x.toNat (by omega) hbt
      have hx' : bits .xor .u8 ((m : Int) % 256) (x.toNat : Int) = ((m % 256 ^^^ x.toNat : Nat) : Int) := by rw [← hx]; simp
      have hlt2 : m % 256 ^^^ x.toNat < 256 := Nat.xor_lt_two_pow (n := 8) (by omega) hbt
      have HM := Lib.hid (comeN_table m x)
      have hmx := comeN_lt m x hm
      generalize m % 256 ^^^ x.toNat = t at *
      have ht := crc_table_cell w1 t hlt2
      have hsk := shK_lt 8 t (by omega)
      have hy := u32_xor_nat (m / 256) (shK 8 t) (by omega) hsk
      have hy' : bits .xor .u32 ((m : Int) / 256) (shK 8 t : Int) = ((m / 256 ^^^ shK 8 t : Nat) : Int) := by rw [← hy]; simp
      clear hx hy
      generalize shK 8 t = u at *
      go_wp2
      go_round
      case rel => exact ⟨k + 1, m / 256 ^^^ u, by omega, by go_num, by rw [← HM.out]; exact hmx, rfl, by show _ = _; rw [HT.out, ← HE.out, HM.out]⟩
      case measure => simp [intOf]; omega
    · obtain rfl : k = n := by omega
      have hE : m = comeL (4294967295 - s) l := by rw [HE.out, List.take_of_length_le (by rw [HL.out]; exact Nat.le_refl _)]
      have HE2 := Lib.hid (crc_not m hm)
      have HA : Hid (addN s l = 4294967295 - m) := by show _ = _; rw [hE]; rfl
      clear hE
      go_wp2
      go_ret
      exact ⟨by rw [HA.out, ← HE2.out]; rfl, hb1.alloc hb1.size _⟩

theorem crcSum (a : Option Addr) (n cap : Nat) (l : List UInt8) (w : World) (hl : l.length = n) (hn : n ≤ maxLen) (hb : IsBytes w a l) :
    Calls Try.prog 34 #[.slice a n cap] w fun e w' => e = .returned (.int .u32 (addN 0 l)) ∧ Below w.heap.size w w' := by
  have HB := Lib.hid hb
  have HL := Lib.hid hl
  clear hb hl
  go_enter Try.func34, Try.ntmps34
  go_wp2_with fail
  refine (crcAdd 0 a n cap l _ (by omega) HL.out hn HB.out).mono ?_
  rintro e w' ⟨rfl, hb⟩
  go_wp2
  go_ret
  exact ⟨rfl, hb⟩
end Go.Proofs.Ytiihemmonncioaa
