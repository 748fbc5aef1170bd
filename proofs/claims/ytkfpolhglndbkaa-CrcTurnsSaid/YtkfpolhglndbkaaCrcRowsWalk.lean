/- The walks of layer 1's statements: CrcRows, and their head. -/
import Derived.Test.YtkfpolhglndbkaaCrc
import Derived.Test.YtkfpolhglndbkaaBytes
import Derived.Test.YtkfpolhglndbkaaRegion
import Derived.BigQuiet
import Derived.Lib.SlBytesConst
namespace Go.Proofs.Ytkfpolhglndbkaa
open Go.RowKit

theorem crcUp (w : World) : LawOk Try.prog 20 #[] w := by
  have kc := fun (w : World) (C : Array Value) (n c : Nat) => Lib.run_convert_bytes_const (P := Try.prog) w 27 5 C n c Try.underlying27 Try.underlying5
  have e1 : addN 0 [49, 50, 51, 52, 53, 54, 55, 56, 57] = 3421780262 := by decide +kernel
  have e2 : addN 0 [] = 0 := by decide +kernel
  have H1 := Lib.hid e1; have H2 := Lib.hid e2
  clear e1 e2
  unfold LawOk
  go_enter Try.func20, Try.ntmps20
  go_wp2_with fail
  refine (crcSum _ 9 9 [49, 50, 51, 52, 53, 54, 55, 56, 57] _ rfl (by decide) (isBytes_new _ _ _ _ _ rfl)).mono ?_
  rintro e w1 ⟨rfl, hb1⟩
  rw [H1.out]
  go_wp2_with fail
  refine (crcAdd 0 none 0 0 [] _ (by omega) rfl (by decide) (IsBytes.nil _ _)).mono ?_
  rintro e w2 ⟨rfl, hb2⟩
  rw [H2.out]
  go_wp2_with fail
  go_ret
  exact ⟨rfl, below_next (below_next ((Below.refl _ _).alloc (Nat.le_refl _) _) hb1) hb2⟩

set_option maxRecDepth 100000 in
set_option maxHeartbeats 1000000 in
theorem CrcRows_walk (a0 : Int) (w : World) (w0 : (Lit.int .i64 a0).wf = true) :
    LawOk Try.prog 6 #[.int .i64 a0] w := by
  obtain ⟨hz, hsz⟩ := zero_of_info crc_table_info
  rw [← tabV_zero] at hz
  have HSZ := Lib.hid hsz
  clear hsz
  unfold LawOk
  by_cases h1 : a0 < 0
  · go_enter Try.func6, Try.ntmps6
    go_wp2_with fail
    refine (crcUp _).mono ?_
    rintro e W1 ⟨rfl, hb1⟩
    go_wp2_with fail
    refine (crcTable _).mono ?_
    rintro e W2 ⟨rfl, hb2⟩
    have HS := Lib.hid (run_storeAt_new (P := Try.prog) W2 33 (tabV 0) (tabV 256) (by rw [HSZ.out, tabV_size]) (by rw [tabV_size, tabV_size]) (tabV_one 256))
    go_wp2_with (first | (refine wpList_store_by rfl 33 _ _ rfl (.pointer (some ⟨W2.heap.size, 0, none⟩)) _ rfl rfl HS.out ?_))
    go_ret
    exact ⟨rfl, below_next (below_next hb1 hb2) ((Below.refl _ _).alloc (Nat.le_refl _) _)⟩
  by_cases h2 : 255 < a0
  · go_enter Try.func6, Try.ntmps6
    go_wp2_with fail
    refine (crcUp _).mono ?_
    rintro e W1 ⟨rfl, hb1⟩
    go_wp2_with fail
    refine (crcTable _).mono ?_
    rintro e W2 ⟨rfl, hb2⟩
    have HS := Lib.hid (run_storeAt_new (P := Try.prog) W2 33 (tabV 0) (tabV 256) (by rw [HSZ.out, tabV_size]) (by rw [tabV_size, tabV_size]) (tabV_one 256))
    go_wp2_with (first | (refine wpList_store_by rfl 33 _ _ rfl (.pointer (some ⟨W2.heap.size, 0, none⟩)) _ rfl rfl HS.out ?_))
    go_ret
    exact ⟨rfl, below_next (below_next hb1 hb2) ((Below.refl _ _).alloc (Nat.le_refl _) _)⟩
  obtain ⟨n, rfl⟩ := Int.eq_ofNat_of_zero_le (show 0 ≤ a0 by omega)
  have d1 : decide ((n : Int) < 0) = false := by simp
  have d2 : decide ((255 : Int) < (n : Int)) = false := by simp; omega
  have hn : n < 256 := by omega
  go_enter Try.func6, Try.ntmps6
  go_wp2_with fail
  refine (crcUp _).mono ?_
  rintro e W1 ⟨rfl, hb1⟩
  go_wp2_with fail
  refine (crcTable _).mono ?_
  rintro e W2 ⟨rfl, hb2⟩
  have HS := Lib.hid (run_storeAt_new (P := Try.prog) W2 33 (tabV 0) (tabV 256) (by rw [HSZ.out, tabV_size]) (by rw [tabV_size, tabV_size]) (tabV_one 256))
  go_wp2_with (first | (refine wpList_store_by rfl 33 _ _ rfl (.pointer (some ⟨W2.heap.size, 0, none⟩)) _ rfl rfl HS.out ?_))
  have hcell := crc_table_cell W2 n hn
  have hcell' : ∀ w', Reg.bel (W2.alloc (.cells (tabV 256) 33)).drew w' → w'.cell? ⟨W2.heap.size, n, none⟩ = some (.int .u32 (shK 8 n)) := fun w' hb => by
    rw [← hcell]; exact Below.cell hb (p := ⟨W2.heap.size, n, none⟩) (by simp)
  have HC := Lib.hid hcell'
  clear hcell hcell' h1 h2
  refine Reg.wp_region0 (by kernel_rfl) (by kernel_rfl) ?_
  refine Reg.seg0 4 (by kernel_rfl) rfl ?_
  apply Exists.intro
  refine ⟨fun e => ?_, ?_⟩
  · simp only [List.take_succ_cons, List.take_zero]
    repeat (go_big_quiet_step ((intro _; rfl)))
    refine wpQuiet_nil ?_
    exact rfl
  simp only [List.drop_succ_cons, List.drop_zero, Nat.reduceAdd]
  refine Reg.const0 (.int .u32 (shK 8 n)) (fun e w hR hf => ⟨by rfl, ?_⟩) ?_
  · have hc := HC.out w hR
    unfold Reg.gives
    clear hf
    go_simp
    exact Reg.bel_refl _
  simp only [Act.put, List.setIfInBounds_toArray, List.set_cons_zero, List.set_cons_succ, Nat.reduceAdd]
  refine Reg.seg0 1 (by kernel_rfl) rfl ?_
  apply Exists.intro
  refine ⟨fun e => ?_, ?_⟩
  · simp only [List.take_succ_cons, List.take_zero]
    repeat (go_big_quiet_step ((intro _; rfl)))
    refine wpQuiet_nil ?_
    exact rfl
  simp only [List.drop_succ_cons, List.drop_zero, Nat.reduceAdd]
  refine Reg.const0 (.int .u32 (shK 8 n)) (fun e w hR hf => ⟨by rfl, ?_⟩) ?_
  · unfold Reg.gives
    clear hf
    go_simp
    exact (refRow n _ (by omega)).mono fun e w' h => ⟨h.1, by rw [← h.2]; exact Reg.bel_refl _⟩
  simp only [Act.put, List.setIfInBounds_toArray, List.set_cons_zero, List.set_cons_succ, Nat.reduceAdd]
  refine Reg.seg0 3 (by kernel_rfl) rfl ?_
  apply Exists.intro
  refine ⟨fun e => ?_, ?_⟩
  · simp only [List.take_succ_cons, List.take_zero]
    repeat (go_big_quiet_step ((intro _; rfl)))
    refine wpQuiet_nil ?_
    exact rfl
  simp only [List.drop_succ_cons, List.drop_zero, Nat.reduceAdd]
  intro e W5 hR hJ hf
  go_wp2
  go_ret
  exact ⟨by simp, below_next (below_next hb1 hb2) (((Below.refl _ _).alloc (Nat.le_refl _) _).drew.trans (Below.mono hR (by simp)))⟩
end Go.Proofs.Ytkfpolhglndbkaa
