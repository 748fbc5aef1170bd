/- slices.Sorted(slices.Values(s)) at []string (after the kit's worked texts of slices.Values and slices.Collect). -/
import Derived.Test.YtnpalplnpfgibaaFoldLay
import Derived.Test.YtnpalplnpfgibaaOwnOf
import Derived.RangeFuncBox
import Derived.RangeFuncLeaves
namespace Go.Proofs.Ytnpalplnpfgibaa
open Go.RowKit Go.Maps Go.Sort Go.Shelf
def sCells (q : ByteArray) : List Value := [.string q]
abbrev IsStrs (w : World) (a : Option Addr) (l : List ByteArray) : Prop := IsRowOf sCells (fun _ => True) 1 w a l
def bl (l : List ByteArray) : List (List UInt8) := l.map (·.data.toList)
theorem bl_len (l : List ByteArray) : (bl l).length = l.length := List.length_map _
theorem enc_bl (q : ByteArray) : encStr q.data.toList = .string q := by simp [encStr]
theorem strs_at {w : World} {b off k : Nat} {zs : List ByteArray} {a : Option Addr} (h : IsStrs w a zs) (hk : k < zs.length) (ha : a = some ⟨b, off, none⟩) : w.cell? ⟨b, off + k, none⟩ = some (encStr zs[k].data.toList) := by
  obtain ⟨b', off', h1, _, h3, _⟩ := h k hk
  rw [ha] at h1
  cases h1
  have h4 := h3 0 (by omega)
  simp only [sCells, List.getElem?_cons_zero, Nat.add_zero, Nat.mul_one] at h4
  rw [enc_bl, h4]
theorem strsBel {w w' : World} {a : Option Addr} {l : List ByteArray} (h : IsStrs w a l) (hb : Below w.heap.size w w') : IsStrs w' a l := by
  intro i hi
  obtain ⟨b, off, h1, h2, h3, h4⟩ := h i hi
  exact ⟨b, off, h1, Nat.lt_of_lt_of_le h2 hb.size, fun j hj => (hb.cell (p := ⟨b, off + i * 1 + j, none⟩) h2).trans (h3 j hj), h4⟩
attribute [local go_sem] Oper.semAt_some
set_option maxRecDepth 100000 in
set_option maxHeartbeats 2000000 in
theorem valsRun (n : Nat) (hn : 1 ≤ n) (l Bs cap : Nat) (a : Option Addr) (zs : List ByteArray) (J : List (List UInt8) → World → Prop) (W : World) (hBs : W.cell? ⟨Bs, 0, none⟩ = some (.slice a zs.length cap)) (hlen : zs.length ≤ 1000000)
    (hc : ∀ pre W1, J pre W1 → IsStrs W1 a zs)
    (hY : ∀ pre x W1, J pre W1 → pre.length < zs.length → YieldAt Fence.wide (n - 1) Try.prog l #[encStr x] W1 fun e W' => e = .returned (.bool true) ∧ J (pre ++ [x]) W' ∧ KeepsWalks W1 W')
    (h0 : J [] W) : CallsIn Fence.wide n Try.prog 109 #[.func (.yield l) #[] #[], .pointer (some ⟨Bs, 0, none⟩)] W fun e W' => (∃ v, e = .returned v) ∧ J (bl zs) W' := by
  have bz : (zs.length : Int) ≤ 1000000 := by omega
  refine callsIn_of_wp Try.func109 rfl trivial ?_ rfl
  simp only [Try.ntmps109, List.size_toArray, List.length_cons, List.length_nil, Nat.reduceAdd, Nat.reduceSub, Array.replicate_succ, Array.replicate_zero, List.push_toArray, List.append_toArray, List.nil_append, List.cons_append]
  gi_wp2
  gi_loopw [7] (fun i wr => ∃ k : Nat, k ≤ zs.length ∧ i = .int .i64 k ∧ J (bl (zs.take k)) wr) (fun i _ => zs.length - (intOf i).toNat)
  case atStart => exact ⟨0, Nat.zero_le _, rfl, by simpa [bl] using h0⟩
  case round =>
    obtain ⟨k, hk, rfl, hJs⟩ := hrel
    have b0 : (0 : Int) ≤ (k : Int) := by omega
    by_cases hlt : k < zs.length
    · have bk : (k : Int) < (zs.length : Int) := by omega
      obtain ⟨b, off, hax, hbx, _⟩ := hc _ _ hJs k hlt
      have hcx := strs_at (hc _ _ hJs) hlt hax
      obtain ⟨fn, tmps, assign, body, hy, hR⟩ := hY _ (zs[k].data.toList) wr hJs (by rw [bl_len, List.length_take]; omega)
      subst hax
      gi_wp2
      refine hR.mono ?_
      rintro e W3 ⟨rfl, hJ3, hk3⟩
      gi_wp2
      go_roundw
      case rel =>
        refine ⟨k + 1, by omega, by simp, ?_⟩
        unfold bl at hJ3 ⊢
        rw [List.take_succ_eq_append_getElem hlt, List.map_append]
        exact hJ3
      case measure => simp [intOf]; omega
    · obtain rfl : k = zs.length := by omega
      gi_wp2
      go_end0
      rw [List.take_length] at hJs
      exact ⟨⟨_, rfl⟩, hJs⟩
set_option maxRecDepth 100000 in
set_option maxHeartbeats 2000000 in
theorem appVals (n : Nat) (hn : 2 ≤ n) (Bs cap : Nat) (a : Option Addr) (zs : List ByteArray) (w : World) (hBs : w.cell? ⟨Bs, 0, none⟩ = some (.slice a zs.length cap)) (hBl : Bs < w.heap.size) (hlen : zs.length ≤ 1000000) (hz : IsStrs w a zs) :
    CallsIn Fence.wide n Try.prog 125 #[.slice none 0 0, .func (.func 109) #[] #[.pointer (some ⟨Bs, 0, none⟩)]] w fun e w' => ∃ v : Value, e = .returned v ∧ w'.ownsRow w.heap.size 9 1 v (bl zs).length ((bl zs).map encStr) ∧ Below w.heap.size w w' := by
  have h1 : 1 ≤ n := by omega
  have hmaxL : zs.length ≤ maxLen := by unfold maxLen; omega
  refine callsIn_of_wp_marks Try.func125 rfl trivial ?_ rfl
  simp only [Try.ntmps125, List.size_toArray, List.length_cons, List.length_nil, Nat.reduceAdd, Nat.reduceSub, Array.replicate_succ, Array.replicate_zero, List.push_toArray, List.append_toArray, List.nil_append, List.cons_append]
  gi_wp2
  refine wpIn_rangeFunc ?_
  intro fn hfn
  rw [show Fence.wide.round = none from rfl]
  obtain ⟨SV, hSV⟩ : ∃ SV, SV = Value.func (.func 109) #[] #[.pointer (some ⟨Bs, 0, none⟩)] := ⟨_, rfl⟩
  obtain ⟨W0, hW0⟩ : ∃ W0, w.alloc (.cells #[.slice none 0 0] 81) = W0 := ⟨_, rfl⟩
  have hs0 : W0.heap.size = w.heap.size + 1 := by rw [← hW0]; simp
  have hv0 : W0.heap[w.heap.size]? = some (.cells #[.slice none 0 0] 81 (0, 0)) := by rw [← hW0]; exact World.alloc_heap_new w _
  have hb0 : Below w.heap.size w W0 := by rw [← hW0]; exact (Below.refl _ w).alloc (Nat.le_refl _) _
  rw [hW0]
  obtain ⟨W1, hW1⟩ : ∃ W1, (W0.alloc (.deferred (some []))).alloc (.loop (AnyZ.apRec Try.sortedF_ren fn (.func (.func 109) #[] #[.pointer (some ⟨Bs, 0, none⟩)]) w.heap.size W0.heap.size .ready none)) = W1 := ⟨_, rfl⟩
  have hold : ∀ k, k < W0.heap.size → W1.heap[k]? = W0.heap[k]? := fun k hk => by
    rw [← hW1]; exact (Below.heap_alloc _ _ k (by simp; omega)).trans (Below.heap_alloc _ _ k hk)
  have hb1 : Below w.heap.size w W1 := by rw [← hW1]; exact (hb0.alloc hb0.size _).alloc (by have := hb0.size; simp; omega) _
  have hs1 : W1.heap.size = W0.heap.size + 2 := by rw [← hW1]; simp
  have hM : AnyZ.ApAt Try.sortedF_ren w fn (.func (.func 109) #[] #[.pointer (some ⟨Bs, 0, none⟩)]) w.heap.size (W0.heap.size + 1) W0.heap.size [] W1 :=
    ⟨⟨_, (hold w.heap.size (by omega)).trans hv0, ⟨rfl, .inl ⟨rfl, rfl⟩⟩, by simp⟩,
     by rw [← hW1]; have := World.alloc_heap_new (W0.alloc (.deferred (some []))) (.loop (AnyZ.apRec Try.sortedF_ren fn (.func (.func 109) #[] #[.pointer (some ⟨Bs, 0, none⟩)]) w.heap.size W0.heap.size .ready none)); rwa [World.size_alloc] at this,
     by rw [← hW1]; exact (Below.heap_alloc _ _ _ (by simp)).trans (World.alloc_heap_new W0 _), hb1⟩
  refine ⟨W0.heap.size + 1, [{ target := .collected W0.heap.size, args := #[] }], W1, { target := .fn (.func 109) #[.pointer (some ⟨Bs, 0, none⟩)], args := #[.func (.yield (W0.heap.size + 1)) #[] #[]] }, W1, 109,
    #[.func (.yield (W0.heap.size + 1)) #[] #[]] ++ #[.pointer (some ⟨Bs, 0, none⟩)], W1, ?_, ?_, ?_, ?_, fun _ => h1, ?_⟩
  · rw [← hW1]; exact run_enterLoop_outer _ _ _ _ _
  · simp [resolve, go_sem]
  · intro f' hf'; trivial
  · simp [invoke, go_sem]
  · refine (valsRun (n - 1) (by omega) (W0.heap.size + 1) Bs cap a zs (AnyZ.ApAt Try.sortedF_ren w fn (.func (.func 109) #[] #[.pointer (some ⟨Bs, 0, none⟩)]) w.heap.size (W0.heap.size + 1) W0.heap.size) W1 ((hb1.cell (p := ⟨Bs, 0, none⟩) hBl).trans hBs) hlen (fun pre W hJ => strsBel hz hJ.below)
      (fun pre x W hJ hl => AnyZ.apYield { Try.sortedF with } Fence.wide (n - 1 - 1) w fn hfn _ w.heap.size (W0.heap.size + 1) W0.heap.size (by omega) (by omega) (by omega) (Nat.le_refl _) (by omega) zs.length hmaxL (by omega) pre x W hJ hl) hM).mono ?_
    rintro e W2 ⟨⟨v0, rfl⟩, h2⟩
    obtain ⟨v, hv, hrow, hnil⟩ := h2.box
    have hend := run_endLoop (P := Try.prog) h2.L (by simp [AnyZ.apRec])
    obtain ⟨W3, hW3⟩ : ∃ W3, W2.putObj (W0.heap.size + 1) (.loop { AnyZ.apRec Try.sortedF_ren fn (.func (.func 109) #[] #[.pointer (some ⟨Bs, 0, none⟩)]) w.heap.size W0.heap.size .ready none with state := .exhausted }) = W3 := ⟨_, rfl⟩
    rw [hW3] at hend
    have hg3 : W2.grownBy W3 (some (W0.heap.size + 1)) := by rw [← hW3]; exact grownBy_putObj_a _ _ _
    have hv3 : W3.heap[w.heap.size]? = some (.cells #[v] 81 (0, 0)) := by rw [← hW3]; exact (World.putObj_heap_other (by omega)).trans hv
    have hK3 : W3.heap[W0.heap.size]? = some (.deferred (some [])) := by rw [← hW3]; exact (World.putObj_heap_other (by omega)).trans h2.K
    have hrow3 := hrow.kept hg3 (ownsRow_ne_a hrow h2.L (fun cur e => by cases e))
    have hb3 : Below w.heap.size w W3 := h2.below.grown hg3 h2.below.size (fun k e => by cases e; omega)
    obtain ⟨hc3, hf3⟩ := cell_of_box_a hv3
    clear hW3
    refine ⟨none, W3, hend, ?_⟩
    gi_wp2
    rw [← hs0]
    refine ⟨by simp, .inl ⟨_, _, rfl, run_takeDeferred hK3, ?_⟩⟩
    exact ⟨_, results_tmp rfl _ _ _, v, rfl, hrow3.kept (grownBy_putObj_a _ _ _) (ownsRow_ne_a hrow3 hK3 (fun cur e => by cases e)), hb3.grown (grownBy_putObj_a _ _ _) hb3.size (fun k e => by cases e; omega)⟩
set_option maxHeartbeats 1000000 in
theorem collectVals (n : Nat) (hn : 3 ≤ n) (Bs cap : Nat) (a : Option Addr) (zs : List ByteArray) (w : World) (hBs : w.cell? ⟨Bs, 0, none⟩ = some (.slice a zs.length cap)) (hBl : Bs < w.heap.size) (hlen : zs.length ≤ 1000000) (hz : IsStrs w a zs) :
    CallsIn Fence.wide n Try.prog 107 #[.func (.func 109) #[] #[.pointer (some ⟨Bs, 0, none⟩)]] w fun e w' => ∃ v : Value, e = .returned v ∧ w'.ownsRow w.heap.size 9 1 v (bl zs).length ((bl zs).map encStr) ∧ Below w.heap.size w w' := by
  have h1 : 1 ≤ n := by omega
  have hf : Fence.wide.fn 125 := trivial
  have cA := appVals (n - 1) (by omega) Bs cap a zs w hBs hBl hlen hz
  refine callsIn_of_wp Try.func107 rfl trivial ?_ rfl
  clear hBs hz
  simp only [Try.ntmps107, List.size_toArray, List.length_cons, List.length_nil, Nat.reduceAdd, Nat.reduceSub, Array.replicate_succ, Array.replicate_zero, List.push_toArray, List.append_toArray, List.nil_append, List.cons_append]
  gi_wp2_with (gi_at_call 125; refine cA.mono ?_; rintro e w' ⟨v, rfl, hrow, hb⟩)
  go_ret
  exact ⟨v, rfl, hrow, hb⟩
end Go.Proofs.Ytnpalplnpfgibaa
