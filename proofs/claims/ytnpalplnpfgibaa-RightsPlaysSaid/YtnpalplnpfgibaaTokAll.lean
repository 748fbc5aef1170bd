/- rights.Table as a list of tokens that rises: All, Len. -/
import Derived.Test.YtnpalplnpfgibaaSortK
import Derived.Test.YtnpalplnpfgibaaRecV
import Derived.WalkLawsBesides
namespace Go.Proofs.Ytnpalplnpfgibaa
open Go.RowKit Go.Maps
set_option linter.unusedSimpArgs false
set_option linter.unusedVariables false
/-- A token: serial, rights, secret. -/
structure Tk where
  k : Int
  r : Int
  s : Int
deriving DecidableEq
def Tk.cells (t : Tk) : List Value := [.int .i64 5, .int .i64 0, .int .u32 1, .int .i64 0, .int .i64 0, .int .i64 0, .int .u64 0, .int .u32 t.k, .int .i64 t.r, .int .u64 t.s, .string ⟨#[]⟩, .string ⟨#[]⟩, .int .u64 0, .int .u64 0]
def Tk.v (t : Tk) : Value := .agg t.cells.toArray
theorem tk_len (t : Tk) : t.cells.length = 14 := rfl
theorem tk_equal (w : World) (a b : Tk) : (Op.equalIn 10000 78 a.v b.v).run Try.prog w = .ok (decide (a = b)) w := by
  obtain ⟨k, r, s⟩ := a
  obtain ⟨k', r', s'⟩ := b
  by_cases h : (Tk.mk k r s) = Tk.mk k' r' s'
  · obtain ⟨rfl, rfl, rfl⟩ := Tk.mk.inj h
    unfold Tk.v Tk.cells
    go_simp
  · rw [decide_eq_false h]
    unfold Tk.v Tk.cells
    go_simp
    simp only [Tk.mk.injEq] at h
    omega
theorem tk_neq (w : World) (a b : Tk) : (binOp .neq 78 a.v b.v).run Try.prog w = .ok (.bool (!decide (a = b))) w := by
  have := tk_equal w a b
  unfold Tk.v at *
  rw [run_neq_struct, this]
  rfl
abbrev OwnTk (B : Nat) (w : World) (v : Value) (l : List Tk) : Prop := OwnOf 78 Tk.cells 14 B w v l
abbrev IsTks (w : World) (a : Option Addr) (l : List Tk) : Prop := IsRowOf Tk.cells (fun _ => True) 14 w a l
theorem infoRec : (Try.prog.info? 78).map (fun i => (i.zero, i.size, i.bytes)) = some (some (.agg #[.int .i64 0, .int .i64 0, .int .u32 0, .int .i64 0, .int .i64 0, .int .i64 0, .int .u64 0, .int .u32 0, .int .i64 0, .int .u64 0, .string ByteArray.empty, .string ByteArray.empty, .int .u64 0, .int .u64 0]), 14, 128) := by kernel_rfl
theorem tk_one (q : Tk) : ∀ u ∈ q.cells, u.oneCell' = true := by
  intro u hu
  simp only [Tk.cells, List.mem_cons, List.not_mem_nil, or_false] at hu
  rcases hu with rfl | rfl | rfl | rfl | rfl | rfl | rfl | rfl | rfl | rfl | rfl | rfl | rfl | rfl <;> rfl
theorem srcTk {w : World} {a : Option Addr} {l : List Tk} (cap : Nat) (n : Nat) (hn : n = l.length) (h : IsTks w a l) : Src Try.prog 14 66 (.slice a n cap) l.length (l.flatMap Tk.cells) w := by
  subst hn
  exact src_rowOf Try.underlying66 tk_len tk_one (by omega) cap h
/-- A map of tokens, as the list that rises. -/
structure TokAt (D : DataW Unit) (m : List Tk) : Prop where
  rise : (m.map Tk.k).Pairwise (· < ·)
  has : ∀ x, Maps.has D (.int .u32 x) = true ↔ x ∈ m.map Tk.k
  at_ : ∀ t ∈ m, D.atKey (.int .u32 t.k) (tokD 0 0) = tokD t.r t.s
  size : Maps.size D = m.length
  wf : ∀ t ∈ m, (Lit.int .u32 t.k).wf = true
theorem pw_eq {a b : List Int} (ha : a.Pairwise (· < ·)) (hb : b.Pairwise (· < ·)) (h : ∀ x, x ∈ a ↔ x ∈ b) : a = b := by
  have na : a.Nodup := ha.imp (fun h => by omega)
  have nb : b.Nodup := hb.imp (fun h => by omega)
  exact List.Perm.eq_of_pairwise (le := fun a b => a < b) (fun a b _ _ h1 h2 => by omega) ha hb ((List.perm_ext_iff_of_nodup na nb).2 h)
set_option maxHeartbeats 1000000 in
theorem keysTok (b : Nat) (w : World) : Calls Try.prog 77 #[.map (some b)] w (fun e w' => e = .returned (.func (.func 106) #[] #[.pointer (some ⟨w.heap.size, 0, none⟩)]) ∧ w' = w.alloc (.cells #[.map (some b)] 136)) := by
  go_enter Try.func77, Try.ntmps77
  go_wp2
  go_ret
  exact ⟨rfl, rfl⟩
def uC (x : Int) : List Value := [encU x]
theorem uC_len (x : Int) : (uC x).length = 1 := rfl
theorem uC_map (l : List Int) : l.map encU = l.flatMap uC := by
  induction l with
  | nil => rfl
  | cons y l ih => rw [List.map_cons, List.flatMap_cons, ih]; rfl
theorem heapAt (w : World) (o : Obj) (g : Nat) (hg : g = w.heap.size) : (w.alloc o).heap[g]? = some o := by subst hg; exact heap_alloc_new w o
structure AllOk (B : Nat) (m : List Tk) (w : World) (e : Ending) (w' : World) : Prop where
  own : ∃ v, e = .returned v ∧ OwnTk B w' v m
  bel : Below B w w'
set_option maxRecDepth 100000 in
set_option maxHeartbeats 4000000 in
theorem rightsAll (bm n : Nat) (D : DataW Unit) (m : List Tk) (w : World) (ht : IsTable w bm n D) (hA : TokAt D m) (hl : m.length ≤ 1000) : Calls Try.prog 42 #[.pointer (some ⟨bm + 1, 0, none⟩)] w (AllOk w.heap.size m w) := by
  have HT := Lib.hid ht
  have HA := Lib.hid hA
  have hc := ht.cell
  have HL := Lib.hid hl
  have HK := Lib.hid (keysTok bm w)
  have HI := Lib.hid infoRec
  clear ht hA hl
  go_enter Try.func42, Try.ntmps42
  go_wp2_with fail
  refine HK.out.mono ?_
  rintro e W ⟨rfl, rfl⟩
  have HB1 := Lib.hid ((Below.refl w.heap.size w).alloc (Nat.le_refl _) (.cells #[.map (some bm)] 136))
  have HT1 := Lib.hid (HT.out.bel HB1.out)
  have HS := Lib.hid (sortedKeys w.heap.size bm n D (w.alloc (.cells #[.map (some bm)] 136)) ((cell_of_row _ w.heap.size 0 _ _ _ (heap_alloc_new w _)).trans rfl) (by simp) HT1.out.2 (by have := HL.out; rw [HA.out.size]; omega))
  generalize hW1 : World.alloc w _ = W1 at *
  clear hW1 hc HK
  go_wp2_with fail
  refine HS.out.mono ?_
  rintro e W2 ⟨v, ts, rfl, hts, hrow, hb⟩
  have hte : ts = m.map Tk.k := pw_eq hts.1 HA.out.rise (fun x => by rw [hts.2, HA.out.has])
  have hrow : OwnOf 67 uC 1 W1.heap.size W2 v ts := by
    unfold OwnOf
    rw [← uC_map]
    exact hrow
  obtain ⟨a, cap, rfl, hr, _, _, _⟩ := OwnOf.rowOf (W := fun _ => True) uC_len (fun _ _ => trivial) hrow
  have HR := Lib.hid hr
  have HTE := Lib.hid hte
  have htl : ts.length = m.length := by rw [hte, List.length_map]
  have HB2 := Lib.hid (hb.mono HB1.out.size)
  have HBB := Lib.hid (HB1.out.trans HB2.out)
  have HT2 := Lib.hid (HT1.out.bel hb)
  rw [htl]
  clear hts hrow hb hr hte htl HS HB1 HT1 HB2
  go_wp2
  go_loopw [3, 14] (fun ov iv wr => ∃ k : Nat, k ≤ m.length ∧ iv = .int .i64 (k : Int) ∧ Hid (OwnTk W2.heap.size wr ov (m.take k)) ∧ Hid (Below W2.heap.size W2 wr)) (fun _ iv _ => m.length - (Go.RowKit.intOf iv).toNat)
  case atStart => exact ⟨0, Nat.zero_le _, rfl, Lib.hid (OwnOf.nil _ _), Lib.hid (Below.refl _ _)⟩
  case round =>
    obtain ⟨k, hk, rfl, HO, HB3⟩ := hrel
    by_cases hlt : k < m.length
    · have hki : (k : Int) < (m.length : Int) := by omega
      obtain ⟨b, off, rfl, hbl, hcl, _⟩ := HR.out k (by rw [HTE.out, List.length_map]; exact hlt)
      have hc0 : W2.cell? ⟨b, off + k, none⟩ = some (.int .u32 m[k].k) := by
        have := hcl 0 (by omega)
        rw [Nat.mul_one, Nat.add_zero] at this
        rw [this]
        simp [uC, HTE.out]
      have hck := (HB3.out.cell (p := ⟨b, off + k, none⟩) hbl).trans hc0
      obtain ⟨t, htk⟩ : ∃ t, t = m[k] := ⟨_, rfl⟩
      have hmem : t ∈ m := htk ▸ List.getElem_mem hlt
      rw [← htk] at hck
      have HT3 := Lib.hid (HT2.out.bel HB3.out)
      have hcm := HT3.out.cell
      have hlook : (Instr.lookup 136 (.map (some bm)) (.int .u32 t.k) false).run Try.prog wr = .ok (tokV t.r t.s) wr := by
        obtain ⟨v, ps, h1, h2⟩ := HT3.out.2.lookup law32 Try.underlying136 (zeroTok wr) (tokElem_mk 0 0) (Maps.keyOf_int_mk Try.underlying67 (HA.out.wf t hmem))
        rw [HA.out.at_ t hmem] at h2
        rw [h1, tokElem_inv h2]
      have HTK := Lib.hid (show m.take k ++ [t] = m.take (k + 1) by rw [htk, List.take_append_getElem])
      have HLT := Lib.hid hlt
      have hwk : IntKind.i64.wrap ((k : Int) + 1) = (k : Int) + 1 := by have := HL.out; rw [IntKind.wrap_i64]; omega
      have hsz : (m.take k).length ≤ 1000 := Nat.le_trans (List.length_take_le _ _) (by have := HL.out; omega)
      have HSZ := Lib.hid hsz
      unfold tokV at hlook
      clear hc0 hcl htk hmem hlt hsz
      go_wp2_with (at_builtin; refine wpList_append_of Try.underlying66 HI.out rfl (by omega) rfl (.tmp 24) (.tmp 31) rfl W2.heap.size _ (m.take k) rfl (OwnOf.bel HO.out (((Below.refl _ _).alloc (Nat.le_refl _) _).alloc (by simp) _)) _ [t] rfl (srcTk 1 1 rfl (rowOf_new (C := Tk.cells) (W := fun _ => True) t trivial rfl (heapAt _ _ _ (by simp)))) ?hh1 ?hh2 ?hh3)
      case hh1 => have := HB3.out.size; simp; omega
      case hh2 => have := HSZ.out; simp only [List.length_cons, List.length_nil]; omega
      case hh3 =>
        intro v' w' ho hg
        rw [HTK.out] at ho
        have HO2 := Lib.hid ho
        have HB4 := Lib.hid (hg.bel (OwnOf.bel HO.out (((Below.refl _ _).alloc (Nat.le_refl _) _).alloc (by simp) _)) (by have := HB3.out.size; simp; omega))
        clear ho hg
        go_wp2
        go_roundw
        case rel => exact ⟨k + 1, HLT.out, by go_num, HO2, Lib.hid (HB3.out.trans (((((Below.refl _ _).alloc (Nat.le_refl _) _).alloc (by simp) _).mono HB3.out.size).trans HB4.out))⟩
        case measure => have := HLT.out; simp [Go.RowKit.intOf]; omega
    · obtain rfl : k = m.length := by omega
      have HO2 := Lib.hid (show OwnTk W2.heap.size wr u3 m by have := HO.out; rwa [List.take_length] at this)
      have hki : decide ((m.length : Int) < (m.length : Int)) = false := by rw [decide_eq_false_iff_not]; omega
      clear hlt hk
      go_wp2
      go_ret
      exact ⟨⟨_, rfl, HO2.out.mono HBB.out.size⟩, HBB.out.trans (HB3.out.mono HBB.out.size)⟩
end Go.Proofs.Ytnpalplnpfgibaa
