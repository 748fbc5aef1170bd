/- Contracts of rights.Table: New, Put, Revoke, Rights. -/
import Derived.Test.YtnpalplnpfgibaaBytes
import Derived.Maps.OwnSet
import Derived.Maps.OwnOps
import Derived.Carry
import Derived.Outline
import Derived.WalkSpells
namespace Go.Proofs.Ytnpalplnpfgibaa
open Go.RowKit
set_option linter.unusedSimpArgs false
set_option linter.unusedVariables false

theorem law32 : Maps.Keyed Try.prog 67 := Maps.int_keyed Try.underlying67
def tokD (r s : Int) : DataW Unit := .agg [.lit (.int .i64 r), .lit (.int .u64 s)]
def tokV (r s : Int) : Value := .agg #[.int .i64 r, .int .u64 s]
/-- How a token reads. -/
def tokElem : Value → Option (DataW Unit × List MemPlace)
  | .agg cs => match cs.toList with
    | [.int .i64 r, .int .u64 s] => some (tokD r s, [])
    | _ => none
  | _ => none
theorem tokElem_mk (r s : Int) : tokElem (tokV r s) = some (tokD r s, []) := rfl
theorem tokElem_inv {v : Value} {r s : Int} {ps : List MemPlace} (h : tokElem v = some (tokD r s, ps)) : v = tokV r s := by
  unfold tokElem at h
  split at h
  · rename_i cs
    split at h
    · rename_i r' s' hcs
      simp only [Option.some.injEq, Prod.mk.injEq, tokD, DataW.agg.injEq, List.cons.injEq, DataW.lit.injEq, Lit.int.injEq] at h
      obtain ⟨⟨⟨_, rfl⟩, ⟨_, rfl⟩, _⟩, _⟩ := h
      unfold tokV
      congr 1
      rw [← Array.toArray_toList (xs := cs), hcs]
    · cases h
  · cases h
theorem tokElem_some {v : Value} {z : DataW Unit × List MemPlace} (h : tokElem v = some z) : ∃ r s, v = tokV r s ∧ z = (tokD r s, []) := by
  have h0 := h
  unfold tokElem at h
  split at h
  · split at h
    · cases h
      exact ⟨_, _, tokElem_inv h0, rfl⟩
    · cases h
  · cases h
theorem zeroTok (w : World) : (zeroValue 140).run Try.prog w = .ok (tokV 0 0) w := by kernel_rfl
/-- Block bm is the map of a table, the block behind it the table; it reads as D. -/
def IsTable (w : World) (bm n : Nat) (D : DataW Unit) : Prop :=
  w.heap[bm + 1]? = some (.cells #[.map (some bm)] 138 (0, 0)) ∧ w.ownsMap Try.prog 67 tokElem bm n D
theorem IsTable.cell {w : World} {bm n : Nat} {D : DataW Unit} (h : IsTable w bm n D) : w.cell? ⟨bm + 1, 0, none⟩ = some (.map (some bm)) := by
  have := cell_of_row w (bm + 1) 0 _ _ _ h.1
  simpa using this
theorem IsTable.lt {w : World} {bm n : Nat} {D : DataW Unit} (h : IsTable w bm n D) : bm + 1 < w.heap.size := (Array.getElem?_eq_some_iff.1 h.1).1
theorem IsTable.bel {w w' : World} {bm n : Nat} {D : DataW Unit} (h : IsTable w bm n D) (hb : Below w.heap.size w w') : IsTable w' bm n D :=
  ⟨by rw [hb.block (bm + 1) h.lt]; exact h.1, h.2.kept (row := none) ⟨hb.os, hb.tape, hb.output, hb.size, fun k hk _ => hb.block k hk⟩ (by simp)⟩
theorem IsTable.turn {w w' : World} {bm n n' : Nat} {D D' : DataW Unit} (h : IsTable w bm n D) (hg : w.grownBy w' (some bm)) (ho : w'.ownsMap Try.prog 67 tokElem bm n' D') : IsTable w' bm n' D' :=
  ⟨by rw [hg.block (bm + 1) h.lt (by simp)]; exact h.1, ho⟩

theorem below_grownBy' {B br : Nat} {w w' : World} (hg : w.grownBy w' (some br)) (hB : B ≤ w.heap.size) (hbr : B ≤ br) : Below B w w' :=
  (Below.refl B w).grown hg hB (fun k hk => by cases hk; exact hbr)
def NewOk (w : World) (e : Ending) (w' : World) : Prop := e = .returned (.pointer (some ⟨w.heap.size + 1, 0, none⟩)) ∧ IsTable w' w.heap.size 0 (.map []) ∧ Below w.heap.size w w'
theorem rightsNew (w : World) : Calls Try.prog 34 #[] w (NewOk w) := by
  have hmm := @run_makeMap Try.prog
  go_enter Try.func34, Try.ntmps34
  go_wp2
  go_ret
  refine ⟨by simp, ⟨?_, (World.ownsMap_made w _ _ _).alloc _⟩, ((Below.refl _ w).alloc (Nat.le_refl _) _).alloc (by simp) _⟩
  have := heap_alloc_new (w.alloc (.map #[] 0)) (.cells #[.map (some w.heap.size)] 138)
  simpa using this

def RightsOk (bm n : Nat) (D : DataW Unit) (v : Int) (w : World) (e : Ending) (w' : World) : Prop := e = .returned (.int .i64 v) ∧ IsTable w' bm n D ∧ Below w.heap.size w w'
set_option maxRecDepth 100000 in
set_option maxHeartbeats 1000000 in
theorem rights_no (bm n : Nat) (D : DataW Unit) (k s r s' : Int) (w : World) (ht : IsTable w bm n D) (hk : (Lit.int .u32 k).wf = true) (hh : Maps.has D (.int .u32 k) = false) (hat : D.atKey (.int .u32 k) (tokD 0 0) = tokD r s') :
    Calls Try.prog 75 #[.pointer (some ⟨bm + 1, 0, none⟩), .int .u32 k, .int .u64 s] w (RightsOk bm n D 0 w) := by
  have hc := ht.cell
  have HT := Lib.hid ht
  have HAT := Lib.hid hat
  have HH := Lib.hid hh
  have hkey : keyOf Try.prog 67 (.int .u32 k) = some (.int .u32 k) := Maps.keyOf_int_mk Try.underlying67 hk
  have HK := Lib.hid hkey
  clear ht hat hh hkey hk
  go_enter Try.func75, Try.ntmps75
  go_wp2_with (at_lookup; refine wpList_lookup_own_ok _ rfl _ _ 136 rfl 67 140 law32 Try.underlying136 tokElem (zeroTok _) (tokD 0 0) [] rfl bm n D rfl HT.out.2 _ _ rfl HK.out ?hh1)
  intro v ps hv
  rw [HAT.out] at hv
  obtain rfl := tokElem_inv hv
  rw [HH.out]
  clear hv HAT HH HK
  unfold tokV
  go_wp2
  go_ret
  have hb := (Below.refl w.heap.size w).alloc (Nat.le_refl _) (.cells #[.int .i64 r, .int .u64 s'] 140)
  exact ⟨rfl, HT.out.bel hb, hb⟩
set_option maxRecDepth 100000 in
set_option maxHeartbeats 1000000 in
theorem rights_other (bm n : Nat) (D : DataW Unit) (k s r s' : Int) (w : World) (ht : IsTable w bm n D) (hk : (Lit.int .u32 k).wf = true) (hh : Maps.has D (.int .u32 k) = true) (hat : D.atKey (.int .u32 k) (tokD 0 0) = tokD r s') (hne : s' ≠ s) :
    Calls Try.prog 75 #[.pointer (some ⟨bm + 1, 0, none⟩), .int .u32 k, .int .u64 s] w (RightsOk bm n D 0 w) := by
  have hc := ht.cell
  have HT := Lib.hid ht
  have HAT := Lib.hid hat
  have HH := Lib.hid hh
  have hkey : keyOf Try.prog 67 (.int .u32 k) = some (.int .u32 k) := Maps.keyOf_int_mk Try.underlying67 hk
  have HK := Lib.hid hkey
  clear ht hat hh hkey hk
  have dn : (s' != s) = true := by simpa using hne
  clear hne
  go_enter Try.func75, Try.ntmps75
  go_wp2_with (at_lookup; refine wpList_lookup_own_ok _ rfl _ _ 136 rfl 67 140 law32 Try.underlying136 tokElem (zeroTok _) (tokD 0 0) [] rfl bm n D rfl HT.out.2 _ _ rfl HK.out ?hh1)
  intro v ps hv
  rw [HAT.out] at hv
  obtain rfl := tokElem_inv hv
  rw [HH.out]
  clear hv HAT HH HK
  unfold tokV
  go_wp2
  go_ret
  have hb := (Below.refl w.heap.size w).alloc (Nat.le_refl _) (.cells #[.int .i64 r, .int .u64 s'] 140)
  exact ⟨rfl, HT.out.bel hb, hb⟩
set_option maxRecDepth 100000 in
set_option maxHeartbeats 1000000 in
theorem rights_yes (bm n : Nat) (D : DataW Unit) (k s r s' : Int) (w : World) (ht : IsTable w bm n D) (hk : (Lit.int .u32 k).wf = true) (hh : Maps.has D (.int .u32 k) = true) (hat : D.atKey (.int .u32 k) (tokD 0 0) = tokD r s') (hne : s' = s) :
    Calls Try.prog 75 #[.pointer (some ⟨bm + 1, 0, none⟩), .int .u32 k, .int .u64 s] w (RightsOk bm n D r w) := by
  have hc := ht.cell
  have HT := Lib.hid ht
  have HAT := Lib.hid hat
  have HH := Lib.hid hh
  have hkey : keyOf Try.prog 67 (.int .u32 k) = some (.int .u32 k) := Maps.keyOf_int_mk Try.underlying67 hk
  have HK := Lib.hid hkey
  clear ht hat hh hkey hk
  subst hne
  have dn : (s' != s') = false := by simp
  go_enter Try.func75, Try.ntmps75
  go_wp2_with (at_lookup; refine wpList_lookup_own_ok _ rfl _ _ 136 rfl 67 140 law32 Try.underlying136 tokElem (zeroTok _) (tokD 0 0) [] rfl bm n D rfl HT.out.2 _ _ rfl HK.out ?hh1)
  intro v ps hv
  rw [HAT.out] at hv
  obtain rfl := tokElem_inv hv
  rw [HH.out]
  clear hv HAT HH HK
  unfold tokV
  go_wp2
  go_ret
  have hb := (Below.refl w.heap.size w).alloc (Nat.le_refl _) (.cells #[.int .i64 r, .int .u64 s'] 140)
  exact ⟨rfl, HT.out.bel hb, hb⟩

theorem grown_after {w w2 w3 : World} {r : Option Nat} (hb : Below w.heap.size w w2) (hg : w2.grownBy w3 r) : w.grownBy w3 r :=
  ⟨hg.os.trans hb.os, hg.tape.trans hb.tape, hg.output.trans hb.output, Nat.le_trans hb.size hg.size, fun k hk hne => (hg.block k (Nat.lt_of_lt_of_le hk hb.size) hne).trans (hb.block k hk)⟩
def RevokeG (bm n : Nat) (D : DataW Unit) (k : Int) (h : Bool) (w : World) (e : Ending) (w' : World) : Prop := e = .returned (.bool h) ∧ IsTable w' bm n (D.del (.int .u32 k)) ∧ w.grownBy w' (some bm)
def RevokeOk (bm n : Nat) (D : DataW Unit) (k : Int) (h : Bool) (w : World) (e : Ending) (w' : World) : Prop := e = .returned (.bool h) ∧ IsTable w' bm n (D.del (.int .u32 k)) ∧ Below bm w w'
set_option maxRecDepth 100000 in
set_option maxHeartbeats 1000000 in
theorem rightsRevokeG (bm n : Nat) (D : DataW Unit) (k : Int) (h : Bool) (w : World) (ht : IsTable w bm n D) (hk : (Lit.int .u32 k).wf = true) (hh : Maps.has D (.int .u32 k) = h) :
    Calls Try.prog 39 #[.pointer (some ⟨bm + 1, 0, none⟩), .int .u32 k] w (RevokeG bm n D k h w) := by
  have hc := ht.cell
  have HT := Lib.hid ht
  have HH := Lib.hid hh
  have hkey : keyOf Try.prog 67 (.int .u32 k) = some (.int .u32 k) := Maps.keyOf_int_mk Try.underlying67 hk
  have HK := Lib.hid hkey
  have hlt := Nat.lt_of_succ_lt ht.lt
  have HLT := Lib.hid hlt
  have HLT2 := Lib.hid ht.lt
  clear ht hh hkey hk hlt
  go_enter Try.func39, Try.ntmps39
  go_wp2_with (at_lookup; refine wpList_lookup_own_ok _ rfl _ _ 136 rfl 67 140 law32 Try.underlying136 tokElem (zeroTok _) (tokD 0 0) [] rfl bm n D rfl HT.out.2 _ _ rfl HK.out ?hh1)
  intro v ps hv
  obtain ⟨r, s, rfl, _⟩ := tokElem_some hv
  rw [HH.out]
  clear hv HH
  unfold tokV
  have hb := (Below.refl w.heap.size w).alloc (Nat.le_refl _) (.cells #[.int .i64 r, .int .u64 s] 140)
  have HT2 := Lib.hid (HT.out.bel hb)
  have HB2 := Lib.hid hb
  have hc2 := HT2.out.cell
  clear hb
  go_wp2_with (at_delete; refine wpList_delete_own _ rfl _ _ 136 67 rfl 140 law32 Try.underlying136 tokElem bm n D rfl HT2.out.2 _ _ rfl HK.out ?hh2)
  intro w3 ho3 ht3
  have hT3 := HT2.out.turn ht3.grown ho3
  have hB3 : w.grownBy w3 (some bm) := grown_after HB2.out ht3.grown
  clear hc hc2
  have HX := Lib.hid (And.intro hT3 hB3)
  clear hT3 hB3 ho3 ht3
  go_wp2
  go_ret
  exact ⟨rfl, HX.out.1, HX.out.2⟩

theorem rightsRevoke (bm n : Nat) (D : DataW Unit) (k : Int) (h : Bool) (w : World) (ht : IsTable w bm n D) (hk : (Lit.int .u32 k).wf = true) (hh : Maps.has D (.int .u32 k) = h) :
    Calls Try.prog 39 #[.pointer (some ⟨bm + 1, 0, none⟩), .int .u32 k] w (RevokeOk bm n D k h w) := (rightsRevokeG bm n D k h w ht hk hh).mono (fun _ _ h => ⟨h.1, h.2.1, below_grownBy' h.2.2 (Nat.le_of_lt (Nat.lt_of_succ_lt ht.lt)) (Nat.le_refl _)⟩)
def PutNo (bm n : Nat) (D : DataW Unit) (w : World) (e : Ending) (w' : World) : Prop := (∃ c, e = .returned (.iface 58 (.int .i64 c))) ∧ IsTable w' bm n D ∧ Below bm w w'
def PutNoC (c : Int) (bm n : Nat) (D : DataW Unit) (w : World) (e : Ending) (w' : World) : Prop := e = .returned (.iface 58 (.int .i64 c)) ∧ IsTable w' bm n D ∧ Below w.heap.size w w'
theorem PutNoC.no {c : Int} {bm n : Nat} {D : DataW Unit} {w : World} (hb : bm ≤ w.heap.size) (e : Ending) (w' : World) (h : PutNoC c bm n D w e w') : PutNo bm n D w e w' := ⟨⟨c, h.1⟩, h.2.1, h.2.2.mono hb⟩
def PutYesG (bm n : Nat) (D : DataW Unit) (k r s : Int) (w : World) (e : Ending) (w' : World) : Prop := e = .returned .nilIface ∧ IsTable w' bm (n + 1) (D.put (.int .u32 k) (tokD r s)) ∧ w.grownBy w' (some bm)
def PutYes (bm n : Nat) (D : DataW Unit) (k r s : Int) (w : World) (e : Ending) (w' : World) : Prop := e = .returned .nilIface ∧ IsTable w' bm (n + 1) (D.put (.int .u32 k) (tokD r s)) ∧ Below bm w w'
set_option maxRecDepth 100000 in
set_option maxHeartbeats 1000000 in
theorem put_lowC (bm n : Nat) (D : DataW Unit) (k r s : Int) (h : Bool) (w : World) (ht : IsTable w bm n D) (hk : (Lit.int .u32 k).wf = true) (hh : Maps.has D (.int .u32 k) = h) (hr : r < 1) :
    Calls Try.prog 41 #[.pointer (some ⟨bm + 1, 0, none⟩), .int .u32 k, .int .i64 r, .int .u64 s] w (PutNoC 1 bm n D w) := by
  have hc := ht.cell
  have HT := Lib.hid ht
  have HH := Lib.hid hh
  have hkey : keyOf Try.prog 67 (.int .u32 k) = some (.int .u32 k) := Maps.keyOf_int_mk Try.underlying67 hk
  have HK := Lib.hid hkey
  have hlt := Nat.lt_of_succ_lt ht.lt
  have HLT := Lib.hid hlt
  clear ht hh hkey hk hlt
  have d1 : decide (r < 1) = true := by simp; omega
  clear hr
  go_enter Try.func41, Try.ntmps41
  go_wp2_with (at_lookup; refine wpList_lookup_own_ok _ rfl _ _ 136 rfl 67 140 law32 Try.underlying136 tokElem (zeroTok _) (tokD 0 0) [] rfl bm n D rfl HT.out.2 _ _ rfl HK.out ?hh1)
  intro v ps hv
  obtain ⟨r0, s0, rfl, _⟩ := tokElem_some hv
  rw [HH.out]
  clear hv HH
  unfold tokV
  have hb := (Below.refl w.heap.size w).alloc (Nat.le_refl _) (.cells #[.int .i64 r0, .int .u64 s0] 140)
  have HT2 := Lib.hid (HT.out.bel hb)
  have HB2 := Lib.hid hb
  have hc2 := HT2.out.cell
  clear hb
  go_wp2
  go_ret
  exact ⟨rfl, HT2.out, HB2.out⟩
theorem put_low (bm n : Nat) (D : DataW Unit) (k r s : Int) (h : Bool) (w : World) (ht : IsTable w bm n D) (hk : (Lit.int .u32 k).wf = true) (hh : Maps.has D (.int .u32 k) = h) (hr : r < 1) :
    Calls Try.prog 41 #[.pointer (some ⟨bm + 1, 0, none⟩), .int .u32 k, .int .i64 r, .int .u64 s] w (PutNo bm n D w) := (put_lowC bm n D k r s h w ht hk hh hr).mono (PutNoC.no (Nat.le_of_lt (Nat.lt_of_succ_lt ht.lt)))
set_option maxRecDepth 100000 in
set_option maxHeartbeats 1000000 in
theorem put_highC (bm n : Nat) (D : DataW Unit) (k r s : Int) (h : Bool) (w : World) (ht : IsTable w bm n D) (hk : (Lit.int .u32 k).wf = true) (hh : Maps.has D (.int .u32 k) = h) (hr : 7 < r) :
    Calls Try.prog 41 #[.pointer (some ⟨bm + 1, 0, none⟩), .int .u32 k, .int .i64 r, .int .u64 s] w (PutNoC 1 bm n D w) := by
  have hc := ht.cell
  have HT := Lib.hid ht
  have HH := Lib.hid hh
  have hkey : keyOf Try.prog 67 (.int .u32 k) = some (.int .u32 k) := Maps.keyOf_int_mk Try.underlying67 hk
  have HK := Lib.hid hkey
  have hlt := Nat.lt_of_succ_lt ht.lt
  have HLT := Lib.hid hlt
  clear ht hh hkey hk hlt
  have d1 : decide (r < 1) = false := by simp; omega
  have d2 : decide (7 < r) = true := by simp; omega
  clear hr
  go_enter Try.func41, Try.ntmps41
  go_wp2_with (at_lookup; refine wpList_lookup_own_ok _ rfl _ _ 136 rfl 67 140 law32 Try.underlying136 tokElem (zeroTok _) (tokD 0 0) [] rfl bm n D rfl HT.out.2 _ _ rfl HK.out ?hh1)
  intro v ps hv
  obtain ⟨r0, s0, rfl, _⟩ := tokElem_some hv
  rw [HH.out]
  clear hv HH
  unfold tokV
  have hb := (Below.refl w.heap.size w).alloc (Nat.le_refl _) (.cells #[.int .i64 r0, .int .u64 s0] 140)
  have HT2 := Lib.hid (HT.out.bel hb)
  have HB2 := Lib.hid hb
  have hc2 := HT2.out.cell
  clear hb
  go_wp2
  go_ret
  exact ⟨rfl, HT2.out, HB2.out⟩
theorem put_high (bm n : Nat) (D : DataW Unit) (k r s : Int) (h : Bool) (w : World) (ht : IsTable w bm n D) (hk : (Lit.int .u32 k).wf = true) (hh : Maps.has D (.int .u32 k) = h) (hr : 7 < r) :
    Calls Try.prog 41 #[.pointer (some ⟨bm + 1, 0, none⟩), .int .u32 k, .int .i64 r, .int .u64 s] w (PutNo bm n D w) := (put_highC bm n D k r s h w ht hk hh hr).mono (PutNoC.no (Nat.le_of_lt (Nat.lt_of_succ_lt ht.lt)))
set_option maxRecDepth 100000 in
set_option maxHeartbeats 1000000 in
theorem put_fullC (bm n : Nat) (D : DataW Unit) (k r s : Int) (w : World) (ht : IsTable w bm n D) (hk : (Lit.int .u32 k).wf = true) (hh : Maps.has D (.int .u32 k) = false) (hr1 : 1 ≤ r) (hr7 : r ≤ 7) (hz : 100 ≤ Maps.size D) :
    Calls Try.prog 41 #[.pointer (some ⟨bm + 1, 0, none⟩), .int .u32 k, .int .i64 r, .int .u64 s] w (PutNoC 13 bm n D w) := by
  have hc := ht.cell
  have HT := Lib.hid ht
  have HH := Lib.hid hh
  have hkey : keyOf Try.prog 67 (.int .u32 k) = some (.int .u32 k) := Maps.keyOf_int_mk Try.underlying67 hk
  have HK := Lib.hid hkey
  have hlt := Nat.lt_of_succ_lt ht.lt
  have HLT := Lib.hid hlt
  clear ht hh hkey hk hlt
  have d1 : decide (r < 1) = false := by simp; omega
  have d2 : decide (7 < r) = false := by simp; omega
  clear hr1 hr7
  have d3 : decide ((100 : Int) ≤ (Maps.size D : Int)) = true := by simp; omega
  clear hz
  go_enter Try.func41, Try.ntmps41
  go_wp2_with (at_lookup; refine wpList_lookup_own_ok _ rfl _ _ 136 rfl 67 140 law32 Try.underlying136 tokElem (zeroTok _) (tokD 0 0) [] rfl bm n D rfl HT.out.2 _ _ rfl HK.out ?hh1)
  intro v ps hv
  obtain ⟨r0, s0, rfl, _⟩ := tokElem_some hv
  rw [HH.out]
  clear hv HH
  unfold tokV
  have hb := (Below.refl w.heap.size w).alloc (Nat.le_refl _) (.cells #[.int .i64 r0, .int .u64 s0] 140)
  have HT2 := Lib.hid (HT.out.bel hb)
  have HB2 := Lib.hid hb
  have hc2 := HT2.out.cell
  clear hb
  have hln := HT2.out.2.len Try.underlying136 3
  go_wp2
  go_ret
  exact ⟨rfl, HT2.out, HB2.out⟩
theorem put_full (bm n : Nat) (D : DataW Unit) (k r s : Int) (w : World) (ht : IsTable w bm n D) (hk : (Lit.int .u32 k).wf = true) (hh : Maps.has D (.int .u32 k) = false) (hr1 : 1 ≤ r) (hr7 : r ≤ 7) (hz : 100 ≤ Maps.size D) :
    Calls Try.prog 41 #[.pointer (some ⟨bm + 1, 0, none⟩), .int .u32 k, .int .i64 r, .int .u64 s] w (PutNo bm n D w) := (put_fullC bm n D k r s w ht hk hh hr1 hr7 hz).mono (PutNoC.no (Nat.le_of_lt (Nat.lt_of_succ_lt ht.lt)))
set_option maxRecDepth 100000 in
set_option maxHeartbeats 1000000 in
theorem put_newG (bm n : Nat) (D : DataW Unit) (k r s : Int) (w : World) (ht : IsTable w bm n D) (hk : (Lit.int .u32 k).wf = true) (hh : Maps.has D (.int .u32 k) = false) (hr1 : 1 ≤ r) (hr7 : r ≤ 7) (hn : n < maxLen) (hz : Maps.size D < 100) :
    Calls Try.prog 41 #[.pointer (some ⟨bm + 1, 0, none⟩), .int .u32 k, .int .i64 r, .int .u64 s] w (PutYesG bm n D k r s w) := by
  have HNN := Lib.hid hn
  clear hn
  have hc := ht.cell
  have HT := Lib.hid ht
  have HH := Lib.hid hh
  have hkey : keyOf Try.prog 67 (.int .u32 k) = some (.int .u32 k) := Maps.keyOf_int_mk Try.underlying67 hk
  have HK := Lib.hid hkey
  have hlt := Nat.lt_of_succ_lt ht.lt
  have HLT := Lib.hid hlt
  clear ht hh hkey hk hlt
  have d1 : decide (r < 1) = false := by simp; omega
  have d2 : decide (7 < r) = false := by simp; omega
  clear hr1 hr7
  have d3 : decide ((100 : Int) ≤ (Maps.size D : Int)) = false := by simp; omega
  clear hz
  go_enter Try.func41, Try.ntmps41
  go_wp2_with (at_lookup; refine wpList_lookup_own_ok _ rfl _ _ 136 rfl 67 140 law32 Try.underlying136 tokElem (zeroTok _) (tokD 0 0) [] rfl bm n D rfl HT.out.2 _ _ rfl HK.out ?hh1)
  intro v ps hv
  obtain ⟨r0, s0, rfl, _⟩ := tokElem_some hv
  rw [HH.out]
  clear hv HH
  unfold tokV
  have hb := (Below.refl w.heap.size w).alloc (Nat.le_refl _) (.cells #[.int .i64 r0, .int .u64 s0] 140)
  have HT2 := Lib.hid (HT.out.bel hb)
  have HB2 := Lib.hid hb
  have hc2 := HT2.out.cell
  clear hb
  have hln := HT2.out.2.len Try.underlying136 3
  go_wp2_with (at_mapUpdate; refine wpList_mapUpdate_own _ rfl _ _ _ 136 rfl 67 140 law32 Try.underlying136 tokElem bm n D rfl HT2.out.2 HNN.out _ _ _ rfl rfl HK.out _ [] (tokElem_mk r s) ?hh2)
  intro w3 ho3 ht3
  have hT3 := HT2.out.turn ht3 ho3
  have hB3 : w.grownBy w3 (some bm) := grown_after HB2.out ht3
  clear hc hc2
  have HX := Lib.hid (And.intro hT3 hB3)
  clear hT3 hB3 ho3 ht3
  go_wp2
  go_ret
  exact ⟨rfl, HX.out.1, HX.out.2⟩
theorem put_new (bm n : Nat) (D : DataW Unit) (k r s : Int) (w : World) (ht : IsTable w bm n D) (hk : (Lit.int .u32 k).wf = true) (hh : Maps.has D (.int .u32 k) = false) (hr1 : 1 ≤ r) (hr7 : r ≤ 7) (hn : n < maxLen) (hz : Maps.size D < 100) :
    Calls Try.prog 41 #[.pointer (some ⟨bm + 1, 0, none⟩), .int .u32 k, .int .i64 r, .int .u64 s] w (PutYes bm n D k r s w) := (put_newG bm n D k r s w ht hk hh hr1 hr7 hn hz).mono (fun _ _ h => ⟨h.1, h.2.1, below_grownBy' h.2.2 (Nat.le_of_lt (Nat.lt_of_succ_lt ht.lt)) (Nat.le_refl _)⟩)
set_option maxRecDepth 100000 in
set_option maxHeartbeats 1000000 in
theorem put_oldG (bm n : Nat) (D : DataW Unit) (k r s : Int) (w : World) (ht : IsTable w bm n D) (hk : (Lit.int .u32 k).wf = true) (hh : Maps.has D (.int .u32 k) = true) (hr1 : 1 ≤ r) (hr7 : r ≤ 7) (hn : n < maxLen) :
    Calls Try.prog 41 #[.pointer (some ⟨bm + 1, 0, none⟩), .int .u32 k, .int .i64 r, .int .u64 s] w (PutYesG bm n D k r s w) := by
  have HNN := Lib.hid hn
  clear hn
  have hc := ht.cell
  have HT := Lib.hid ht
  have HH := Lib.hid hh
  have hkey : keyOf Try.prog 67 (.int .u32 k) = some (.int .u32 k) := Maps.keyOf_int_mk Try.underlying67 hk
  have HK := Lib.hid hkey
  have hlt := Nat.lt_of_succ_lt ht.lt
  have HLT := Lib.hid hlt
  clear ht hh hkey hk hlt
  have d1 : decide (r < 1) = false := by simp; omega
  have d2 : decide (7 < r) = false := by simp; omega
  clear hr1 hr7
  go_enter Try.func41, Try.ntmps41
  go_wp2_with (at_lookup; refine wpList_lookup_own_ok _ rfl _ _ 136 rfl 67 140 law32 Try.underlying136 tokElem (zeroTok _) (tokD 0 0) [] rfl bm n D rfl HT.out.2 _ _ rfl HK.out ?hh1)
  intro v ps hv
  obtain ⟨r0, s0, rfl, _⟩ := tokElem_some hv
  rw [HH.out]
  clear hv HH
  unfold tokV
  have hb := (Below.refl w.heap.size w).alloc (Nat.le_refl _) (.cells #[.int .i64 r0, .int .u64 s0] 140)
  have HT2 := Lib.hid (HT.out.bel hb)
  have HB2 := Lib.hid hb
  have hc2 := HT2.out.cell
  clear hb
  go_wp2_with (at_mapUpdate; refine wpList_mapUpdate_own _ rfl _ _ _ 136 rfl 67 140 law32 Try.underlying136 tokElem bm n D rfl HT2.out.2 HNN.out _ _ _ rfl rfl HK.out _ [] (tokElem_mk r s) ?hh2)
  intro w3 ho3 ht3
  have hT3 := HT2.out.turn ht3 ho3
  have hB3 : w.grownBy w3 (some bm) := grown_after HB2.out ht3
  clear hc hc2
  have HX := Lib.hid (And.intro hT3 hB3)
  clear hT3 hB3 ho3 ht3
  go_wp2
  go_ret
  exact ⟨rfl, HX.out.1, HX.out.2⟩
theorem put_old (bm n : Nat) (D : DataW Unit) (k r s : Int) (w : World) (ht : IsTable w bm n D) (hk : (Lit.int .u32 k).wf = true) (hh : Maps.has D (.int .u32 k) = true) (hr1 : 1 ≤ r) (hr7 : r ≤ 7) (hn : n < maxLen) :
    Calls Try.prog 41 #[.pointer (some ⟨bm + 1, 0, none⟩), .int .u32 k, .int .i64 r, .int .u64 s] w (PutYes bm n D k r s w) := (put_oldG bm n D k r s w ht hk hh hr1 hr7 hn).mono (fun _ _ h => ⟨h.1, h.2.1, below_grownBy' h.2.2 (Nat.le_of_lt (Nat.lt_of_succ_lt ht.lt)) (Nat.le_refl _)⟩)
end Go.Proofs.Ytnpalplnpfgibaa
