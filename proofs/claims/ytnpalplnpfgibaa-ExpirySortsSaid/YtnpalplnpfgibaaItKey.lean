/- Items as keys of a map; how often each is among a list. -/
import Derived.Test.YtnpalplnpfgibaaMapReg
import Derived.Test.YtnpalplnpfgibaaItems
import Derived.DeepKeys4
import Derived.Maps.OwnSet
namespace Go.Proofs.Ytnpalplnpfgibaa
open Go.RowKit
theorem it_laidOut : laidOutB Try.prog = true := by kernel_rfl
theorem it_row : (30 : TypeId) < Try.prog.types.size := of_decide_eq_true (by kernel_rfl)
theorem it_wide : (match Try.prog.underlying 30 with | some (.array _ _) | some (.struct _) => true | _ => false) = true := by rw [Try.underlying30]
set_option maxRecDepth 100000 in
theorem it_keyed : Maps.Keyed Try.prog 30 := Maps.Keyed.of_law (deep_law_laid it_laidOut (m := 2) (by omega) it_row (by kernel_rfl) it_wide)
def ik (a : It) : Lit := .string (keyBytes [.int .u64 a.t, .string a.k.data.toList])
theorem it_keyType : Try.prog.keyType 30 = true := by kernel_rfl
theorem it_cells2 : Try.prog.cellsOf 30 = 2 := by kernel_rfl
theorem u64_cells : Try.prog.cellsOf 28 = 1 := by kernel_rfl
theorem str_cells : Try.prog.cellsOf 9 = 1 := by kernel_rfl
theorem lits_int (n : Nat) (x : Int) (h : (Lit.int .u64 x).wf = true) : Try.prog.keyLits (n + 1) 28 [.int .u64 x] = some [.int .u64 x] := by
  unfold Program.keyLits
  rw [Try.underlying28]
  simp [h]
theorem lits_str (n : Nat) (x : ByteArray) (h : x.size ≤ maxLen) : Try.prog.keyLits (n + 1) 9 [.string x] = some [.string x.data.toList] := by
  unfold Program.keyLits
  rw [Try.underlying9]
  simp [h]
set_option maxRecDepth 100000 in
theorem keyOf_it (a : It) (h : a.wf) : keyOf Try.prog 30 (.agg #[.int .u64 a.t, .string a.k]) = some (ik a) := by
  have hf : (Value.agg #[.int .u64 a.t, .string a.k]).formed Try.prog 30 = true := by simp [Value.formed, Try.underlying30, it_cells2]
  obtain ⟨n, hn⟩ : ∃ n, Try.prog.types.size = n + 1 := ⟨Try.prog.types.size - 1, (Nat.succ_pred_eq_of_pos (Nat.lt_of_le_of_lt (Nat.zero_le _) it_row)).symm⟩
  have hl : Try.prog.keyLits (Try.prog.types.size + 1) 30 [.int .u64 a.t, .string a.k] = some [.int .u64 a.t, .string a.k.data.toList] := by
    rw [hn]
    unfold Program.keyLits
    rw [Try.underlying30]
    simp [it_cells2, u64_cells, str_cells, lits_int n a.t h.1, lits_str n a.k h.2]
  unfold keyOf
  rw [Try.underlying30]
  simp only [it_keyType, hf, Bool.and_self, if_true]
  show Option.map _ (Try.prog.keyLits (Try.prog.types.size + 1) 30 [.int .u64 a.t, .string a.k]) = _
  rw [hl]
  rfl
theorem ik_inj {a b : It} (ha : a.wf) (hb : b.wf) (h : ik a = ik b) : a = b := by
  have := it_keyed.inj (keyOf_it a ha) (h ▸ keyOf_it b hb)
  simp only [Value.agg.injEq, Array.mk.injEq, List.cons.injEq, Value.int.injEq, Value.string.injEq, true_and, and_true] at this
  cases a; cases b
  simp_all
/-- D tells how often each item is in l. -/
def Cnts (D : DataW Unit) (l : List It) : Prop := Maps.IsMap D ∧ ∀ a : It, a.wf → D.atKey (ik a) (.lit (.int .i64 0)) = .lit (.int .i64 (l.count a))
theorem Cnts.nil : Cnts (.map []) [] := ⟨Maps.isMap_empty, fun _ _ => rfl⟩
theorem ik_lit (a : It) : WideAt.IsKeyLit (ik a) := by trivial
theorem Cnts.put {D : DataW Unit} {l l' : List It} (h : Cnts D l) (x : It) (hx : x.wf) (c : Int) (hc : c = l'.count x) (ho : ∀ a, a ≠ x → l'.count a = l.count a) : Cnts (D.put (ik x) (.lit (.int .i64 c))) l' := by
  refine ⟨h.1.put _ _, fun a ha => ?_⟩
  by_cases e : a = x
  · subst e
    rw [Maps.atKey_put_same h.1 (ik_lit a), hc]
  · rw [Maps.atKey_put_other (fun e' => e (ik_inj ha hx e')), h.2 a ha, ho a e]
theorem Cnts.push {D : DataW Unit} {l : List It} (h : Cnts D l) (x : It) (hx : x.wf) : Cnts (D.put (ik x) (.lit (.int .i64 (l.count x + 1)))) (x :: l) :=
  h.put x hx _ (by rw [List.count_cons_self]; omega) (fun a ha => by rw [List.count_cons_of_ne (Ne.symm ha)])
theorem Cnts.pop {D : DataW Unit} {l : List It} {x : It} (h : Cnts D (x :: l)) (hx : x.wf) : Cnts (D.put (ik x) (.lit (.int .i64 (((x :: l).count x : Int) - 1)))) l :=
  h.put x hx _ (by rw [List.count_cons_self]; omega) (fun a ha => by rw [List.count_cons_of_ne (Ne.symm ha)])
theorem Cnts.perm {D : DataW Unit} {l l' : List It} (h : Cnts D l) (hp : l.Perm l') : Cnts D l' := ⟨h.1, fun a ha => by rw [← hp.count_eq a]; exact h.2 a ha⟩
end Go.Proofs.Ytnpalplnpfgibaa
