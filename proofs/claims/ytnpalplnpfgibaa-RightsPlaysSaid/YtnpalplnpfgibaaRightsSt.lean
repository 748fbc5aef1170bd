/- RightsPlays: the walk's state; one put of tokens; a token loaded. -/
import Derived.Test.YtnpalplnpfgibaaTokLaw
import Derived.Test.YtnpalplnpfgibaaRegion
import Derived.Test.YtnpalplnpfgibaaCode
import Derived.Deep.MidRow
import Derived.Deep.WholeRow
namespace Go.Proofs.Ytnpalplnpfgibaa
open Go.RowKit Go.Maps
set_option linter.unusedSimpArgs false
set_option linter.unusedVariables false
/-- The table in block bm, the law's own list of tokens beside it. -/
structure RSt (B bm : Nat) (w : World) (m : List Tk) (n : Nat) (D : DataW Unit) (mv : Value) (W : World) : Prop where
  own : OwnTk B W mv m
  tab : IsTable W bm n D
  at_ : TokAt D m
  bel : Below w.heap.size w W
  len : m.length ≤ 100
  sz : B ≤ W.heap.size
section
variable {B bm n : Nat} {w W W' : World} {m : List Tk} {D : DataW Unit} {mv : Value}
theorem RSt.bel' (h : RSt B bm w m n D mv W) (hb : Below W.heap.size W W') : RSt B bm w m n D mv W' :=
  ⟨h.own.bel hb, h.tab.bel hb, h.at_, h.bel.trans (hb.mono h.bel.size), h.len, Nat.le_trans h.sz hb.size⟩
/-- The table has turned alone: the old list lies where it lay. -/
theorem RSt.turned (h : RSt B bm w m n D mv W) (hg : W.grownBy W' (some bm)) (hbm : bm < B) (hw : w.heap.size ≤ bm) : OwnTk B W' mv m ∧ Below w.heap.size w W' ∧ B ≤ W'.heap.size :=
  ⟨h.own.keep hg (fun k hk e => by have := (h.own.block k hk).1; simp only [Option.some.injEq] at e; omega), h.bel.trans (below_grownBy' hg h.bel.size hw), Nat.le_trans h.sz hg.size⟩
/-- A list of its own. -/
theorem RSt.fresh {m' : List Tk} {n' : Nat} {D' : DataW Unit} {mv' : Value} (hb0 : Below w.heap.size w W) (hs : B ≤ W.heap.size) (ht : IsTable W bm n' D') (hA : TokAt D' m') (hl : m'.length ≤ 100) (ho : OwnTk W.heap.size W' mv' m') (hb : Below W.heap.size W W') : RSt B bm w m' n' D' mv' W' :=
  ⟨ho.mono hs, ht.bel hb, hA, hb0.trans (hb.mono hb0.size), hl, Nat.le_trans hs hb.size⟩
end
theorem rec_size : (Try.prog.info? 78).map (·.size) = some 14 := by kernel_rfl
theorem deed_size : (Try.prog.info? 69).map (·.size) = some 4 := by kernel_rfl
theorem tkRange {w : World} {b off i : Nat} {t : Tk} (h : ∀ j, j < 14 → w.cell? ⟨b, off + i * 14 + j, none⟩ = (t.cells)[j]?) : w.rangeAt b (off + i * 14) t.cells := fun j _ hv => (h j (List.getElem?_eq_some_iff.1 hv).1).trans hv
theorem run_load_tk (w : World) (b o : Nat) (t : Tk) (hc : w.rangeAt b o t.cells) : (Instr.loadAt 78 (.pointer (some ⟨b, o, none⟩))).run Try.prog w = .ok t.v w := by
  simp only [Instr.loadAt, Instr.sureAddr, Sem.run_bind, Sem.run_pure, Result.andThen_ok, run_loadVar_mid w b o 78 t.cells _ hc Try.underlying78 rfl rec_size]
  rfl
theorem gives_load_tk {o : Oper} {a : Act} {w : World} (ty : TypeId) (x : Operand) (ho : o.op = .load ty x) (p v : Value) (hx : a.eval x = p) (hr : (Instr.loadAt ty p).run Try.prog w = .ok v w) : Reg.gives Try.prog o a w (fun v' w' => v' = v ∧ w' = w) := by
  unfold Reg.gives execOp
  simp only [ho, hx, Sem.run_bind, hr, Result.andThen_ok, Sem.run_pure]
  exact ⟨trivial, trivial⟩
theorem range_below' {w W : World} {b o : Nat} {cs : List Value} (h : w.rangeAt b o cs) (hb : Below w.heap.size w W) (hlt : b < w.heap.size) : W.rangeAt b o cs := fun j v hv => (hb.cell (p := ⟨b, o + j, none⟩) hlt).trans (h j v hv)
theorem below_boxT (W : World) (Z C : Array Value) (T : TypeId) : Below W.heap.size W ((W.alloc (.cells Z T)).setRow W.heap.size C) := by
  have h := (Below.refl W.heap.size W).alloc (Nat.le_refl _) (.cells Z T)
  exact ⟨h.os, h.tape, h.output, by simp [World.setRow], fun k hk => (setRow_other _ _ k C (by omega)).trans (h.block k hk)⟩
theorem rowT {W : World} {g : Nat} {C : Array Value} {T : TypeId} (hg : W.heap[g]? = some (.cells C T (0, 0))) (j : Nat) {v : Value} (hv : C[j]? = some v) : W.cell? ⟨g, j, none⟩ = some v := (cell_of_row W g j _ _ _ hg).trans hv
theorem gives_emptyR {o : Oper} {a : Act} {w : World} (ho : o.op = .buildSlice 66 0 #[]) :
    Reg.gives Try.prog o a w (fun v' w' => v' = .slice (some ⟨w.heap.size, 0, none⟩) 0 0 ∧ w' = w.alloc (.cells #[] 78)) := by
  unfold Reg.gives
  rw [show execOp a.eval o = execOp a.eval { o with op := .buildSlice 66 0 #[] } by rw [← ho]]
  go_simp
/-- What a row of tokens that the law owns is: nil, or a block of its own. -/
theorem own_forms {B : Nat} {w : World} {v : Value} {m : List Tk} (h : OwnTk B w v m) : (v = .slice none 0 0 ∧ m = []) ∨ ∃ g cap, v = .slice (some ⟨g, 0, none⟩) m.length cap ∧ m.length ≤ cap ∧ cap ≤ maxLen ∧ g < w.heap.size ∧ IsTks w (some ⟨g, 0, none⟩) m := by
  rcases h.2 with ⟨h1, h2⟩ | ⟨g, cap, cur, hv, hbg, hg, hnc, hcm, hcs, htake⟩
  · exact .inl ⟨h1, List.eq_nil_of_length_eq_zero (by omega)⟩
  · refine .inr ⟨g, cap, hv, hnc, hcm, (Array.getElem?_eq_some_iff.1 hg).1, ?_⟩
    obtain ⟨a', cap', h1, h2, _⟩ := OwnOf.rowOf (W := fun _ => True) tk_len (fun _ _ => trivial) h
    rw [hv] at h1
    simp only [Value.slice.injEq] at h1
    rw [h1.1]
    exact h2
theorem run_storeRow (w : World) (T : TypeId) (g : Nat) (c c' : Array Value) (hg : w.heap[g]? = some (.cells c T (0, 0))) (hi : (Try.prog.info? T).map (·.size) = some c'.size) (hs : c.size = c'.size) (h1 : c'.all (·.oneCell') = true) :
    (Instr.storeAt T (.pointer (some ⟨g, 0, none⟩)) (.agg c')).run Try.prog w = .ok () (w.setRow g c') := by
  simp only [Instr.storeAt, Instr.sureAddr, Sem.run_bind, Sem.run_pure, Result.andThen]
  rw [run_storeVar_row _ g T T c c' hg hi hs h1]
theorem gives_tkEq {o : Oper} {a : Act} {w : World} (x y : Operand) (op : BinOp) (ho : o.op = .binOp op 78 x y 78) (A B : Array Value) (b : Bool)
    (hx : a.eval x = .agg A) (hy : a.eval y = .agg B) (hr : ∀ w, (binOp op 78 (.agg A) (.agg B)).run Try.prog w = .ok (.bool b) w) : Reg.gives Try.prog o a w (fun v w' => v = .bool b ∧ w' = w) := by
  have hg : Try.prog.eqGuardType Try.prog.depth 78 = false := by kernel_rfl
  unfold Reg.gives execOp
  simp only [ho, hx, hy, Sem.run_bind, run_eqGuard_agg w op _ x y A B hg, Result.andThen_ok, hr, Sem.run_pure]
  exact ⟨trivial, trivial⟩
theorem tksDrop {w : World} {g : Nat} {m : List Tk} (h : IsTks w (some ⟨g, 0, none⟩) m) (k : Nat) : IsTks w (some ⟨g, k * 14, none⟩) (m.drop k) := by
  have := IsRowOf.dropN h k
  rwa [Nat.zero_add] at this
def liveT (B : Nat) (m : List Tk) (p : Nat) : List (Nat × Nat × (Value → World → Prop)) :=
  [(0, 4, fun v w => OwnTk B w v []), (4, 9, fun v w => OwnTk B w v (m.take p)), (9, 11, fun v w => OwnTk B w v (m.take p ++ m.drop (p + 1)))]
end Go.Proofs.Ytnpalplnpfgibaa
