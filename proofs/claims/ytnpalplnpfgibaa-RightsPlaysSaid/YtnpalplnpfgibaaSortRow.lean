/- Sorting rows of uint32: the row, cmp.Less. (The sort in plain words: Derived.Sort.) -/
import Derived.Test.YtnpalplnpfgibaaBytes
import Derived.Lib.Hide
import Derived.Sort.AssemblyPlain
import Derived.Laws.AppendOwn
import Derived.LoopTactic
import Derived.BigQuiet
import Derived.BigRegion
import Derived.Handy
import Derived.WalkSmall
import Derived.Deep.WholeRow
namespace Go.Proofs.Ytnpalplnpfgibaa
open Go.RowKit
set_option linter.unusedSimpArgs false
set_option linter.unusedVariables false
abbrev ltI : Int → Int → Bool := Sort.ltInt
theorem ltI_swo : Sort.SWO ltI := ⟨fun x => by simp [Sort.ltInt], fun x y z h k => by simp [Sort.ltInt] at *; omega, fun x y z h k => by simp [Sort.ltInt] at *; omega⟩
/-- Block g holds the numbers d, and room behind them. -/
def SRow (w : World) (g : Nat) (d : Array Int) (sp : Array Value) : Prop := w.heap[g]? = some (.cells (d.map (Value.int .u32) ++ sp) 67 (0, 0))
/-- What may turn: block g, and new ones. -/
structure SK (g : Nat) (w w' : World) : Prop where
  os : w'.os = w.os
  tape : w'.tape = w.tape
  output : w'.output = w.output
  size : w.heap.size ≤ w'.heap.size
  block : ∀ k, k < w.heap.size → k ≠ g → w'.heap[k]? = w.heap[k]?
theorem SK.refl (g : Nat) (w : World) : SK g w w := ⟨rfl, rfl, rfl, Nat.le_refl _, fun _ _ _ => rfl⟩
theorem SK.trans {g : Nat} {a b c : World} (h : SK g a b) (k : SK g b c) : SK g a c := ⟨k.os.trans h.os, k.tape.trans h.tape, k.output.trans h.output, Nat.le_trans h.size k.size, fun i h1 h2 => (k.block i (Nat.lt_of_lt_of_le h1 h.size) h2).trans (h.block i h1 h2)⟩
theorem SK.set (g i : Nat) (v : Value) (w : World) : SK g w (w.setCell ⟨g, i, none⟩ v) := ⟨rfl, rfl, rfl, by simp [World.setCell], fun k _ h => Below.heap_setCell _ _ _ _ h⟩
theorem SK.bel {g : Nat} {w w' : World} (h : Below w.heap.size w w') : SK g w w' := ⟨h.os, h.tape, h.output, h.size, fun k hk _ => h.block k hk⟩
theorem SK.below {g B : Nat} {w w' : World} (h : SK g w w') (hB : B ≤ w.heap.size) (hg : B ≤ g) : Below B w w' := ⟨h.os, h.tape, h.output, h.size, fun k hk => h.block k (by omega) (by omega)⟩
section
variable {w w' : World} {g : Nat} {d : Array Int} {sp : Array Value}
theorem SRow.lt (h : SRow w g d sp) : g < w.heap.size := (Array.getElem?_eq_some_iff.1 h).1
theorem SRow.cell (h : SRow w g d sp) (i : Nat) (hi : i < d.size) : w.cell? ⟨g, i, none⟩ = some (.int .u32 d[i]!) := by
  rw [cell_of_row w g i _ _ _ h, Array.getElem?_append_left (by simpa using hi), Array.getElem?_map, Array.getElem?_eq_getElem hi, getElem!_pos d i hi]
  rfl
theorem SRow.fro (h : SRow w g d sp) (i : Nat) : w.frozen? ⟨g, i, none⟩ = false := frozen_of_row w g i _ _ h
theorem SRow.bel (h : SRow w g d sp) (hb : Below w.heap.size w w') : SRow w' g d sp := (hb.block g h.lt).trans h
theorem SRow.set (h : SRow w g d sp) (i : Nat) (x : Int) (hi : i < d.size) : SRow (w.setCell ⟨g, i, none⟩ (.int .u32 x)) g (d.setIfInBounds i x) sp := by
  unfold SRow
  rw [heap_setCell_same w g i _ _ _ h]
  congr 2
  apply Array.ext'
  simp [hi]
theorem SRow.swp (h : SRow w g d sp) {i j : Nat} (hi : i < d.size) (hj : j < d.size) : SRow ((w.setCell ⟨g, i, none⟩ (.int .u32 d[j]!)).setCell ⟨g, j, none⟩ (.int .u32 d[i]!)) g (Sort.swp d i j) sp ∧ SK g w ((w.setCell ⟨g, i, none⟩ (.int .u32 d[j]!)).setCell ⟨g, j, none⟩ (.int .u32 d[i]!)) :=
  ⟨(h.set i _ hi).set j _ (by simpa using hj), (SK.set _ _ _ _).trans (SK.set _ _ _ _)⟩
end
theorem SRow.swpD {w : World} {g : Nat} {d : Array Int} {sp : Array Value} (h : SRow w g d sp) {i j : Nat} (hi : i < d.size) (hj : j < d.size) : SRow ((w.setCell ⟨g, i, none⟩ (.int .u32 d[j]!)).setCell ⟨g, j, none⟩ (.int .u32 d[i]!)).drew g (Sort.swp d i j) sp ∧ SK g w ((w.setCell ⟨g, i, none⟩ (.int .u32 d[j]!)).setCell ⟨g, j, none⟩ (.int .u32 d[i]!)).drew :=
  ⟨(h.swp hi hj).1.bel (Below.refl _ _).drew, (h.swp hi hj).2.trans (SK.bel (Below.refl _ _).drew)⟩
theorem SRow.drewN {w : World} {g : Nat} {d : Array Int} {sp : Array Value} (h : SRow w g d sp) (n : Nat) : SRow (w.drewN n) g d sp ∧ SK g w (w.drewN n) := ⟨h.bel (below_drewN (Below.refl _ _) n), SK.bel (below_drewN (Below.refl _ _) n)⟩
@[simp] theorem swp_size (d : Array Int) (i j : Nat) : (Sort.swp d i j).size = d.size := by simp [Sort.swp]
/-- What a sort's part comes to. -/
structure SOk (g : Nat) (d' : Array Int) (sp : Array Value) (v : Value) (w : World) (e : Ending) (W : World) : Prop where
  ret : e = .returned v
  row : SRow W g d' sp
  sk : SK g w W
theorem isNaN32 (x : Int) (w : World) : Calls Try.prog 175 #[.int .u32 x] w (fun e w' => e = .returned (.bool false) ∧ w' = w) := by
  have d : (x != x) = false := by simp
  go_enter Try.func175, Try.ntmps175
  go_wp2
  go_ret
  exact ⟨rfl, rfl⟩
theorem less32 (x y : Int) (w : World) : Calls Try.prog 147 #[.int .u32 x, .int .u32 y] w (fun e w' => e = .returned (.bool (ltI x y)) ∧ w' = w) := by
  have HB := Lib.hid (show ltI x y = decide (x < y) from rfl)
  generalize hb : ltI x y = b at *
  clear hb
  have hd : decide (x < y) = b := HB.out.symm
  go_enter Try.func147, Try.ntmps147
  go_wp2_with fail
  refine (isNaN32 x _).mono ?_
  rintro e w1 ⟨rfl, rfl⟩
  go_wp2_with fail
  go_ret
  exact ⟨rfl, rfl⟩
end Go.Proofs.Ytnpalplnpfgibaa
