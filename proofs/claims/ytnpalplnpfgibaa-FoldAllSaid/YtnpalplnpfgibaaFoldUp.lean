/- fold.Page at every slice; the head of layer 11's statements; the opener of a slice of strings. -/
import Derived.Test.YtnpalplnpfgibaaFoldPage
namespace Go.Proofs.Ytnpalplnpfgibaa
open Go.RowKit Go.ChangeShapes Go.WideShapes
theorem foldPage (a : Option Addr) (cap : Nat) (zs : List BA) (after : BA) (first : Bool) (many : Int) (w : World) (h : IsStrs w a zs) (hl : zs.length ≤ 1000) : Calls Try.prog 46 #[.slice a zs.length cap, .string after, .bool first, .int .i64 many] w (PageAns zs after first many w) := by
  cases first with
  | true => exact pageFirst a cap zs after many w h hl
  | false => exact pageBehind a cap zs after many w h hl
section
variable {H : Type} {enc : TypeId × Value → H} {w : World} {base : Nat} {spare : Nat → Bool} {held : Bool}
theorem open_s {n : Nat} {cs : List Value} {y : DataW H × List MemPlace} (h : DataW.trod enc Try.prog w base spare held n 9 cs = some y) : ∃ q : BA, (∀ j, j < 1 → cs[j]? = (sCells q)[j]?) ∧ True := by
  obtain ⟨x, h1, _⟩ := DataW.trod_string Try.underlying9 h
  subst h1
  exact ⟨x, fun j hj => by obtain rfl : j = 0 := by omega
                           rfl, trivial⟩
theorem s_cells : Try.prog.cellsOf 9 = 1 := by kernel_rfl
theorem open_strs {a : Option Addr} {len cap : Nat} {d : DataW H} {p : List MemPlace} (h : DataW.Trod enc Try.prog w base spare held 81 (.slice a len cap) d p) : ∃ z : List BA, z.length = len ∧ IsStrs w a z ∧ len ≤ maxLen :=
  open_rowOf ByteArray.empty sCells (fun _ => True) 1 _ _ Try.underlying81 s_cells (by omega) (fun _ => rfl) (fun _ _ _ h => open_s h) h
end
theorem strsNew (w : World) (l : List BA) (t : TypeId) : IsStrs (w.alloc (.cells (l.map Value.string).toArray t)) (some ⟨w.heap.size, 0, none⟩) l := by
  intro i hi
  refine ⟨w.heap.size, 0, rfl, by simp, fun j hj => ?_, trivial⟩
  obtain rfl : j = 0 := by omega
  have h := heap_alloc_new w (.cells (l.map Value.string).toArray t (0, 0))
  rw [cell_of_row _ w.heap.size _ _ _ _ h]
  simp [sCells, List.getElem?_eq_getElem hi]
def kb : BA := ⟨#[98]⟩
def ka : BA := ⟨#[97]⟩
def kc : BA := ⟨#[99]⟩
theorem sel_bac : selL [kb, ka, kc] ka false = [kb, kc] := by rfl
theorem at_ac : atL [ka, kc] kb = 1 ∧ isL [ka, kc] kb = false := by decide
theorem rise_ac : Rise [ka, kc] := by
  refine List.pairwise_cons.2 ⟨fun x hx => ?_, List.pairwise_singleton _ _⟩
  rw [List.mem_singleton] at hx
  subst hx
  exact ltB_iff.1 (by decide)
set_option maxRecDepth 100000 in
set_option maxHeartbeats 8000000 in
theorem foldUp (w : World) : Calls Try.prog 44 #[] w (fun e w' => e = .returned (.bool true) ∧ Below w.heap.size w w') := by
  obtain ⟨W0, hW0⟩ : ∃ W, W = w.alloc (.cells #[.string kb, .string ka, .string kc] 9) := ⟨_, rfl⟩
  have HB0 := Lib.hid (show Below w.heap.size w W0 by rw [hW0]; exact (Below.refl _ _).alloc (Nat.le_refl _) _)
  have HR0 := Lib.hid (show IsStrs W0 (some ⟨w.heap.size, 0, none⟩) [kb, ka, kc] by rw [hW0]; exact strsNew w [kb, ka, kc] 9)
  have HP := Lib.hid (foldPage (some ⟨w.heap.size, 0, none⟩) 3 [kb, ka, kc] ka false 1 W0 HR0.out (by simp))
  have HW0 := Lib.hid hW0
  clear hW0
  unfold kb ka kc at HP
  unfold kb ka kc at HW0
  go_enter Try.func44, Try.ntmps44
  go_wp2_with fail
  rw [← HW0.out]
  refine HP.out.mono ?_
  rintro e W1 ⟨⟨v1, rfl, ho1⟩, hb1⟩
  have h0 : (selL [⟨#[98]⟩, ⟨#[97]⟩, ⟨#[99]⟩] ⟨#[97]⟩ false) = [kb, kc] := sel_bac
  rw [h0] at ho1 ⊢
  have h2 : decide ((1 : Int).toNat < [kb, kc].length) = true := by decide
  have h3 : [kb, kc].take (1 : Int).toNat = [kb] := by rfl
  rw [h3] at ho1
  rw [h2]
  obtain ⟨a1, c1, rfl, hs1, _⟩ := ho1.strs
  obtain ⟨b, off, hax, hbx, _⟩ := hs1 0 (by simp)
  have hc0 := strs_at hs1 (k := 0) (by simp) hax
  rw [enc_bl] at hc0
  simp only [List.getElem_cons_zero, Nat.add_zero, List.length_cons, List.length_nil, Nat.reduceAdd] at hc0 ⊢
  subst hax
  have HB1 := Lib.hid (HB0.out.trans (hb1.mono HB0.out.size))
  clear ho1 hs1 hb1 h0 h2 h3
  unfold kb at hc0
  obtain ⟨W2, hW2⟩ : ∃ W, W = W1.alloc (.cells #[.string ka, .string kc] 9) := ⟨_, rfl⟩
  have hb2 : Below W1.heap.size W1 W2 := by rw [hW2]; exact (Below.refl _ _).alloc (Nat.le_refl _) _
  have HB2 := Lib.hid (HB1.out.trans (hb2.mono HB1.out.size))
  have HR2 := Lib.hid (show IsStrs W2 (some ⟨W1.heap.size, 0, none⟩) [ka, kc] by rw [hW2]; exact strsNew W1 [ka, kc] 9)
  have HF := Lib.hid (foldFind (some ⟨W1.heap.size, 0, none⟩) 2 [ka, kc] kb W2 HR2.out rise_ac (by simp))
  have hc2 := (hb2.cell (p := ⟨b, off, none⟩) hbx).trans hc0
  have HW2 := Lib.hid hW2
  have HBX := Lib.hid (Nat.lt_of_lt_of_le hbx hb2.size)
  clear hW2 hb2 hbx
  unfold ka kc at HW2
  unfold ka kc kb at HF
  go_wp2_with fail
  rw [← HW2.out]
  refine HF.out.mono ?_
  rintro e W3 ⟨rfl, hb3⟩
  have h0 : atL [⟨#[97]⟩, ⟨#[99]⟩] ⟨#[98]⟩ = 1 := at_ac.1
  have h1 : isL [⟨#[97]⟩, ⟨#[99]⟩] ⟨#[98]⟩ = false := at_ac.2
  rw [h0, h1]
  have HB3 := Lib.hid (HB2.out.trans (hb3.mono HB2.out.size))
  have hc3 := (hb3.cell (p := ⟨b, off, none⟩) HBX.out).trans hc2
  clear hb3 h0 h1 hc0 hc2
  go_wp2_with fail
  go_ret
  exact ⟨rfl, HB3.out⟩
end Go.Proofs.Ytnpalplnpfgibaa
