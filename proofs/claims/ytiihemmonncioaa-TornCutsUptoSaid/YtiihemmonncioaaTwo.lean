/- A drawn region with two operations that write, each a block of its own; two readers side by side. -/
import Derived.Test.YtiihemmonncioaaRegion
import Derived.Test.YtiihemmonncioaaRefReader
namespace Go.Proofs.Ytiihemmonncioaa
open Go.RowKit
namespace Reg
def twoJ (i j : Nat) (P0 P1 M0 M1 : World → Prop) : Env → (Nat → Bool) → World → Prop := fun _ L w => (L i = false → P0 w) ∧ (L i = true → P1 w) ∧ (L j = false → M0 w) ∧ (L j = true → M1 w)
theorem upd_ne {L : Nat → Bool} {k i : Nat} (h : i ≠ k) : upd L k i = L i := by
  have : (i == k) = false := by simpa using h
  simp [upd, this]
theorem upd_self {L : Nat → Bool} {k : Nat} : upd L k k = true := by simp [upd]
section
variable {P : Program} {ops : Array Oper} {R : World → World → Prop} {w0 : World} {Q : Exit → Act → World → Prop} {i j : Nat} {P0 P1 M0 M1 : World → Prop}
theorem twoJ_other {e e' : Env} {L : Nat → Bool} {w : World} {k : Nat} (hi : i ≠ k) (hj : j ≠ k) (h : twoJ i j P0 P1 M0 M1 e L w) : twoJ i j P0 P1 M0 M1 e' (upd L k) w := by
  unfold twoJ at *
  rw [upd_ne hi, upd_ne hj]
  exact h
theorem segT {fs : List (Nat × (Env → World → Prop))} (n : Nat) {l : List Oper} {k : Nat} {A : Env → Act} (hp : (l.take n).all plainB = true) (hn : (l.take n).length = n) (hij : (decide (i < k) || decide (k + n ≤ i)) && (decide (j < k) || decide (k + n ≤ j)) = true)
    (h : ∃ A', (∀ e, wpQuiet P ops (fun w => R w0 w) (fun a' => a' = A' e) (l.take n) (A e)) ∧ Steps P ops R (twoJ i j P0 P1 M0 M1) w0 Q (l.drop n) (k + n) A' fs) : Steps P ops R (twoJ i j P0 P1 M0 M1) w0 Q l k A fs := by
  obtain ⟨A', h, hs⟩ := h
  simp only [Bool.and_eq_true, Bool.or_eq_true, decide_eq_true_eq] at hij
  have := steps_seg (P := P) (ops := ops) (R := R) (J := twoJ i j P0 P1 M0 M1) (w0 := w0) (Q := Q) (rest := l.drop n) (A' := A') (fs := fs) (l.take n) k A (by rw [hn]; exact fun q h1 h2 e L w hj => twoJ_other (by omega) (by omega) hj) hp h (by rw [hn]; exact hs)
  rw [List.take_append_drop] at this
  exact this
theorem stillT {o : Oper} {rest : List Oper} {k : Nat} {A : Env → Act} {fs : List (Nat × (Env → World → Prop))} (c : Value) (hrefl : ∀ w, R w w) (hi : i ≠ k) (hj : j ≠ k)
    (h : ∀ e w, R w0 w → Region.wanted o (yielded ops (A e).tmps) = true ∧ gives P o (A e) w (fun v w' => w' = w ∧ v = c))
    (hs : Steps P ops R (twoJ i j P0 P1 M0 M1) w0 Q rest (k + 1) (fun e => (A e).put o.dst c) fs) : Steps P ops R (twoJ i j P0 P1 M0 M1) w0 Q (o :: rest) k A fs :=
  steps_const c (fun e w L _ hR hJ _ => ⟨(h e w hR).1, gives_mono (fun v w' hh => by
    obtain ⟨rfl, hc⟩ := hh
    exact ⟨hrefl _, twoJ_other hi hj hJ, hc⟩) (h e w hR).2⟩) hs
theorem oneT {o : Oper} {rest : List Oper} {A : Env → Act} {fs : List (Nat × (Env → World → Prop))} (c : Value) (hij : j ≠ i)
    (h : ∀ e w, R w0 w → P0 w → Region.wanted o (yielded ops (A e).tmps) = true ∧ gives P o (A e) w (fun v w' => v = c ∧ R w w' ∧ P1 w' ∧ (M0 w → M0 w') ∧ (M1 w → M1 w')))
    (hs : Steps P ops R (twoJ i j P0 P1 M0 M1) w0 Q rest (i + 1) (fun e => (A e).put o.dst c) fs) : Steps P ops R (twoJ i j P0 P1 M0 M1) w0 Q (o :: rest) i A fs :=
  steps_const c (fun e w L hN hR hJ _ => ⟨(h e w hR (hJ.1 hN.1)).1, gives_mono (fun v w' hh => by
    obtain ⟨hc, hr, hp, hm0, hm1⟩ := hh
    refine ⟨hr, ⟨fun hf => ?_, fun _ => hp, fun hf => ?_, fun hf => ?_⟩, hc⟩
    · rw [upd_self] at hf; cases hf
    · rw [upd_ne hij] at hf; exact hm0 (hJ.2.2.1 hf)
    · rw [upd_ne hij] at hf; exact hm1 (hJ.2.2.2 hf)) (h e w hR (hJ.1 hN.1)).2⟩) hs
theorem twoT {o : Oper} {rest : List Oper} {A : Env → Act} {fs : List (Nat × (Env → World → Prop))} (c : Value) (hij : i ≠ j)
    (h : ∀ e w, R w0 w → M0 w → Region.wanted o (yielded ops (A e).tmps) = true ∧ gives P o (A e) w (fun v w' => v = c ∧ R w w' ∧ M1 w' ∧ (P0 w → P0 w') ∧ (P1 w → P1 w')))
    (hs : Steps P ops R (twoJ i j P0 P1 M0 M1) w0 Q rest (j + 1) (fun e => (A e).put o.dst c) fs) : Steps P ops R (twoJ i j P0 P1 M0 M1) w0 Q (o :: rest) j A fs :=
  steps_const c (fun e w L hN hR hJ _ => ⟨(h e w hR (hJ.2.2.1 hN.1)).1, gives_mono (fun v w' hh => by
    obtain ⟨hc, hr, hp, hm0, hm1⟩ := hh
    refine ⟨hr, ⟨fun hf => ?_, fun hf => ?_, fun hf => ?_, fun _ => hp⟩, hc⟩
    · rw [upd_ne hij] at hf; exact hm0 (hJ.1 hf)
    · rw [upd_ne hij] at hf; exact hm1 (hJ.2.1 hf)
    · rw [upd_self] at hf; cases hf) (h e w hR (hJ.2.2.1 hN.1)).2⟩) hs
theorem wp_regionT {id : Nat} {l : List Oper} {a : Act} {w : World} (B i j : Nat) (P0 P1 M0 M1 : World → Prop) (hm : P.follows .mixedOrders = true) (hB : regB l = true) (hp : P0 w.drew) (hm0 : M0 w.drew)
    (h : Steps P l.toArray (belB B) (twoJ i j P0 P1 M0 M1) w.drew Q l 0 (fun _ => a) []) : (Code.region id l.toArray true).wp P Q a w :=
  wp_region_facts (belB B) (twoJ i j P0 P1 M0 M1) hm hB (RowKit.Below.refl _ _) (fun _ _ _ h k => RowKit.Below.trans h k) (fun _ => ⟨fun _ => hp, fun h => (by cases h), fun _ => hm0, fun h => (by cases h)⟩) h
end
end Reg
theorem IsBytes.keep {w w' : World} {r : Option Nat} {a : Option Addr} {l : List UInt8} (h : IsBytes w a l) (hg : w.grownBy w' r) (hne : ∀ b off, a = some ⟨b, off, none⟩ → 0 < l.length → some b ≠ r) : IsBytes w' a l := by
  intro i hi
  obtain ⟨b, off, h1, h2, h3⟩ := h i hi
  refine ⟨b, off, h1, Nat.lt_of_lt_of_le h2 hg.size, ?_⟩
  rw [← h3]
  exact World.cell?_of_block (w := w) (hg.block b h2 (hne b off h1 (by omega)))
theorem IsReader.keep {w w' : World} {br bm : Nat} {l : List UInt8} {sh : Bool} (h : IsReader w br l sh) (hg : w.grownBy w' (some bm)) (hlt : br < bm) : IsReader w' br l sh := by
  obtain ⟨a, cap, hr, h0, h1, h2, h3, h4, h5⟩ := h
  refine ⟨a, cap, ?_, h0.keep hg (fun b off e hl => ?_), h1, h2, h3, h4, fun x hx hc => ⟨(h5 x hx hc).1, Nat.lt_of_lt_of_le (h5 x hx hc).2 hg.size⟩⟩
  · rw [hg.block br (Array.getElem?_eq_some_iff.1 hr).1 (fun e => by cases e; omega)]; exact hr
  · have := h3 b off e (by omega)
    intro e'; cases e'; omega
theorem IsRef.keep {w w' : World} {br bm : Nat} {b : List UInt8} {at_ : Nat} {sh : Bool} (h : IsRef w bm b at_ sh) (hg : w.grownBy w' (some br)) (hbm : bm = br + 1) : IsRef w' bm b at_ sh := by
  obtain ⟨a, cap, hr, h0, h1, h2, h6, h3, h4, h5⟩ := h
  refine ⟨a, cap, ?_, h0.keep hg (fun b off e hl => ?_), h1, h2, h6, h3, h4, fun x hx hc => ⟨(h5 x hx hc).1, Nat.lt_of_lt_of_le (h5 x hx hc).2 hg.size⟩⟩
  · rw [hg.block bm (Array.getElem?_eq_some_iff.1 hr).1 (fun e => by cases e; omega)]; exact hr
  · have := h3 b off e (by omega)
    intro e'; cases e'; omega
end Go.Proofs.Ytiihemmonncioaa
