/- A drawn region with one operation that writes. -/
import Derived.Test.YtnpalplnpfgibaaRegion
namespace Go.Proofs.Ytnpalplnpfgibaa.Reg
open Go
def oneJ (i : Nat) (P0 P1 : World → Prop) : Env → (Nat → Bool) → World → Prop := fun _ L w => (L i = false → P0 w) ∧ (L i = true → P1 w)
section
variable {P : Program} {ops : Array Oper} {R : World → World → Prop} {w0 : World} {Q : Exit → Act → World → Prop} {i : Nat} {P0 P1 : World → Prop}
theorem oneJ_other {e e' : Env} {L : Nat → Bool} {w : World} {k : Nat} (hi : i ≠ k) (h : oneJ i P0 P1 e L w) : oneJ i P0 P1 e' (upd L k) w := by
  unfold oneJ at *
  have : (i == k) = false := by simpa using hi
  simp only [upd, this, Bool.false_or]
  exact h
theorem segO {fs : List (Nat × (Env → World → Prop))} (n : Nat) {l : List Oper} {k : Nat} {A : Env → Act} (hp : (l.take n).all plainB = true) (hn : (l.take n).length = n) (hij : (decide (i < k) || decide (k + n ≤ i)) = true)
    (h : ∃ A', (∀ e, wpQuiet P ops (fun w => R w0 w) (fun a' => a' = A' e) (l.take n) (A e)) ∧ Steps P ops R (oneJ i P0 P1) w0 Q (l.drop n) (k + n) A' fs) : Steps P ops R (oneJ i P0 P1) w0 Q l k A fs := by
  obtain ⟨A', h, hs⟩ := h
  simp only [Bool.or_eq_true, decide_eq_true_eq] at hij
  have := steps_seg (P := P) (ops := ops) (R := R) (J := oneJ i P0 P1) (w0 := w0) (Q := Q) (rest := l.drop n) (A' := A') (fs := fs) (l.take n) k A (by rw [hn]; exact fun q h1 h2 e L w hj => oneJ_other (by omega) hj) hp h (by rw [hn]; exact hs)
  rw [List.take_append_drop] at this
  exact this
theorem stillO {o : Oper} {rest : List Oper} {k : Nat} {A : Env → Act} {fs : List (Nat × (Env → World → Prop))} (c : Value) (hrefl : ∀ w, R w w) (hi : i ≠ k)
    (h : ∀ e w, R w0 w → Region.wanted o (yielded ops (A e).tmps) = true ∧ gives P o (A e) w (fun v w' => w' = w ∧ v = c))
    (hs : Steps P ops R (oneJ i P0 P1) w0 Q rest (k + 1) (fun e => (A e).put o.dst c) fs) : Steps P ops R (oneJ i P0 P1) w0 Q (o :: rest) k A fs :=
  steps_const c (fun e w L _ hR hJ _ => ⟨(h e w hR).1, gives_mono (fun v w' hh => by
    obtain ⟨rfl, hc⟩ := hh
    exact ⟨hrefl _, oneJ_other hi hJ, hc⟩) (h e w hR).2⟩) hs
/-- A read ahead of the one. -/
theorem readO {o : Oper} {rest : List Oper} {k : Nat} {A : Env → Act} {fs : List (Nat × (Env → World → Prop))} (c : Value) (hrefl : ∀ w, R w w) (hi : i ≠ k) (hd : depT ops ops.size i k = true)
    (h : ∀ e w, R w0 w → P0 w → Region.wanted o (yielded ops (A e).tmps) = true ∧ gives P o (A e) w (fun v w' => w' = w ∧ v = c))
    (hs : Steps P ops R (oneJ i P0 P1) w0 Q rest (k + 1) (fun e => (A e).put o.dst c) fs) : Steps P ops R (oneJ i P0 P1) w0 Q (o :: rest) k A fs :=
  steps_const c (fun e w L hN hR hJ _ => ⟨(h e w hR (hJ.1 (hN.2.2 i hd))).1, gives_mono (fun v w' hh => by
    obtain ⟨rfl, hc⟩ := hh
    exact ⟨hrefl _, oneJ_other hi hJ, hc⟩) (h e w hR (hJ.1 (hN.2.2 i hd))).2⟩) hs
/-- The one: its value is not told. -/
theorem callO {o : Oper} {rest : List Oper} {A : Env → Act} {fs : List (Nat × (Env → World → Prop))}
    (h : ∀ e w, R w0 w → P0 w → Region.wanted o (yielded ops (A e).tmps) = true ∧ gives P o (A e) w (fun _ w' => R w w' ∧ P1 w'))
    (hs : Steps P ops R (oneJ i P0 P1) w0 Q rest (i + 1) (fun e => (A e).put o.dst (e i)) fs) : Steps P ops R (oneJ i P0 P1) w0 Q (o :: rest) i A fs :=
  steps_fact (fun _ _ => True) (fun _ _ _ _ _ => trivial) (fun e w L hN hR hJ _ => ⟨(h e w hR (hJ.1 hN.1)).1, gives_mono (fun v w' hh => by
    refine ⟨hh.1, ⟨fun hf => ?_, fun _ => hh.2⟩, trivial⟩
    simp [upd] at hf) (h e w hR (hJ.1 hN.1)).2⟩)
    (steps_weaken _ _ _ fs _ (fun _ _ _ hf => hf.2) (fun _ _ hf => hf.2) hs)
theorem wp_regionO {id : Nat} {l : List Oper} {a : Act} {w : World} (B i : Nat) (P0 P1 : World → Prop) (hm : P.follows .mixedOrders = true) (hB : regB l = true) (hp : P0 w.drew)
    (h : Steps P l.toArray (belB B) (oneJ i P0 P1) w.drew Q l 0 (fun _ => a) []) : (Code.region id l.toArray true).wp P Q a w :=
  wp_region_facts (belB B) (oneJ i P0 P1) hm hB (RowKit.Below.refl _ _) (fun _ _ _ h k => RowKit.Below.trans h k) (fun _ => ⟨fun _ => hp, fun h => (by cases h)⟩) h
end
end Go.Proofs.Ytnpalplnpfgibaa.Reg
