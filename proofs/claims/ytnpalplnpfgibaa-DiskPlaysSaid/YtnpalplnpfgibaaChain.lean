/- A drawn region with one operation whose value another one stores behind it ('h.l = append(h.l, x)'). -/
import Derived.Test.YtnpalplnpfgibaaRegion
namespace Go.Proofs.Ytnpalplnpfgibaa.Reg
open Go
def chainJ (i j : Nat) (P0 : World → Prop) (P1 : Value → World → Prop) (P2 : World → Prop) : Env → (Nat → Bool) → World → Prop := fun e L w => (L i = false → L j = false → P0 w) ∧ (L i = true → L j = false → P1 (e i) w) ∧ (L j = true → P2 w)
section
variable {P : Program} {ops : Array Oper} {R : World → World → Prop} {w0 : World} {Q : Exit → Act → World → Prop} {i j : Nat} {P0 P2 : World → Prop} {P1 : Value → World → Prop}
theorem chainJ_other {e : Env} {L : Nat → Bool} {w : World} {k : Nat} (v : Value) (hi : i ≠ k) (hj : j ≠ k) (h : chainJ i j P0 P1 P2 e L w) : chainJ i j P0 P1 P2 (setE e k v) (upd L k) w := by
  unfold chainJ at *
  have h1 : (i == k) = false := by simpa using hi
  have h2 : (j == k) = false := by simpa using hj
  simp only [upd, h1, h2, Bool.false_or, setE, if_neg hi]
  exact h
theorem chainJ_upd {e : Env} {L : Nat → Bool} {w : World} {k : Nat} (hi : i ≠ k) (hj : j ≠ k) (h : chainJ i j P0 P1 P2 e L w) : chainJ i j P0 P1 P2 e (upd L k) w := by
  unfold chainJ at *
  have h1 : (i == k) = false := by simpa using hi
  have h2 : (j == k) = false := by simpa using hj
  simp only [upd, h1, h2, Bool.false_or]
  exact h
theorem segC {fs : List (Nat × (Env → World → Prop))} (n : Nat) {l : List Oper} {k : Nat} {A : Env → Act} (hp : (l.take n).all plainB = true) (hn : (l.take n).length = n) (hij : ((decide (i < k) || decide (k + n ≤ i)) && (decide (j < k) || decide (k + n ≤ j))) = true)
    (h : ∃ A', (∀ e, wpQuiet P ops (fun w => R w0 w) (fun a' => a' = A' e) (l.take n) (A e)) ∧ Steps P ops R (chainJ i j P0 P1 P2) w0 Q (l.drop n) (k + n) A' fs) : Steps P ops R (chainJ i j P0 P1 P2) w0 Q l k A fs := by
  obtain ⟨A', h, hs⟩ := h
  simp only [Bool.and_eq_true, Bool.or_eq_true, decide_eq_true_eq] at hij
  have := steps_seg (P := P) (ops := ops) (R := R) (J := chainJ i j P0 P1 P2) (w0 := w0) (Q := Q) (rest := l.drop n) (A' := A') (fs := fs) (l.take n) k A (by rw [hn]; exact fun q h1 h2 e L w hj => chainJ_upd (by omega) (by omega) hj) hp h (by rw [hn]; exact hs)
  rw [List.take_append_drop] at this
  exact this
/-- It leaves the world alone. -/
theorem stillC {o : Oper} {rest : List Oper} {k : Nat} {A : Env → Act} {fs : List (Nat × (Env → World → Prop))} (c : Value) (hrefl : ∀ w, R w w) (hij : (i != k && j != k) = true)
    (h : ∀ e w, R w0 w → factsAt o fs e w → Region.wanted o (yielded ops (A e).tmps) = true ∧ gives P o (A e) w (fun v w' => w' = w ∧ v = c))
    (hs : Steps P ops R (chainJ i j P0 P1 P2) w0 Q rest (k + 1) (fun e => (A e).put o.dst c) fs) : Steps P ops R (chainJ i j P0 P1 P2) w0 Q (o :: rest) k A fs := by
  simp only [Bool.and_eq_true, bne_iff_ne] at hij
  exact steps_const c (fun e w L _ hR hJ hf => ⟨(h e w hR hf).1, gives_mono (fun v w' hh => by
    obtain ⟨rfl, hc⟩ := hh
    exact ⟨hrefl _, chainJ_other v hij.1 hij.2 hJ, hc⟩) (h e w hR hf).2⟩) hs
/-- A read ahead of the one. -/
theorem readC {o : Oper} {rest : List Oper} {k : Nat} {A : Env → Act} {fs : List (Nat × (Env → World → Prop))} (c : Value) (hrefl : ∀ w, R w w) (hij : (i != k && j != k) = true) (hd : (depT ops ops.size i k && depT ops ops.size j k) = true)
    (h : ∀ e w, R w0 w → P0 w → Region.wanted o (yielded ops (A e).tmps) = true ∧ gives P o (A e) w (fun v w' => w' = w ∧ v = c))
    (hs : Steps P ops R (chainJ i j P0 P1 P2) w0 Q rest (k + 1) (fun e => (A e).put o.dst c) fs) : Steps P ops R (chainJ i j P0 P1 P2) w0 Q (o :: rest) k A fs := by
  simp only [Bool.and_eq_true, bne_iff_ne] at hij hd
  exact steps_const c (fun e w L hN hR hJ _ => ⟨(h e w hR (hJ.1 (hN.2.2 i hd.1) (hN.2.2 j hd.2))).1, gives_mono (fun v w' hh => by
    obtain ⟨rfl, hc⟩ := hh
    exact ⟨hrefl _, chainJ_other v hij.1 hij.2 hJ, hc⟩) (h e w hR (hJ.1 (hN.2.2 i hd.1) (hN.2.2 j hd.2))).2⟩) hs
/-- Ahead of the one: it may make blocks; a fact that stays is known of its value. -/
theorem makeC {o : Oper} {rest : List Oper} {k : Nat} {A : Env → Act} {fs : List (Nat × (Env → World → Prop))} (Φ : Value → World → Prop) (hst : ∀ v w w', Φ v w → R w w' → Φ v w') (hij : (i != k && j != k) = true) (hd : (depT ops ops.size i k && depT ops ops.size j k) = true)
    (h : ∀ e w, R w0 w → P0 w → factsAt o fs e w → Region.wanted o (yielded ops (A e).tmps) = true ∧ gives P o (A e) w (fun v w' => R w w' ∧ P0 w' ∧ Φ v w'))
    (hs : Steps P ops R (chainJ i j P0 P1 P2) w0 Q rest (k + 1) (fun e => (A e).put o.dst (e k)) ((k, fun e w => Φ (e k) w) :: fs)) : Steps P ops R (chainJ i j P0 P1 P2) w0 Q (o :: rest) k A fs := by
  simp only [Bool.and_eq_true, bne_iff_ne] at hij hd
  have key : ∀ (L : Nat → Bool), Now ops k L → L i = false ∧ L j = false := fun L hN => ⟨hN.2.2 i hd.1, hN.2.2 j hd.2⟩
  refine steps_fact Φ hst (fun e w L hN hR hJ hf => ?_) hs
  have hL := key L hN
  have h1 := h e w hR (hJ.1 hL.1 hL.2) hf
  refine ⟨h1.1, gives_mono (fun v w' hh => ⟨hh.1, ⟨fun _ _ => hh.2.1, fun h2 => ?_, fun h2 => ?_⟩, hh.2.2⟩) h1.2⟩
  · have e1 : (i == k) = false := by simpa using hij.1
    simp [upd, e1, hL.1] at h2
  · have e1 : (j == k) = false := by simpa using hij.2
    simp [upd, e1, hL.2] at h2
/-- The one. -/
theorem callC {o : Oper} {rest : List Oper} {A : Env → Act} {fs : List (Nat × (Env → World → Prop))} (hij : (i != j && depT ops ops.size j i) = true)
    (h : ∀ e w, R w0 w → P0 w → factsAt o fs e w → Region.wanted o (yielded ops (A e).tmps) = true ∧ gives P o (A e) w (fun v w' => R w w' ∧ P1 v w'))
    (hs : Steps P ops R (chainJ i j P0 P1 P2) w0 Q rest (i + 1) (fun e => (A e).put o.dst (e i)) fs) : Steps P ops R (chainJ i j P0 P1 P2) w0 Q (o :: rest) i A fs := by
  simp only [Bool.and_eq_true, bne_iff_ne] at hij
  refine steps_fact (fun _ _ => True) (fun _ _ _ _ _ => trivial) (fun e w L hN hR hJ hf => ?_) (steps_weaken _ _ _ fs _ (fun _ _ _ hf => hf.2) (fun _ _ hf => hf.2) hs)
  have hj := hN.2.2 j hij.2
  have h1 := h e w hR (hJ.1 hN.1 hj) hf
  refine ⟨h1.1, gives_mono (fun v w' hh => ⟨hh.1, ⟨fun h2 => ?_, fun _ _ => ?_, fun h2 => ?_⟩, trivial⟩) h1.2⟩
  · simp [upd] at h2
  · simp only [setE, if_pos]; exact hh.2
  · have e1 : (j == i) = false := by simpa using hij.1.symm
    simp [upd, e1, hj] at h2
/-- The store. -/
theorem storeC {o : Oper} {rest : List Oper} {A : Env → Act} {fs : List (Nat × (Env → World → Prop))} (hij : (j != i && depT ops ops.size j i) = true)
    (h : ∀ e w, R w0 w → P1 (e i) w → factsAt o fs e w → Region.wanted o (yielded ops (A e).tmps) = true ∧ gives P o (A e) w (fun v w' => R w w' ∧ P2 w' ∧ v = undef))
    (hs : Steps P ops R (chainJ i j P0 P1 P2) w0 Q rest (j + 1) (fun e => (A e).put o.dst undef) fs) : Steps P ops R (chainJ i j P0 P1 P2) w0 Q (o :: rest) j A fs := by
  simp only [Bool.and_eq_true, bne_iff_ne] at hij
  refine steps_const undef (fun e w L hN hR hJ hf => ?_) hs
  have hi := hN.2.1 i hij.2
  have h1 := h e w hR (hJ.2.1 hi hN.1) hf
  refine ⟨h1.1, gives_mono (fun v w' hh => ⟨hh.1, ⟨fun _ h2 => ?_, fun _ h2 => ?_, fun _ => hh.2.1⟩, hh.2.2⟩) h1.2⟩
  · simp [upd] at h2
  · simp [upd] at h2
theorem wp_regionC {id : Nat} {l : List Oper} {a : Act} {w : World} (R : World → World → Prop) (hrefl : ∀ w, R w w) (htr : ∀ a b c, R a b → R b c → R a c) (i j : Nat) (P0 : World → Prop) (P1 : Value → World → Prop) (P2 : World → Prop) (hm : P.follows .mixedOrders = true) (hB : regB l = true) (hp : P0 w.drew)
    (h : Steps P l.toArray R (chainJ i j P0 P1 P2) w.drew Q l 0 (fun _ => a) []) : (Code.region id l.toArray true).wp P Q a w :=
  wp_region_facts R (chainJ i j P0 P1 P2) hm hB (hrefl _) htr (fun _ => ⟨fun _ _ => hp, fun h => (by cases h), fun h => (by cases h)⟩) h
end
end Go.Proofs.Ytnpalplnpfgibaa.Reg
