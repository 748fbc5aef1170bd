/- A drawn region that makes values of its own, one out of the other, and stores the last of them ('x[i].f = append(append([]T{}, y..), z..)'). -/
import Derived.Test.YtnpalplnpfgibaaRegion
namespace Go.Proofs.Ytnpalplnpfgibaa.Reg
open Go
def putJ (d : Nat) (C P4 : World → Prop) (live : List (Nat × Nat × (Value → World → Prop))) : Env → (Nat → Bool) → World → Prop := fun e L w => (L d = false → C w) ∧ (L d = true → P4 w) ∧ liveJ live e L w
section
variable {P : Program} {ops : Array Oper} {R : World → World → Prop} {w0 : World} {Q : Exit → Act → World → Prop} {d : Nat} {C P4 : World → Prop} {live : List (Nat × Nat × (Value → World → Prop))}
theorem updNe {L : Nat → Bool} {k j : Nat} (h : j ≠ k) : upd L k j = L j := by
  have : (j == k) = false := by simpa using h
  simp [upd, this]
theorem segP {fs : List (Nat × (Env → World → Prop))} (n : Nat) {l : List Oper} {k : Nat} {A : Env → Act} (hp : (l.take n).all plainB = true) (hn : (l.take n).length = n) (hlv : (liveOut live k n && (decide (d < k) || decide (k + n ≤ d))) = true)
    (h : ∃ A', (∀ e, wpQuiet P ops (fun w => R w0 w) (fun a' => a' = A' e) (l.take n) (A e)) ∧ Steps P ops R (putJ d C P4 live) w0 Q (l.drop n) (k + n) A' fs) : Steps P ops R (putJ d C P4 live) w0 Q l k A fs := by
  obtain ⟨A', h, hs⟩ := h
  simp only [Bool.and_eq_true, Bool.or_eq_true, decide_eq_true_eq] at hlv
  have := steps_seg (P := P) (ops := ops) (R := R) (J := putJ d C P4 live) (w0 := w0) (Q := Q) (rest := l.drop n) (A' := A') (fs := fs) (l.take n) k A (by
    rw [hn]
    intro q h1 h2 e L w hj
    have hd : d ≠ q := by omega
    exact ⟨fun h => hj.1 (by rw [updNe hd] at h; exact h), fun h => hj.2.1 (by rw [updNe hd] at h; exact h), liveJ_quiet live k n hlv.1 q h1 h2 e L w hj.2.2⟩) hp h (by rw [hn]; exact hs)
  rw [List.take_append_drop] at this
  exact this
theorem stillP {o : Oper} {rest : List Oper} {k : Nat} {A : Env → Act} {fs : List (Nat × (Env → World → Prop))} (c : Value) (hrefl : ∀ w, R w w) (hb : (liveOut live k 1 && d != k) = true)
    (h : ∀ e w, R w0 w → Region.wanted o (yielded ops (A e).tmps) = true ∧ gives P o (A e) w (fun v w' => w' = w ∧ v = c))
    (hs : Steps P ops R (putJ d C P4 live) w0 Q rest (k + 1) (fun e => (A e).put o.dst c) fs) : Steps P ops R (putJ d C P4 live) w0 Q (o :: rest) k A fs := by
  simp only [Bool.and_eq_true, bne_iff_ne] at hb
  exact steps_const c (fun e w L _ hR hJ _ => ⟨(h e w hR).1, gives_mono (fun v w' hh => by
    obtain ⟨rfl, hc⟩ := hh
    exact ⟨hrefl _, ⟨fun h => hJ.1 (by rw [updNe hb.2] at h; exact h), fun h => hJ.2.1 (by rw [updNe hb.2] at h; exact h), liveJ_still live k e L v _ hb.1 hJ.2.2⟩, hc⟩) (h e w hR).2⟩) hs
/-- A read ahead of the store. -/
theorem readP {o : Oper} {rest : List Oper} {k : Nat} {A : Env → Act} {fs : List (Nat × (Env → World → Prop))} (c : Value) (hrefl : ∀ w, R w w) (hb : (liveOut live k 1 && d != k) = true) (hd : depT ops ops.size d k = true)
    (h : ∀ e w, R w0 w → C w → Region.wanted o (yielded ops (A e).tmps) = true ∧ gives P o (A e) w (fun v w' => w' = w ∧ v = c))
    (hs : Steps P ops R (putJ d C P4 live) w0 Q rest (k + 1) (fun e => (A e).put o.dst c) fs) : Steps P ops R (putJ d C P4 live) w0 Q (o :: rest) k A fs := by
  simp only [Bool.and_eq_true, bne_iff_ne] at hb
  exact steps_const c (fun e w L hN hR hJ _ => ⟨(h e w hR (hJ.1 (hN.2.2 d hd))).1, gives_mono (fun v w' hh => by
    obtain ⟨rfl, hc⟩ := hh
    exact ⟨hrefl _, ⟨fun h => hJ.1 (by rw [updNe hb.2] at h; exact h), fun h => hJ.2.1 (by rw [updNe hb.2] at h; exact h), liveJ_still live k e L v _ hb.1 hJ.2.2⟩, hc⟩) (h e w hR (hJ.1 (hN.2.2 d hd))).2⟩) hs
/-- A value of its own; what lives of it stands in 'live'. -/
theorem makeP {o : Oper} {rest : List Oper} {k : Nat} {A : Env → Act} {fs : List (Nat × (Env → World → Prop))} (hb : (liveB ops live k && d != k) = true) (hd : depT ops ops.size d k = true)
    (h : ∀ e w L, Now ops k L → R w0 w → C w → liveJ live e L w → Region.wanted o (yielded ops (A e).tmps) = true ∧ gives P o (A e) w (fun v w' => R w w' ∧ C w' ∧ newJ live k v w'))
    (hs : Steps P ops R (putJ d C P4 live) w0 Q rest (k + 1) (fun e => (A e).put o.dst (e k)) fs) : Steps P ops R (putJ d C P4 live) w0 Q (o :: rest) k A fs := by
  simp only [Bool.and_eq_true, bne_iff_ne] at hb
  refine steps_fact (fun _ _ => True) (fun _ _ _ _ _ => trivial) (fun e w L hN hR hJ _ => ?_) (steps_weaken _ _ _ fs _ (fun _ _ _ hf => hf.2) (fun _ _ hf => hf.2) hs)
  have hd0 := hN.2.2 d hd
  have h1 := h e w L hN hR (hJ.1 hd0) hJ.2.2
  refine ⟨h1.1, gives_mono (fun v w' hh => ?_) h1.2⟩
  refine ⟨hh.1, ?_, trivial⟩
  refine ⟨fun _ => hh.2.1, fun h2 => ?_, liveJ_step live k e L v w' hN hb.1 hh.2.2⟩
  rw [updNe hb.2, hd0] at h2
  cases h2
/-- The store. -/
theorem storeP {o : Oper} {rest : List Oper} {A : Env → Act} {fs : List (Nat × (Env → World → Prop))} (hb : liveB ops live d = true)
    (h : ∀ e w L, Now ops d L → R w0 w → C w → liveJ live e L w → Region.wanted o (yielded ops (A e).tmps) = true ∧ gives P o (A e) w (fun v w' => R w w' ∧ P4 w' ∧ newJ live d v w' ∧ v = undef))
    (hs : Steps P ops R (putJ d C P4 live) w0 Q rest (d + 1) (fun e => (A e).put o.dst undef) fs) : Steps P ops R (putJ d C P4 live) w0 Q (o :: rest) d A fs := by
  refine steps_const undef (fun e w L hN hR hJ _ => ?_) hs
  have h1 := h e w L hN hR (hJ.1 hN.1) hJ.2.2
  refine ⟨h1.1, gives_mono (fun v w' hh => ?_) h1.2⟩
  refine ⟨hh.1, ?_, hh.2.2.2⟩
  refine ⟨fun h2 => ?_, fun _ => hh.2.1, liveJ_step live d e L v w' hN hb hh.2.2.1⟩
  simp [upd] at h2
theorem wp_regionP {id : Nat} {l : List Oper} {a : Act} {w : World} (R : World → World → Prop) (hrefl : ∀ w, R w w) (htr : ∀ a b c, R a b → R b c → R a c) (d : Nat) (C P4 : World → Prop) (live : List (Nat × Nat × (Value → World → Prop))) (hm : P.follows .mixedOrders = true) (hB : regB l = true) (hp : C w.drew)
    (h : Steps P l.toArray R (putJ d C P4 live) w.drew Q l 0 (fun _ => a) []) : (Code.region id l.toArray true).wp P Q a w :=
  wp_region_facts R (putJ d C P4 live) hm hB (hrefl _) htr (fun e => ⟨fun _ => hp, fun h => (by cases h), liveJ_start live e _⟩) h
end
end Go.Proofs.Ytnpalplnpfgibaa.Reg
