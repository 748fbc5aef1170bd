/- Rows of structs that a call owns, whatever their fields: what they hold, append. -/
import Derived.Test.YtnpalplnpfgibaaRowOf
import Derived.Test.YtnpalplnpfgibaaBytes
import Derived.Test.YtnpalplnpfgibaaRegion
namespace Go.Proofs.Ytnpalplnpfgibaa
open Go.RowKit
section
variable {α : Type} {C : α → List Value} {W : α → Prop} {sz : Nat} {E S : TypeId}
theorem ofC_len (hC : ∀ q, (C q).length = sz) (l : List α) : (l.flatMap C).length = l.length * sz := by
  induction l with
  | nil => simp
  | cons r l ih => rw [List.flatMap_cons, List.length_append, hC, ih, List.length_cons, Nat.add_mul]; omega
theorem ofC_at (hC : ∀ q, (C q).length = sz) : ∀ (l : List α) (i : Nat) (h : i < l.length) (j : Nat), j < sz → (l.flatMap C)[i * sz + j]? = (C l[i])[j]?
  | [], i, h, _, _ => by simp at h
  | r :: l, 0, _, j, hj => by
    rw [List.flatMap_cons, List.getElem?_append_left (by rw [hC]; omega)]
    simp
  | r :: l, i + 1, h, j, hj => by
    have ih := ofC_at hC l i (by simpa using h) j hj
    rw [List.flatMap_cons, List.getElem?_append_right (by rw [hC, Nat.add_mul]; omega), hC, List.getElem_cons_succ, ← ih]
    congr 1
    rw [Nat.add_mul]
    omega
/-- v is a slice of such elements that the call owns (its block is B or a later one). -/
def OwnOf (E : TypeId) (C : α → List Value) (sz B : Nat) (w : World) (v : Value) (l : List α) : Prop := w.ownsRow B E sz v l.length (l.flatMap C)
theorem OwnOf.nil (B : Nat) (w : World) : OwnOf E C sz B w (.slice none 0 0) [] := World.ownsRow_nil w B _ sz
theorem OwnOf.empty (B : Nat) (w : World) (hB : B ≤ w.heap.size) : OwnOf E C sz B (w.alloc (.cells #[] E)) (.slice (some ⟨w.heap.size, 0, none⟩) 0 0) [] :=
  ⟨by simp, .inr ⟨w.heap.size, 0, #[], rfl, hB, heap_alloc_new w _, Nat.le_refl _, Nat.zero_le _, by simp, by simp⟩⟩
theorem OwnOf.emptyAt (B : Nat) (w : World) (g : Nat) (hg : g = w.heap.size) (hB : B ≤ w.heap.size) : OwnOf E C sz B (w.alloc (.cells #[] E)) (.slice (some ⟨g, 0, none⟩) 0 0) [] := by
  subst hg
  exact OwnOf.empty B w hB
theorem OwnOf.block {B : Nat} {w : World} {v : Value} {l : List α} (h : OwnOf E C sz B w v l) : ∀ k, v.ownBlock = some k → B ≤ k ∧ k < w.heap.size := World.ownsRow.lt h
theorem OwnOf.kept {B : Nat} {w w' : World} {v : Value} {l : List α} (h : OwnOf E C sz B w v l) (hk : ∀ k, v.ownBlock = some k → w'.heap[k]? = w.heap[k]?) : OwnOf E C sz B w' v l := by
  refine ⟨h.1, ?_⟩
  rcases h.2 with h2 | ⟨g, cap, cur, hv, hbg, hg, hr⟩
  · exact .inl h2
  · exact .inr ⟨g, cap, cur, hv, hbg, by rw [hk g (by rw [hv]; rfl)]; exact hg, hr⟩
theorem OwnOf.bel {B : Nat} {w w' : World} {v : Value} {l : List α} (h : OwnOf E C sz B w v l) (hb : Below w.heap.size w w') : OwnOf E C sz B w' v l :=
  h.kept fun k hk => hb.block k (h.block k hk).2
theorem OwnOf.mono {B B' : Nat} {w : World} {v : Value} {l : List α} (h : OwnOf E C sz B w v l) (hB : B' ≤ B) : OwnOf E C sz B' w v l := by
  refine ⟨h.1, ?_⟩
  rcases h.2 with h2 | ⟨g, cap, cur, hv, hbg, hg, hr⟩
  · exact .inl h2
  · exact .inr ⟨g, cap, cur, hv, Nat.le_trans hB hbg, hg, hr⟩
theorem OwnOf.keep {B : Nat} {w w' : World} {v : Value} {l : List α} {r : Option Nat} (h : OwnOf E C sz B w v l) (hg : w.grownBy w' r) (hne : ∀ k, v.ownBlock = some k → some k ≠ r) : OwnOf E C sz B w' v l :=
  h.kept fun k hk => hg.block k (h.block k hk).2 (hne k hk)
theorem OwnOf.slice {B : Nat} {w : World} {v : Value} {l : List α} (h : OwnOf E C sz B w v l) : ∃ a cap, v = .slice a l.length cap := by
  rcases h.2 with ⟨rfl, h0⟩ | ⟨g, cap, cur, rfl, _⟩
  · exact ⟨none, 0, by rw [h0]⟩
  · exact ⟨_, cap, rfl⟩
/-- It reads as a slice of them. -/
theorem OwnOf.rowOf {B : Nat} {w : World} {v : Value} {l : List α} (hC : ∀ q, (C q).length = sz) (hW : ∀ q ∈ l, W q) (h : OwnOf E C sz B w v l) : ∃ a cap, v = .slice a l.length cap ∧ IsRowOf C W sz w a l ∧ l.length ≤ cap ∧ cap ≤ maxLen ∧ (∀ b off, a = some ⟨b, off, none⟩ → v.ownBlock = some b) := by
  rcases h.2 with ⟨rfl, h0⟩ | ⟨g, cap, cur, rfl, hbg, hg, hnc, hcm, hcs, htake⟩
  · have : l = [] := List.eq_nil_of_length_eq_zero h0
    subst this
    exact ⟨none, 0, rfl, fun i hi => by simp at hi, Nat.le_refl _, Nat.zero_le _, fun _ _ e => by cases e⟩
  · refine ⟨_, cap, rfl, fun i hi => ⟨g, 0, rfl, (Array.getElem?_eq_some_iff.1 hg).1, fun j hj => ?_, hW _ (List.getElem_mem hi)⟩, hnc, hcm, fun b off e => by cases e; rfl⟩
    have hb : i * sz + j < l.length * sz := Nat.lt_of_lt_of_le (show i * sz + j < (i + 1) * sz by rw [Nat.add_mul]; omega) (Nat.mul_le_mul_right _ hi)
    rw [Nat.zero_add, cell_of_row w g (i * sz + j) cur _ _ hg, ← ofC_at hC l i hi j hj, ← htake]
    rw [List.getElem?_take_of_lt hb, Array.getElem?_toList]
/-- What a slice of them yields. -/
theorem src_rowOf {w : World} {a : Option Addr} {l : List α} (hS : Try.prog.underlying S = some (.slice E)) (hC : ∀ q, (C q).length = sz) (h1 : ∀ q, ∀ u ∈ C q, u.oneCell' = true) (hp : 0 < sz) (cap : Nat) (h : IsRowOf C W sz w a l) : Src Try.prog sz S (.slice a l.length cap) l.length (l.flatMap C) w := by
  cases a with
  | none =>
    have : l = [] := by
      cases l with
      | nil => rfl
      | cons x l => obtain ⟨b, off, h1, _⟩ := h 0 (by simp); cases h1
    subst this
    exact Src.ofNil w (size := sz) hS cap
  | some a =>
    cases l with
    | nil => exact Src.ofSlice w hS a 0 cap [] (by simp) (fun j u hj => by simp at hj) (fun u hu => by cases hu)
    | cons x l =>
      obtain ⟨b, off, h2, _⟩ := h 0 (by simp)
      cases h2
      refine Src.ofSlice w hS ⟨b, off, none⟩ _ cap _ (by rw [ofC_len hC]) (fun k u hk => ?_) (fun u hu => ?_)
      · have hlt : k < (x :: l).length * sz := by
          have := (List.getElem?_eq_some_iff.1 hk).1; rwa [ofC_len hC] at this
        have hi : k / sz < (x :: l).length := (Nat.div_lt_iff_lt_mul hp).2 hlt
        have hj : k % sz < sz := Nat.mod_lt _ hp
        have hkk : k / sz * sz + k % sz = k := by rw [Nat.mul_comm]; exact Nat.div_add_mod _ _
        obtain ⟨b', off', h2, _, h3, _⟩ := h (k / sz) hi
        cases h2
        have h4 := h3 (k % sz) hj
        rw [Nat.add_assoc, hkk, ← ofC_at hC (x :: l) (k / sz) hi (k % sz) hj, hkk, hk] at h4
        rw [add_none']
        exact h4
      · obtain ⟨q, _, hq⟩ := List.mem_flatMap.1 hu
        exact h1 q u hq
theorem rowOf_new {w : World} {g : Nat} {cs : List Value} {t : TypeId} {fr : Nat × Nat} (q : α) (hq : W q) (hcs : cs = C q) (hg : w.heap[g]? = some (.cells cs.toArray t fr)) : IsRowOf C W sz w (some ⟨g, 0, none⟩) [q] := by
  intro i hi
  obtain rfl : i = 0 := by simp at hi; omega
  refine ⟨g, 0, rfl, (Array.getElem?_eq_some_iff.1 hg).1, fun j hj => ?_, hq⟩
  rw [cell_of_row w g _ _ _ _ hg, hcs]
  simp
/-- append, onto a row that the call owns. -/
theorem run_append_of {z : Value} {bytes : Nat} (hS : Try.prog.underlying S = some (.slice E)) (hinf : (Try.prog.info? E).map (fun i => (i.zero, i.size, i.bytes)) = some (some z, sz, bytes)) (hz : z.cells.size = sz)
    (w : World) (B : Nat) (ty : TypeId) (v : Value) (l : List α) (h : OwnOf E C sz B w v l) (x : Value) (news : List α) (hs : Src Try.prog sz S x news.length (news.flatMap C) w) (hB : B ≤ w.heap.size) (hsz : l.length + news.length ≤ 1000000000) (hby : bytes ≤ 1000) :
    ∃ v' w', (Builtin.append_ #[S, S] ty #[v, x]).run Try.prog w = .ok v' w' ∧ OwnOf E C sz B w' v' (l ++ news) ∧ Grew w w' v v' := by
  cases hi : Try.prog.info? E with
  | none => rw [hi] at hinf; cases hinf
  | some i =>
    rw [hi] at hinf
    simp only [Option.map_some, Option.some.injEq, Prod.mk.injEq] at hinf
    obtain ⟨hz0, h1, h2⟩ := hinf
    have hown : w.ownsRow B E i.size v l.length (l.flatMap C) := by rw [h1]; exact h
    have hsrc : Src Try.prog i.size S x news.length (news.flatMap C) w := by rw [h1]; exact hs
    obtain ⟨v', w', hr, ho, hg⟩ := run_append_own_src w B S S ty E i _ hS hi hz0 (by rw [h1]; exact hz) v l.length _ hown x news.length _ hsrc (by unfold maxLen; omega) (by
      rw [h2]
      have := Nat.mul_le_mul hsz hby
      omega) hB
    refine ⟨v', w', hr, ?_, hg⟩
    unfold OwnOf
    rw [List.flatMap_append, List.length_append]
    rw [h1] at ho
    exact ho
theorem wpList_append_of {z : Value} {bytes : Nat} (hS : Try.prog.underlying S = some (.slice E)) (hinf : (Try.prog.info? E).map (fun i => (i.zero, i.size, i.bytes)) = some (some z, sz, bytes)) (hz : z.cells.size = sz) (hby : bytes ≤ 1000)
    {ops : Array Oper} {rest : List Oper} {o : Oper} {a : Act} {w : World} {Q : Exit → Act → World → Prop} (hgd : o.guard = none) (s x : Operand)
    (ho : o.op = .call { callee := .builtin .append, args := #[s, x], argTypes := #[S, S] }) (B : Nat) (v : Value) (l : List α) (hs : a.eval s = v) (hown : OwnOf E C sz B w v l)
    (y : Value) (news : List α) (hx : a.eval x = y) (hsrc : Src Try.prog sz S y news.length (news.flatMap C) w) (hB : B ≤ w.heap.size) (hsz : l.length + news.length ≤ 1000000000)
    (h : ∀ v' w', OwnOf E C sz B w' v' (l ++ news) → Grew w w' v v' → wpList Try.prog ops Q rest (a.put o.dst v') w') : wpList Try.prog ops Q (o :: rest) a w :=
  wpList_plain hgd fun _ hK => by
    obtain ⟨v', w', hr, h2, h3⟩ := run_append_of hS hinf hz w B o.type v l hown y news hsrc hB hsz hby
    unfold Oper.wp execOp
    simp only [ho, resolve, invoke, builtin, Sem.run_bind, Sem.run_pure, Result.andThen_ok, List.map_toArray, List.map_cons, List.map_nil, hs, hx, hr, Oper.upon_value]
    exact hK _ _ (h v' w' h2 h3)
theorem gives_append_of {z : Value} {bytes : Nat} (hS : Try.prog.underlying S = some (.slice E)) (hinf : (Try.prog.info? E).map (fun i => (i.zero, i.size, i.bytes)) = some (some z, sz, bytes)) (hz : z.cells.size = sz) (hby : bytes ≤ 1000)
    {o : Oper} {a : Act} {w : World} (s x : Operand) (ho : o.op = .call { callee := .builtin .append, args := #[s, x], argTypes := #[S, S] }) (B : Nat) (v : Value) (l : List α) (hs : a.eval s = v) (hown : OwnOf E C sz B w v l)
    (y : Value) (news : List α) (hx : a.eval x = y) (hsrc : Src Try.prog sz S y news.length (news.flatMap C) w) (hB : B ≤ w.heap.size) (hsz : l.length + news.length ≤ 1000000000) :
    Reg.gives Try.prog o a w (fun v' w' => OwnOf E C sz B w' v' (l ++ news) ∧ Grew w w' v v') := by
  obtain ⟨v', w', hr, h2, h3⟩ := run_append_of hS hinf hz w B o.type v l hown y news hsrc hB hsz hby
  unfold Reg.gives execOp
  simp only [ho, resolve, invoke, builtin, Sem.run_bind, Sem.run_pure, Result.andThen_ok, List.map_toArray, List.map_cons, List.map_nil, hs, hx, hr]
  exact ⟨h2, h3⟩
theorem Grew.bel {B : Nat} {w w' : World} {v v' : Value} {l : List α} (h : OwnOf E C sz B w v l) (hB : B ≤ w.heap.size) (hg : Grew w w' v v') : Below B w w' := hg.below hB (fun k hk => (h.block k hk).1)
/-- A part of a slice. -/
theorem IsRowOf.part {w : World} {b off : Nat} {l : List α} (h : IsRowOf C W sz w (some ⟨b, off, none⟩) l) (i n : Nat) (hn : i + n ≤ l.length) : IsRowOf C W sz w (some ⟨b, off + i * sz, none⟩) ((l.drop i).take n) := by
  intro j hj
  have hj' : j < n := by rw [List.length_take, List.length_drop] at hj; omega
  obtain ⟨b', off', h1, h2, h3, h4⟩ := h (i + j) (by omega)
  cases h1
  refine ⟨b, off + i * sz, rfl, h2, fun k hk => ?_, ?_⟩
  · have := h3 k hk
    rw [show off + i * sz + j * sz + k = off + (i + j) * sz + k by rw [Nat.add_mul]; omega, this]
    simp
  · simpa using h4
theorem IsRowOf.nil {w : World} {a : Option Addr} : IsRowOf C W sz w a [] := fun i hi => by simp at hi
theorem IsRowOf.takeN {w : World} {a : Option Addr} {l : List α} (h : IsRowOf C W sz w a l) (n : Nat) : IsRowOf C W sz w a (l.take n) := by
  intro i hi
  have hi' : i < l.length := by rw [List.length_take] at hi; omega
  have := h i hi'
  simpa using this
theorem IsRowOf.dropN {w : World} {b off : Nat} {l : List α} (h : IsRowOf C W sz w (some ⟨b, off, none⟩) l) (n : Nat) : IsRowOf C W sz w (some ⟨b, off + n * sz, none⟩) (l.drop n) := by
  by_cases hn : n ≤ l.length
  · have h1 := h.part n (l.length - n) (by omega)
    rwa [List.take_of_length_le (by simp)] at h1
  · rw [List.drop_eq_nil_of_le (by omega)]
    exact fun i hi => by simp at hi
theorem IsRowOf.ofNil {w : World} {a : Option Addr} {l : List α} (h : l.length = 0) : IsRowOf C W sz w a l := fun i hi => by omega
end
end Go.Proofs.Ytnpalplnpfgibaa
