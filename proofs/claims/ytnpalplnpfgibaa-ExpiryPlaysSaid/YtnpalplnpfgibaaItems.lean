/- Rows of expiry's items that a call owns; the heap as it lies. -/
import Derived.Test.YtnpalplnpfgibaaHeapPure
import Derived.Test.YtnpalplnpfgibaaBytes
import Derived.Test.YtnpalplnpfgibaaRegion
import Derived.Deep.WholeRow
namespace Go.Proofs.Ytnpalplnpfgibaa
open Go.RowKit
def It.v (a : It) : Value := .agg #[.int .u64 a.t, .string a.k]
def It.wf (a : It) : Prop := (Lit.int .u64 a.t).wf = true ∧ a.k.size ≤ maxLen
def itsC (l : List It) : List Value := l.flatMap fun a => [.int .u64 a.t, .string a.k]
theorem itsC_len (l : List It) : (itsC l).length = l.length * 2 := by
  induction l with
  | nil => rfl
  | cons r l ih =>
    simp only [itsC, List.flatMap_cons, List.length_append, List.length_cons, List.length_nil] at *
    omega
theorem itsC_at : ∀ (l : List It) (i : Nat) (h : i < l.length), (itsC l)[i * 2]? = some (.int .u64 l[i].t) ∧ (itsC l)[i * 2 + 1]? = some (.string l[i].k)
  | [], i, h => by simp at h
  | r :: l, 0, _ => by simp [itsC]
  | r :: l, i + 1, h => by
    have ih := itsC_at l i (by simpa using h)
    simp only [itsC, List.flatMap_cons, List.getElem_cons_succ] at *
    rw [show (i + 1) * 2 = i * 2 + 2 by omega, show i * 2 + 2 + 1 = i * 2 + 1 + 2 by omega]
    exact ih
theorem itsC_set : ∀ (l : List It) (i : Nat) (_ : i < l.length) (a : It), itsC (l.set i a) = ((itsC l).set (i * 2) (.int .u64 a.t)).set (i * 2 + 1) (.string a.k)
  | [], i, h, _ => by simp at h
  | r :: l, 0, _, a => by simp [itsC]
  | r :: l, i + 1, h, a => by
    have ih := itsC_set l i (by simpa using h) a
    simp only [itsC, List.flatMap_cons, List.set_cons_succ] at *
    rw [show (i + 1) * 2 = i * 2 + 2 by omega, show i * 2 + 2 + 1 = i * 2 + 1 + 2 by omega, ih]
    rfl
theorem itsC_take (l : List It) (m : Nat) (h : m ≤ l.length) : itsC (l.take m) = (itsC l).take (m * 2) := by
  have e : itsC l = itsC (l.take m) ++ itsC (l.drop m) := by
    unfold itsC
    rw [← List.flatMap_append, List.take_append_drop]
  rw [e, List.take_left' (by rw [itsC_len, List.length_take]; omega)]
theorem itsC_snoc (l : List It) (a : It) : itsC (l ++ [a]) = itsC l ++ [.int .u64 a.t, .string a.k] := by simp [itsC]
/-- v is a slice of items that the call owns. -/
def OwnT (B : Nat) (w : World) (v : Value) (l : List It) : Prop := w.ownsRow B 30 2 v l.length (itsC l)
theorem OwnT.nil (B : Nat) (w : World) : OwnT B w (.slice none 0 0) [] := World.ownsRow_nil w B _ 2
theorem OwnT.block {B : Nat} {w : World} {v : Value} {l : List It} (h : OwnT B w v l) : ∀ k, v.ownBlock = some k → B ≤ k ∧ k < w.heap.size := World.ownsRow.lt h
theorem OwnT.kept {B : Nat} {w w' : World} {v : Value} {l : List It} (h : OwnT B w v l) (hk : ∀ k, v.ownBlock = some k → w'.heap[k]? = w.heap[k]?) : OwnT B w' v l := by
  refine ⟨h.1, ?_⟩
  rcases h.2 with h2 | ⟨g, cap, cur, hv, hbg, hg, hr⟩
  · exact .inl h2
  · exact .inr ⟨g, cap, cur, hv, hbg, by rw [hk g (by rw [hv]; rfl)]; exact hg, hr⟩
theorem OwnT.bel {B : Nat} {w w' : World} {v : Value} {l : List It} (h : OwnT B w v l) (hb : Below w.heap.size w w') : OwnT B w' v l :=
  h.kept fun k hk => hb.block k (h.block k hk).2
theorem OwnT.slice {B : Nat} {w : World} {v : Value} {l : List It} (h : OwnT B w v l) : ∃ a cap, v = .slice a l.length cap := by
  rcases h.2 with ⟨rfl, h0⟩ | ⟨g, cap, cur, rfl, _⟩
  · exact ⟨none, 0, by rw [h0]⟩
  · exact ⟨_, cap, rfl⟩
/-- Its cells, and a store of an element. -/
theorem OwnT.get {B : Nat} {w : World} {v : Value} {l : List It} (h : OwnT B w v l) (hne : 0 < l.length) : ∃ g cap, v = .slice (some ⟨g, 0, none⟩) l.length cap ∧ B ≤ g ∧ g < w.heap.size ∧ l.length ≤ cap ∧ cap ≤ maxLen ∧
    (∀ i (hi : i < l.length), w.cell? ⟨g, i * 2, none⟩ = some (.int .u64 l[i].t) ∧ w.cell? ⟨g, i * 2 + 1, none⟩ = some (.string l[i].k)) ∧ (∀ i, w.frozen? ⟨g, i, none⟩ = false) := by
  rcases h.2 with ⟨rfl, h0⟩ | ⟨g, cap, cur, rfl, hbg, hg, hnc, hcm, hcs, htake⟩
  · omega
  · refine ⟨g, cap, rfl, hbg, (Array.getElem?_eq_some_iff.1 hg).1, hnc, hcm, fun i hi => ?_, fun i => frozen_of_row w g i cur _ hg⟩
    have hat := itsC_at l i hi
    rw [← htake] at hat
    rw [List.getElem?_take_of_lt (by omega), List.getElem?_take_of_lt (by omega)] at hat
    rw [cell_of_row w g (i * 2) cur _ _ hg, cell_of_row w g (i * 2 + 1) cur _ _ hg]
    simpa using hat
theorem OwnT.set {B : Nat} {w : World} {l : List It} {g cap : Nat} (h : OwnT B w (.slice (some ⟨g, 0, none⟩) l.length cap) l) (i : Nat) (hi : i < l.length) (a : It) :
    OwnT B ((w.setCell ⟨g, i * 2, none⟩ (.int .u64 a.t)).setCell ⟨g, i * 2 + 1, none⟩ (.string a.k)) (.slice (some ⟨g, 0, none⟩) l.length cap) (l.set i a) := by
  rcases h.2 with ⟨h1, h0⟩ | ⟨g', cap', cur, hv, hbg, hg, hnc, hcm, hcs, htake⟩
  · cases h1
  · simp only [Value.slice.injEq, Option.some.injEq, Addr.mk.injEq] at hv
    obtain ⟨⟨rfl, _, _⟩, _, rfl⟩ := hv
    have s1 := heap_setCell_same w g (i * 2) cur _ (.int .u64 a.t) hg
    have s2 := heap_setCell_same _ g (i * 2 + 1) _ _ (.string a.k) s1
    refine ⟨by rw [itsC_len], .inr ⟨g, cap, _, by simp, hbg, s2, by simpa using hnc, hcm, by simpa using hcs, ?_⟩⟩
    rw [itsC_set l i hi a, ← htake]
    simp only [Array.toList_setIfInBounds, List.length_set]
    rw [List.take_set, List.take_set]
theorem OwnT.swap {B : Nat} {w : World} {l : List It} {g cap : Nat} (h : OwnT B w (.slice (some ⟨g, 0, none⟩) l.length cap) l) (i j : Nat) (hi : i < l.length) (hj : j < l.length) :
    OwnT B ((((w.setCell ⟨g, i * 2, none⟩ (.int .u64 l[j].t)).setCell ⟨g, i * 2 + 1, none⟩ (.string l[j].k)).setCell ⟨g, j * 2, none⟩ (.int .u64 l[i].t)).setCell ⟨g, j * 2 + 1, none⟩ (.string l[i].k)) (.slice (some ⟨g, 0, none⟩) l.length cap) (sw l i j hi hj) := by
  have h1 := h.set i hi l[j]
  have e : l.length = (l.set i l[j]).length := by simp
  rw [e] at h1
  have h2 := h1.set j (by simpa using hj) l[i]
  rw [← e] at h2
  exact h2
/-- A beginning of it. -/
theorem OwnT.take {B : Nat} {w : World} {l : List It} {g cap : Nat} (h : OwnT B w (.slice (some ⟨g, 0, none⟩) l.length cap) l) (m : Nat) (hm : m ≤ l.length) : OwnT B w (.slice (some ⟨g, 0, none⟩) m cap) (l.take m) := by
  rcases h.2 with ⟨h1, h0⟩ | ⟨g', cap', cur, hv, hbg, hg, hnc, hcm, hcs, htake⟩
  · cases h1
  · simp only [Value.slice.injEq, Option.some.injEq, Addr.mk.injEq] at hv
    obtain ⟨⟨rfl, _, _⟩, _, rfl⟩ := hv
    have hl : (l.take m).length = m := by rw [List.length_take]; omega
    refine ⟨by rw [itsC_len], .inr ⟨g, cap, cur, by rw [hl], hbg, hg, by omega, hcm, hcs, ?_⟩⟩
    rw [itsC_take l m hm, ← htake, List.take_take, hl]
    congr 1
    omega
theorem info_it : (Try.prog.info? 30).map (fun i => (i.zero, i.size, i.bytes)) = some (some (.agg #[.int .u64 0, .string ByteArray.empty]), 2, 24) := by kernel_rfl
theorem run_append_it (w : World) (B : Nat) (ty : TypeId) (v : Value) (l : List It) (h : OwnT B w v l) (x : Value) (a : It) (hs : Src Try.prog 2 22 x 1 [.int .u64 a.t, .string a.k] w) (hB : B ≤ w.heap.size) (hsz : l.length ≤ 1000000000) :
    ∃ v' w', (Builtin.append_ #[22, 22] ty #[v, x]).run Try.prog w = .ok v' w' ∧ OwnT B w' v' (l ++ [a]) ∧ Grew w w' v v' := by
  have hinf := info_it
  cases hi : Try.prog.info? 30 with
  | none => rw [hi] at hinf; cases hinf
  | some i =>
    rw [hi] at hinf
    simp only [Option.map_some, Option.some.injEq, Prod.mk.injEq] at hinf
    obtain ⟨hz, h1, h2⟩ := hinf
    have hown : w.ownsRow B 30 i.size v l.length (itsC l) := by rw [h1]; exact h
    have hsrc : Src Try.prog i.size 22 x 1 [.int .u64 a.t, .string a.k] w := by rw [h1]; exact hs
    obtain ⟨v', w', hr, ho, hg⟩ := run_append_own_src w B 22 22 ty 30 i _ Try.underlying22 hi hz (by rw [h1]; rfl) v l.length _ hown x 1 _ hsrc (by unfold maxLen; omega) (by rw [h2]; omega) hB
    refine ⟨v', w', hr, ?_, hg⟩
    unfold OwnT
    rw [itsC_snoc, List.length_append]
    rw [h1] at ho
    exact ho
theorem src_at (w : World) (g : Nat) (a : It) (t : TypeId) (fr : Nat × Nat) (hg : w.heap[g]? = some (.cells #[.int .u64 a.t, .string a.k] t fr)) : Src Try.prog 2 22 (.slice (some ⟨g, 0, none⟩) 1 1) 1 [.int .u64 a.t, .string a.k] w := by
  refine Src.ofSlice _ Try.underlying22 ⟨g, 0, none⟩ 1 1 _ rfl (fun j u hj => ?_) (fun u hu => ?_)
  · have hadd : (⟨g, 0, none⟩ : Addr).add j = ⟨g, 0 + j, none⟩ := by unfold Addr.add; split <;> simp_all
    rw [hadd, cell_of_row _ g (0 + j) _ _ fr hg, Nat.zero_add]
    simpa using hj
  · simp only [List.mem_cons, List.not_mem_nil, or_false] at hu
    rcases hu with h | h <;> subst h <;> rfl
theorem src_it (w : World) (g : Nat) (a : It) (fr : Nat × Nat) (hg : g = w.heap.size) : Src Try.prog 2 22 (.slice (some ⟨g, 0, none⟩) 1 1) 1 [.int .u64 a.t, .string a.k] (w.alloc (.cells #[.int .u64 a.t, .string a.k] 30 fr)) :=
  src_at _ g a _ fr (by subst hg; exact heap_alloc_new w _)
theorem gives_append_it {o : Oper} {a : Act} {w : World} (s x : Operand) (ho : o.op = .call { callee := .builtin .append, args := #[s, x], argTypes := #[22, 22] }) (B : Nat) (v : Value) (l : List It) (hs : a.eval s = v) (hown : OwnT B w v l)
    (y : Value) (r : It) (hx : a.eval x = y) (hsrc : Src Try.prog 2 22 y 1 [.int .u64 r.t, .string r.k] w) (hB : B ≤ w.heap.size) (hsz : l.length ≤ 1000000000) :
    Reg.gives Try.prog o a w (fun v' w' => OwnT B w' v' (l ++ [r]) ∧ Grew w w' v v') := by
  obtain ⟨v', w', hr, h2, h3⟩ := run_append_it w B o.type v l hown y r hsrc hB hsz
  unfold Reg.gives execOp
  simp only [ho, resolve, invoke, builtin, Sem.run_bind, Sem.run_pure, Result.andThen_ok, List.map_toArray, List.map_cons, List.map_nil, hs, hx, hr]
  exact ⟨h2, h3⟩
theorem wpList_append_it {ops : Array Oper} {rest : List Oper} {o : Oper} {a : Act} {w : World} {Q : Exit → Act → World → Prop} (hgd : o.guard = none) (s x : Operand)
    (ho : o.op = .call { callee := .builtin .append, args := #[s, x], argTypes := #[22, 22] }) (B : Nat) (v : Value) (l : List It) (hs : a.eval s = v) (hown : OwnT B w v l)
    (y : Value) (r : It) (hx : a.eval x = y) (hsrc : Src Try.prog 2 22 y 1 [.int .u64 r.t, .string r.k] w) (hB : B ≤ w.heap.size) (hsz : l.length ≤ 1000000000)
    (h : ∀ v' w', OwnT B w' v' (l ++ [r]) → Grew w w' v v' → wpList Try.prog ops Q rest (a.put o.dst v') w') : wpList Try.prog ops Q (o :: rest) a w :=
  wpList_plain hgd fun _ hK => by
    obtain ⟨v', w', hr, h2, h3⟩ := run_append_it w B o.type v l hown y r hsrc hB hsz
    unfold Oper.wp execOp
    simp only [ho, resolve, invoke, builtin, Sem.run_bind, Sem.run_pure, Result.andThen_ok, List.map_toArray, List.map_cons, List.map_nil, hs, hx, hr, Oper.upon_value]
    exact hK _ _ (h v' w' h2 h3)
/-! The heap: block bh is a Heap, its items are v's. -/
structure IsHeap (w : World) (bh : Nat) (v : Value) (l : List It) : Prop where
  box : w.heap[bh]? = some (.cells #[v] 121 (0, 0))
  own : OwnT (bh + 1) w v l
  wf : ∀ a ∈ l, a.wf
theorem IsHeap.lt {w : World} {bh : Nat} {v : Value} {l : List It} (h : IsHeap w bh v l) : bh < w.heap.size := (Array.getElem?_eq_some_iff.1 h.box).1
theorem IsHeap.cell {w : World} {bh : Nat} {v : Value} {l : List It} (h : IsHeap w bh v l) : w.cell? ⟨bh, 0, none⟩ = some v := by
  have := cell_of_row w bh 0 _ _ _ h.box
  simpa using this
theorem IsHeap.free {w : World} {bh : Nat} {v : Value} {l : List It} (h : IsHeap w bh v l) : w.frozen? ⟨bh, 0, none⟩ = false := frozen_of_row w bh 0 _ _ h.box
/-- What may be written: block bh, the items' own block. -/
structure HGrew (bh : Nat) (w w' : World) (v v' : Value) : Prop where
  os : w'.os = w.os
  tape : w'.tape = w.tape
  output : w'.output = w.output
  size : w.heap.size ≤ w'.heap.size
  block : ∀ k, k < w.heap.size → k ≠ bh → v.ownBlock ≠ some k → w'.heap[k]? = w.heap[k]?
  own : ∀ k, v'.ownBlock = some k → v.ownBlock = some k ∨ w.heap.size ≤ k
theorem HGrew.refl (bh : Nat) (w : World) (v : Value) : HGrew bh w w v v := ⟨rfl, rfl, rfl, Nat.le_refl _, fun _ _ _ _ => rfl, fun _ h => .inl h⟩
theorem HGrew.of_below {bh : Nat} {w w' : World} (v : Value) (h : Below w.heap.size w w') : HGrew bh w w' v v := ⟨h.os, h.tape, h.output, h.size, fun k hk _ _ => h.block k hk, fun _ h => .inl h⟩
theorem HGrew.trans {bh : Nat} {w w1 w2 : World} {v v1 v2 : Value} (h : HGrew bh w w1 v v1) (k : HGrew bh w1 w2 v1 v2) : HGrew bh w w2 v v2 := by
  refine ⟨k.os.trans h.os, k.tape.trans h.tape, k.output.trans h.output, Nat.le_trans h.size k.size, fun i hi h1 h2 => ?_, fun i hi => ?_⟩
  · rw [k.block i (Nat.lt_of_lt_of_le hi h.size) h1 (fun e => ?_), h.block i hi h1 h2]
    rcases h.own i e with h3 | h3
    · exact h2 h3
    · omega
  · rcases k.own i hi with h1 | h1
    · exact h.own i h1
    · exact .inr (Nat.le_trans h.size h1)
theorem HGrew.trans' {bh : Nat} {w w1 w2 : World} {v v1 : Value} (h : HGrew bh w w1 v v1) (k : Below w.heap.size w1 w2) (_hb : bh < w.heap.size) (_hv : ∀ k, v1.ownBlock = some k → k < w.heap.size) : HGrew bh w w2 v v1 :=
  ⟨k.os.trans h.os, k.tape.trans h.tape, k.output.trans h.output, Nat.le_trans h.size k.size, fun i hi h1 h2 => by rw [k.block i hi]; exact h.block i hi h1 h2, fun i hi => h.own i hi⟩
theorem HGrew.below {B bh : Nat} {w w' : World} {v v' : Value} {l : List It} (h : HGrew bh w w' v v') (hv : OwnT (bh + 1) w v l) (hB : B ≤ bh) (hbh : bh < w.heap.size) : Below B w w' :=
  ⟨h.os, h.tape, h.output, h.size, fun k hk => h.block k (by omega) (by omega) (fun e => by have := (hv.block k e).1; omega)⟩
theorem IsHeap.bel {w w' : World} {bh : Nat} {v : Value} {l : List It} (h : IsHeap w bh v l) (hb : Below w.heap.size w w') : IsHeap w' bh v l :=
  ⟨by rw [hb.block bh h.lt]; exact h.box, h.own.bel hb, h.wf⟩
theorem IsHeap.swap {w : World} {bh : Nat} {l : List It} {g cap : Nat} (h : IsHeap w bh (.slice (some ⟨g, 0, none⟩) l.length cap) l) (i j : Nat) (hi : i < l.length) (hj : j < l.length) :
    IsHeap ((((w.setCell ⟨g, i * 2, none⟩ (.int .u64 l[j].t)).setCell ⟨g, i * 2 + 1, none⟩ (.string l[j].k)).setCell ⟨g, j * 2, none⟩ (.int .u64 l[i].t)).setCell ⟨g, j * 2 + 1, none⟩ (.string l[i].k)).drew bh (.slice (some ⟨g, 0, none⟩) l.length cap) (sw l i j hi hj) ∧
    HGrew bh w ((((w.setCell ⟨g, i * 2, none⟩ (.int .u64 l[j].t)).setCell ⟨g, i * 2 + 1, none⟩ (.string l[j].k)).setCell ⟨g, j * 2, none⟩ (.int .u64 l[i].t)).setCell ⟨g, j * 2 + 1, none⟩ (.string l[i].k)).drew (.slice (some ⟨g, 0, none⟩) l.length cap) (.slice (some ⟨g, 0, none⟩) l.length cap) := by
  have hg := (h.own.block g rfl).1
  have oth : ∀ k, k ≠ g → ((((w.setCell ⟨g, i * 2, none⟩ (.int .u64 l[j].t)).setCell ⟨g, i * 2 + 1, none⟩ (.string l[j].k)).setCell ⟨g, j * 2, none⟩ (.int .u64 l[i].t)).setCell ⟨g, j * 2 + 1, none⟩ (.string l[i].k)).heap[k]? = w.heap[k]? := by
    intro k hk
    rw [Below.heap_setCell _ _ _ _ hk, Below.heap_setCell _ _ _ _ hk, Below.heap_setCell _ _ _ _ hk, Below.heap_setCell _ _ _ _ hk]
  refine ⟨⟨(oth bh (by omega)).trans h.box, h.own.swap i j hi hj, fun a ha => ?_⟩, ⟨rfl, rfl, rfl, by simp [World.setCell, World.drew], fun k _ h1 h2 => oth k (fun e => h2 (by rw [e]; rfl)), fun k hk => .inl hk⟩⟩
  exact h.wf a ((sw_perm hi hj).mem_iff.1 ha)
end Go.Proofs.Ytnpalplnpfgibaa
