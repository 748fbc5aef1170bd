/- Rows of pieces that a call owns: append. -/
import Derived.Test.YtiihemmonncioaaRecRow
import Derived.Test.YtiihemmonncioaaRecPut
import Derived.Test.YtiihemmonncioaaScanPure
namespace Go.Proofs.Ytiihemmonncioaa
open Go.RowKit
/-- The cells of pieces whose slices of records are told. -/
def piecesC : List (Nat × Nat × Value) → List Value
  | [] => []
  | p :: ps => .int .i64 (p.1 : Int) :: .int .i64 (p.2.1 : Int) :: p.2.2 :: piecesC ps
theorem piecesC_len : ∀ ps, (piecesC ps).length = ps.length * 3
  | [] => rfl
  | p :: ps => by simp only [piecesC, List.length_cons, piecesC_len ps]; omega
theorem piecesC_append : ∀ ps qs, piecesC (ps ++ qs) = piecesC ps ++ piecesC qs
  | [], _ => rfl
  | p :: ps, qs => by simp only [List.cons_append, piecesC, piecesC_append ps qs]
theorem piecesC_at : ∀ (ps : List (Nat × Nat × Value)) (i : Nat) (h : i < ps.length), (piecesC ps)[i * 3]? = some (.int .i64 (ps[i].1 : Int)) ∧ (piecesC ps)[i * 3 + 1]? = some (.int .i64 (ps[i].2.1 : Int)) ∧ (piecesC ps)[i * 3 + 2]? = some ps[i].2.2
  | [], _, h => by simp at h
  | p :: ps, 0, _ => ⟨rfl, rfl, rfl⟩
  | p :: ps, i + 1, h => by
    have ih := piecesC_at ps i (by simpa using h)
    have e : ∀ j, (i + 1) * 3 + j = (i * 3 + j) + 3 := fun j => by omega
    refine ⟨?_, ?_, ?_⟩
    · have := e 0; simp only [Nat.add_zero] at this; rw [this]; exact ih.1
    · rw [e 1]; exact ih.2.1
    · rw [e 2]; exact ih.2.2
/-- The slices of records belong to the call, and read the pieces' records. -/
def RecsOf (B : Nat) (w : World) (ps : List (Nat × Nat × Value)) (qs : List PieceL) : Prop := ps.length = qs.length ∧ ∀ i (h : i < ps.length) (h' : i < qs.length), ps[i].1 = qs[i].1 ∧ ps[i].2.1 = qs[i].2.1 ∧ OwnR B w ps[i].2.2 qs[i].2.2 ∧ ∀ r ∈ qs[i].2.2, r.wf
/-- v is a slice of pieces (of type T) that the call owns. -/
def OwnP (T : TypeId) (B : Nat) (w : World) (v : Value) (qs : List PieceL) : Prop := ∃ ps, w.ownsRow B T 3 v ps.length (piecesC ps) ∧ RecsOf B w ps qs
theorem OwnP.nil (T : TypeId) (B : Nat) (w : World) : OwnP T B w (.slice none 0 0) [] := ⟨[], World.ownsRow_nil w B T 3, rfl, fun i h => by simp at h⟩
theorem OwnP.shape {T : TypeId} {B : Nat} {w : World} {v : Value} {qs : List PieceL} (h : OwnP T B w v qs) : ∃ (a : Option Addr) (cap : Nat), v = Value.slice a qs.length cap := by
  obtain ⟨ps, h1, h2, _⟩ := h
  rw [← h2]
  rcases h1.2 with ⟨e1, e2⟩ | ⟨g, c, cur, e1, _⟩
  · exact ⟨none, 0, by rw [e1, e2]⟩
  · exact ⟨_, _, e1⟩
theorem ownsRow_bel {T : TypeId} {B n k : Nat} {w w' : World} {v : Value} {xs : List Value} (h : w.ownsRow B T k v n xs) (hb : Below w.heap.size w w') : w'.ownsRow B T k v n xs := by
  refine ⟨h.1, ?_⟩
  rcases h.2 with h2 | ⟨g, cap, cur, hv, hbg, hg, hr⟩
  · exact .inl h2
  · exact .inr ⟨g, cap, cur, hv, hbg, by rw [hb.block g (Array.getElem?_eq_some_iff.1 hg).1]; exact hg, hr⟩
theorem OwnP.bel {T : TypeId} {B : Nat} {w w' : World} {v : Value} {qs : List PieceL} (h : OwnP T B w v qs) (hb : Below w.heap.size w w') : OwnP T B w' v qs := by
  obtain ⟨ps, h1, h2, h3⟩ := h
  exact ⟨ps, ownsRow_bel h1 hb, h2, fun i hi hi' => ⟨(h3 i hi hi').1, (h3 i hi hi').2.1, (h3 i hi hi').2.2.1.bel hb, (h3 i hi hi').2.2.2⟩⟩
theorem OwnP.weak {T : TypeId} {B C : Nat} {w : World} {v : Value} {qs : List PieceL} (h : OwnP T C w v qs) (hB : B ≤ C) : OwnP T B w v qs := by
  obtain ⟨ps, h1, h2, h3⟩ := h
  refine ⟨ps, ⟨h1.1, ?_⟩, h2, fun i hi hi' => ⟨(h3 i hi hi').1, (h3 i hi hi').2.1, ?_, (h3 i hi hi').2.2.2⟩⟩
  · rcases h1.2 with h | ⟨g, cap, cur, hv, hbg, hr⟩
    · exact .inl h
    · exact .inr ⟨g, cap, cur, hv, Nat.le_trans hB hbg, hr⟩
  · have ho := (h3 i hi hi').2.2.1
    refine ⟨ho.1, ?_⟩
    rcases ho.2 with h | ⟨g, cap, cur, hv, hbg, hr⟩
    · exact .inl h
    · exact .inr ⟨g, cap, cur, hv, Nat.le_trans hB hbg, hr⟩
/-- A row of another type stays, where an owned row grows. -/
theorem keep_typed {T t : TypeId} {B n k : Nat} {w w' : World} {v v' : Value} {xs : List Value} (h : w.ownsRow B T k v n xs) (hg : Grew w w' v v') (ht : t ≠ T) {b : Nat} {C : Array Value} {fr : Nat × Nat} (hb : w.heap[b]? = some (.cells C t fr)) : w'.heap[b]? = some (.cells C t fr) := by
  rw [hg.1.block b (Array.getElem?_eq_some_iff.1 hb).1 (fun e => ?_)]
  · exact hb
  · rcases h.2 with ⟨rfl, _⟩ | ⟨g, cap, cur, rfl, _, hgg, _⟩
    · simp [Value.ownBlock] at e
    · simp [Value.ownBlock] at e
      subst e
      rw [hgg] at hb
      simp only [Option.some.injEq, Obj.cells.injEq] at hb
      exact ht hb.2.1.symm
theorem OwnR.typed {T : TypeId} {B C n k : Nat} {w w' : World} {v v' u : Value} {xs : List Value} {l : List Rec} (hu : OwnR C w u l) (h : w.ownsRow B T k v n xs) (hg : Grew w w' v v') (ht : 61 ≠ T) : OwnR C w' u l := by
  refine ⟨hu.1, ?_⟩
  rcases hu.2 with h2 | ⟨g, cap, cur, hv, hbg, hgg, hr⟩
  · exact .inl h2
  · exact .inr ⟨g, cap, cur, hv, hbg, keep_typed h hg ht hgg, hr⟩
theorem below_of_ownsRow {T : TypeId} {B n k : Nat} {w w' : World} {v v' : Value} {xs : List Value} (h : w.ownsRow B T k v n xs) (hB : B ≤ w.heap.size) (hg : Grew w w' v v') : Below B w w' :=
  hg.below hB (fun q hq => by
    rcases h.2 with ⟨rfl, _⟩ | ⟨g, cap, cur, rfl, hbg, _⟩
    · simp [Value.ownBlock] at hq
    · simp [Value.ownBlock] at hq
      omega)
def pieceZ : Value := .agg #[.int .i64 0, .int .i64 0, .slice none 0 0]
/-- A type of pieces, and that of its slices. -/
def IsPieceT (T sT : TypeId) : Prop := (Try.prog.info? T).map (fun i => (i.zero, i.size, i.bytes)) = some (some pieceZ, 3, 40) ∧ Try.prog.underlying sT = some (.slice T) ∧ 61 ≠ T
theorem pieceT_torn : IsPieceT 54 38 := ⟨by kernel_rfl, Try.underlying38, by decide⟩
theorem pieceT_ref : IsPieceT 81 41 := ⟨by kernel_rfl, Try.underlying41, by decide⟩
theorem src_piece {T sT : TypeId} (hT : IsPieceT T sT) (w : World) (g : Nat) (p : Nat × Nat × Value) (hp : p.2.2.oneCell' = true) (fr : Nat × Nat) (hg : g = w.heap.size) : Src Try.prog 3 sT (.slice (some ⟨g, 0, none⟩) 1 1) 1 (piecesC [p]) (w.alloc (.cells #[.int .i64 (p.1 : Int), .int .i64 (p.2.1 : Int), p.2.2] T fr)) := by
  subst hg
  refine Src.ofSlice _ hT.2.1 ⟨w.heap.size, 0, none⟩ 1 1 (piecesC [p]) rfl (fun j u hj => ?_) (fun u hu => ?_)
  · have hadd : (⟨w.heap.size, 0, none⟩ : Addr).add j = ⟨w.heap.size, 0 + j, none⟩ := by unfold Addr.add; split <;> simp_all
    rw [hadd, cell_of_row _ w.heap.size (0 + j) _ _ fr (heap_alloc_new w _), Nat.zero_add]
    simpa [piecesC] using hj
  · simp only [piecesC, List.mem_cons, List.not_mem_nil, or_false] at hu
    rcases hu with h | h | h <;> subst h
    · rfl
    · rfl
    · exact hp
theorem run_append_piece {T sT : TypeId} (hT : IsPieceT T sT) (w : World) (B : Nat) (ty : TypeId) (v : Value) (qs : List PieceL) (h : OwnP T B w v qs) (x : Value) (a n : Nat) (u : Value) (L : List Rec) (hs : Src Try.prog 3 sT x 1 (piecesC [(a, n, u)]) w) (hu : OwnR B w u L) (hw : ∀ r ∈ L, r.wf) (hB : B ≤ w.heap.size) (hsz : qs.length ≤ 1000000000) :
    ∃ v' w', (Builtin.append_ #[sT, sT] ty #[v, x]).run Try.prog w = .ok v' w' ∧ OwnP T B w' v' (qs ++ [(a, n, L)]) ∧ Below B w w' := by
  obtain ⟨ps, h1, h2, h3⟩ := h
  have hinf := hT.1
  cases hi : Try.prog.info? T with
  | none => rw [hi] at hinf; cases hinf
  | some i =>
    rw [hi] at hinf
    simp only [Option.map_some, Option.some.injEq, Prod.mk.injEq] at hinf
    obtain ⟨hz, i1, i2⟩ := hinf
    have hown : w.ownsRow B T i.size v ps.length (piecesC ps) := by rw [i1]; exact h1
    have hsrc : Src Try.prog i.size sT x 1 (piecesC [(a, n, u)]) w := by rw [i1]; exact hs
    obtain ⟨v', w', hr, ho, hg⟩ := run_append_own_src w B sT sT ty T i _ hT.2.1 hi hz (by rw [i1]; rfl) v ps.length _ hown x 1 _ hsrc (by unfold maxLen; omega) (by rw [i2]; omega) hB
    refine ⟨v', w', hr, ⟨ps ++ [(a, n, u)], ?_, by simp [h2], fun j hj hj' => ?_⟩, below_of_ownsRow hown hB hg⟩
    · rw [piecesC_append, List.length_append]
      rw [i1] at ho
      exact ho
    · by_cases hlt : j < ps.length
      · have := h3 j hlt (by omega)
        rw [List.getElem_append_left hlt, List.getElem_append_left (by omega)]
        exact ⟨this.1, this.2.1, this.2.2.1.typed hown hg hT.2.2, this.2.2.2⟩
      · have hje : j = ps.length := by simp at hj; omega
        have e1 : (ps ++ [(a, n, u)])[j] = (a, n, u) := by rw [List.getElem_append_right (by omega)]; simp [hje]
        have e2 : (qs ++ [(a, n, L)])[j] = (a, n, L) := by rw [List.getElem_append_right (by omega)]; simp [hje, h2]
        rw [e1, e2]
        exact ⟨rfl, rfl, hu.typed hown hg hT.2.2, hw⟩
theorem wpList_append_piece {T sT : TypeId} (hT : IsPieceT T sT) {ops : Array Oper} {rest : List Oper} {o : Oper} {ac : Act} {w : World} {Q : Exit → Act → World → Prop} (hgd : o.guard = none) (s x : Operand)
    (ho : o.op = .call { callee := .builtin .append, args := #[s, x], argTypes := #[sT, sT] }) (B : Nat) (v : Value) (qs : List PieceL) (hs : ac.eval s = v) (hown : OwnP T B w v qs)
    (y : Value) (a n : Nat) (u : Value) (L : List Rec) (hx : ac.eval x = y) (hsrc : Src Try.prog 3 sT y 1 (piecesC [(a, n, u)]) w) (hu : OwnR B w u L) (hw : ∀ r ∈ L, r.wf) (hB : B ≤ w.heap.size) (hsz : qs.length ≤ 1000000000)
    (h : ∀ v' w', OwnP T B w' v' (qs ++ [(a, n, L)]) → Below B w w' → wpList Try.prog ops Q rest (ac.put o.dst v') w') : wpList Try.prog ops Q (o :: rest) ac w :=
  wpList_plain hgd fun _ hK => by
    obtain ⟨v', w', hr, h2, h3⟩ := run_append_piece hT w B o.type v qs hown y a n u L hsrc hu hw hB hsz
    unfold Oper.wp execOp
    simp only [ho, resolve, invoke, builtin, Sem.run_bind, Sem.run_pure, Result.andThen_ok, List.map_toArray, List.map_cons, List.map_nil, hs, hx, hr, Oper.upon_value]
    exact hK _ _ (h v' w' h2 h3)
end Go.Proofs.Ytiihemmonncioaa
