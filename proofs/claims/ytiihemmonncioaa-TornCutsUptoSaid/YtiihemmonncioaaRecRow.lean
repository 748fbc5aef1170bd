/- Rows of records that a call owns: append. -/
import Derived.Test.YtiihemmonncioaaRecCost
namespace Go.Proofs.Ytiihemmonncioaa
open Go.RowKit
def recsC (l : List Rec) : List Value := l.flatMap fun r => r.cells.toList
theorem recsC_len (l : List Rec) : (recsC l).length = l.length * 14 := by
  induction l with
  | nil => rfl
  | cons r l ih =>
    have h14 : r.cells.toList.length = 14 := rfl
    simp only [recsC, List.flatMap_cons, List.length_append, List.length_cons] at *
    rw [ih, h14]
    omega
theorem recsC_at : ∀ (l : List Rec) (i : Nat) (h : i < l.length) (j : Nat), j < 14 → (recsC l)[i * 14 + j]? = l[i].cells[j]?
  | [], i, h, _, _ => by simp at h
  | r :: l, 0, _, j, hj => by
    have h14 : r.cells.toList.length = 14 := rfl
    simp only [recsC, List.flatMap_cons, Nat.zero_mul, Nat.zero_add, List.getElem_cons_zero]
    rw [List.getElem?_append_left (by omega), Array.getElem?_toList]
  | r :: l, i + 1, h, j, hj => by
    have h14 : r.cells.toList.length = 14 := rfl
    have ih := recsC_at l i (by simpa using h) j hj
    simp only [recsC, List.flatMap_cons, List.getElem_cons_succ] at *
    rw [List.getElem?_append_right (by omega), h14, show (i + 1) * 14 + j - 14 = i * 14 + j by omega]
    exact ih
/-- v is a slice of records that the call owns. -/
def OwnR (B : Nat) (w : World) (v : Value) (l : List Rec) : Prop := w.ownsRow B 61 14 v l.length (recsC l)
theorem OwnR.nil (B : Nat) (w : World) : OwnR B w (.slice none 0 0) [] := World.ownsRow_nil w B _ 14
theorem OwnR.recs {B : Nat} {w : World} {v : Value} {l : List Rec} (h : OwnR B w v l) (hwf : ∀ r ∈ l, r.wf) : ∃ a cap, v = .slice a l.length cap ∧ IsRecs w a l ∧ l.length ≤ cap := by
  rcases h.2 with ⟨rfl, h0⟩ | ⟨g, cap, cur, rfl, hbg, hg, hnc, hcm, hcs, htake⟩
  · have : l = [] := List.eq_nil_of_length_eq_zero h0
    subst this
    exact ⟨none, 0, rfl, fun i hi => by simp at hi, Nat.le_refl _⟩
  · refine ⟨_, cap, rfl, fun i hi => ⟨g, 0, rfl, (Array.getElem?_eq_some_iff.1 hg).1, fun j hj => ?_, hwf _ (List.getElem_mem hi)⟩, hnc⟩
    rw [Nat.zero_add, cell_of_row w g (i * 14 + j) cur _ _ hg, ← recsC_at l i hi j hj, ← htake]
    rw [List.getElem?_take_of_lt (by omega), Array.getElem?_toList]
theorem OwnR.block {B : Nat} {w : World} {v : Value} {l : List Rec} (h : OwnR B w v l) : ∀ k, v.ownBlock = some k → B ≤ k ∧ k < w.heap.size := by
  intro k hk
  rcases h.2 with ⟨rfl, h0⟩ | ⟨g, cap, cur, rfl, hbg, hg, _⟩
  · simp [Value.ownBlock] at hk
  · simp [Value.ownBlock] at hk
    subst hk
    exact ⟨hbg, (Array.getElem?_eq_some_iff.1 hg).1⟩
theorem OwnR.bel {B : Nat} {w w' : World} {v : Value} {l : List Rec} (h : OwnR B w v l) (hb : Below w.heap.size w w') : OwnR B w' v l := by
  refine ⟨h.1, ?_⟩
  rcases h.2 with h2 | ⟨g, cap, cur, hv, hbg, hg, hr⟩
  · exact .inl h2
  · exact .inr ⟨g, cap, cur, hv, hbg, by rw [hb.block g (Array.getElem?_eq_some_iff.1 hg).1]; exact hg, hr⟩
theorem OwnR.alloc {B : Nat} {w : World} {v : Value} {l : List Rec} (h : OwnR B w v l) (o : Obj) : OwnR B (w.alloc o) v l := h.bel ((Below.refl _ _).alloc (Nat.le_refl _) _)
/-- Where only another block is written. -/
theorem OwnR.keep {B : Nat} {w w' : World} {v : Value} {l : List Rec} {b : Nat} (h : OwnR B w v l) (hg : w.grownBy w' (some b)) (hb : b < B) : OwnR B w' v l := by
  refine ⟨h.1, ?_⟩
  rcases h.2 with h2 | ⟨g, cap, cur, hv, hbg, hgg, hr⟩
  · exact .inl h2
  · exact .inr ⟨g, cap, cur, hv, hbg, by rw [hg.block g (Array.getElem?_eq_some_iff.1 hgg).1 (fun e => by cases e; omega)]; exact hgg, hr⟩
theorem below_of_grownR {B : Nat} {w w' : World} {v v' : Value} {l : List Rec} (h : OwnR B w v l) (hB : B ≤ w.heap.size) (hg : Grew w w' v v') : Below B w w' :=
  hg.below hB (fun k hk => (h.block k hk).1)
def recZ : Value := .agg #[.int .i64 0, .int .i64 0, .int .u32 0, .int .i64 0, .int .i64 0, .int .i64 0, .int .u64 0, .int .u32 0, .int .i64 0, .int .u64 0, .string ByteArray.empty, .string ByteArray.empty, .int .u64 0, .int .u64 0]
theorem info_rec : (Try.prog.info? 61).map (fun i => (i.zero, i.size, i.bytes)) = some (some recZ, 14, 128) := by kernel_rfl
theorem src_rec (w : World) (g : Nat) (C : Array Value) (r : Rec) (hC : r.cells = C) (fr : Nat × Nat) (hg : g = w.heap.size) : Src Try.prog 14 49 (.slice (some ⟨g, 0, none⟩) 1 1) 1 C.toList (w.alloc (.cells C 61 fr)) := by
  subst hg
  refine Src.ofSlice _ Try.underlying49 ⟨w.heap.size, 0, none⟩ 1 1 C.toList (by rw [← hC]; rfl) (fun j u hj => ?_) (fun u hu => ?_)
  · have hadd : (⟨w.heap.size, 0, none⟩ : Addr).add j = ⟨w.heap.size, 0 + j, none⟩ := by unfold Addr.add; split <;> simp_all
    rw [hadd, cell_of_row _ w.heap.size (0 + j) C _ fr (heap_alloc_new w _), Nat.zero_add]
    simpa using hj
  · subst hC
    simp only [Rec.cells, List.mem_cons, List.not_mem_nil, or_false] at hu
    rcases hu with h | h | h | h | h | h | h | h | h | h | h | h | h | h <;> subst h <;> rfl
theorem run_append_rec (w : World) (B : Nat) (ty : TypeId) (v : Value) (l : List Rec) (h : OwnR B w v l) (x : Value) (r : Rec) (hs : Src Try.prog 14 49 x 1 r.cells.toList w) (hB : B ≤ w.heap.size) (hsz : l.length ≤ 1000000000) :
    ∃ v' w', (Builtin.append_ #[49, 49] ty #[v, x]).run Try.prog w = .ok v' w' ∧ OwnR B w' v' (l ++ [r]) ∧ Grew w w' v v' := by
  have hinf := info_rec
  cases hi : Try.prog.info? 61 with
  | none => rw [hi] at hinf; cases hinf
  | some i =>
    rw [hi] at hinf
    simp only [Option.map_some, Option.some.injEq, Prod.mk.injEq] at hinf
    obtain ⟨hz, h1, h2⟩ := hinf
    have hown : w.ownsRow B 61 i.size v l.length (recsC l) := by rw [h1]; exact h
    have hsrc : Src Try.prog i.size 49 x 1 r.cells.toList w := by rw [h1]; exact hs
    obtain ⟨v', w', hr, ho, hg⟩ := run_append_own_src w B 49 49 ty 61 i _ Try.underlying49 hi hz (by rw [h1]; rfl) v l.length _ hown x 1 _ hsrc (by unfold maxLen; omega) (by rw [h2]; omega) hB
    refine ⟨v', w', hr, ?_, hg⟩
    have hl : recsC (l ++ [r]) = recsC l ++ r.cells.toList := by simp [recsC]
    unfold OwnR
    rw [hl, List.length_append]
    rw [h1] at ho
    exact ho
theorem wpList_append_rec {ops : Array Oper} {rest : List Oper} {o : Oper} {a : Act} {w : World} {Q : Exit → Act → World → Prop} (hgd : o.guard = none) (s x : Operand)
    (ho : o.op = .call { callee := .builtin .append, args := #[s, x], argTypes := #[49, 49] }) (B : Nat) (v : Value) (l : List Rec) (hs : a.eval s = v) (hown : OwnR B w v l)
    (y : Value) (r : Rec) (hx : a.eval x = y) (hsrc : Src Try.prog 14 49 y 1 r.cells.toList w) (hB : B ≤ w.heap.size) (hsz : l.length ≤ 1000000000)
    (h : ∀ v' w', OwnR B w' v' (l ++ [r]) → Grew w w' v v' → wpList Try.prog ops Q rest (a.put o.dst v') w') : wpList Try.prog ops Q (o :: rest) a w :=
  wpList_plain hgd fun _ hK => by
    obtain ⟨v', w', hr, h2, h3⟩ := run_append_rec w B o.type v l hown y r hsrc hB hsz
    unfold Oper.wp execOp
    simp only [ho, resolve, invoke, builtin, Sem.run_bind, Sem.run_pure, Result.andThen_ok, List.map_toArray, List.map_cons, List.map_nil, hs, hx, hr, Oper.upon_value]
    exact hK _ _ (h v' w' h2 h3)
end Go.Proofs.Ytiihemmonncioaa
