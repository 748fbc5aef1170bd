/- Rows of int64 that a call owns: append. Over this seat's program. -/
import Derived.Test.YtkfpolhglndbkaaBytes
namespace Go.Proofs.Ytkfpolhglndbkaa
open Go.RowKit

/-- The numbers of a slice of int64, as they lie. -/
def IsInts (w : World) (a : Option Addr) (l : List Int) : Prop :=
  ∀ i (h : i < l.length), ∃ b off, a = some ⟨b, off, none⟩ ∧ b < w.heap.size ∧ w.cell? ⟨b, off + i, none⟩ = some (.int .i64 l[i])
theorem IsInts.bel {w w' : World} {a : Option Addr} {l : List Int} (h : IsInts w a l) (hb : Below w.heap.size w w') : IsInts w' a l := by
  intro i hi
  obtain ⟨b, off, h1, h2, h3⟩ := h i hi
  exact ⟨b, off, h1, Nat.lt_of_lt_of_le h2 hb.size, by rw [← h3]; exact hb.cell (p := ⟨b, off + i, none⟩) (show b < w.heap.size by omega)⟩
theorem IsInts.nil (w : World) (a : Option Addr) : IsInts w a [] := fun i h => by simp at h
theorem IsInts.alloc {w : World} {a : Option Addr} {l : List Int} (h : IsInts w a l) (o : Obj) : IsInts (w.alloc o) a l := h.bel ((Below.refl _ _).alloc (Nat.le_refl _) _)
theorem IsRow.ints {w : World} {a : Option Addr} {len cap : Nat} {zs : List Int} (h : IsRow .i64 w a len cap zs) : ∃ l : List Int, l.length = len ∧ len ≤ cap ∧ cap ≤ maxLen ∧ IsInts w a l ∧ ∀ n ∈ l, (Lit.int .i64 n).wf = true := by
  rcases h with ⟨rfl, rfl, rfl, rfl⟩ | ⟨x, rfl, h1, h2, h3, h4, h5⟩
  · exact ⟨[], rfl, Nat.le_refl _, Nat.zero_le _, IsInts.nil _ _, fun n hn => (by cases hn)⟩
  · refine ⟨zs.take len, by simp; omega, h1, h2, fun i hi => ?_, fun n hn => h5 n (List.mem_of_mem_take hn)⟩
    have hi' : i < len := by simp at hi; omega
    obtain ⟨b, off, sp⟩ := x
    have h0 := World.cell?_spot (h4 0 (by omega))
    simp [Addr.add] at h0
    subst h0
    have hc := h4 i (by omega)
    have hadd : (⟨b, off, none⟩ : Addr).add i = ⟨b, off + i, none⟩ := by unfold Addr.add; split <;> simp_all
    rw [hadd] at hc
    have hlt : i < zs.length := by omega
    refine ⟨b, off, rfl, heap_lt_of_cell hc, ?_⟩
    rw [hc]
    simp [List.getD, List.getElem?_eq_getElem hlt]
def i64V (b : Int) : Value := .int .i64 b
def OwnI (B : Nat) (w : World) (v : Value) (l : List Int) : Prop := w.ownsRow B 2 1 v l.length (l.map i64V)
theorem OwnI.out {B : Nat} {w : World} {v : Value} {l : List Int} (h : OwnI B w v l) : ∃ a cap, v = .slice a l.length cap ∧ IsInts w a l ∧ l.length ≤ cap ∧ cap ≤ maxLen := by
  rcases h.2 with ⟨rfl, h0⟩ | ⟨g, cap, cur, rfl, hbg, hg, hnc, hcm, hcs, htake⟩
  · have : l = [] := List.eq_nil_of_length_eq_zero h0
    subst this
    exact ⟨none, 0, rfl, IsInts.nil _ _, Nat.le_refl _, Nat.zero_le _⟩
  · refine ⟨_, cap, rfl, fun i hi => ⟨g, 0, rfl, (Array.getElem?_eq_some_iff.1 hg).1, ?_⟩, hnc, hcm⟩
    rw [cell_of_row w g (0 + i) cur _ _ hg, Nat.zero_add]
    have h1 : (cur.toList.take (l.length * 1))[i]? = some (i64V l[i]) := by rw [htake]; simp [hi]
    rw [List.getElem?_take_of_lt (by omega)] at h1
    simpa [i64V] using h1
theorem OwnI.nil (B : Nat) (w : World) : OwnI B w (.slice none 0 0) [] := World.ownsRow_nil w B _ 1
/-- '[]int64{}'. -/
theorem OwnI.empty (B : Nat) (w : World) (hB : B ≤ w.heap.size) : OwnI B (w.alloc (.cells #[] 2)) (.slice (some ⟨w.heap.size, 0, none⟩) 0 0) [] :=
  ⟨rfl, .inr ⟨w.heap.size, 0, #[], rfl, hB, heap_alloc_new w _, Nat.le_refl _, Nat.zero_le _, rfl, rfl⟩⟩
theorem OwnI.block {B : Nat} {w : World} {v : Value} {l : List Int} (h : OwnI B w v l) : ∀ k, v.ownBlock = some k → B ≤ k ∧ k < w.heap.size := by
  intro k hk
  rcases h.2 with ⟨rfl, h0⟩ | ⟨g, cap, cur, rfl, hbg, hg, _⟩
  · simp [Value.ownBlock] at hk
  · simp [Value.ownBlock] at hk
    subst hk
    exact ⟨hbg, (Array.getElem?_eq_some_iff.1 hg).1⟩
theorem OwnI.bel {B : Nat} {w w' : World} {v : Value} {l : List Int} (h : OwnI B w v l) (hb : Below w.heap.size w w') : OwnI B w' v l := by
  refine ⟨h.1, ?_⟩
  rcases h.2 with h2 | ⟨g, cap, cur, hv, hbg, hg, hr⟩
  · exact .inl h2
  · exact .inr ⟨g, cap, cur, hv, hbg, by rw [hb.block g (Array.getElem?_eq_some_iff.1 hg).1]; exact hg, hr⟩
theorem OwnI.get {B : Nat} {w : World} {v : Value} {l : List Int} (h : OwnI B w v l) (hne : 0 < l.length) : ∃ g cap, v = .slice (some ⟨g, 0, none⟩) l.length cap ∧ B ≤ g ∧ g < w.heap.size ∧ l.length ≤ cap ∧ cap ≤ maxLen ∧
    (∀ i (hi : i < l.length), w.cell? ⟨g, i, none⟩ = some (.int .i64 l[i])) ∧ (∀ i, w.frozen? ⟨g, i, none⟩ = false) ∧ (∀ i (y : Int), i < l.length → OwnI B (w.setCell ⟨g, i, none⟩ (.int .i64 y)) v (l.set i y)) := by
  obtain ⟨a, cap', hv, hb, _⟩ := h.out
  rcases h.2 with ⟨rfl, h0⟩ | ⟨g, cap, cur, rfl, hbg, hg, hnc, hcm, hcs, htake⟩
  · omega
  · refine ⟨g, cap, rfl, hbg, (Array.getElem?_eq_some_iff.1 hg).1, hnc, hcm, fun i hi => ?_, fun i => frozen_of_row w g i cur _ hg, fun i y hi => ⟨by simp, .inr ⟨g, cap, cur.setIfInBounds i (.int .i64 y), by simp, hbg, heap_setCell_same w g i cur _ _ hg, by simpa using hnc, hcm, by simpa using hcs, ?_⟩⟩⟩
    · obtain ⟨b, off, h1, _, h3⟩ := hb i hi
      simp only [Value.slice.injEq] at hv
      rw [h1] at hv
      simp at hv
      obtain ⟨⟨rfl, rfl⟩, _⟩ := hv
      simpa using h3
    · apply List.ext_getElem?
      intro k
      have hk := congrArg (·[k]?) htake
      simp only [List.getElem?_take, List.getElem?_map, List.length_set, Nat.mul_one, Array.toList_setIfInBounds, List.getElem?_set] at hk ⊢
      by_cases hkl : k < l.length
      · rw [if_pos hkl] at hk ⊢
        by_cases hik : i = k
        · subst hik
          have hcu : i < cur.size := by rw [hcs]; omega
          simp [hcu, hi, i64V]
        · rw [if_neg hik, if_neg hik]; exact hk
      · rw [if_neg hkl] at hk ⊢
        have : ¬ (i = k) := by omega
        rw [if_neg this]
        rw [hk]
theorem below_of_grownI {B : Nat} {w w' : World} {v v' : Value} {l : List Int} (h : OwnI B w v l) (hB : B ≤ w.heap.size) (hg : Grew w w' v v') : Below B w w' :=
  hg.below hB (fun k hk => (h.block k hk).1)
theorem info_i64 : (Try.prog.info? 2).map (fun i => (i.zero, i.size, i.bytes)) = some (some (.int .i64 0), 1, 8) := by kernel_rfl
def SrcI (x : Value) (w : World) (l : List Int) : Prop := Src Try.prog 1 50 x l.length (l.map i64V) w
theorem SrcI.ofInts {w : World} {a : Option Addr} {l : List Int} (cap : Nat) (h : IsInts w a l) : SrcI (.slice a l.length cap) w l := by
  cases a with
  | none =>
    have : l = [] := by
      cases l with
      | nil => rfl
      | cons x l => obtain ⟨b, off, h1, _⟩ := h 0 (by simp); cases h1
    subst this
    exact Src.ofNil w (size := 1) Try.underlying50 cap
  | some a =>
    cases l with
    | nil => exact Src.ofSlice w Try.underlying50 a 0 cap [] rfl (fun j u hj => by simp at hj) (fun u hu => by cases hu)
    | cons x l =>
      obtain ⟨b, off, h1, _⟩ := h 0 (by simp)
      cases h1
      refine Src.ofSlice w Try.underlying50 ⟨b, off, none⟩ _ cap _ (by simp) (fun j u hj => ?_) (fun u hu => ?_)
      · have hlt : j < (x :: l).length := by
          have := (List.getElem?_eq_some_iff.1 hj).1; simpa using this
        obtain ⟨b', off', h2, _, h3⟩ := h j hlt
        cases h2
        have hadd : (⟨b, off, none⟩ : Addr).add j = ⟨b, off + j, none⟩ := by unfold Addr.add; split <;> simp_all
        rw [hadd, h3]
        rw [List.getElem?_map, List.getElem?_eq_getElem hlt] at hj
        simp [i64V] at hj ⊢
        exact hj
      · obtain ⟨y, _, rfl⟩ := List.mem_map.1 hu; rfl
theorem run_append_ints (w : World) (B : Nat) (ty : TypeId) (v : Value) (l : List Int) (h : OwnI B w v l) (x : Value) (news : List Int) (hs : SrcI x w news) (hB : B ≤ w.heap.size) (hsz : l.length + news.length ≤ 1000000000000) :
    ∃ v' w', (Builtin.append_ #[50, 50] ty #[v, x]).run Try.prog w = .ok v' w' ∧ OwnI B w' v' (l ++ news) ∧ Grew w w' v v' := by
  have hinf := info_i64
  cases hi : Try.prog.info? 2 with
  | none => rw [hi] at hinf; cases hinf
  | some i =>
    rw [hi] at hinf
    simp only [Option.map_some, Option.some.injEq, Prod.mk.injEq] at hinf
    obtain ⟨hz, h1, h2⟩ := hinf
    have hown : w.ownsRow B 2 i.size v l.length (l.map i64V) := by rw [h1]; exact h
    have hsrc : Src Try.prog i.size 50 x news.length (news.map i64V) w := by rw [h1]; exact hs
    obtain ⟨v', w', hr, ho, hg⟩ := run_append_own_src w B 50 50 ty 2 i _ Try.underlying50 hi hz (by rw [h1]; rfl) v l.length _ hown x news.length _ hsrc (by unfold maxLen; omega) (by rw [h2]; omega) hB
    refine ⟨v', w', hr, ?_, hg⟩
    rw [h1, ← List.map_append, ← List.length_append] at ho
    exact ho
/-- .. as an operation of a region. -/
theorem wpList_append_ints {ops : Array Oper} {rest : List Oper} {o : Oper} {a : Act} {w : World} {Q : Exit → Act → World → Prop} (hgd : o.guard = none) (s x : Operand)
    (ho : o.op = .call { callee := .builtin .append, args := #[s, x], argTypes := #[50, 50] }) (B : Nat) (v : Value) (l : List Int) (hs : a.eval s = v) (hown : OwnI B w v l)
    (y : Value) (news : List Int) (hx : a.eval x = y) (hsrc : SrcI y w news) (hB : B ≤ w.heap.size) (hsz : l.length + news.length ≤ 1000000000000)
    (h : ∀ v' w', OwnI B w' v' (l ++ news) → Grew w w' v v' → wpList Try.prog ops Q rest (a.put o.dst v') w') : wpList Try.prog ops Q (o :: rest) a w :=
  wpList_plain hgd fun _ hK => by
    obtain ⟨v', w', hr, h2, h3⟩ := run_append_ints w B o.type v l hown y news hsrc hB hsz
    unfold Oper.wp execOp
    simp only [ho, resolve, invoke, builtin, Sem.run_bind, Sem.run_pure, Result.andThen_ok, List.map_toArray, List.map_cons, List.map_nil, hs, hx, hr, Oper.upon_value]
    exact hK _ _ (h v' w' h2 h3)
theorem isInts_new (w : World) (C : Array Value) (e : TypeId) (fr : Nat × Nat) (l : List Int) (hC : C = (l.map i64V).toArray) : IsInts (w.alloc (.cells C e fr)) (some ⟨w.heap.size, 0, none⟩) l := by
  subst hC
  intro i hi
  refine ⟨w.heap.size, 0, rfl, by simp, ?_⟩
  rw [cell_of_row _ w.heap.size (0 + i) _ e fr (heap_alloc_new w _), Nat.zero_add]
  simp [i64V, hi]
theorem srcI_one (w : World) (x : Int) : SrcI (.slice (some ⟨w.heap.size, 0, none⟩) 1 1) (w.alloc (.cells #[.int .i64 x] 2)) [x] :=
  SrcI.ofInts (l := [x]) 1 (isInts_new w _ _ _ [x] rfl)
theorem OwnI.alloc {B : Nat} {w : World} {v : Value} {l : List Int} (h : OwnI B w v l) (o : Obj) : OwnI B (w.alloc o) v l := h.bel ((Below.refl _ _).alloc (Nat.le_refl _) _)
/-- The numbers of another row, behind a growth. -/
theorem IsInts.grew {w w' : World} {v v' : Value} {a : Option Addr} {l : List Int} (h : IsInts w a l) (hg : Grew w w' v v') (hne : ∀ b off, a = some ⟨b, off, none⟩ → v.ownBlock ≠ some b) : IsInts w' a l := by
  intro i hi
  obtain ⟨b, off, h1, h2, h3⟩ := h i hi
  refine ⟨b, off, h1, Nat.lt_of_lt_of_le h2 hg.1.size, ?_⟩
  rw [← h3]
  exact World.cell?_of_block (w := w) (hg.1.block b h2 (fun e => hne b off h1 e.symm))
end Go.Proofs.Ytkfpolhglndbkaa
