/- A slice of slices of records that came in; rows of int that a call owns. -/
import Derived.Test.YtiihemmonncioaaRecOpen
import Derived.Test.YtiihemmonncioaaBytes
namespace Go.Proofs.Ytiihemmonncioaa
open Go.RowKit Go.ChangeShapes Go.WideShapes
/-- The slices of records of a slice, as they lie. -/
def IsRecss (w : World) (a : Option Addr) (ls : List (List Rec)) : Prop := ∀ i (h : i < ls.length), ∃ b off au cu, a = some ⟨b, off, none⟩ ∧ b < w.heap.size ∧ w.cell? ⟨b, off + i, none⟩ = some (.slice au ls[i].length cu) ∧ IsRecs w au ls[i] ∧ ls[i].length ≤ maxLen
theorem IsRecss.bel {w w' : World} {a : Option Addr} {ls : List (List Rec)} (h : IsRecss w a ls) (hb : Below w.heap.size w w') : IsRecss w' a ls := by
  intro i hi
  obtain ⟨b, off, au, cu, h1, h2, h3, h4, h5⟩ := h i hi
  exact ⟨b, off, au, cu, h1, Nat.lt_of_lt_of_le h2 hb.size, by rw [← h3]; exact hb.cell (p := ⟨b, off + i, none⟩) h2, h4.bel hb, h5⟩
theorem bulk_one {H : Type} (d : DataW H) : 1 ≤ Rows.uptoBulk d := by
  cases d with
  | lit l => cases l <;> simp [Rows.uptoBulk]
  | nil => simp [Rows.uptoBulk]
  | ptr d => simp [Rows.uptoBulk]
  | slice elems spare => simp [Rows.uptoBulk]
  | agg parts => simp [Rows.uptoBulk]
  | iface t d => simp [Rows.uptoBulk]
  | map entries => simp [Rows.uptoBulk]
  | held h => simp [Rows.uptoBulk]
theorem bulk_part {H : Type} {d : DataW H} {l : List (DataW H)} (h : d ∈ l) : Rows.uptoBulk d ≤ Rows.uptoBulkAll l := by
  induction l with
  | nil => cases h
  | cons x r ih =>
    simp only [Rows.uptoBulkAll]
    cases List.mem_cons.1 h with
    | inl e => subst e; omega
    | inr e => have := ih e; omega
theorem bulk_len {H : Type} (l : List (DataW H)) : l.length ≤ Rows.uptoBulkAll l := by
  induction l with
  | nil => simp [Rows.uptoBulkAll]
  | cons x r ih => have := bulk_one x; simp only [Rows.uptoBulkAll, List.length_cons]; omega
theorem bulk_slice {H : Type} (elems spare : List (DataW H)) : Rows.uptoBulkAll elems ≤ Rows.uptoBulk (.slice elems spare) := by
  simp only [Rows.uptoBulk]
  omega
section
variable {H : Type} {enc : TypeId × Value → H} {w : World} {base : Nat} {spare : Nat → Bool} {held : Bool}
theorem recs_cells : Try.prog.cellsOf 49 = 1 := by kernel_rfl
theorem open_inner {n : Nat} {cs : List Value} {y : DataW H × List MemPlace} (h : DataW.trod enc Try.prog w base spare held n 49 cs = some y) : ∃ (au : Option Addr) (cu : Nat) (z : List Rec), cs = [.slice au z.length cu] ∧ IsRecs w au z ∧ z.length ≤ maxLen ∧ z.length ≤ Rows.uptoBulk y.1 := by
  have key : ∀ (au : Option Addr) (l c : Nat), cs = [.slice au l c] → l ≤ Rows.uptoBulk y.1 → ∃ (au : Option Addr) (cu : Nat) (z : List Rec), cs = [.slice au z.length cu] ∧ IsRecs w au z ∧ z.length ≤ maxLen ∧ z.length ≤ Rows.uptoBulk y.1 := by
    intro au l c e hb
    obtain ⟨z, hz, hr, hm⟩ := open_recs (a := au) (len := l) (cap := c) (d := y.1) (p := y.2) (w := w) (base := base) (spare := spare) (held := held) (enc := enc) ⟨n, by
      have : (Value.slice au l c).cells.toList = [.slice au l c] := by simp [Value.cells]
      rw [this, ← e]
      exact h⟩
    exact ⟨au, c, z, by rw [e, hz], hr, by omega, by omega⟩
  rcases DataW.trod_slice Try.underlying49 h with ⟨hcs, _⟩ | ⟨x, l, c, elems, rest, m, _, hcs, hy, _, _, _, hlen, _⟩
  · exact key none 0 0 hcs (Nat.zero_le _)
  · refine key (some x) l c hcs ?_
    rw [hy]
    have h1 := bulk_len (elems.map (·.1))
    have h2 := bulk_slice (elems.map (·.1)) (rest.map (·.1))
    rw [List.length_map] at h1
    simp only
    omega
set_option maxRecDepth 100000 in
set_option maxHeartbeats 1000000 in
theorem open_recss {a : Option Addr} {len cap : Nat} {d : DataW H} {p : List MemPlace} (h : DataW.Trod enc Try.prog w base spare held 46 (.slice a len cap) d p) : ∃ z : List (List Rec), z.length = len ∧ IsRecss w a z ∧ len ≤ maxLen ∧ ∀ x ∈ z, x.length ≤ Rows.uptoBulk d := by
  obtain ⟨fuel, hf⟩ := h
  rcases DataW.trod_slice Try.underlying46 hf with ⟨hcs, _⟩ | ⟨x, l, c, elems, rest, n, _, hcs, hd, hb, hl, hm, hlen, hel, _⟩
  · simp [Value.cells] at hcs
    obtain ⟨rfl, rfl, rfl⟩ := hcs
    exact ⟨[], rfl, fun i hi => (by simp at hi), Nat.zero_le _, fun x hx => by cases hx⟩
  · simp [Value.cells] at hcs
    obtain ⟨rfl, rfl, rfl⟩ := hcs
    have hlm : len ≤ maxLen := by omega
    by_cases hz : len = 0
    · subst hz
      exact ⟨[], rfl, fun i hi => (by simp at hi), Nat.zero_le _, fun x hx => by cases hx⟩
    have hbulk : ∀ y ∈ elems, Rows.uptoBulk y.1 ≤ Rows.uptoBulk d := fun y hy => by
      have hde : d = .slice (elems.map (·.1)) (rest.map (·.1)) := congrArg Prod.fst hd
      rw [hde]
      exact Nat.le_trans (bulk_part (List.mem_map.2 ⟨y, hy, rfl⟩)) (bulk_slice _ _)
    obtain ⟨b, off, sp⟩ := x
    have hsp : sp = none := by
      have he := hel 0 (by omega)
      rw [List.getElem?_eq_getElem (by omega), Option.bind_eq_some_iff, recs_cells] at he
      obtain ⟨cs, hcs, ht⟩ := he
      obtain ⟨_, _, hcell⟩ := World.cells?_some hcs
      obtain ⟨au, cu, z, e, _⟩ := open_inner ht
      have h0 := World.cell?_spot ((hcell 0 (by omega)).trans (by rw [e]; rfl))
      simpa [Addr.add] using h0
    subst hsp
    have each : ∀ i, i < len → ∃ z : List Rec, ∃ b' off' au cu, some (⟨b, off, none⟩ : Addr) = some ⟨b', off', none⟩ ∧ b' < w.heap.size ∧ w.cell? ⟨b', off' + i, none⟩ = some (.slice au z.length cu) ∧ (IsRecs w au z ∧ z.length ≤ maxLen) ∧ z.length ≤ Rows.uptoBulk d := by
      intro i hi
      have he := hel i hi
      rw [List.getElem?_eq_getElem (by omega), Option.bind_eq_some_iff, recs_cells] at he
      obtain ⟨cs, hcs, ht⟩ := he
      obtain ⟨_, _, hcell⟩ := World.cells?_some hcs
      obtain ⟨au, cu, z, e, hr, hzm, hzb⟩ := open_inner ht
      have hzd := Nat.le_trans hzb (hbulk _ (List.getElem_mem (by omega)))
      have hat := (hcell 0 (by omega)).trans (show cs[0]? = some (.slice au z.length cu) by rw [e]; rfl)
      rw [radd_none, radd_none, Nat.add_zero, Nat.mul_one] at hat
      exact ⟨z, b, off, au, cu, rfl, heap_lt_of_cell hat, hat, ⟨hr, hzm⟩, hzd⟩
    have each' : ∀ i, ∃ z : List Rec, i < len → ∃ b' off' au cu, some (⟨b, off, none⟩ : Addr) = some ⟨b', off', none⟩ ∧ b' < w.heap.size ∧ w.cell? ⟨b', off' + i, none⟩ = some (.slice au z.length cu) ∧ (IsRecs w au z ∧ z.length ≤ maxLen) ∧ z.length ≤ Rows.uptoBulk d := by
      intro i
      by_cases hi : i < len
      · obtain ⟨q, hq⟩ := each i hi
        exact ⟨q, fun _ => hq⟩
      · exact ⟨[], fun h => absurd h hi⟩
    refine ⟨(List.range len).map fun i => Classical.choose (each' i), by simp, fun i hi => ?_, hlm, fun x hx => ?_⟩
    · have hi' : i < len := by simpa using hi
      obtain ⟨b', off', au, cu, e1, e2, e3, ⟨e4, e5⟩, _⟩ := Classical.choose_spec (each' i) hi'
      refine ⟨b', off', au, cu, e1, e2, ?_, ?_, ?_⟩
      · simpa using e3
      · simpa using e4
      · simpa using e5
    · obtain ⟨i, hi, rfl⟩ := List.mem_map.1 hx
      have hi' : i < len := by simpa using hi
      obtain ⟨_, _, _, _, _, _, _, _, e⟩ := Classical.choose_spec (each' i) hi'
      exact e
end
end Go.Proofs.Ytiihemmonncioaa
namespace Go.Proofs.Ytiihemmonncioaa
open Go.RowKit Go.ChangeShapes Go.WideShapes
def In_TornCuts_0 (w : World) (a : Option Addr) (len _cap : Nat) (z : List (List Rec)) : Prop := z.length = len ∧ IsRecss w a z ∧ ∀ x ∈ z, x.length ≤ 1048576
abbrev In_TornCuts_0.T := List (List Rec)
theorem open_TornCuts_0 {H : Type} {enc : TypeId × Value → H} {w : World} {base : Nat} {spare : Nat → Bool} {held : Bool} {a : Option Addr} {len cap : Nat} {d : DataW H} {p : List MemPlace} (h : DataW.Trod enc Try.prog w base spare held 46 (.slice a len cap) d p) (hb : Rows.uptoBulk d ≤ 1048576) : ∃ z, In_TornCuts_0 w a len cap z := by
  obtain ⟨z, h1, h2, _, h4⟩ := open_recss h
  exact ⟨z, h1, h2, fun x hx => Nat.le_trans (h4 x hx) hb⟩
end Go.Proofs.Ytiihemmonncioaa
namespace Go.Proofs.Ytiihemmonncioaa
open Go.RowKit

/-- The numbers of a slice of int64, as they lie. -/
def IsInts (w : World) (a : Option Addr) (l : List Int) : Prop :=
  ∀ i (h : i < l.length), ∃ b off, a = some ⟨b, off, none⟩ ∧ b < w.heap.size ∧ w.cell? ⟨b, off + i, none⟩ = some (.int .i64 l[i])
theorem IsInts.bel {w w' : World} {a : Option Addr} {l : List Int} (h : IsInts w a l) (hb : Below w.heap.size w w') : IsInts w' a l := by
  intro i hi
  obtain ⟨b, off, h1, h2, h3⟩ := h i hi
  exact ⟨b, off, h1, Nat.lt_of_lt_of_le h2 hb.size, by rw [← h3]; exact hb.cell (p := ⟨b, off + i, none⟩) (show b < w.heap.size by omega)⟩
theorem IsInts.nil (w : World) (a : Option Addr) : IsInts w a [] := fun i h => by simp at h
theorem IsInts.alloc {w : World} {a : Option Addr} {l : List Int} (h : IsInts w a l) (o : Obj) : IsInts (w.alloc o) a l := h.bel ((Below.refl _ _).alloc (Nat.le_refl _) _)
theorem IsRow.ints {w : World} {a : Option Addr} {len cap : Nat} {zs : List Int} (h : IsRow .i64 w a len cap zs) : ∃ l : List Int, l.length = len ∧ len ≤ cap ∧ cap ≤ maxLen ∧ IsInts w a l ∧ ∀ n ∈ l, (Lit.int .i64 n).wf = true := by
  rcases h with ⟨rfl, rfl, rfl, rfl⟩ | ⟨x, rfl, h1, h2, h3, h4, h5⟩
  · exact ⟨[], rfl, Nat.le_refl _, Nat.zero_le _, IsInts.nil _ _, fun n hn => (by cases hn)⟩
  · refine ⟨zs.take len, by simp; omega, h1, h2, fun i hi => ?_, fun n hn => h5 n (List.mem_of_mem_take hn)⟩
    have hi' : i < len := by simp at hi; omega
    obtain ⟨b, off, sp⟩ := x
    have h0 := World.cell?_spot (h4 0 (by omega))
    simp [Addr.add] at h0
    subst h0
    have hc := h4 i (by omega)
    have hadd : (⟨b, off, none⟩ : Addr).add i = ⟨b, off + i, none⟩ := by unfold Addr.add; split <;> simp_all
    rw [hadd] at hc
    have hlt : i < zs.length := by omega
    refine ⟨b, off, rfl, heap_lt_of_cell hc, ?_⟩
    rw [hc]
    simp [List.getD, List.getElem?_eq_getElem hlt]
def i64V (b : Int) : Value := .int .i64 b
def OwnI (B : Nat) (w : World) (v : Value) (l : List Int) : Prop := w.ownsRow B 3 1 v l.length (l.map i64V)
theorem OwnI.out {B : Nat} {w : World} {v : Value} {l : List Int} (h : OwnI B w v l) : ∃ a cap, v = .slice a l.length cap ∧ IsInts w a l ∧ l.length ≤ cap ∧ cap ≤ maxLen := by
  rcases h.2 with ⟨rfl, h0⟩ | ⟨g, cap, cur, rfl, hbg, hg, hnc, hcm, hcs, htake⟩
  · have : l = [] := List.eq_nil_of_length_eq_zero h0
    subst this
    exact ⟨none, 0, rfl, IsInts.nil _ _, Nat.le_refl _, Nat.zero_le _⟩
  · refine ⟨_, cap, rfl, fun i hi => ⟨g, 0, rfl, (Array.getElem?_eq_some_iff.1 hg).1, ?_⟩, hnc, hcm⟩
    rw [cell_of_row w g (0 + i) cur _ _ hg, Nat.zero_add]
    have h1 : (cur.toList.take (l.length * 1))[i]? = some (i64V l[i]) := by rw [htake]; simp [hi]
    rw [List.getElem?_take_of_lt (by omega)] at h1
    simpa [i64V] using h1
theorem OwnI.nil (B : Nat) (w : World) : OwnI B w (.slice none 0 0) [] := World.ownsRow_nil w B _ 1
/-- '[]int64{}'. -/
theorem OwnI.empty (B : Nat) (w : World) (hB : B ≤ w.heap.size) : OwnI B (w.alloc (.cells #[] 3)) (.slice (some ⟨w.heap.size, 0, none⟩) 0 0) [] :=
  ⟨rfl, .inr ⟨w.heap.size, 0, #[], rfl, hB, heap_alloc_new w _, Nat.le_refl _, Nat.zero_le _, rfl, rfl⟩⟩
theorem OwnI.block {B : Nat} {w : World} {v : Value} {l : List Int} (h : OwnI B w v l) : ∀ k, v.ownBlock = some k → B ≤ k ∧ k < w.heap.size := by
  intro k hk
  rcases h.2 with ⟨rfl, h0⟩ | ⟨g, cap, cur, rfl, hbg, hg, _⟩
  · simp [Value.ownBlock] at hk
  · simp [Value.ownBlock] at hk
    subst hk
    exact ⟨hbg, (Array.getElem?_eq_some_iff.1 hg).1⟩
theorem OwnI.bel {B : Nat} {w w' : World} {v : Value} {l : List Int} (h : OwnI B w v l) (hb : Below w.heap.size w w') : OwnI B w' v l := by
  refine ⟨h.1, ?_⟩
  rcases h.2 with h2 | ⟨g, cap, cur, hv, hbg, hg, hr⟩
  · exact .inl h2
  · exact .inr ⟨g, cap, cur, hv, hbg, by rw [hb.block g (Array.getElem?_eq_some_iff.1 hg).1]; exact hg, hr⟩
theorem OwnI.get {B : Nat} {w : World} {v : Value} {l : List Int} (h : OwnI B w v l) (hne : 0 < l.length) : ∃ g cap, v = .slice (some ⟨g, 0, none⟩) l.length cap ∧ B ≤ g ∧ g < w.heap.size ∧ l.length ≤ cap ∧ cap ≤ maxLen ∧
    (∀ i (hi : i < l.length), w.cell? ⟨g, i, none⟩ = some (.int .i64 l[i])) ∧ (∀ i, w.frozen? ⟨g, i, none⟩ = false) ∧ (∀ i (y : Int), i < l.length → OwnI B (w.setCell ⟨g, i, none⟩ (.int .i64 y)) v (l.set i y)) := by
  obtain ⟨a, cap', hv, hb, _⟩ := h.out
  rcases h.2 with ⟨rfl, h0⟩ | ⟨g, cap, cur, rfl, hbg, hg, hnc, hcm, hcs, htake⟩
  · omega
  · refine ⟨g, cap, rfl, hbg, (Array.getElem?_eq_some_iff.1 hg).1, hnc, hcm, fun i hi => ?_, fun i => frozen_of_row w g i cur _ hg, fun i y hi => ⟨by simp, .inr ⟨g, cap, cur.setIfInBounds i (.int .i64 y), by simp, hbg, heap_setCell_same w g i cur _ _ hg, by simpa using hnc, hcm, by simpa using hcs, ?_⟩⟩⟩
    · obtain ⟨b, off, h1, _, h3⟩ := hb i hi
      simp only [Value.slice.injEq] at hv
      rw [h1] at hv
      simp at hv
      obtain ⟨⟨rfl, rfl⟩, _⟩ := hv
      simpa using h3
    · apply List.ext_getElem?
      intro k
      have hk := congrArg (·[k]?) htake
      simp only [List.getElem?_take, List.getElem?_map, List.length_set, Nat.mul_one, Array.toList_setIfInBounds, List.getElem?_set] at hk ⊢
      by_cases hkl : k < l.length
      · rw [if_pos hkl] at hk ⊢
        by_cases hik : i = k
        · subst hik
          have hcu : i < cur.size := by rw [hcs]; omega
          simp [hcu, hi, i64V]
        · rw [if_neg hik, if_neg hik]; exact hk
      · rw [if_neg hkl] at hk ⊢
        have : ¬ (i = k) := by omega
        rw [if_neg this]
        rw [hk]
theorem below_of_grownI {B : Nat} {w w' : World} {v v' : Value} {l : List Int} (h : OwnI B w v l) (hB : B ≤ w.heap.size) (hg : Grew w w' v v') : Below B w w' :=
  hg.below hB (fun k hk => (h.block k hk).1)
theorem info_i64 : (Try.prog.info? 3).map (fun i => (i.zero, i.size, i.bytes)) = some (some (.int .i64 0), 1, 8) := by kernel_rfl
def SrcI (x : Value) (w : World) (l : List Int) : Prop := Src Try.prog 1 47 x l.length (l.map i64V) w
theorem SrcI.ofInts {w : World} {a : Option Addr} {l : List Int} (cap : Nat) (h : IsInts w a l) : SrcI (.slice a l.length cap) w l := by
  cases a with
  | none =>
    have : l = [] := by
      cases l with
      | nil => rfl
      | cons x l => obtain ⟨b, off, h1, _⟩ := h 0 (by simp); cases h1
    subst this
    exact Src.ofNil w (size := 1) Try.underlying47 cap
  | some a =>
    cases l with
    | nil => exact Src.ofSlice w Try.underlying47 a 0 cap [] rfl (fun j u hj => by simp at hj) (fun u hu => by cases hu)
    | cons x l =>
      obtain ⟨b, off, h1, _⟩ := h 0 (by simp)
      cases h1
      refine Src.ofSlice w Try.underlying47 ⟨b, off, none⟩ _ cap _ (by simp) (fun j u hj => ?_) (fun u hu => ?_)
      · have hlt : j < (x :: l).length := by
          have := (List.getElem?_eq_some_iff.1 hj).1; simpa using this
        obtain ⟨b', off', h2, _, h3⟩ := h j hlt
        cases h2
        have hadd : (⟨b, off, none⟩ : Addr).add j = ⟨b, off + j, none⟩ := by unfold Addr.add; split <;> simp_all
        rw [hadd, h3]
        rw [List.getElem?_map, List.getElem?_eq_getElem hlt] at hj
        simp [i64V] at hj ⊢
        exact hj
      · obtain ⟨y, _, rfl⟩ := List.mem_map.1 hu; rfl
theorem run_append_ints (w : World) (B : Nat) (ty : TypeId) (v : Value) (l : List Int) (h : OwnI B w v l) (x : Value) (news : List Int) (hs : SrcI x w news) (hB : B ≤ w.heap.size) (hsz : l.length + news.length ≤ 1000000000000) :
    ∃ v' w', (Builtin.append_ #[47, 47] ty #[v, x]).run Try.prog w = .ok v' w' ∧ OwnI B w' v' (l ++ news) ∧ Grew w w' v v' := by
  have hinf := info_i64
  cases hi : Try.prog.info? 3 with
  | none => rw [hi] at hinf; cases hinf
  | some i =>
    rw [hi] at hinf
    simp only [Option.map_some, Option.some.injEq, Prod.mk.injEq] at hinf
    obtain ⟨hz, h1, h2⟩ := hinf
    have hown : w.ownsRow B 3 i.size v l.length (l.map i64V) := by rw [h1]; exact h
    have hsrc : Src Try.prog i.size 47 x news.length (news.map i64V) w := by rw [h1]; exact hs
    obtain ⟨v', w', hr, ho, hg⟩ := run_append_own_src w B 47 47 ty 3 i _ Try.underlying47 hi hz (by rw [h1]; rfl) v l.length _ hown x news.length _ hsrc (by unfold maxLen; omega) (by rw [h2]; omega) hB
    refine ⟨v', w', hr, ?_, hg⟩
    rw [h1, ← List.map_append, ← List.length_append] at ho
    exact ho
/-- .. as an operation of a region. -/
theorem wpList_append_ints {ops : Array Oper} {rest : List Oper} {o : Oper} {a : Act} {w : World} {Q : Exit → Act → World → Prop} (hgd : o.guard = none) (s x : Operand)
    (ho : o.op = .call { callee := .builtin .append, args := #[s, x], argTypes := #[47, 47] }) (B : Nat) (v : Value) (l : List Int) (hs : a.eval s = v) (hown : OwnI B w v l)
    (y : Value) (news : List Int) (hx : a.eval x = y) (hsrc : SrcI y w news) (hB : B ≤ w.heap.size) (hsz : l.length + news.length ≤ 1000000000000)
    (h : ∀ v' w', OwnI B w' v' (l ++ news) → Grew w w' v v' → wpList Try.prog ops Q rest (a.put o.dst v') w') : wpList Try.prog ops Q (o :: rest) a w :=
  wpList_plain hgd fun _ hK => by
    obtain ⟨v', w', hr, h2, h3⟩ := run_append_ints w B o.type v l hown y news hsrc hB hsz
    unfold Oper.wp execOp
    simp only [ho, resolve, invoke, builtin, Sem.run_bind, Sem.run_pure, Result.andThen_ok, List.map_toArray, List.map_cons, List.map_nil, hs, hx, hr, Oper.upon_value]
    exact hK _ _ (h v' w' h2 h3)
theorem isInts_new (w : World) (C : Array Value) (e : TypeId) (fr : Nat × Nat) (l : List Int) (hC : C = (l.map i64V).toArray) : IsInts (w.alloc (.cells C e fr)) (some ⟨w.heap.size, 0, none⟩) l := by
  subst hC
  intro i hi
  refine ⟨w.heap.size, 0, rfl, by simp, ?_⟩
  rw [cell_of_row _ w.heap.size (0 + i) _ e fr (heap_alloc_new w _), Nat.zero_add]
  simp [i64V, hi]
theorem srcI_one (w : World) (x : Int) : SrcI (.slice (some ⟨w.heap.size, 0, none⟩) 1 1) (w.alloc (.cells #[.int .i64 x] 3)) [x] :=
  SrcI.ofInts (l := [x]) 1 (isInts_new w _ _ _ [x] rfl)
theorem OwnI.alloc {B : Nat} {w : World} {v : Value} {l : List Int} (h : OwnI B w v l) (o : Obj) : OwnI B (w.alloc o) v l := h.bel ((Below.refl _ _).alloc (Nat.le_refl _) _)
/-- The numbers of another row, behind a growth. -/
theorem IsInts.grew {w w' : World} {v v' : Value} {a : Option Addr} {l : List Int} (h : IsInts w a l) (hg : Grew w w' v v') (hne : ∀ b off, a = some ⟨b, off, none⟩ → v.ownBlock ≠ some b) : IsInts w' a l := by
  intro i hi
  obtain ⟨b, off, h1, h2, h3⟩ := h i hi
  refine ⟨b, off, h1, Nat.lt_of_lt_of_le h2 hg.1.size, ?_⟩
  rw [← h3]
  exact World.cell?_of_block (w := w) (hg.1.block b h2 (fun e => hne b off h1 e.symm))
end Go.Proofs.Ytiihemmonncioaa
