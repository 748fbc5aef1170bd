/- The plain law of RightsPlays: tokens as a list that rises; a place in it. -/
import Derived.Test.YtnpalplnpfgibaaTokAll
import Derived.Test.YtnpalplnpfgibaaTokUp
namespace Go.Proofs.Ytnpalplnpfgibaa
open Go.RowKit Go.Maps
set_option linter.unusedSimpArgs false
set_option linter.unusedVariables false
/-- Where a serial stands, or would stand; whether it is there. -/
structure PlaceAt (m : List Tk) (x : Int) (p : Nat) (is : Bool) : Prop where
  le : p ≤ m.length
  low : ∀ i (h : i < m.length), i < p → m[i].k < x
  stop : ∀ h : p < m.length, x ≤ m[p].k
  is_ : is = (match m[p]? with | some t => decide (t.k = x) | none => false)
def past (p : Nat) (is : Bool) : Nat := if is then p + 1 else p
section
variable {m : List Tk} {x : Int} {p : Nat} {is : Bool}
theorem PlaceAt.yes (h : PlaceAt m x p is) (hi : is = true) : ∃ h : p < m.length, m[p].k = x := by
  have := h.is_
  rw [hi] at this
  by_cases hp : p < m.length
  · rw [List.getElem?_eq_getElem hp] at this
    exact ⟨hp, by simpa using this.symm⟩
  · rw [List.getElem?_eq_none (by omega)] at this
    cases this
theorem PlaceAt.no (h : PlaceAt m x p is) (hi : is = false) (hp : p < m.length) : m[p].k ≠ x := by
  have := h.is_
  rw [hi, List.getElem?_eq_getElem hp] at this
  simpa using this.symm
theorem PlaceAt.past_le (h : PlaceAt m x p is) : past p is ≤ m.length := by
  unfold past
  cases hi : is with
  | true => obtain ⟨hp, _⟩ := h.yes hi; simp; omega
  | false => have := h.le; simpa using this
theorem PlaceAt.parts (h : PlaceAt m x p is) : ∃ M, m = m.take p ++ M ++ m.drop (past p is) ∧ (is = true → ∃ t, M = [t] ∧ t.k = x) ∧ (is = false → M = []) := by
  cases hi : is with
  | true =>
    obtain ⟨hp, hx⟩ := h.yes hi
    refine ⟨[m[p]], ?_, (fun _ => ⟨_, rfl, hx⟩), (fun e => by cases e)⟩
    unfold past
    simp only [if_true]
    conv => lhs; rw [← List.take_append_drop p m, List.drop_eq_getElem_cons hp]
    simp
  | false =>
    refine ⟨[], ?_, (fun e => by cases e), (fun _ => rfl)⟩
    unfold past
    simp
theorem rise_at (hr : (m.map Tk.k).Pairwise (· < ·)) {i j : Nat} (hi : i < m.length) (hj : j < m.length) (h : i < j) : m[i].k < m[j].k := by
  have := List.pairwise_iff_getElem.1 hr i j (by simpa using hi) (by simpa using hj) h
  simpa using this
theorem PlaceAt.below (h : PlaceAt m x p is) : ∀ t ∈ m.take p, t.k < x := by
  intro t ht
  obtain ⟨i, hi, rfl⟩ := List.mem_iff_getElem.1 ht
  rw [List.length_take] at hi
  rw [List.getElem_take]
  exact h.low i (by omega) (by omega)
theorem PlaceAt.above (h : PlaceAt m x p is) (hr : (m.map Tk.k).Pairwise (· < ·)) : ∀ t ∈ m.drop (past p is), x < t.k := by
  intro t ht
  cases is with
  | true =>
    obtain ⟨i, hi, rfl⟩ := List.mem_iff_getElem.1 ht
    rw [List.length_drop] at hi
    rw [List.getElem_drop]
    obtain ⟨hp, hx⟩ := h.yes rfl
    simp only [past, if_true] at hi ⊢
    rw [← hx]
    exact rise_at hr hp (by omega) (by omega)
  | false =>
    obtain ⟨i, hi, rfl⟩ := List.mem_iff_getElem.1 ht
    rw [List.length_drop] at hi
    rw [List.getElem_drop]
    simp only [past, Bool.false_eq_true, if_false] at hi ⊢
    have hp : p < m.length := by omega
    have h1 := h.stop hp
    have h2 := h.no rfl hp
    cases i with
    | zero => simp; omega
    | succ i =>
      have := rise_at hr hp (j := p + (i + 1)) (by omega) (by omega)
      omega
theorem PlaceAt.mem (h : PlaceAt m x p is) (hr : (m.map Tk.k).Pairwise (· < ·)) : x ∈ m.map Tk.k ↔ is = true := by
  obtain ⟨M, hm, h1, h2⟩ := h.parts
  constructor
  · intro hx
    cases hi : is with
    | true => rfl
    | false =>
      rw [hm, h2 hi, List.append_nil, List.map_append, List.mem_append] at hx
      rcases hx with hx | hx
      · obtain ⟨t, ht, rfl⟩ := List.mem_map.1 hx
        have := h.below t ht; omega
      · obtain ⟨t, ht, rfl⟩ := List.mem_map.1 hx
        have := h.above hr t ht; omega
  · intro hi
    obtain ⟨t, rfl, rfl⟩ := h1 hi
    rw [hm]
    simp
def putTk (m : List Tk) (p : Nat) (is : Bool) (t : Tk) : List Tk := m.take p ++ [t] ++ m.drop (past p is)
def delTk (m : List Tk) (p : Nat) (is : Bool) : List Tk := m.take p ++ m.drop (past p is)
theorem PlaceAt.put_len (h : PlaceAt m x p is) (t : Tk) : (putTk m p is t).length = if is then m.length else m.length + 1 := by
  unfold putTk
  have h1 := h.le
  have h2 := h.past_le
  simp only [List.length_append, List.length_take, List.length_drop, List.length_cons, List.length_nil]
  cases is with
  | true => obtain ⟨hp, _⟩ := h.yes rfl; simp [past]; omega
  | false => simp [past]; omega
theorem PlaceAt.del_len (h : PlaceAt m x p is) : (delTk m p is).length + (if is then 1 else 0) = m.length := by
  unfold delTk
  have h1 := h.le
  have h2 := h.past_le
  simp only [List.length_append, List.length_take, List.length_drop]
  cases is with
  | true => obtain ⟨hp, _⟩ := h.yes rfl; simp [past]; omega
  | false => simp [past]; omega
theorem mem_put (h : PlaceAt m x p is) (t : Tk) (ht : t.k = x) (y : Int) : y ∈ (putTk m p is t).map Tk.k ↔ y = x ∨ y ∈ m.map Tk.k := by
  obtain ⟨M, hm, h1, h2⟩ := h.parts
  have hM : ∀ z, z ∈ M.map Tk.k → z = x := by
    intro z hz
    cases hi : is with
    | true => obtain ⟨t, rfl, rfl⟩ := h1 hi; simpa using hz
    | false => rw [h2 hi] at hz; cases hz
  unfold putTk
  conv => rhs; rw [hm]
  simp only [List.map_append, List.mem_append, List.map_cons, List.map_nil, List.mem_singleton, ht]
  constructor
  · rintro ((h | h) | h)
    · exact .inr (.inl (.inl h))
    · exact .inl h
    · exact .inr (.inr h)
  · rintro (h | (h | h) | h)
    · exact .inl (.inr h)
    · exact .inl (.inl h)
    · exact .inl (.inr (hM y h))
    · exact .inr h
theorem mem_del (h : PlaceAt m x p is) (hr : (m.map Tk.k).Pairwise (· < ·)) (y : Int) : y ∈ (delTk m p is).map Tk.k ↔ y ≠ x ∧ y ∈ m.map Tk.k := by
  obtain ⟨M, hm, h1, h2⟩ := h.parts
  have hM : ∀ z, z ∈ M.map Tk.k → z = x := by
    intro z hz
    cases hi : is with
    | true => obtain ⟨t, rfl, rfl⟩ := h1 hi; simpa using hz
    | false => rw [h2 hi] at hz; cases hz
  have hA : ∀ z, z ∈ (m.take p).map Tk.k → z < x := fun z hz => by obtain ⟨t, ht, rfl⟩ := List.mem_map.1 hz; exact h.below t ht
  have hB : ∀ z, z ∈ (m.drop (past p is)).map Tk.k → x < z := fun z hz => by obtain ⟨t, ht, rfl⟩ := List.mem_map.1 hz; exact h.above hr t ht
  unfold delTk
  conv => rhs; rw [hm]
  simp only [List.map_append, List.mem_append]
  constructor
  · rintro (h | h)
    · exact ⟨by have := hA y h; omega, .inl (.inl h)⟩
    · exact ⟨by have := hB y h; omega, .inr h⟩
  · rintro ⟨hne, (h | h) | h⟩
    · exact .inl h
    · exact absurd (hM y h) hne
    · exact .inr h
theorem rise_put (h : PlaceAt m x p is) (hr : (m.map Tk.k).Pairwise (· < ·)) (t : Tk) (ht : t.k = x) : ((putTk m p is t).map Tk.k).Pairwise (· < ·) := by
  have hA : ∀ z, z ∈ (m.take p).map Tk.k → z < x := fun z hz => by obtain ⟨t, ht, rfl⟩ := List.mem_map.1 hz; exact h.below t ht
  have hB : ∀ z, z ∈ (m.drop (past p is)).map Tk.k → x < z := fun z hz => by obtain ⟨t, ht, rfl⟩ := List.mem_map.1 hz; exact h.above hr t ht
  unfold putTk
  rw [List.map_append, List.map_append, List.pairwise_append, List.pairwise_append]
  refine ⟨⟨?_, by simp, fun a ha b hb => ?_⟩, ?_, fun a ha b hb => ?_⟩
  · rw [List.map_take]; exact hr.take
  · simp only [List.map_cons, List.map_nil, List.mem_singleton] at hb
    rw [hb, ht]; exact hA a ha
  · rw [List.map_drop]; exact hr.drop
  · have h2 := hB b hb
    rw [List.mem_append] at ha
    rcases ha with ha | ha
    · have := hA a ha; omega
    · simp only [List.map_cons, List.map_nil, List.mem_singleton] at ha
      rw [ha, ht]; exact h2
theorem rise_del (h : PlaceAt m x p is) (hr : (m.map Tk.k).Pairwise (· < ·)) : ((delTk m p is).map Tk.k).Pairwise (· < ·) := by
  have hA : ∀ z, z ∈ (m.take p).map Tk.k → z < x := fun z hz => by obtain ⟨t, ht, rfl⟩ := List.mem_map.1 hz; exact h.below t ht
  have hB : ∀ z, z ∈ (m.drop (past p is)).map Tk.k → x < z := fun z hz => by obtain ⟨t, ht, rfl⟩ := List.mem_map.1 hz; exact h.above hr t ht
  unfold delTk
  rw [List.map_append, List.pairwise_append]
  refine ⟨by rw [List.map_take]; exact hr.take, by rw [List.map_drop]; exact hr.drop, fun a ha b hb => ?_⟩
  have := hA a ha
  have := hB b hb
  omega
theorem TokAt.isAt {D : DataW Unit} (h : TokAt D m) (hp : PlaceAt m x p is) : Maps.has D (.int .u32 x) = is := by
  have h1 := h.has x
  rw [hp.mem h.rise] at h1
  cases is with
  | true => exact h1.2 rfl
  | false =>
    cases hh : Maps.has D (.int .u32 x) with
    | false => rfl
      | true => exact (h1.1 hh).symm
theorem u32_ne {a b : Int} (h : a ≠ b) : (Lit.int .u32 a) ≠ .int .u32 b := fun e => h (by cases e; rfl)
theorem TokAt.put {D : DataW Unit} (h : TokAt D m) (ht : Tidy D) (hp : PlaceAt m x p is) (hw : (Lit.int .u32 x).wf = true) (r s : Int) : TokAt (D.put (.int .u32 x) (tokD r s)) (putTk m p is ⟨x, r, s⟩) where
  rise := rise_put hp h.rise _ rfl
  has := fun y => by
    rw [mem_put hp _ rfl y, ← h.has y]
    by_cases hy : y = x
    · subst hy; simp [Maps.has_put_same ht.isMap (keyLit _)]
    · rw [Maps.has_put_other (u32_ne hy)]; simp [hy]
  at_ := fun t hm => by
    by_cases hy : t.k = x
    · have : t = ⟨x, r, s⟩ := by
        unfold putTk at hm
        rw [List.mem_append, List.mem_append] at hm
        rcases hm with (hm | hm) | hm
        · have := hp.below t hm; omega
        · simpa using hm
        · have := hp.above h.rise t hm; omega
      subst this
      exact Maps.atKey_put_same ht.isMap (keyLit _) _ _
    · rw [Maps.atKey_put_other (u32_ne hy)]
      refine h.at_ t ?_
      unfold putTk at hm
      rw [List.mem_append, List.mem_append] at hm
      rcases hm with (hm | hm) | hm
      · exact List.mem_of_mem_take hm
      · simp only [List.mem_singleton] at hm; rw [hm] at hy; exact absurd rfl hy
      · exact List.mem_of_mem_drop hm
  size := by
    rw [Maps.size_put ht, h.isAt hp, hp.put_len, h.size]
  wf := fun t hm => by
    unfold putTk at hm
    rw [List.mem_append, List.mem_append] at hm
    rcases hm with (hm | hm) | hm
    · exact h.wf t (List.mem_of_mem_take hm)
    · simp only [List.mem_singleton] at hm; rw [hm]; exact hw
    · exact h.wf t (List.mem_of_mem_drop hm)
theorem TokAt.del {D : DataW Unit} (h : TokAt D m) (ht : Tidy D) (hp : PlaceAt m x p is) : TokAt (D.del (.int .u32 x)) (delTk m p is) where
  rise := rise_del hp h.rise
  has := fun y => by
    rw [mem_del hp h.rise y, ← h.has y]
    by_cases hy : y = x
    · subst hy; simp [Maps.has_del_same]
    · rw [Maps.has_del_other (u32_ne hy)]; simp [hy]
  at_ := fun t hm => by
    have hk := (mem_del hp h.rise t.k).1 (List.mem_map.2 ⟨t, hm, rfl⟩)
    rw [Maps.atKey_del_other (u32_ne hk.1)]
    refine h.at_ t ?_
    unfold delTk at hm
    rw [List.mem_append] at hm
    rcases hm with hm | hm
    · exact List.mem_of_mem_take hm
    · exact List.mem_of_mem_drop hm
  size := by
    have h1 := Maps.size_del ht (k := .int .u32 x)
    have h2 := hp.del_len
    rw [h.isAt hp, h.size] at h1
    omega
  wf := fun t hm => by
    unfold delTk at hm
    rw [List.mem_append] at hm
    rcases hm with hm | hm
    · exact h.wf t (List.mem_of_mem_take hm)
    · exact h.wf t (List.mem_of_mem_drop hm)
theorem delTk_no {m : List Tk} {p : Nat} : delTk m p false = m := by
  unfold delTk past
  simp
end
theorem TokAt.empty : TokAt (.map []) [] := ⟨by simp, (fun x => by simp [Maps.has]), (fun _ h => by cases h), rfl, (fun _ h => by cases h)⟩
end Go.Proofs.Ytnpalplnpfgibaa
