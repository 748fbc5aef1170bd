/- Items that rise, and heaps of them: plain laws. -/
import Derived.Sort.Walk0
namespace Go.Proofs.Ytnpalplnpfgibaa
structure It where
  t : Int
  k : ByteArray
deriving DecidableEq
def It.lt (a b : It) : Prop := a.t < b.t ∨ (a.t = b.t ∧ a.k.data.toList < b.k.data.toList)
instance (a b : It) : Decidable (a.lt b) := by unfold It.lt; infer_instance
theorem ba_ext {a b : ByteArray} (h : a.data.toList = b.data.toList) : a = b := by
  cases a; cases b; simp only [ByteArray.mk.injEq]; exact Array.toList_inj.1 h
theorem It.irrefl (a : It) : ¬ a.lt a := by
  rintro (h | ⟨_, h⟩)
  · omega
  · exact List.lt_irrefl _ h
theorem It.trans {a b c : It} (h : a.lt b) (h' : b.lt c) : a.lt c := by
  rcases h with h | ⟨e, h⟩ <;> rcases h' with h' | ⟨e', h'⟩
  · exact .inl (by omega)
  · exact .inl (by omega)
  · exact .inl (by omega)
  · exact .inr ⟨by omega, List.lt_trans h h'⟩
theorem It.asymm {a b : It} (h : a.lt b) : ¬ b.lt a := fun h' => It.irrefl a (It.trans h h')
theorem It.total {a b : It} (h : ¬ a.lt b) (h' : ¬ b.lt a) : a = b := by
  have e : a.t = b.t := by
    by_cases h1 : a.t < b.t
    · exact absurd (.inl h1) h
    · by_cases h2 : b.t < a.t
      · exact absurd (.inl h2) h'
      · omega
  have e2 : a.k.data.toList = b.k.data.toList := by
    have h1 : ¬ a.k.data.toList < b.k.data.toList := fun x => h (.inr ⟨e, x⟩)
    have h2 : ¬ b.k.data.toList < a.k.data.toList := fun x => h' (.inr ⟨e.symm, x⟩)
    exact List.le_antisymm (List.not_lt.1 h2) (List.not_lt.1 h1)
  cases a; cases b; simp only [It.mk.injEq]; exact ⟨e, ba_ext e2⟩
theorem It.le_trans {a b c : It} (h : ¬ b.lt a) (h' : ¬ c.lt b) : ¬ c.lt a := by
  intro x
  by_cases hab : a.lt b
  · exact h' (It.trans x hab)
  · have := It.total hab h; subst this; exact h' x
def HeapL (l : List It) : Prop := ∀ i (h : i < l.length), 0 < i → ¬ (l[i]).lt (l[(i - 1) / 2]'(by omega))
theorem heap_least {l : List It} (h : HeapL l) : ∀ n i, i ≤ n → ∀ (hi : i < l.length), ¬ (l[i]).lt (l[0]'(by omega)) := by
  intro n
  induction n with
  | zero => intro i hn hi; obtain rfl : i = 0 := by omega
            exact It.irrefl _
  | succ n ih =>
    intro i hn hi
    by_cases h0 : i = 0
    · subst h0; exact It.irrefl _
    · have h1 := h i hi (by omega)
      have h2 := ih ((i - 1) / 2) (by omega) (by omega)
      exact It.le_trans h2 h1
def sw (l : List It) (i j : Nat) (hi : i < l.length) (hj : j < l.length) : List It := (l.set i l[j]).set j l[i]
theorem sw_len {l : List It} {i j : Nat} (hi : i < l.length) (hj : j < l.length) : (sw l i j hi hj).length = l.length := by simp [sw]
theorem sw_perm {l : List It} {i j : Nat} (hi : i < l.length) (hj : j < l.length) : (sw l i j hi hj).Perm l := List.set_set_perm hi hj
theorem sw_at {l : List It} {i j : Nat} (hi : i < l.length) (hj : j < l.length) (q : Nat) (hq : q < (sw l i j hi hj).length) : (sw l i j hi hj)[q] = if q = j then l[i] else if q = i then l[j] else l[q]'(by simpa [sw] using hq) := by
  simp only [sw, List.getElem_set]
  by_cases h1 : q = j
  · subst h1; simp
  · by_cases h2 : q = i
    · subst h2; simp [h1, Ne.symm h1]
    · simp [h1, h2, Ne.symm h1, Ne.symm h2]
def UpInv (l : List It) (i : Nat) : Prop := (∀ j (h : j < l.length), 0 < j → j ≠ i → ¬ (l[j]).lt (l[(j - 1) / 2]'(by omega))) ∧ (∀ c (h : c < l.length), 0 < c → (_he : (c - 1) / 2 = i) → 0 < i → ¬ (l[c]).lt (l[(i - 1) / 2]'(by omega)))
theorem up_start {l : List It} (h : HeapL l) (x : It) : UpInv (l ++ [x]) l.length := by
  refine ⟨fun j hj h0 hne => ?_, fun c hc h0 he hi => ?_⟩
  · have hj' : j < l.length := by simp at hj; omega
    rw [List.getElem_append_left hj', List.getElem_append_left (by omega)]
    exact h j hj' h0
  · simp at hc; omega
theorem up_step {l : List It} {i : Nat} (h : UpInv l i) (hi : i < l.length) (h0 : 0 < i) (hlt : (l[i]).lt (l[(i - 1) / 2]'(by omega))) : UpInv (sw l i ((i - 1) / 2) hi (by omega)) ((i - 1) / 2) := by
  obtain ⟨h1, h2⟩ := h
  refine ⟨fun j hj hj0 hne => ?_, fun c hc hc0 he hp => ?_⟩
  · rw [sw_len] at hj
    rw [sw_at, sw_at, if_neg hne]
    by_cases hji : j = i
    · subst hji
      simp only [if_true]
      exact It.asymm hlt
    · rw [if_neg hji]
      by_cases e1 : (j - 1) / 2 = (i - 1) / 2
      · rw [if_pos e1]
        have hx := h1 j hj hj0 hji
        simp only [e1] at hx
        exact It.le_trans (It.asymm hlt) hx
      · rw [if_neg e1]
        by_cases e2 : (j - 1) / 2 = i
        · rw [if_pos e2]
          exact h2 j hj hj0 e2 h0
        · rw [if_neg e2]
          exact h1 j hj hj0 hji
  · rw [sw_len] at hc
    have hpp : ((i - 1) / 2 - 1) / 2 ≠ (i - 1) / 2 := by omega
    have hppi : ((i - 1) / 2 - 1) / 2 ≠ i := by omega
    rw [sw_at, sw_at, if_neg hpp, if_neg hppi]
    have hpar := h1 ((i - 1) / 2) (by omega) hp (by omega)
    by_cases e1 : c = (i - 1) / 2
    · omega
    · rw [if_neg e1]
      by_cases e2 : c = i
      · rw [if_pos e2]; exact hpar
      · rw [if_neg e2]
        have hx := h1 c hc hc0 e2
        simp only [he] at hx
        exact It.le_trans hpar hx
theorem up_end {l : List It} {i : Nat} (h : UpInv l i) (he : ∀ (hi : i < l.length), 0 < i → ¬ (l[i]).lt (l[(i - 1) / 2]'(by omega))) : HeapL l := by
  intro j hj h0
  by_cases e : j = i
  · subst e; exact he hj h0
  · exact h.1 j hj h0 e
def DownInv (l : List It) (i : Nat) : Prop := (∀ j (h : j < l.length), 0 < j → (j - 1) / 2 ≠ i → ¬ (l[j]).lt (l[(j - 1) / 2]'(by omega))) ∧ (∀ c (h : c < l.length), 0 < c → (_he : (c - 1) / 2 = i) → 0 < i → ¬ (l[c]).lt (l[(i - 1) / 2]'(by omega)))
theorem down_step {l : List It} {i k : Nat} (h : DownInv l i) (hk : k < l.length) (hk0 : 0 < k) (hki : (k - 1) / 2 = i) (hlt : (l[k]).lt (l[i]'(by omega))) (hmin : ∀ c (h : c < l.length), 0 < c → (c - 1) / 2 = i → ¬ (l[c]).lt l[k]) : DownInv (sw l i k (by omega) hk) k := by
  obtain ⟨h1, h2⟩ := h
  have hik : i ≠ k := by omega
  refine ⟨fun j hj hj0 hne => ?_, fun c hc hc0 he hp => ?_⟩
  · rw [sw_len] at hj
    rw [sw_at, sw_at]
    rw [if_neg hne]
    by_cases e1 : (j - 1) / 2 = i
    · rw [if_pos e1]
      by_cases e2 : j = k
      · rw [if_pos e2]; exact It.asymm hlt
      · rw [if_neg e2, if_neg (by omega)]
        exact hmin j hj hj0 e1
    · rw [if_neg e1, if_neg (by omega)]
      by_cases e3 : j = i
      · rw [if_pos e3]
        have hx := h2 k hk hk0 hki (by omega)
        simpa [e3] using hx
      · rw [if_neg e3]
        exact h1 j hj hj0 e1
  · rw [sw_len] at hc
    rw [sw_at, sw_at]
    rw [if_neg (by omega), if_neg (by omega), if_neg (by omega), if_pos hki]
    have hx := h1 c hc hc0 (by omega)
    simpa [he] using hx
theorem down_end {l : List It} {i : Nat} (h : DownInv l i) (he : ∀ c (h : c < l.length), 0 < c → (hc : (c - 1) / 2 = i) → ¬ (l[c]).lt (l[i]'(by omega))) : HeapL l := by
  intro j hj h0
  by_cases e : (j - 1) / 2 = i
  · have := he j hj h0 e
    simpa [e] using this
  · exact h.1 j hj h0 e
def popL (l : List It) (h : 0 < l.length) : List It := (sw l 0 (l.length - 1) h (by omega)).take (l.length - 1)
theorem popL_len {l : List It} (h : 0 < l.length) : (popL l h).length = l.length - 1 := by simp [popL, sw]
theorem popL_at {l : List It} (h : 0 < l.length) (q : Nat) (hq : q < (popL l h).length) : (popL l h)[q] = if q = 0 then l[l.length - 1] else l[q]'(by rw [popL_len] at hq; omega) := by
  have hq' := hq
  rw [popL_len] at hq'
  simp only [popL, List.getElem_take]
  rw [sw_at, if_neg (by omega)]
theorem popL_perm {l : List It} (h : 0 < l.length) : (l[0] :: popL l h).Perm l := by
  have h1 := sw_perm (l := l) h (show l.length - 1 < l.length by omega)
  have h2 : sw l 0 (l.length - 1) h (by omega) = popL l h ++ [l[0]] := by
    have hs : (sw l 0 (l.length - 1) h (by omega)).length = l.length := sw_len _ _
    have e : (sw l 0 (l.length - 1) h (by omega)).drop (l.length - 1) = [l[0]] := by
      rw [List.drop_eq_getElem_cons (by omega), sw_at, if_pos rfl, List.drop_eq_nil_of_le (by omega)]
    rw [popL, ← e, List.take_append_drop]
  rw [h2] at h1
  exact (List.perm_append_singleton _ _).symm.trans h1
theorem popL_down {l : List It} (h : HeapL l) (h0 : 0 < l.length) : DownInv (popL l h0) 0 := by
  refine ⟨fun j hj hj0 hne => ?_, fun _ _ _ _ h => absurd h (by omega)⟩
  have hj' := hj
  rw [popL_len] at hj'
  rw [popL_at, popL_at, if_neg (by omega), if_neg hne]
  exact h j (by omega) hj0
/-- What a heap's list is to the sorted list of what it has. -/
structure Hm (l m : List It) : Prop where
  heap : HeapL l
  sorted : m.Pairwise fun a b => ¬ b.lt a
  perm : m.Perm l
def ins (x : It) : List It → List It
  | [] => [x]
  | y :: m => if x.lt y then x :: y :: m else y :: ins x m
theorem ins_perm (x : It) : ∀ m, (ins x m).Perm (x :: m)
  | [] => List.Perm.refl _
  | y :: m => by
    unfold ins
    split
    · exact List.Perm.refl _
    · exact ((ins_perm x m).cons y).trans (List.Perm.swap x y m)
theorem ins_sorted (x : It) : ∀ m : List It, (m.Pairwise fun a b => ¬ b.lt a) → (ins x m).Pairwise fun a b => ¬ b.lt a
  | [], _ => by simp [ins]
  | y :: m, h => by
    have h1 := (List.pairwise_cons.1 h).1
    have h2 := (List.pairwise_cons.1 h).2
    unfold ins
    split
    · rename_i hxy
      refine List.pairwise_cons.2 ⟨fun z hz => ?_, h⟩
      rcases List.mem_cons.1 hz with rfl | hz
      · exact It.asymm hxy
      · exact It.le_trans (It.asymm hxy) (h1 z hz)
    · rename_i hxy
      refine List.pairwise_cons.2 ⟨fun z hz => ?_, ins_sorted x m h2⟩
      rcases List.mem_cons.1 ((ins_perm x m).mem_iff.1 hz) with rfl | hz
      · exact hxy
      · exact h1 z hz
theorem ins_len (x : It) (m : List It) : (ins x m).length = m.length + 1 := (ins_perm x m).length_eq
theorem Hm.nil : Hm [] [] := ⟨fun i h => by simp at h, .nil, .refl _⟩
theorem Hm.len {l m : List It} (h : Hm l m) : m.length = l.length := h.perm.length_eq
theorem Hm.push {l l' m : List It} (h : Hm l m) (x : It) (hh : HeapL l') (hp : l'.Perm (l ++ [x])) : Hm l' (ins x m) :=
  ⟨hh, ins_sorted x m h.sorted, (ins_perm x m).trans (((h.perm.cons x).trans (List.perm_append_singleton x l).symm).trans hp.symm)⟩
theorem Hm.top {l m : List It} (h : Hm l m) (h0 : 0 < l.length) : ∃ m', m = l[0] :: m' := by
  have hl := h.len
  cases m with
  | nil => simp at hl; omega
  | cons x m' =>
    refine ⟨m', ?_⟩
    have hx : x ∈ l := h.perm.mem_iff.1 (List.mem_cons_self ..)
    obtain ⟨i, hi, rfl⟩ := List.getElem_of_mem hx
    have h1 := heap_least h.heap i i (Nat.le_refl _) hi
    have h0m : l[0] ∈ l[i] :: m' := h.perm.mem_iff.2 (List.getElem_mem h0)
    rcases List.mem_cons.1 h0m with e | e
    · rw [← e]
    · have h2 := (List.pairwise_cons.1 h.sorted).1 _ e
      rw [It.total h1 h2]
theorem Hm.pop {l l' m : List It} {x : It} (h : Hm l (x :: m)) (h0 : 0 < l.length) (hh : HeapL l') (hp : l'.Perm (popL l h0)) : Hm l' m := by
  obtain ⟨m', e⟩ := h.top h0
  obtain ⟨rfl, rfl⟩ := List.cons.inj e
  refine ⟨hh, (List.pairwise_cons.1 h.sorted).2, ?_⟩
  have := h.perm.trans (popL_perm h0).symm
  exact (List.perm_cons _).1 this |>.trans hp.symm
end Go.Proofs.Ytnpalplnpfgibaa
