/- Rising lists of texts: the plain law of fold's pages. -/
import Derived.Lib.SlicesCompact
import Derived.Shelf.Spec.SearchS
import Derived.Sort.KeysCollected
namespace Go.Proofs.Ytnpalplnpfgibaa
open Go.RowKit
abbrev BA := ByteArray
def nlt (a b : BA) : Prop := a.data.toList < b.data.toList
def ltB (a b : BA) : Bool := decide (a.data.toList < b.data.toList)
theorem ltB_iff {a b : BA} : ltB a b = true ↔ nlt a b := decide_eq_true_iff
theorem ltB_no {a b : BA} : ltB a b = false ↔ ¬ nlt a b := decide_eq_false_iff_not
theorem ba_ext {a b : BA} (h : a.data.toList = b.data.toList) : a = b := by
  cases a; cases b; simp only [ByteArray.mk.injEq]; exact Array.toList_inj.1 h
theorem nlt_irrefl (a : BA) : ¬ nlt a a := List.lt_irrefl _
theorem nlt_trans {a b c : BA} (h : nlt a b) (h' : nlt b c) : nlt a c := List.lt_trans h h'
theorem nlt_total {a b : BA} (h : ¬ nlt a b) (h' : ¬ nlt b a) : a = b := ba_ext (List.le_antisymm (List.not_lt.1 h') (List.not_lt.1 h))
theorem nlt_le {a b c : BA} (h : nlt a b) (h' : ¬ nlt c b) : nlt a c := by
  by_cases e : nlt b c
  · exact nlt_trans h e
  · rw [nlt_total h' e]
    exact h
abbrev Rise (l : List BA) : Prop := l.Pairwise nlt
theorem nlt_ne {a b : BA} (h : nlt a b) : a ≠ b := fun e => nlt_irrefl b (by rw [e] at h; exact h)
theorem rise_nodup {l : List BA} (h : Rise l) : l.Nodup := by
  unfold List.Nodup
  exact h.imp nlt_ne
/-- Rising lists of the same texts are one. -/
theorem rise_ext {a b : List BA} (ha : Rise a) (hb : Rise b) (h : ∀ x, x ∈ a ↔ x ∈ b) : a = b := by
  refine List.Perm.eq_of_pairwise (le := nlt) (fun x y _ _ h1 h2 => absurd (nlt_trans h1 h2) (nlt_irrefl _)) ha hb ?_
  exact (List.perm_ext_iff_of_nodup (rise_nodup ha) (rise_nodup hb)).2 h
def atL (l : List BA) (s : BA) : Nat := (l.takeWhile fun q => ltB q s).length
theorem atL_le (l : List BA) (s : BA) : atL l s ≤ l.length := (List.takeWhile_sublist _).length_le
theorem atL_cons (q : BA) (l : List BA) (s : BA) : atL (q :: l) s = if ltB q s then atL l s + 1 else 0 := by
  unfold atL
  rw [List.takeWhile_cons]
  split <;> simp
theorem atL_lt (s : BA) : ∀ (l : List BA) (j : Nat) (hj : j < l.length), j < atL l s → nlt l[j] s
  | q :: l, j, hj, h => by
    rw [atL_cons] at h
    split at h
    · rename_i hq
      cases j with
      | zero => exact ltB_iff.1 hq
      | succ j => exact atL_lt s l j (by simpa using hj) (by omega)
    · omega
theorem atL_not (s : BA) : ∀ (l : List BA) (h : atL l s < l.length), ¬ nlt (l[atL l s]) s
  | [], h => by simp at h
  | q :: l, h => by
    by_cases hq : ltB q s = true
    · have e : atL (q :: l) s = atL l s + 1 := by rw [atL_cons, if_pos hq]
      simp only [e, List.getElem_cons_succ]
      exact atL_not s l (by simp [e] at h; exact h)
    · have e : atL (q :: l) s = 0 := by rw [atL_cons, if_neg hq]
      simp only [e, List.getElem_cons_zero]
      exact fun h => hq (ltB_iff.2 h)
theorem atL_eq (s : BA) (l : List BA) (j : Nat) (hj : j ≤ l.length) (h1 : ∀ i (h : i < l.length), i < j → nlt l[i] s) (h2 : ∀ h : j < l.length, ¬ nlt l[j] s) : j = atL l s := by
  rcases Nat.lt_trichotomy j (atL l s) with h | h | h
  · have := atL_le l s
    exact absurd (atL_lt s l j (by omega) h) (h2 (by omega))
  · exact h
  · exact absurd (h1 (atL l s) (by omega) h) (atL_not s l (by omega))
theorem atL_ge {l : List BA} (hr : Rise l) (s : BA) (i : Nat) (h : i < l.length) (hi : atL l s ≤ i) : ¬ nlt l[i] s := by
  have h0 := atL_not s l (by omega)
  rcases Nat.eq_or_lt_of_le hi with e | e
  · subst e; exact h0
  · have := List.pairwise_iff_getElem.1 hr (atL l s) i (by omega) h e
    exact fun h2 => h0 (nlt_trans this h2)
def isL (l : List BA) (s : BA) : Bool := (l[atL l s]?.map fun q => q.data.toList == s.data.toList).getD false
theorem isL_iff {l : List BA} {s : BA} : isL l s = true ↔ l[atL l s]? = some s := by
  unfold isL
  cases l[atL l s]? with
  | none => simp
  | some q =>
    simp only [Option.map_some, Option.getD_some, beq_iff_eq, Option.some.injEq]
    exact ⟨fun h => ba_ext h, fun h => by rw [h]⟩
theorem isL_mem {l : List BA} (hr : Rise l) {s : BA} : isL l s = true ↔ s ∈ l := by
  rw [isL_iff]
  constructor
  · exact fun h => List.mem_of_getElem? h
  · intro h
    obtain ⟨i, hi, rfl⟩ := List.getElem_of_mem h
    have h1 : i = atL l l[i] := by
      refine atL_eq _ l i (by omega) (fun k hk hki => List.pairwise_iff_getElem.1 hr k i hk hi hki) (fun _ => nlt_irrefl _)
    rw [← h1, List.getElem?_eq_getElem hi]
def addL (l : List BA) (s : BA) : List BA := if isL l s then l else l.take (atL l s) ++ s :: l.drop (atL l s)
theorem addL_mem (l : List BA) (s x : BA) : x ∈ addL l s ↔ x ∈ l ∨ x = s := by
  unfold addL
  split
  · rename_i h
    exact ⟨.inl, fun h1 => h1.elim id (fun e => e ▸ List.mem_of_getElem? (isL_iff.1 h))⟩
  · rw [List.mem_append, List.mem_cons]
    conv => rhs; rw [← List.take_append_drop (atL l s) l, List.mem_append]
    constructor
    · rintro (h | h | h)
      · exact .inl (.inl h)
      · exact .inr h
      · exact .inl (.inr h)
    · rintro ((h | h) | h)
      · exact .inl h
      · exact .inr (.inr h)
      · exact .inr (.inl h)
theorem addL_rise {l : List BA} (hr : Rise l) (s : BA) : Rise (addL l s) := by
  unfold addL
  split
  · exact hr
  · rename_i hn
    have hnm : s ∉ l := fun h => hn ((isL_mem hr).2 h)
    have hd : ∀ x ∈ l.drop (atL l s), nlt s x := fun x hx => by
      obtain ⟨i, hi, rfl⟩ := List.getElem_of_mem hx
      rw [List.length_drop] at hi
      rw [List.getElem_drop]
      have h1 := atL_ge hr s (atL l s + i) (by omega) (by omega)
      by_cases h2 : nlt s l[atL l s + i]
      · exact h2
      · exact absurd (by rw [← nlt_total h1 h2]; exact List.getElem_mem _) hnm
    have ht : ∀ x ∈ l.take (atL l s), nlt x s := fun x hx => by
      obtain ⟨i, hi, rfl⟩ := List.getElem_of_mem hx
      rw [List.length_take] at hi
      rw [List.getElem_take]
      exact atL_lt s l i (by omega) (by omega)
    refine List.pairwise_append.2 ⟨hr.sublist (List.take_sublist _ _), List.pairwise_cons.2 ⟨hd, hr.sublist (List.drop_sublist _ _)⟩, fun a ha b hb => ?_⟩
    rcases List.mem_cons.1 hb with rfl | hb
    · exact ht a ha
    · exact nlt_trans (ht a ha) (hd b hb)
theorem addL_len (l : List BA) (s : BA) : (addL l s).length ≤ l.length + 1 := by
  unfold addL
  split
  · omega
  · rw [List.length_append, List.length_cons, List.length_take, List.length_drop]
    have := atL_le l s
    omega
theorem fold_mem : ∀ (zs l : List BA) (x : BA), x ∈ zs.foldl addL l ↔ x ∈ l ∨ x ∈ zs
  | [], l, x => by simp
  | z :: zs, l, x => by
    rw [List.foldl_cons, fold_mem zs, addL_mem, List.mem_cons]
    constructor
    · rintro ((h | h) | h)
      · exact .inl h
      · exact .inr (.inl h)
      · exact .inr (.inr h)
    · rintro (h | h | h)
      · exact .inl (.inl h)
      · exact .inl (.inr h)
      · exact .inr h
theorem fold_rise : ∀ (zs l : List BA), Rise l → Rise (zs.foldl addL l)
  | [], _, h => h
  | z :: zs, l, h => by
    rw [List.foldl_cons]
    exact fold_rise zs _ (addL_rise h z)
theorem fold_len : ∀ (zs l : List BA), (zs.foldl addL l).length ≤ l.length + zs.length
  | [], _ => Nat.le_refl _
  | z :: zs, l => by
    have h1 := fold_len zs (addL l z)
    have h2 := addL_len l z
    rw [List.foldl_cons, List.length_cons]
    omega
/-- What a page is taken of. -/
def pickB (after : BA) (first : Bool) (k : BA) : Bool := first || ltB after k
def selL (zs : List BA) (after : BA) (first : Bool) : List BA := (zs.filter (pickB after first)).foldl addL []
theorem selL_rise (zs : List BA) (after : BA) (first : Bool) : Rise (selL zs after first) := fold_rise _ _ List.Pairwise.nil
theorem selL_mem (zs : List BA) (after : BA) (first : Bool) (x : BA) : x ∈ selL zs after first ↔ x ∈ zs ∧ pickB after first x = true := by
  unfold selL
  rw [fold_mem, List.mem_filter]
  simp
theorem selL_len (zs : List BA) (after : BA) (first : Bool) : (selL zs after first).length ≤ zs.length := by
  have h1 := fold_len (zs.filter (pickB after first)) []
  have h2 := List.length_filter_le (pickB after first) zs
  unfold selL
  simp only [List.length_nil] at h1
  omega
/-- All keys that rise, once each: any such list. -/
theorem sel_first {S zs : List BA} (hr : Rise S) (hm : ∀ x, x ∈ S ↔ x ∈ zs) (after : BA) : S = selL zs after true :=
  rise_ext hr (selL_rise _ _ _) fun x => by rw [hm, selL_mem]; simp [pickB]
/-- Behind a text: the rest of it. -/
theorem sel_behind {S zs : List BA} (hr : Rise S) (hm : ∀ x, x ∈ S ↔ x ∈ zs) (after : BA) : S.drop (atL S after + if isL S after then 1 else 0) = selL zs after false := by
  refine rise_ext (hr.sublist (List.drop_sublist _ _)) (selL_rise _ _ _) fun x => ?_
  rw [selL_mem, ← hm]
  unfold pickB
  rw [Bool.false_or, ltB_iff]
  constructor
  · intro hx
    obtain ⟨i, hi, rfl⟩ := List.getElem_of_mem hx
    rw [List.length_drop] at hi
    rw [List.getElem_drop]
    refine ⟨List.getElem_mem _, ?_⟩
    obtain ⟨m, hme⟩ : ∃ m, m = atL S after + (if isL S after then 1 else 0) + i := ⟨_, rfl⟩
    have hml : m < S.length := by omega
    simp only [← hme]
    have h1 := atL_ge hr after m hml (by omega)
    by_cases h2 : nlt after S[m]
    · exact h2
    · exfalso
      have h3 := nlt_total h1 h2
      have h4 : isL S after = true := (isL_mem hr).2 (h3 ▸ List.getElem_mem hml)
      rw [h4, if_pos rfl] at hme
      have h5 := isL_iff.1 h4
      have h6 : atL S after < S.length := by omega
      rw [List.getElem?_eq_getElem h6, Option.some.injEq] at h5
      have h7 := List.pairwise_iff_getElem.1 hr (atL S after) m h6 hml (by omega)
      rw [h5, h3] at h7
      exact nlt_irrefl _ h7
  · rintro ⟨hx, hlt⟩
    obtain ⟨i, hi, rfl⟩ := List.getElem_of_mem hx
    have h1 : atL S after + (if isL S after then 1 else 0) ≤ i := by
      by_cases h4 : i < atL S after
      · exact absurd (nlt_trans hlt (atL_lt after S i hi h4)) (nlt_irrefl _)
      · split
        · rename_i h5
          by_cases h6 : i = atL S after
          · have h7 := isL_iff.1 h5
            rw [← h6, List.getElem?_eq_getElem hi, Option.some.injEq] at h7
            rw [h7] at hlt
            exact absurd hlt (nlt_irrefl _)
          · omega
        · omega
    obtain ⟨d, rfl⟩ := Nat.exists_eq_add_of_le h1
    have h2 : (S.drop (atL S after + if isL S after then 1 else 0))[d]? = some S[atL S after + (if isL S after then 1 else 0) + d] := by
      rw [List.getElem?_drop, List.getElem?_eq_getElem]
    exact List.mem_of_getElem? h2
/-- The shelf's search finds the place. -/
theorem bs_at {S : List BA} (hr : Rise S) (s : BA) (f : Nat → Bool) (hf : ∀ t (h : t < S.length), f t = ltB S[t] s) (hg : ∀ t, S.length ≤ t → f t = false) : Lib.bsGo f S.length 0 S.length = atL S s := by
  refine Lib.bsGo_spec f (atL S s) (fun t ht => ?_) (fun t ht => ?_) S.length 0 S.length (by omega) (Nat.zero_le _) (atL_le S s)
  · have := atL_le S s
    rw [hf t (by omega), ltB_iff]
    exact atL_lt s S t (by omega) ht
  · by_cases h : t < S.length
    · rw [hf t h, ltB_no]
      exact atL_ge hr s t h ht
    · exact hg t (by omega)
theorem bs_congr (f g : Nat → Bool) {n : Nat} (h : ∀ t, t < n → f t = g t) : ∀ fuel lo hi, hi ≤ n → Lib.bsGo f fuel lo hi = Lib.bsGo g fuel lo hi
  | 0, lo, hi, _ => rfl
  | fuel + 1, lo, hi, hn => by
    unfold Lib.bsGo
    split
    · rename_i hlt
      have hm : (lo + hi) / 2 < n := by omega
      rw [h _ hm, bs_congr f g h fuel _ hi hn, bs_congr f g h fuel lo _ (by omega)]
    · rfl
/-! ### slices.Compact of a sorted list -/
theorem compact_inv (d : Array (List UInt8)) (hs : ∀ i j, i ≤ j → j < d.size → d[i]! ≤ d[j]!) : ∀ m, m ≤ d.size → (Lib.compactUpTo d m).Pairwise (· < ·) ∧ (∀ x, x ∈ Lib.compactUpTo d m ↔ ∃ j, j < m ∧ d[j]! = x)
  | 0, _ => by
    have h0 : Lib.compactUpTo d 0 = [] := rfl
    rw [h0]
    exact ⟨List.Pairwise.nil, fun x => by simp⟩
  | m + 1, hm => by
    obtain ⟨h1, h2⟩ := compact_inv d hs m (by omega)
    rw [Lib.compactUpTo_succ]
    by_cases hk : Lib.keeps d m = true
    · rw [if_pos hk]
      refine ⟨List.pairwise_append.2 ⟨h1, List.pairwise_singleton _ _, fun a ha b hb => ?_⟩, fun x => ?_⟩
      · rw [List.mem_singleton] at hb
        subst hb
        obtain ⟨j, hj, rfl⟩ := (h2 a).1 ha
        have h3 := hs j (m - 1) (by omega) (by omega)
        have h4 := hs (m - 1) m (by omega) (by omega)
        have h5 : d[m - 1]! ≠ d[m]! := by
          unfold Lib.keeps at hk
          simp only [decide_eq_true_eq] at hk
          rcases hk with hk | hk
          · omega
          · exact fun e => hk e.symm
        rcases Classical.em (d[m - 1]! < d[m]!) with h6 | h6
        · exact List.lt_of_le_of_lt h3 h6
        · exact absurd (List.le_antisymm h4 (List.not_lt.1 h6)) h5
      · rw [List.mem_append, h2, List.mem_singleton]
        constructor
        · rintro (⟨j, hj, e⟩ | e)
          · exact ⟨j, by omega, e⟩
          · exact ⟨m, by omega, e.symm⟩
        · rintro ⟨j, hj, e⟩
          rcases Nat.lt_or_ge j m with h | h
          · exact .inl ⟨j, h, e⟩
          · obtain rfl : j = m := by omega
            exact .inr e.symm
    · rw [if_neg hk, List.append_nil]
      refine ⟨h1, fun x => ?_⟩
      rw [h2]
      constructor
      · rintro ⟨j, hj, e⟩
        exact ⟨j, by omega, e⟩
      · rintro ⟨j, hj, e⟩
        rcases Nat.lt_or_ge j m with h | h
        · exact ⟨j, h, e⟩
        · obtain rfl : j = m := by omega
          unfold Lib.keeps at hk
          simp only [decide_eq_true_eq, not_or, ne_eq, Decidable.not_not] at hk
          exact ⟨j - 1, by omega, by rw [← e]; exact hk.2.symm⟩
def toBA (x : List UInt8) : BA := ⟨x.toArray⟩
theorem toBA_list (x : List UInt8) : (toBA x).data.toList = x := rfl
/-- What slices.Compact(slices.Sorted(..)) comes to. -/
def sortC (zs : List BA) : List (List UInt8) := Lib.compact ((zs.map (·.data.toList)).mergeSort fun x y => decide (x ≤ y))
def sortD (zs : List BA) : List BA := (sortC zs).map toBA
theorem sortC_inv (zs : List BA) : (sortC zs).Pairwise (· < ·) ∧ ∀ x, x ∈ sortC zs ↔ x ∈ zs.map (·.data.toList) := by
  obtain ⟨M, hM⟩ : ∃ M, M = (zs.map (·.data.toList)).mergeSort fun x y => decide (x ≤ y) := ⟨_, rfl⟩
  have hp : M.Perm (zs.map (·.data.toList)) := by rw [hM]; exact List.mergeSort_perm _ _
  have hs : M.Pairwise fun a b => decide (a ≤ b) = true := by
    rw [hM]
    exact List.pairwise_mergeSort (fun a b c h1 h2 => by simp only [decide_eq_true_eq] at *; exact List.le_trans h1 h2) (fun a b => by simp only [Bool.or_eq_true, decide_eq_true_eq]; exact List.le_total a b) _
  have hi := compact_inv M.toArray (fun i j hij hj => by
    have hj' : j < M.length := by simpa using hj
    rw [getElem!_pos M.toArray i (by simp; omega), getElem!_pos M.toArray j (by simp; omega)]
    simp only [List.getElem_toArray]
    rcases Nat.eq_or_lt_of_le hij with e | e
    · subst e; exact List.le_refl _
    · exact of_decide_eq_true (List.pairwise_iff_getElem.1 hs i j (by omega) hj' e)) M.length (by simp)
  have he : sortC zs = Lib.compactUpTo M.toArray M.length := by unfold sortC; rw [← hM]; rfl
  rw [he]
  refine ⟨hi.1, fun x => ?_⟩
  rw [hi.2, ← hp.mem_iff]
  constructor
  · rintro ⟨j, hj, e⟩
    rw [getElem!_pos M.toArray j (by simpa using hj)] at e
    rw [← e]
    simp
  · intro hx
    obtain ⟨j, hj, rfl⟩ := List.getElem_of_mem hx
    exact ⟨j, hj, by rw [getElem!_pos M.toArray j (by simpa using hj)]; simp⟩
theorem sortD_rise (zs : List BA) : Rise (sortD zs) := List.pairwise_map.2 ((sortC_inv zs).1.imp fun h => h)
theorem sortD_mem (zs : List BA) (x : BA) : x ∈ sortD zs ↔ x ∈ zs := by
  unfold sortD
  rw [List.mem_map]
  constructor
  · rintro ⟨y, hy, rfl⟩
    rw [(sortC_inv zs).2] at hy
    obtain ⟨z, hz, rfl⟩ := List.mem_map.1 hy
    exact hz
  · intro hx
    exact ⟨x.data.toList, ((sortC_inv zs).2 _).2 (List.mem_map.2 ⟨x, hx, rfl⟩), rfl⟩
end Go.Proofs.Ytnpalplnpfgibaa
