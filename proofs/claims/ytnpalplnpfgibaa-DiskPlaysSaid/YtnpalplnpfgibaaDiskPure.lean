/- The plain law between the disk's files and the reference's rising row of them. -/
import Derived.Test.YtnpalplnpfgibaaRefDrop
namespace Go.Proofs.Ytnpalplnpfgibaa
open Go.RowKit
def nlt (a b : ByteArray) : Prop := a.data.toList < b.data.toList
theorem nlt_irrefl (a : ByteArray) : ¬ nlt a a := List.lt_irrefl _
theorem nlt_trans {a b c : ByteArray} (h : nlt a b) (h' : nlt b c) : nlt a c := List.lt_trans h h'
theorem nlt_total {a b : ByteArray} (h : ¬ nlt a b) (h' : ¬ nlt b a) : a = b := ba_eq (List.le_antisymm (List.not_lt.1 h') (List.not_lt.1 h))
def Rise (l : List RF) : Prop := l.Pairwise fun a b => nlt a.name b.name
/-- What stands ahead of a name's place is less; what stands from there on is not. -/
theorem rfAt_split (l : List RF) (n : ByteArray) (h : Rise l) : (∀ q ∈ l.take (rfAt l n), nlt q.name n) ∧ (∀ q ∈ l.drop (rfAt l n), ¬ nlt q.name n) := by
  induction l with
  | nil => exact ⟨fun q hq => by simp at hq, fun q hq => by simp at hq⟩
  | cons r l ih =>
    have hp := List.pairwise_cons.1 h
    have ih := ih hp.2
    rw [rfAt_cons]
    by_cases hr : r.name.data.toList < n.data.toList
    · rw [if_pos hr, List.take_succ_cons, List.drop_succ_cons]
      refine ⟨fun q hq => ?_, ih.2⟩
      rcases List.mem_cons.1 hq with rfl | hq
      · exact hr
      · exact ih.1 q hq
    · rw [if_neg hr, List.take_zero, List.drop_zero]
      refine ⟨fun q hq => by simp at hq, fun q hq => ?_⟩
      rcases List.mem_cons.1 hq with rfl | hq
      · exact hr
      · exact fun e => hr (nlt_trans (hp.1 q hq) e)
theorem rfIs_yes {l : List RF} {n : ByteArray} (h : rfIs l n = true) : ∃ hj : rfAt l n < l.length, l[rfAt l n].name = n := by
  unfold rfIs at h
  cases hq : l[rfAt l n]? with
  | none => rw [hq] at h; cases h
  | some q =>
    rw [hq] at h
    obtain ⟨hj, he⟩ := List.getElem?_eq_some_iff.1 hq
    exact ⟨hj, by rw [he]; exact ba_beq.1 h⟩
theorem rfIs_no {l : List RF} {n : ByteArray} (hr : Rise l) (h : rfIs l n = false) : ∀ q ∈ l, q.name ≠ n := by
  intro q hq e
  have hs := rfAt_split l n hr
  rw [← List.take_append_drop (rfAt l n) l] at hq
  rcases List.mem_append.1 hq with hq | hq
  · exact nlt_irrefl _ (e ▸ hs.1 q hq)
  · have hlt : rfAt l n < l.length := by
      by_cases h1 : rfAt l n < l.length
      · exact h1
      · rw [List.drop_eq_nil_of_le (by omega)] at hq
        cases hq
    rw [List.drop_eq_getElem_cons hlt] at hq
    have hne : l[rfAt l n].name ≠ n := fun e' => by
      unfold rfIs at h
      rw [List.getElem?_eq_getElem hlt] at h
      simp only [Option.map_some, Option.getD_some] at h
      rw [ba_beq.2 e'] at h
      cases h
    rcases List.mem_cons.1 hq with rfl | hq2
    · exact hne e
    · have hp : (l.drop (rfAt l n)).Pairwise fun a b => nlt a.name b.name := hr.sublist (List.drop_sublist _ _)
      rw [List.drop_eq_getElem_cons hlt] at hp
      have h1 := (List.pairwise_cons.1 hp).1 q hq2
      rw [e] at h1
      exact hs.2 _ (by rw [List.drop_eq_getElem_cons hlt]; exact List.mem_cons_self ..) h1
theorem rise_put {l : List RF} {q : RF} (hr : Rise l) (h : ∀ x ∈ l, x.name ≠ q.name) : Rise (l.take (rfAt l q.name) ++ q :: l.drop (rfAt l q.name)) := by
  have hs := rfAt_split l q.name hr
  have hd : ∀ x ∈ l.drop (rfAt l q.name), nlt q.name x.name := fun x hx => by
    by_cases h1 : nlt q.name x.name
    · exact h1
    · exact absurd (nlt_total (hs.2 x hx) h1) (h x (List.mem_of_mem_drop hx))
  refine List.pairwise_append.2 ⟨hr.sublist (List.take_sublist _ _), List.pairwise_cons.2 ⟨hd, hr.sublist (List.drop_sublist _ _)⟩, fun a ha b hb => ?_⟩
  rcases List.mem_cons.1 hb with rfl | hb
  · exact hs.1 a ha
  · exact nlt_trans (hs.1 a ha) (hd b hb)
theorem put_perm (l : List RF) (q : RF) (k : Nat) : (rfsOf (l.take k ++ q :: l.drop k)).Perm ((q.name, ⟨q.b, q.s⟩) :: rfsOf l) := by
  have h1 : (l.take k ++ q :: l.drop k).Perm (q :: l) := by
    refine List.perm_middle.trans (List.Perm.cons _ ?_)
    rw [List.take_append_drop]
  exact h1.map _
theorem rise_drop {l : List RF} (hr : Rise l) (n : ByteArray) : Rise (rfDrop l n) := by
  unfold rfDrop
  split
  · refine hr.sublist ?_
    conv => rhs; rw [← List.take_append_drop (rfAt l n) l]
    exact List.Sublist.append_left (List.drop_sublist_drop_left _ (Nat.le_succ _)) _
  · exact hr
theorem drop_fs {l : List RF} (hr : Rise l) (n : ByteArray) : rfsOf (rfDrop l n) = (rfsOf l).filter (notF n) := by
  unfold rfDrop
  cases hi : rfIs l n with
  | false =>
    rw [if_neg (by simp)]
    refine (List.filter_eq_self.2 fun p hp => ?_).symm
    obtain ⟨q, hq, rfl⟩ := List.mem_map.1 hp
    exact notF_iff.2 (rfIs_no hr hi q hq)
  | true =>
    rw [if_pos rfl]
    obtain ⟨hlt, hn⟩ := rfIs_yes hi
    obtain ⟨k, hk⟩ : ∃ k, k = rfAt l n := ⟨_, rfl⟩
    have hsp : l = l.take (rfAt l n) ++ l[rfAt l n] :: l.drop (rfAt l n + 1) := by
      rw [← List.drop_eq_getElem_cons hlt, List.take_append_drop]
    have hp : (l.take (rfAt l n) ++ l[rfAt l n] :: l.drop (rfAt l n + 1)).Pairwise fun a b => nlt a.name b.name := by rw [← hsp]; exact hr
    have hp2 := List.pairwise_append.1 hp
    have hp3 := List.pairwise_cons.1 hp2.2.1
    conv => rhs; rw [hsp]
    unfold rfsOf
    rw [List.map_append, List.map_append, List.map_cons, List.filter_append, List.filter_cons_of_neg (by rw [notF_iff]; simp [hn]), List.filter_eq_self.2, List.filter_eq_self.2]
    · intro p hp
      obtain ⟨q, hq, rfl⟩ := List.mem_map.1 hp
      refine notF_iff.2 fun e => ?_
      have h1 := hp3.1 q hq
      simp only at e
      rw [hn, e] at h1
      exact nlt_irrefl _ h1
    · intro p hp
      obtain ⟨q, hq, rfl⟩ := List.mem_map.1 hp
      refine notF_iff.2 fun e => ?_
      have h1 := hp2.2.2 q hq _ (List.mem_cons_self ..)
      simp only at e
      rw [hn, e] at h1
      exact nlt_irrefl _ h1
/-- One file turns. -/
theorem set_fs {l : List RF} (hr : Rise l) {n : ByteArray} {k : Nat} (hk : k < l.length) (hn : l[k].name = n) (q' : RF) (hq : q'.name = n) : rfsOf (l.set k q') = updF (rfsOf l) n ⟨q'.b, q'.s⟩ := by
  refine List.ext_getElem (by simp [rfsOf, updF]) fun i h1 h2 => ?_
  have hi : i < l.length := by simpa [rfsOf] using h1
  simp only [rfsOf, updF, List.getElem_map, List.getElem_set]
  by_cases e : k = i
  · subst e
    rw [if_pos rfl, if_pos (ba_beq.2 hn), hn, hq]
  · rw [if_neg e, if_neg]
    rw [ba_beq]
    intro e2
    have hp := List.pairwise_iff_getElem.1 hr
    rcases Nat.lt_or_gt_of_ne e with h | h
    · have := hp k i hk hi h
      rw [hn, e2] at this
      exact nlt_irrefl _ this
    · have := hp i k hi hk h
      rw [hn, e2] at this
      exact nlt_irrefl _ this
theorem rise_set {l : List RF} (hr : Rise l) {k : Nat} (hk : k < l.length) (q' : RF) (hq : q'.name = l[k].name) : Rise (l.set k q') := by
  refine List.pairwise_iff_getElem.2 fun i j hi hj hij => ?_
  have hp := List.pairwise_iff_getElem.1 hr i j (by simpa using hi) (by simpa using hj) hij
  simp only [List.getElem_set]
  split
  · rename_i e
    subst e
    rw [hq, if_neg (by omega)]
    exact hp
  · split
    · rename_i e
      subst e
      rw [hq]
      exact hp
    · exact hp
/-- The two look-ups. -/
theorem has_look {l : List RF} (hr : Rise l) {fs : Files} (hp : fs.Perm (rfsOf l)) (n : ByteArray) : hasF fs n = rfIs l n := by
  have h1 : hasF fs n = hasF (rfsOf l) n := by
    unfold hasF
    rw [Bool.eq_iff_iff, List.any_eq_true, List.any_eq_true]
    exact ⟨fun ⟨x, h1, h2⟩ => ⟨x, hp.mem_iff.1 h1, h2⟩, fun ⟨x, h1, h2⟩ => ⟨x, hp.mem_iff.2 h1, h2⟩⟩
  rw [h1]
  cases hi : rfIs l n with
  | false =>
    unfold hasF
    rw [List.any_eq_false]
    intro p hp
    obtain ⟨q, hq, rfl⟩ := List.mem_map.1 hp
    rw [ba_beq]
    exact rfIs_no hr hi q hq
  | true =>
    obtain ⟨hlt, hn⟩ := rfIs_yes hi
    unfold hasF
    rw [List.any_eq_true]
    exact ⟨_, List.mem_map.2 ⟨l[rfAt l n], List.getElem_mem _, rfl⟩, ba_beq.2 hn⟩
theorem name_one {l : List RF} (hr : Rise l) {k : Nat} (hk : k < l.length) {q : RF} (hq : q ∈ l) (hn : q.name = l[k].name) : q = l[k] := by
  obtain ⟨i, hi, rfl⟩ := List.getElem_of_mem hq
  have hp := List.pairwise_iff_getElem.1 hr
  rcases Nat.lt_trichotomy i k with h | h | h
  · have := hp i k hi hk h
    rw [hn] at this
    exact absurd this (nlt_irrefl _)
  · subst h; rfl
  · have := hp k i hk hi h
    rw [hn] at this
    exact absurd this (nlt_irrefl _)
theorem lookF_of {fs : Files} {n : ByteArray} (h : hasF fs n = true) : ∃ f, lookF fs n = some f ∧ (n, f) ∈ fs := by
  unfold hasF at h
  unfold lookF
  cases hf : fs.find? fun p => p.1.data.toList == n.data.toList with
  | none =>
    rw [List.find?_eq_none] at hf
    obtain ⟨x, hx, h1⟩ := List.any_eq_true.1 h
    exact absurd h1 (hf x hx)
  | some p =>
    have h1 := List.find?_some hf
    have h2 := List.mem_of_find?_eq_some hf
    rw [ba_beq] at h1
    obtain ⟨a, b⟩ := p
    simp only at h1
    subst h1
    exact ⟨b, rfl, h2⟩
theorem look_yes {l : List RF} (hr : Rise l) {fs : Files} (hp : fs.Perm (rfsOf l)) {n : ByteArray} (hi : rfIs l n = true) (hlt : rfAt l n < l.length) : lookF fs n = some ⟨l[rfAt l n].b, l[rfAt l n].s⟩ := by
  obtain ⟨f, h1, h2⟩ := lookF_of ((has_look hr hp n).trans hi)
  obtain ⟨q, hq, he⟩ := List.mem_map.1 (hp.mem_iff.1 h2)
  simp only [Prod.mk.injEq] at he
  obtain ⟨_, hn⟩ := rfIs_yes hi
  have := name_one hr hlt hq (he.1.trans hn.symm)
  rw [h1, ← he.2, this]
theorem look_no {l : List RF} (hr : Rise l) {fs : Files} (hp : fs.Perm (rfsOf l)) {n : ByteArray} (hi : rfIs l n = false) : lookF fs n = none := by
  have h := (has_look hr hp n).trans hi
  unfold hasF at h
  unfold lookF
  rw [Option.map_eq_none_iff, List.find?_eq_none]
  rw [List.any_eq_false] at h
  exact fun x hx => by simpa using h x hx
end Go.Proofs.Ytnpalplnpfgibaa
