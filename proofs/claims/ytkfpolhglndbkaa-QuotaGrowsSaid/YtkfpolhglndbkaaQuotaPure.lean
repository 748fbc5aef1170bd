/- What the reserve is, and its laws. No program in sight. -/
namespace Go.Proofs.Ytkfpolhglndbkaa
/-- The sum so far, while every number may be added. -/
def addsI : List Int → Int → Option Int
  | [], s => some s
  | n :: l, s => if n < 0 ∨ 4611686018427382903 - s < n then none else addsI l (s + n)
def sumI : List Int → Int
  | [] => 0
  | n :: l => n + sumI l
def reserveV (l : List Int) (admin : Int) : Int :=
  match addsI (l ++ [admin]) 0 with
  | some s => 2 * s + 10000
  | none => 9223372036854775807
theorem addsI_append (a b : List Int) : ∀ s, addsI (a ++ b) s = (addsI a s).bind (addsI b) := by
  induction a with
  | nil => intro s; rfl
  | cons n a ih =>
    intro s
    simp only [List.cons_append, addsI]
    split
    · rfl
    · exact ih _
theorem sumI_append (a b : List Int) : sumI (a ++ b) = sumI a + sumI b := by
  induction a with
  | nil => simp [sumI]
  | cons n a ih => simp only [List.cons_append, sumI, ih]; omega
theorem sumI_nonneg : ∀ (l : List Int), (∀ n ∈ l, 0 ≤ n) → 0 ≤ sumI l
  | [], _ => by simp [sumI]
  | n :: l, h => by
    have := sumI_nonneg l (fun m hm => h m (by simp [hm]))
    have := h n (by simp)
    simp only [sumI]; omega
theorem addsI_some (l : List Int) : ∀ s, 0 ≤ s → s ≤ 4611686018427382903 → (∀ n ∈ l, 0 ≤ n) → s + sumI l ≤ 4611686018427382903 → addsI l s = some (s + sumI l) := by
  induction l with
  | nil => intro s _ _ _ _; simp [addsI, sumI]
  | cons n l ih =>
    intro s h1 h2 h3 h4
    have hn := h3 n (by simp)
    have hl := sumI_nonneg l (fun m hm => h3 m (by simp [hm]))
    simp only [sumI] at h4
    simp only [addsI, sumI]
    rw [if_neg (by omega), ih (s + n) (by omega) (by omega) (fun m hm => h3 m (by simp [hm])) (by omega)]
    congr 1; omega
theorem addsI_out (l : List Int) : ∀ s t, 0 ≤ s → s ≤ 4611686018427382903 → addsI l s = some t → (∀ n ∈ l, 0 ≤ n) ∧ s + sumI l ≤ 4611686018427382903 ∧ t = s + sumI l := by
  induction l with
  | nil => intro s t h1 h2 h; simp [addsI] at h; subst h; exact ⟨fun n hn => (by cases hn), (by simp [sumI]; omega), (by simp [sumI])⟩
  | cons n l ih =>
    intro s t h1 h2 h
    simp only [addsI] at h
    split at h
    · cases h
    · rename_i hn
      obtain ⟨h3, h4, h5⟩ := ih _ _ (by omega) (by omega) h
      refine ⟨fun m hm => ?_, by simp only [sumI]; omega, by simp only [sumI]; omega⟩
      rcases List.mem_cons.1 hm with rfl | hm
      · omega
      · exact h3 m hm
/-- The reserve, in one word. -/
def Fits (l : List Int) (admin : Int) : Prop := (∀ n ∈ l, 0 ≤ n) ∧ 0 ≤ admin ∧ sumI l + admin ≤ 4611686018427382903
theorem reserveV_fits {l : List Int} {admin : Int} (h : Fits l admin) : reserveV l admin = 2 * (sumI l + admin) + 10000 := by
  unfold reserveV
  rw [addsI_some (l ++ [admin]) 0 (by omega) (by omega) (fun n hn => by
    rcases List.mem_append.1 hn with hn | hn
    · exact h.1 n hn
    · simp at hn; subst hn; exact h.2.1) (by rw [sumI_append]; simp only [sumI]; have := h.2.2; omega)]
  simp only [sumI_append, sumI]; omega
theorem reserveV_not {l : List Int} {admin : Int} (h : ¬ Fits l admin) : reserveV l admin = 9223372036854775807 := by
  unfold reserveV
  split
  · rename_i s hs
    obtain ⟨h1, h2, _⟩ := addsI_out _ _ _ (by omega) (by omega) hs
    rw [sumI_append] at h2
    simp only [sumI] at h2
    exact (h ⟨fun n hn => h1 n (by simp [hn]), h1 admin (by simp), by omega⟩).elim
  · rfl
theorem reserveV_le {l : List Int} {admin : Int} : reserveV l admin ≤ 9223372036854775807 := by
  by_cases h : Fits l admin
  · rw [reserveV_fits h]; have := h.2.2; omega
  · rw [reserveV_not h]; omega
/-- It grows. -/
theorem reserveV_grows {l l' : List Int} {admin : Int} (h : Fits l' admin → Fits l admin ∧ sumI l ≤ sumI l') : reserveV l admin ≤ reserveV l' admin := by
  by_cases h' : Fits l' admin
  · obtain ⟨h1, h2⟩ := h h'
    rw [reserveV_fits h1, reserveV_fits h']; omega
  · rw [reserveV_not h']; exact reserveV_le
theorem reserveV_more (l : List Int) (more admin : Int) : reserveV l admin ≤ reserveV (l ++ [more]) admin := by
  refine reserveV_grows fun h => ?_
  have hm := h.1 more (by simp)
  have h3 := h.2.2
  rw [sumI_append] at *
  simp only [sumI] at *
  exact ⟨⟨fun n hn => h.1 n (by simp [hn]), h.2.1, by omega⟩, by omega⟩
theorem sumI_reverse (l : List Int) : sumI l.reverse = sumI l := by
  induction l with
  | nil => rfl
  | cons n l ih => rw [List.reverse_cons, sumI_append, ih]; simp only [sumI]; omega
theorem reserveV_back (l : List Int) (admin : Int) : reserveV l.reverse admin = reserveV l admin := by
  by_cases h : Fits l admin
  · have h' : Fits l.reverse admin := ⟨fun n hn => h.1 n (by simpa using hn), h.2.1, by rw [sumI_reverse]; exact h.2.2⟩
    rw [reserveV_fits h, reserveV_fits h', sumI_reverse]
  · have h' : ¬ Fits l.reverse admin := fun h2 => h ⟨fun n hn => h2.1 n (by simpa using hn), h2.2.1, by rw [← sumI_reverse]; exact h2.2.2⟩
    rw [reserveV_not h, reserveV_not h']
theorem sumI_set : ∀ (l : List Int) (k : Nat) (hk : k < l.length) (x : Int), sumI (l.set k x) = sumI l - l[k] + x
  | [], k, hk, _ => by simp at hk
  | n :: l, 0, _, x => by simp [sumI]; omega
  | n :: l, k + 1, hk, x => by
    have := sumI_set l k (by simpa using hk) x
    simp only [List.set_cons_succ, sumI, List.getElem_cons_succ, this]; omega
theorem reserveV_set (l : List Int) (k : Nat) (hk : k < l.length) (more admin : Int) (h0 : 0 ≤ more) (hb : 0 ≤ l[k]) : reserveV l admin ≤ reserveV (l.set k (l[k] + more)) admin := by
  refine reserveV_grows fun h => ?_
  have h3 := h.2.2
  rw [sumI_set l k hk] at *
  refine ⟨⟨fun n hn => ?_, h.2.1, by omega⟩, by omega⟩
  obtain ⟨i, hi, rfl⟩ := List.getElem_of_mem hn
  by_cases hik : i = k
  · subst hik; exact hb
  · exact h.1 _ (List.mem_iff_getElem.2 ⟨i, by simpa using hi, by rw [List.getElem_set_ne (fun e => hik e.symm)]⟩)
attribute [irreducible] reserveV
end Go.Proofs.Ytkfpolhglndbkaa
