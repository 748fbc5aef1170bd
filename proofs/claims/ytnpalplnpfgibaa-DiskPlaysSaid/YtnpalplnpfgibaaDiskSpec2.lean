/- What disk's Cut, Rename, Delete come to, as functions of the files. -/
import Derived.Test.YtnpalplnpfgibaaDiskCut
namespace Go.Proofs.Ytnpalplnpfgibaa
open Go.RowKit
def notF (n : ByteArray) (p : ByteArray × File) : Bool := !(p.1.data.toList == n.data.toList)
theorem notF_iff {n : ByteArray} {p : ByteArray × File} : notF n p = true ↔ p.1 ≠ n := by
  unfold notF
  rw [Bool.not_eq_true', ← Bool.not_eq_true, ba_beq]
def delS (st : DSt) (fs : Files) (n : ByteArray) : Nat × DSt × Files :=
  if st.down then (15, st, fs) else match lookF fs n with
    | none => (5, st, fs)
    | some _ => if st.falls then (15, st.fall, crashF st.keep fs) else (0, st.next, fs.filter (notF n))
def renS (st : DSt) (fs : Files) (n to : ByteArray) : Nat × DSt × Files :=
  if st.down then (15, st, fs) else match lookF fs n with
    | none => (5, st, fs)
    | some f => if st.falls then (15, st.fall, crashF st.keep fs) else (0, st.next, (to, f) :: (fs.filter (notF n)).filter (notF to))
def cutS (st : DSt) (fs : Files) (n : ByteArray) (k : Int) : Nat × DSt × Files :=
  if st.down then (15, st, fs) else match lookF fs n with
    | none => (5, st, fs)
    | some f => if k < 0 ∨ (f.b.length : Int) < k then (1, st, fs) else if st.falls then (15, st.fall, crashF st.keep fs) else (0, st.next, updF fs n ⟨f.b.take k.toNat, min f.s k.toNat⟩)
theorem filter_not {e : Ent} {R : List Ent} (h : ∀ q ∈ R, q.name ≠ e.name) : (fsOf (e :: R)).filter (notF e.name) = fsOf R := by
  show (((e.name, e.f) :: fsOf R).filter (notF e.name)) = _
  rw [List.filter_cons_of_neg (by rw [notF_iff]; simp), List.filter_eq_self.2]
  intro p hp
  obtain ⟨q, hq, rfl⟩ := List.mem_map.1 hp
  exact notF_iff.2 (h q hq)
theorem diskDelete (bm : Nat) (st : DSt) (D : DataW Unit) (L : List Ent) (n : ByteArray) (w : World) (h : IsDisk w bm st D L) (hw : DWf st L) (hs : n.size ≤ maxLen) :
    Calls Try.prog 53 #[.pointer (some ⟨bm + 1, 0, none⟩), .string n] w (DAns (delS st (fsOf L) n) bm L w) := by
  unfold delS
  cases hd : st.down with
  | true => exact (delDown bm st D L n w h hd).mono fun e w' => DAns.same h
  | false =>
    simp only [Bool.false_eq_true, if_false]
    cases hk : lookF (fsOf L) n with
    | none => exact (delNo bm st D L n w h hd (lookF_none hk) hs).mono fun e w' => DAns.same h
    | some f =>
      obtain ⟨e, R, hp, rfl, rfl⟩ := lookF_some hk
      have h' := h.perm hp
      have hw' := hw.perm hp
      cases hf : st.falls with
      | true => exact (delFalls bm st D L e w h hw hd (hp.mem_iff.2 (by simp)) hf).mono fun e1 w' => DAns.eff (by rw [fsOf_crash])
      | false =>
        refine (delOk bm st D e R w h' hw' hd hf).mono fun e1 w' ⟨h1, h2, h3⟩ => ⟨h1, _, _, h2, h3.perm hp.symm (List.Perm.refl _), ?_⟩
        refine List.Perm.trans ?_ ((fsOf_perm hp.symm).filter _)
        rw [filter_not (names_ne h')]
theorem diskCut (bm : Nat) (st : DSt) (D : DataW Unit) (L : List Ent) (n : ByteArray) (k : Int) (w : World) (h : IsDisk w bm st D L) (hw : DWf st L) (hs : n.size ≤ maxLen) :
    Calls Try.prog 51 #[.pointer (some ⟨bm + 1, 0, none⟩), .string n, .int .i64 k] w (DAns (cutS st (fsOf L) n k) bm L w) := by
  unfold cutS
  cases hd : st.down with
  | true => exact (cutDown bm st D L n k w h hd).mono fun e w' => DAns.same h
  | false =>
    simp only [Bool.false_eq_true, if_false]
    cases hk : lookF (fsOf L) n with
    | none => exact (cutNo bm st D L n k w h hd (lookF_none hk) hs).mono fun e w' => DAns.same h
    | some f =>
      obtain ⟨e, R, hp, rfl, rfl⟩ := lookF_some hk
      have h' := h.perm hp
      have hw' := hw.perm hp
      have hm : e ∈ L := hp.mem_iff.2 (by simp)
      simp only
      by_cases hb : k < 0
      · rw [if_pos (.inl hb)]
        exact (cutLow bm st D L e k w h hd hm hb).mono fun e w' => DAns.same h
      · by_cases hb2 : (e.f.b.length : Int) < k
        · rw [if_pos (.inr hb2)]
          exact (cutHigh bm st D L e k w h hd hm (by omega) hb2).mono fun e w' => DAns.same h
        · rw [if_neg (by omega)]
          obtain ⟨j, rfl⟩ : ∃ j : Nat, k = (j : Int) := ⟨k.toNat, by omega⟩
          rw [Int.toNat_natCast]
          cases hf : st.falls with
          | true => exact (cutFalls bm st D L e j w h hw hd hm hf (by omega)).mono fun e1 w' => DAns.eff (by rw [fsOf_crash])
          | false =>
            refine (cutOk bm st D e R j w h' hw' hd hf (by omega)).mono fun e1 w' ⟨h1, h2, h3⟩ => ⟨h1, _, _, h2, h3.perm hp.symm (List.Perm.refl _), ?_⟩
            refine List.Perm.trans ?_ (updF_perm (fsOf_perm hp.symm) _ _)
            rw [updF_cons (names_ne h')]
            exact List.Perm.refl _
theorem renMap {D : DataW Unit} {e : Ent} {R : List Ent} {to : ByteArray} (h : MapIs D (e :: R)) (hn : ∀ q ∈ R, q.name ≠ e.name) (hr : R.Pairwise fun a b => a.name ≠ b.name) :
    MapIs ((D.del (fk e.name)).put (fk to) (.lit (.int .i64 (e.bf : Int)))) ({ e with name := to } :: R.filter fun q => decide (q.name ≠ to)) := by
  have h1 := h.sub hn
  by_cases hx : ∃ q ∈ R, q.name = to
  · obtain ⟨e2, h2, rfl⟩ := hx
    obtain ⟨A, B, rfl⟩ := List.append_of_mem h2
    have hp : (A ++ e2 :: B).Perm (e2 :: (A ++ B)) := List.perm_middle
    have hr2 := (hp.pairwise_iff (fun h => h.symm)).1 hr
    have hr3 : ∀ q ∈ A ++ B, q.name ≠ e2.name := fun q hq => ((List.pairwise_cons.1 hr2).1 q hq).symm
    have h3 : ((A ++ e2 :: B).filter fun q => decide (q.name ≠ e2.name)).Perm (A ++ B) := by
      refine (hp.filter _).trans ?_
      rw [List.filter_cons_of_neg (by simp), List.filter_eq_self.2]
      intro q hq
      simpa using hr3 q hq
    have h4 := (h1.perm hp).repl (e' := { e with name := e2.name }) hr3 rfl
    exact h4.perm (List.Perm.cons _ h3.symm)
  · have h3 : (R.filter fun q => decide (q.name ≠ to)) = R := List.filter_eq_self.2 fun q hq => by
      simp only [ne_eq, decide_not, Bool.not_eq_true', decide_eq_false_iff_not]
      exact fun e' => hx ⟨q, hq, e'⟩
    rw [h3]
    exact h1.add { e with name := to } fun q hq e' => hx ⟨q, hq, e'⟩
theorem diskRename (bm : Nat) (st : DSt) (D : DataW Unit) (L : List Ent) (n to : ByteArray) (w : World) (h : IsDisk w bm st D L) (hw : DWf st L) (hs : n.size ≤ maxLen) (ht : to.size ≤ maxLen) :
    Calls Try.prog 52 #[.pointer (some ⟨bm + 1, 0, none⟩), .string n, .string to] w (DAns (renS st (fsOf L) n to) bm L w) := by
  unfold renS
  cases hd : st.down with
  | true => exact (renDown bm st D L n to w h hd).mono fun e w' => DAns.same h
  | false =>
    simp only [Bool.false_eq_true, if_false]
    cases hk : lookF (fsOf L) n with
    | none => exact (renNo bm st D L n to w h hd (lookF_none hk) hs).mono fun e w' => DAns.same h
    | some f =>
      obtain ⟨e, R, hp, rfl, rfl⟩ := lookF_some hk
      have h' := h.perm hp
      have hw' := hw.perm hp
      cases hf : st.falls with
      | true => exact (renFalls bm st D L e to w h hw hd (hp.mem_iff.2 (by simp)) hf).mono fun e1 w' => DAns.eff (by rw [fsOf_crash])
      | false =>
        have hm := renMap (to := to) h'.fs.map (names_ne h') ((List.pairwise_cons.1 h'.fs.apart).2.imp fun a => a.name)
        refine (renOk bm st D e R _ to w h' hw' hd hf ht List.filter_sublist (fun q hq => by simpa using (List.mem_filter.1 hq).2) hm).mono fun e1 w' ⟨h1, h2, h3⟩ => ⟨h1, _, _, h2, h3.perm hp.symm (List.Perm.refl _), ?_⟩
        refine List.Perm.cons _ ?_
        refine List.Perm.trans ?_ (((fsOf_perm hp.symm).filter _).filter _)
        rw [filter_not (names_ne h')]
        unfold fsOf
        rw [List.filter_map]
        refine List.Perm.of_eq (congrArg _ (List.filter_congr fun q _ => ?_))
        unfold notF
        simp only [Function.comp]
        cases hq : (q.name.data.toList == to.data.toList) with
        | true => rw [ba_beq.1 hq]; simp
        | false =>
          have : q.name ≠ to := fun e' => by rw [ba_beq.2 e'] at hq; cases hq
          simp [this]
end Go.Proofs.Ytnpalplnpfgibaa
