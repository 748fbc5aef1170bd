/- What disk's Create, Append and Sync come to, as functions of the files. -/
import Derived.Test.YtnpalplnpfgibaaDiskRead
namespace Go.Proofs.Ytnpalplnpfgibaa
open Go.RowKit
abbrev Files := List (ByteArray × File)
def fsOf (L : List Ent) : Files := L.map fun e => (e.name, e.f)
def File.crash (keep : Nat) (f : File) : File := ⟨f.b.take (f.kept keep), f.kept keep⟩
def crashF (keep : Nat) (fs : Files) : Files := fs.map fun p => (p.1, p.2.crash keep)
def hasF (fs : Files) (n : ByteArray) : Bool := fs.any fun p => p.1.data.toList == n.data.toList
def lookF (fs : Files) (n : ByteArray) : Option File := (fs.find? fun p => p.1.data.toList == n.data.toList).map (·.2)
def updF (fs : Files) (n : ByteArray) (f : File) : Files := fs.map fun p => if p.1.data.toList == n.data.toList then (p.1, f) else p
def usedF (fs : Files) : Nat := (fs.map fun p => p.2.b.length).sum
theorem usedL_fs (L : List Ent) : usedL L = usedF (fsOf L) := by unfold usedL usedF fsOf; rw [List.map_map]; rfl
theorem fsOf_crash (keep : Nat) (L : List Ent) : fsOf (L.map (Ent.crash keep)) = crashF keep (fsOf L) := by unfold fsOf crashF; rw [List.map_map, List.map_map]; rfl
theorem ba_eq {a b : ByteArray} (h : a.data.toList = b.data.toList) : a = b := by
  cases a; cases b; simp only [ByteArray.mk.injEq]; exact Array.toList_inj.1 h
theorem ba_beq {a b : ByteArray} : (a.data.toList == b.data.toList) = true ↔ a = b := by
  rw [beq_iff_eq]
  exact ⟨ba_eq, fun h => by rw [h]⟩
theorem hasF_no {L : List Ent} {n : ByteArray} (h : hasF (fsOf L) n = false) : ∀ e ∈ L, e.name ≠ n := by
  intro e he e'
  unfold hasF at h
  rw [List.any_eq_false] at h
  exact h (e.name, e.f) (List.mem_map.2 ⟨e, he, rfl⟩) (ba_beq.2 e')
theorem hasF_yes {L : List Ent} {n : ByteArray} (h : hasF (fsOf L) n = true) : ∃ e ∈ L, e.name = n := by
  unfold hasF at h
  rw [List.any_eq_true] at h
  obtain ⟨p, hp, h1⟩ := h
  obtain ⟨e, he, rfl⟩ := List.mem_map.1 hp
  exact ⟨e, he, ba_beq.1 h1⟩
theorem lookF_none {L : List Ent} {n : ByteArray} (h : lookF (fsOf L) n = none) : ∀ e ∈ L, e.name ≠ n := by
  intro e he e'
  unfold lookF at h
  rw [Option.map_eq_none_iff, List.find?_eq_none] at h
  exact h (e.name, e.f) (List.mem_map.2 ⟨e, he, rfl⟩) (ba_beq.2 e')
theorem lookF_some {L : List Ent} {n : ByteArray} {f : File} (h : lookF (fsOf L) n = some f) : ∃ e R, L.Perm (e :: R) ∧ e.name = n ∧ e.f = f := by
  unfold lookF at h
  rw [Option.map_eq_some_iff] at h
  obtain ⟨p, hp, rfl⟩ := h
  have h1 := List.find?_some hp
  obtain ⟨e, he, rfl⟩ := List.mem_map.1 (List.mem_of_find?_eq_some hp)
  obtain ⟨L1, L2, rfl⟩ := List.append_of_mem he
  exact ⟨e, L1 ++ L2, List.perm_middle, ba_beq.1 h1, rfl⟩
theorem updF_cons {e : Ent} {R : List Ent} (h : ∀ q ∈ R, q.name ≠ e.name) (f : File) : updF (fsOf (e :: R)) e.name f = (e.name, f) :: fsOf R := by
  unfold updF fsOf
  rw [List.map_cons, List.map_cons, if_pos (ba_beq.2 rfl)]
  congr 1
  rw [List.map_map]
  refine List.map_congr_left fun q hq => ?_
  simp only [Function.comp]
  rw [if_neg (fun e' => h q hq (ba_beq.1 e'))]
structure DAns (r : Nat × DSt × Files) (bm : Nat) (L : List Ent) (w : World) (e : Ending) (w' : World) : Prop where
  ret : e = .returned (errV r.1)
  st : ∃ D' L', IsDisk w' bm r.2.1 D' L' ∧ DGrew bm w w' L L' ∧ (fsOf L').Perm r.2.2
theorem DAns.same {c : Nat} {st : DSt} {bm : Nat} {D : DataW Unit} {L : List Ent} {w : World} {e : Ending} {w' : World} (h : IsDisk w bm st D L) (hd : DErr c w e w') : DAns (c, st, fsOf L) bm L w e w' := by
  obtain ⟨h1, rfl⟩ := hd
  exact ⟨h1, D, L, h, DGrew.refl _ _ _, List.Perm.refl _⟩
theorem DAns.eff {c : Nat} {st' : DSt} {bm : Nat} {D : DataW Unit} {L L' : List Ent} {fs' : Files} {w : World} {e : Ending} {w' : World} (hp : (fsOf L').Perm fs') (hd : DEff c bm st' D L L' w e w') : DAns (c, st', fs') bm L w e w' :=
  ⟨hd.1, D, L', hd.2.1, hd.2.2, hp⟩
def createS (st : DSt) (fs : Files) (n : ByteArray) : Nat × DSt × Files :=
  if st.down then (15, st, fs) else if hasF fs n then (6, st, fs) else if 1000 ≤ fs.length then (12, st, fs) else if st.falls then (15, st.fall, crashF st.keep fs) else (0, st.next, (n, ⟨[], 0⟩) :: fs)
theorem diskCreate (bm : Nat) (st : DSt) (D : DataW Unit) (L : List Ent) (n : ByteArray) (w : World) (h : IsDisk w bm st D L) (hw : DWf st L) (hs : n.size ≤ maxLen) : Calls Try.prog 24 #[.pointer (some ⟨bm + 1, 0, none⟩), .string n] w (DAns (createS st (fsOf L) n) bm L w) := by
  have hlen : (fsOf L).length = L.length := by simp [fsOf]
  unfold createS
  cases hd : st.down with
  | true => exact (createDown bm st D L n w h hs hd).mono fun e w' => DAns.same h
  | false =>
    simp only [Bool.false_eq_true, if_false]
    cases hh : hasF (fsOf L) n with
    | true =>
      obtain ⟨e, he, hen⟩ := hasF_yes hh
      exact (createTwice bm st D L n w h hs hd e he hen).mono fun e w' => DAns.same h
    | false =>
      simp only [Bool.false_eq_true, if_false, hlen]
      by_cases hm : 1000 ≤ L.length
      · rw [if_pos hm]
        exact (createMany bm st D L n w h hs hd (hasF_no hh) hm).mono fun e w' => DAns.same h
      · rw [if_neg hm]
        cases hf : st.falls with
        | true => exact (createFalls bm st D L n w h hs hw hd (hasF_no hh) (by omega) hf).mono fun e w' => DAns.eff (by rw [fsOf_crash])
        | false =>
          refine (createOk bm st D L n w h hs hw hd (hasF_no hh) (by omega) hf).mono fun e w' ⟨h1, b, D', h2, h3⟩ => ⟨h1, D', _, h2, h3, ?_⟩
          exact List.Perm.refl _
def appendS (st : DSt) (fs : Files) (n : ByteArray) (news : List UInt8) : Nat × DSt × Files :=
  if st.down then (15, st, fs) else match lookF fs n with
    | none => (5, st, fs)
    | some f => if st.cap - (usedF fs : Int) < news.length then (12, st, fs) else if st.falls then (15, st.fall, crashF st.keep fs) else (0, st.next, updF fs n ⟨f.b ++ news, f.s⟩)
theorem updF_perm {fs fs' : Files} (h : fs.Perm fs') (n : ByteArray) (f : File) : (updF fs n f).Perm (updF fs' n f) := h.map _
theorem fsOf_perm {L L' : List Ent} (h : L.Perm L') : (fsOf L).Perm (fsOf L') := h.map _
theorem usedF_perm {fs fs' : Files} (h : fs.Perm fs') : usedF fs = usedF fs' := (h.map _).sum_nat
theorem DWf.perm {st : DSt} {L L' : List Ent} (h : DWf st L) (hp : L.Perm L') : DWf st L' :=
  ⟨h.left, h.keep, h.eff, by rw [← usedL_perm hp]; exact h.used, fun e he => h.file e (hp.mem_iff.2 he), h.capL, h.capH, by rw [← usedL_perm hp]; exact h.room⟩
theorem names_ne {w : World} {bm : Nat} {st : DSt} {D : DataW Unit} {e : Ent} {R : List Ent} (h : IsDisk w bm st D (e :: R)) : ∀ q ∈ R, q.name ≠ e.name := fun q hq => ((List.pairwise_cons.1 h.fs.apart).1 q hq).name.symm
theorem diskAppend (bm : Nat) (st : DSt) (D : DataW Unit) (L : List Ent) (n : ByteArray) (a : Option Addr) (cap : Nat) (news : List UInt8) (w : World) (h : IsDisk w bm st D L) (hw : DWf st L) (hs : n.size ≤ maxLen) (hn : IsBytes w a news) (hl : news.length ≤ 1000000000) (hap : ∀ b off, a = some ⟨b, off, none⟩ → 0 < news.length → ¬ Own bm L b) :
    Calls Try.prog 25 #[.pointer (some ⟨bm + 1, 0, none⟩), .string n, .slice a news.length cap] w (DAns (appendS st (fsOf L) n news) bm L w) := by
  unfold appendS
  cases hd : st.down with
  | true => exact (appendDown bm st D L n a _ cap w h hd).mono fun e w' => DAns.same h
  | false =>
    simp only [Bool.false_eq_true, if_false]
    cases hk : lookF (fsOf L) n with
    | none => exact (appendNo bm st D L n a _ cap w h hd (lookF_none hk) hs).mono fun e w' => DAns.same h
    | some f =>
      obtain ⟨e, R, hp, rfl, rfl⟩ := lookF_some hk
      have h' := h.perm hp
      have hw' := hw.perm hp
      have hu : usedF (fsOf L) = usedL (e :: R) := by rw [← usedL_fs, usedL_perm hp]
      simp only [hu]
      by_cases hr : st.cap - (usedL (e :: R) : Int) < news.length
      · rw [if_pos hr]
        exact (appendFull bm st D e R a cap news w h' hw' hd hn hl hr).mono fun e1 w' hh => ⟨hh.1, D, _, hh.2.1, hh.2.2.perm hp.symm (List.Perm.refl _), fsOf_perm hp.symm⟩
      · rw [if_neg hr]
        cases hf : st.falls with
        | true => exact (appendFalls bm st D e R a cap news w h' hw' hd hn hl hr hf).mono fun e1 w' hh => ⟨hh.1, D, _, hh.2.1, hh.2.2.perm hp.symm (List.Perm.refl _), by rw [fsOf_crash]; exact (fsOf_perm hp.symm).map _⟩
        | false =>
          refine (appendOk bm st D e R a cap news w h' hw' hd hn hl hr hf (fun b off e1 e0 e2 => hap b off e1 e0 ((own_perm hp b).2 e2))).mono fun e1 w' ⟨h1, v', h2, h3⟩ => ⟨h1, D, _, h2, h3.perm hp.symm (List.Perm.refl _), ?_⟩
          refine List.Perm.trans ?_ (updF_perm (fsOf_perm hp.symm) _ _)
          rw [updF_cons (names_ne h')]
          exact List.Perm.refl _
def syncS (st : DSt) (fs : Files) (n : ByteArray) : Nat × DSt × Files :=
  if st.down then (15, st, fs) else match lookF fs n with
    | none => (5, st, fs)
    | some f => if st.falls then (15, st.fall, crashF st.keep fs) else (0, st.next, updF fs n ⟨f.b, f.b.length⟩)
theorem diskSync (bm : Nat) (st : DSt) (D : DataW Unit) (L : List Ent) (n : ByteArray) (w : World) (h : IsDisk w bm st D L) (hw : DWf st L) (hs : n.size ≤ maxLen) :
    Calls Try.prog 26 #[.pointer (some ⟨bm + 1, 0, none⟩), .string n] w (DAns (syncS st (fsOf L) n) bm L w) := by
  unfold syncS
  cases hd : st.down with
  | true => exact (syncDown bm st D L n w h hd).mono fun e w' => DAns.same h
  | false =>
    simp only [Bool.false_eq_true, if_false]
    cases hk : lookF (fsOf L) n with
    | none => exact (syncNo bm st D L n w h hd (lookF_none hk) hs).mono fun e w' => DAns.same h
    | some f =>
      obtain ⟨e, R, hp, rfl, rfl⟩ := lookF_some hk
      have h' := h.perm hp
      have hw' := hw.perm hp
      cases hf : st.falls with
      | true => exact (syncFalls bm st D L e w h hw hd (hp.mem_iff.2 (by simp)) hf).mono fun e1 w' => DAns.eff (by rw [fsOf_crash])
      | false =>
        refine (syncOk bm st D e R w h' hw' hd hf).mono fun e1 w' ⟨h1, h2, h3⟩ => ⟨h1, D, _, h2, h3.perm hp.symm (List.Perm.refl _), ?_⟩
        refine List.Perm.trans ?_ (updF_perm (fsOf_perm hp.symm) _ _)
        rw [updF_cons (names_ne h')]
        exact List.Perm.refl _
end Go.Proofs.Ytnpalplnpfgibaa
