/- The reference's Do against what disk's calls come to: the same function of the files. -/
import Derived.Test.YtnpalplnpfgibaaRefDo2
import Derived.Test.YtnpalplnpfgibaaRefDo3
import Derived.Test.YtnpalplnpfgibaaRefDo7
namespace Go.Proofs.Ytnpalplnpfgibaa
open Go.RowKit
/-- The two boxes tell the same, but how many effects are left where no plan waits. -/
structure Like (st st' : DSt) : Prop where
  cap : st'.cap = st.cap
  eff : st'.eff = st.eff
  planned : st'.planned = st.planned
  keep : st'.keep = st.keep
  down : st'.down = st.down
  left : st.planned = true → st'.left = st.left
  le : st.left ≤ st'.left
  bnd : st'.left ≤ 9223372036854775807
  bnk : st'.keep ≤ 9223372036854775807
theorem Like.falls {st st' : DSt} (h : Like st st') : st'.falls = st.falls := by
  unfold DSt.falls
  rw [h.planned]
  cases hp : st.planned with
  | false => rfl
  | true => rw [h.left hp]
theorem Like.next {st st' : DSt} (h : Like st st') : Like st.next (rdNext st') := by
  have h1 := h.le
  have h2 := h.bnd
  unfold DSt.next rdNext
  refine ⟨h.cap, by simp only [h.eff], h.planned, h.keep, h.down, fun hp => ?_, ?_, ?_, h.bnk⟩
  · simp only at hp ⊢
    rw [h.planned, hp, if_pos rfl, h.left hp]
  · simp only
    split <;> omega
  · simp only
    split <;> omega
theorem Like.fall {st st' : DSt} (h : Like st st') : Like st.fall st'.fall :=
  ⟨h.cap, h.eff, rfl, h.keep, rfl, fun e => (by cases e), h.le, h.bnd, h.bnk⟩
theorem Like.open_ {st st' : DSt} (h : Like st st') : Like { st with planned := false, down := false } (rdOpen st') :=
  ⟨h.cap, h.eff, rfl, h.keep, rfl, fun e => (by cases e), h.le, h.bnd, h.bnk⟩
theorem Like.plan {st st' : DSt} (h : Like st st') (e k : Int) (he : e ≤ 9223372036854775807) (hk : k ≤ 9223372036854775807) : Like { st with planned := true, left := e.toNat, keep := k.toNat } (rdPlan st' e k) :=
  ⟨h.cap, h.eff, rfl, rfl, h.down, fun _ => rfl, Nat.le_refl _, by simp only [rdPlan]; omega, by simp only [rdPlan]; omega⟩
structure Bnd (st st' : DSt) (l l' : List RF) : Prop where
  u1 : usedR l' ≤ usedR l + 1000
  u2 : (usedR l' : Int) ≤ max (usedR l : Int) st.cap
  len : l'.length ≤ l.length + 1
  eff : st'.eff ≤ st.eff + 1
  cap : st'.cap = st.cap
structure RAns (r : Nat × DSt × Files) (bx : Nat) (st : DSt) (v : Value) (l : List RF) (w : World) (e : Ending) (w' : World) : Prop where
  ret : e = .returned (.int .i64 (r.1 : Int))
  code : r.1 ≤ 15
  st : ∃ v' l' st', IsRD w' bx st' v' l' ∧ RGrew bx w w' v v' l l' ∧ Like r.2.1 st' ∧ r.2.2.Perm (rfsOf l') ∧ Rise l' ∧ Bnd st st' l l'
theorem rise_names {l l' : List RF} (h : l'.map (·.name) = l.map (·.name)) (hr : Rise l) : Rise l' := by
  have h1 : (l.map (·.name)).Pairwise nlt := List.pairwise_map.2 hr
  rw [← h] at h1
  exact List.pairwise_map.1 h1
theorem rfs_names (l : List RF) : (rfsOf l).map (·.1) = l.map (·.name) := by unfold rfsOf; rw [List.map_map]; rfl
theorem kept_le (f : File) (k : Nat) : (f.b.take (f.kept k)).length ≤ f.b.length := by rw [List.length_take]; exact Nat.min_le_right _ _
theorem usedF_crash (k : Nat) : ∀ fs : Files, usedF (crashF k fs) ≤ usedF fs
  | [] => Nat.le_refl _
  | p :: fs => by
    have ih := usedF_crash k fs
    have h1 := kept_le p.2 k
    have e1 : usedF (crashF k (p :: fs)) = (p.2.b.take (p.2.kept k)).length + usedF (crashF k fs) := by simp [usedF, crashF, File.crash]
    have e2 : usedF (p :: fs) = p.2.b.length + usedF fs := by simp [usedF]
    omega
theorem RAns.same {c : Nat} {bx : Nat} {st st' : DSt} {v : Value} {l : List RF} {fs : Files} {w : World} {e : Ending} {w' : World} (hk : Like st st') (hp : fs.Perm (rfsOf l)) (hr : Rise l) (hc : c ≤ 15) (h : RDoAns c (ROwn bx v l) w bx st' l e w') : RAns (c, st, fs) bx st' v l w e w' := by
  obtain ⟨v', h1⟩ := h.st
  exact ⟨h.ret, hc, v', l, st', h1.is, h1.grew, hk, hp, hr, ⟨by omega, by omega, by omega, by omega, rfl⟩⟩
theorem RAns.next {bx : Nat} {st st' : DSt} {v : Value} {l l' : List RF} {fs' : Files} {w : World} {e : Ending} {w' : World} (hk : Like st st') (hp : fs'.Perm (rfsOf l')) (hr : Rise l') (h1 : usedR l' ≤ usedR l + 1000) (h2 : (usedR l' : Int) ≤ max (usedR l : Int) st'.cap) (h3 : l'.length ≤ l.length + 1) (h : RDoAns 0 (ROwn bx v l) w bx (rdNext st') l' e w') : RAns (0, st.next, fs') bx st' v l w e w' := by
  obtain ⟨v', h0⟩ := h.st
  exact ⟨h.ret, by simp, v', l', rdNext st', h0.is, h0.grew, hk.next, hp, hr, ⟨h1, h2, h3, by simp [rdNext], rfl⟩⟩
theorem RAns.fall {bx : Nat} {st st' : DSt} {v : Value} {l : List RF} {fs : Files} {w : World} {e : Ending} {w' : World} (hk : Like st st') (hp : fs.Perm (rfsOf l)) (hr : Rise l) (h : RDoFall bx st' v l w e w') : RAns (15, st.fall, crashF st.keep fs) bx st' v l w e w' := by
  obtain ⟨l', hc, h1, h2⟩ := h.st
  have hn : l'.map (·.name) = l.map (·.name) := by
    rw [← rfs_names, hc, ← rfs_names]
    unfold crashF
    rw [List.map_map]
    rfl
  have hlen : l'.length = l.length := by simpa using congrArg List.length hn
  have hu : usedR l' ≤ usedR l := by rw [usedR_fs, usedR_fs, hc]; exact usedF_crash _ _
  refine ⟨h.ret, Nat.le_refl _, v, l', st'.fall, h1, h2, hk.fall, ?_, rise_names hn hr, ⟨by omega, by omega, by omega, by simp [DSt.fall], rfl⟩⟩
  rw [hc, hk.keep]
  exact hp.map _
theorem used_set : ∀ (l : List RF) (k : Nat) (hk : k < l.length) (q : RF), usedR (l.set k q) + l[k].b.length = usedR l + q.b.length
  | r :: l, 0, _, q => by simp [usedR]; omega
  | r :: l, k + 1, hk, q => by
    have ih := used_set l k (by simpa using hk) q
    simp only [List.set_cons_succ, usedR, List.map_cons, List.sum_cons, List.getElem_cons_succ] at ih ⊢
    omega
theorem used_cut (l : List RF) (k : Nat) : usedR l = usedR (l.take k) + usedR (l.drop k) := by
  unfold usedR
  rw [← List.sum_append_nat, ← List.map_append, List.take_append_drop]
theorem used_app (l l' : List RF) : usedR (l ++ l') = usedR l + usedR l' := by
  unfold usedR
  rw [List.map_append, List.sum_append_nat]
theorem used_cons (q : RF) (l : List RF) : usedR (q :: l) = q.b.length + usedR l := by
  unfold usedR
  rw [List.map_cons, List.sum_cons]
theorem used_put (l : List RF) (k : Nat) (q : RF) : usedR (l.take k ++ q :: l.drop k) = usedR l + q.b.length := by
  rw [used_cut l k, used_app, used_cons]
  omega
theorem used_drop (l : List RF) (n : ByteArray) : usedR (rfDrop l n) ≤ usedR l := by
  unfold rfDrop
  split
  · have h1 : usedR (l.drop (rfAt l n + 1)) ≤ usedR (l.drop (rfAt l n)) := by
      rw [show l.drop (rfAt l n + 1) = (l.drop (rfAt l n)).drop 1 by rw [List.drop_drop]]
      cases l.drop (rfAt l n) with
      | nil => exact Nat.le_refl _
      | cons r t => rw [List.drop_succ_cons, List.drop_zero, used_cons]; omega
    rw [used_app, used_cut l (rfAt l n)]
    omega
  · exact Nat.le_refl _
theorem used_mem {l : List RF} {q : RF} (h : q ∈ l) : q.b.length ≤ usedR l := by
  obtain ⟨A, B, rfl⟩ := List.append_of_mem h
  simp [usedR]
  omega
/-- What the reference's disk is held to. -/
structure RWf (st : DSt) (l : List RF) : Prop where
  eff : st.eff ≤ 1000000000
  used : usedR l ≤ 1000000000
  len : l.length ≤ 1000000
  le : ∀ q ∈ l, q.s ≤ q.b.length
theorem RWf.hle {st : DSt} {l : List RF} (h : RWf st l) : ∀ q ∈ l, q.s ≤ q.b.length ∧ q.b.length ≤ 1000000000 := fun q hq => ⟨h.le q hq, Nat.le_trans (used_mem hq) h.used⟩
theorem rfs_len {l : List RF} {fs : Files} (hp : fs.Perm (rfsOf l)) : fs.length = l.length := by rw [hp.length_eq]; simp [rfsOf]
theorem rfs_used {l : List RF} {fs : Files} (hp : fs.Perm (rfsOf l)) : usedF fs = usedR l := by rw [usedF_perm hp, usedR_fs]
theorem refCreate (bx : Nat) (st st' : DSt) (v : Value) (l : List RF) (fs : Files) (n to : ByteArray) (ba : Option Addr) (bn bc : Nat) (x : Int) (w : World) (h : IsRD w bx st' v l) (hk : Like st st') (hw : RWf st' l) (hp : fs.Perm (rfsOf l)) (hr : Rise l) (hns : n.size ≤ maxLen) :
    Calls Try.prog 57 #[.pointer (some ⟨bx, 0, none⟩), .int .i64 0, .string n, .string to, .slice ba bn bc, .int .i64 x] w (RAns (createS st fs n) bx st' v l w) := by
  unfold createS
  rw [has_look hr hp n, rfs_len hp, ← hk.falls]
  cases hd : st.down with
  | true => exact (doDown 0 bx st' v l n to ba bn bc x w h hw.len (hk.down.trans hd)).mono fun e w' => RAns.same hk hp hr (by omega)
  | false =>
    simp only [Bool.false_eq_true, if_false]
    have hd' := hk.down.trans hd
    cases hi : rfIs l n with
    | true => exact (doTwice bx st' v l n to ba bn bc x w h hw.len hd' hi).mono fun e w' => RAns.same hk hp hr (by omega)
    | false =>
      obtain ⟨a, cap, rfl, _⟩ := rf_row h
      simp only [Bool.false_eq_true, if_false]
      by_cases hm : 1000 ≤ l.length
      · rw [if_pos hm]
        exact (doCreateFull bx st' a cap l n to ba bn bc x w h hw.len hd' hi hm).mono fun e w' => RAns.same hk hp hr (by omega)
      · rw [if_neg hm]
        cases hf : st'.falls with
        | true => exact (doCreateFall bx st' a cap l n to ba bn bc x w h hw.len hd' hi (by omega) hf hk.bnk hw.hle).mono fun e w' => RAns.fall hk hp hr
        | false =>
          have hu := used_put l (rfAt l n) ⟨n, none, 0, [], 0⟩
          simp only [List.length_nil] at hu
          refine (doCreate bx st' a cap l n to ba bn bc x w h hw.len hd' hi (by omega) hf hk.bnd hw.eff hns).mono fun e w' => RAns.next hk ((hp.cons _).trans (put_perm l ⟨n, none, 0, [], 0⟩ (rfAt l n)).symm) (rise_put (q := ⟨n, none, 0, [], 0⟩) hr (rfIs_no hr hi)) (by omega) (by omega) ?_
          simp
          omega
theorem rd_get {w : World} {bx : Nat} {st : DSt} {v : Value} {l : List RF} {k : Nat} (h : IsRD w bx st v l) (hk : k < l.length) : ∃ g cap, v = .slice (some ⟨g, 0, none⟩) l.length cap := by
  obtain ⟨g, cap, h1, _⟩ := h.own.get1 (by omega)
  exact ⟨g, cap, h1⟩
theorem refSync (bx : Nat) (st st' : DSt) (v : Value) (l : List RF) (fs : Files) (n to : ByteArray) (ba : Option Addr) (bn bc : Nat) (x : Int) (w : World) (h : IsRD w bx st' v l) (hk : Like st st') (hw : RWf st' l) (hp : fs.Perm (rfsOf l)) (hr : Rise l) :
    Calls Try.prog 57 #[.pointer (some ⟨bx, 0, none⟩), .int .i64 2, .string n, .string to, .slice ba bn bc, .int .i64 x] w (RAns (syncS st fs n) bx st' v l w) := by
  unfold syncS
  rw [← hk.falls]
  cases hd : st.down with
  | true => exact (doDown 2 bx st' v l n to ba bn bc x w h hw.len (hk.down.trans hd)).mono fun e w' => RAns.same hk hp hr (by omega)
  | false =>
    simp only [Bool.false_eq_true, if_false]
    have hd' := hk.down.trans hd
    cases hi : rfIs l n with
    | false =>
      rw [look_no hr hp hi]
      exact (doNo 2 (by omega) bx st' v l n to ba bn bc x w h hw.len hd' hi).mono fun e w' => RAns.same hk hp hr (by omega)
    | true =>
      obtain ⟨hlt, hn⟩ := rfIs_yes hi
      obtain ⟨g, cap, rfl⟩ := rd_get h hlt
      rw [look_yes hr hp hi hlt]
      simp only
      cases hf : st'.falls with
      | true => exact (doFallSync bx st' _ l n to ba bn bc x w h hw.len hd' hi hf hk.bnk hw.hle).mono fun e w' => RAns.fall hk hp hr
      | false =>
        have hu : usedR (l.set (rfAt l n) { l[rfAt l n] with s := l[rfAt l n].b.length }) + l[rfAt l n].b.length = usedR l + l[rfAt l n].b.length := used_set l (rfAt l n) hlt _
        refine (doSync bx st' g cap l n to ba bn bc x w h hw.len hd' hi hlt hf hk.bnd hw.eff).mono fun e w' hh => ?_
        refine RAns.next hk ?pSyn ?rSyn (by omega) (by omega) (by simp) hh
        case rSyn => exact rise_set hr hlt _ rfl
        case pSyn =>
          rw [set_fs hr hlt hn]
          · exact updF_perm hp _ _
          · exact hn
theorem refDelete (bx : Nat) (st st' : DSt) (v : Value) (l : List RF) (fs : Files) (n to : ByteArray) (ba : Option Addr) (bn bc : Nat) (x : Int) (w : World) (h : IsRD w bx st' v l) (hk : Like st st') (hw : RWf st' l) (hp : fs.Perm (rfsOf l)) (hr : Rise l) :
    Calls Try.prog 57 #[.pointer (some ⟨bx, 0, none⟩), .int .i64 5, .string n, .string to, .slice ba bn bc, .int .i64 x] w (RAns (delS st fs n) bx st' v l w) := by
  unfold delS
  rw [← hk.falls]
  cases hd : st.down with
  | true => exact (doDown 5 bx st' v l n to ba bn bc x w h hw.len (hk.down.trans hd)).mono fun e w' => RAns.same hk hp hr (by omega)
  | false =>
    simp only [Bool.false_eq_true, if_false]
    have hd' := hk.down.trans hd
    cases hi : rfIs l n with
    | false =>
      rw [look_no hr hp hi]
      exact (doNo 5 (by omega) bx st' v l n to ba bn bc x w h hw.len hd' hi).mono fun e w' => RAns.same hk hp hr (by omega)
    | true =>
      obtain ⟨hlt, hn⟩ := rfIs_yes hi
      rw [look_yes hr hp hi hlt]
      simp only
      cases hf : st'.falls with
      | true => exact (doFallDelete bx st' _ l n to ba bn bc x w h hw.len hd' hi hf hk.bnk hw.hle).mono fun e w' => RAns.fall hk hp hr
      | false =>
        have hu := used_drop l n
        have h1 := drop_fs hr n
        have h2 := rise_drop hr n
        have h3 := rfDrop_len l n
        have he : rfDrop l n = l.take (rfAt l n) ++ l.drop (rfAt l n + 1) := by unfold rfDrop; rw [hi, if_pos rfl]
        rw [he] at hu h1 h2 h3
        refine (doDelete bx st' v l n to ba bn bc x w h hw.len hd' hi hf hk.bnd hw.eff).mono fun e w' => RAns.next hk ?_ h2 (by omega) (by omega) (by omega)
        rw [h1]
        exact hp.filter _
theorem refRename (bx : Nat) (st st' : DSt) (v : Value) (l : List RF) (fs : Files) (n to : ByteArray) (ba : Option Addr) (bn bc : Nat) (x : Int) (w : World) (h : IsRD w bx st' v l) (hk : Like st st') (hw : RWf st' l) (hp : fs.Perm (rfsOf l)) (hr : Rise l) (hts : to.size ≤ maxLen) :
    Calls Try.prog 57 #[.pointer (some ⟨bx, 0, none⟩), .int .i64 4, .string n, .string to, .slice ba bn bc, .int .i64 x] w (RAns (renS st fs n to) bx st' v l w) := by
  unfold renS
  rw [← hk.falls]
  cases hd : st.down with
  | true => exact (doDown 4 bx st' v l n to ba bn bc x w h hw.len (hk.down.trans hd)).mono fun e w' => RAns.same hk hp hr (by omega)
  | false =>
    simp only [Bool.false_eq_true, if_false]
    have hd' := hk.down.trans hd
    cases hi : rfIs l n with
    | false =>
      rw [look_no hr hp hi]
      exact (doNo 4 (by omega) bx st' v l n to ba bn bc x w h hw.len hd' hi).mono fun e w' => RAns.same hk hp hr (by omega)
    | true =>
      obtain ⟨hlt, hn⟩ := rfIs_yes hi
      obtain ⟨g, cap, rfl⟩ := rd_get h hlt
      rw [look_yes hr hp hi hlt]
      simp only
      cases hf : st'.falls with
      | true => exact (doFallRename bx st' _ l n to ba bn bc x w h hw.len hd' hi hf hk.bnk hw.hle).mono fun e w' => RAns.fall hk hp hr
      | false =>
        have hr1 := rise_drop hr n
        have hr2 := rise_drop hr1 to
        have e1 := drop_fs hr n
        have e2 := drop_fs hr1 to
        have hne : ∀ y ∈ rfDrop (rfDrop l n) to, y.name ≠ to := fun y hy e => by
          have h1 : (y.name, (⟨y.b, y.s⟩ : File)) ∈ rfsOf (rfDrop (rfDrop l n) to) := List.mem_map.2 ⟨y, hy, rfl⟩
          rw [e2] at h1
          exact notF_iff.1 (List.mem_filter.1 h1).2 e
        have hlen := rfDrop_len (rfDrop l n) to
        have hlen1 := rfDrop_len l n
        have hus : usedR (rfDrop (rfDrop l n) to) + l[rfAt l n].b.length ≤ usedR l := by
          have h1 := used_drop (rfDrop l n) to
          have h2 : usedR (rfDrop l n) + l[rfAt l n].b.length = usedR l := by
            unfold rfDrop
            rw [hi, if_pos rfl]
            rw [used_app, used_cut l (rfAt l n), List.drop_eq_getElem_cons hlt, used_cons]
            omega
          omega
        have hup := used_put (rfDrop (rfDrop l n) to) (rfAt (rfDrop (rfDrop l n) to) to) { l[rfAt l n] with name := to }
        simp only at hup
        refine (doRename bx st' g cap l n to ba bn bc x w h hw.len hd' hi hlt hf hk.bnd hw.eff hts).mono fun e w' => RAns.next hk ?_ (rise_put (q := { l[rfAt l n] with name := to }) hr2 hne) (by unfold rfRen; omega) (by unfold rfRen; omega) ?_
        · refine List.Perm.trans ?_ (put_perm _ { l[rfAt l n] with name := to } _).symm
          rw [e2, e1]
          exact ((hp.filter _).filter _).cons _
        · unfold rfRen
          simp
          omega
theorem refCut (bx : Nat) (st st' : DSt) (v : Value) (l : List RF) (fs : Files) (n to : ByteArray) (ba : Option Addr) (bn bc : Nat) (x : Int) (w : World) (h : IsRD w bx st' v l) (hk : Like st st') (hw : RWf st' l) (hp : fs.Perm (rfsOf l)) (hr : Rise l) :
    Calls Try.prog 57 #[.pointer (some ⟨bx, 0, none⟩), .int .i64 3, .string n, .string to, .slice ba bn bc, .int .i64 x] w (RAns (cutS st fs n x) bx st' v l w) := by
  unfold cutS
  rw [← hk.falls]
  cases hd : st.down with
  | true => exact (doDown 3 bx st' v l n to ba bn bc x w h hw.len (hk.down.trans hd)).mono fun e w' => RAns.same hk hp hr (by omega)
  | false =>
    simp only [Bool.false_eq_true, if_false]
    have hd' := hk.down.trans hd
    cases hi : rfIs l n with
    | false =>
      rw [look_no hr hp hi]
      exact (doNo 3 (by omega) bx st' v l n to ba bn bc x w h hw.len hd' hi).mono fun e w' => RAns.same hk hp hr (by omega)
    | true =>
      obtain ⟨hlt, hn⟩ := rfIs_yes hi
      obtain ⟨g, cap, rfl⟩ := rd_get h hlt
      rw [look_yes hr hp hi hlt]
      simp only
      by_cases hb : x < 0
      · rw [if_pos (.inl hb)]
        exact (doCutLow bx st' g cap l n to ba bn bc x w h hw.len hd' hi hlt hb).mono fun e w' => RAns.same hk hp hr (by omega)
      · by_cases hb2 : (l[rfAt l n].b.length : Int) < x
        · rw [if_pos (.inr hb2)]
          exact (doCutHigh bx st' g cap l n to ba bn bc x w h hw.len hd' hi hlt (by omega) hb2).mono fun e w' => RAns.same hk hp hr (by omega)
        · rw [if_neg (by omega)]
          cases hf : st'.falls with
          | true => exact (doFallCut bx st' g cap l n to ba bn bc x w h hw.len hd' hi hlt (by omega) (by omega) hf hk.bnk hw.hle).mono fun e w' => RAns.fall hk hp hr
          | false =>
            obtain ⟨j, rfl⟩ : ∃ j : Nat, x = (j : Int) := ⟨x.toNat, by omega⟩
            rw [Int.toNat_natCast]
            refine (doCut bx st' g cap l n to ba bn bc j w h hw.len hd' hi hlt (by omega) (Nat.le_trans (used_mem (List.getElem_mem _)) hw.used) hf hk.bnd hw.eff).mono fun e w' ⟨a5, k5, hh⟩ => ?_
            have hu : usedR (l.set (rfAt l n) { l[rfAt l n] with ba := a5, bcap := k5, b := l[rfAt l n].b.take j, s := min l[rfAt l n].s j }) + l[rfAt l n].b.length = usedR l + (l[rfAt l n].b.take j).length := used_set l (rfAt l n) hlt _
            have hj : (l[rfAt l n].b.take j).length ≤ l[rfAt l n].b.length := by rw [List.length_take]; exact Nat.min_le_right _ _
            refine RAns.next hk ?pCut ?rCut (by omega) (by omega) (by simp) hh
            case rCut => exact rise_set hr hlt _ rfl
            case pCut =>
              rw [set_fs hr hlt hn]
              · exact updF_perm hp _ _
              · exact hn
theorem refAppend (bx : Nat) (st st' : DSt) (v : Value) (l : List RF) (fs : Files) (n to : ByteArray) (ba : Option Addr) (bn bc : Nat) (x : Int) (bb : List UInt8) (w : World) (h : IsRD w bx st' v l) (hk : Like st st') (hw : RWf st' l) (hp : fs.Perm (rfsOf l)) (hr : Rise l)
    (hsrc : IsBytes w ba bb) (hfar : ∀ b off, ba = some ⟨b, off, none⟩ → 0 < bb.length → ¬ ROwn bx v l b) (hbl : bb.length = bn) (hbn : bn ≤ 1000) :
    Calls Try.prog 57 #[.pointer (some ⟨bx, 0, none⟩), .int .i64 1, .string n, .string to, .slice ba bn bc, .int .i64 x] w (RAns (appendS st fs n bb) bx st' v l w) := by
  unfold appendS
  rw [← hk.falls, rfs_used hp, ← hk.cap, hbl]
  cases hd : st.down with
  | true => exact (doDown 1 bx st' v l n to ba bn bc x w h hw.len (hk.down.trans hd)).mono fun e w' => RAns.same hk hp hr (by omega)
  | false =>
    simp only [Bool.false_eq_true, if_false]
    have hd' := hk.down.trans hd
    cases hi : rfIs l n with
    | false =>
      rw [look_no hr hp hi]
      exact (doNo 1 (by omega) bx st' v l n to ba bn bc x w h hw.len hd' hi).mono fun e w' => RAns.same hk hp hr (by omega)
    | true =>
      obtain ⟨hlt, hn⟩ := rfIs_yes hi
      obtain ⟨g, cap, rfl⟩ := rd_get h hlt
      rw [look_yes hr hp hi hlt]
      simp only
      by_cases hx : st'.cap < (usedR l : Int) + bn
      · rw [if_pos (by omega)]
        exact (doAppendFull bx st' _ l n to ba bn bc x w h hw.len hd' hi hw.used (by omega) hx).mono fun e w' => RAns.same hk hp hr (by omega)
      · rw [if_neg (by omega)]
        cases hf : st'.falls with
        | true => exact (doFallAppend bx st' _ l n to ba bn bc x w h hw.len hd' hi hw.used (by omega) hx hf hk.bnk hw.hle).mono fun e w' => RAns.fall hk hp hr
        | false =>
          refine (doAppend bx st' g cap l n to ba bn bc x w h hw.len bb hsrc hfar hbl hd' hi hlt hw.used (by omega) hx (Nat.le_trans (used_mem (List.getElem_mem _)) hw.used) hf hk.bnd hw.eff).mono fun e w' ⟨a5, k5, hh⟩ => ?_
          have hu : usedR (l.set (rfAt l n) { l[rfAt l n] with ba := a5, bcap := k5, b := l[rfAt l n].b ++ bb }) + l[rfAt l n].b.length = usedR l + (l[rfAt l n].b ++ bb).length := used_set l (rfAt l n) hlt _
          rw [List.length_append] at hu
          refine RAns.next hk ?pApp ?rApp (by omega) (by omega) (by simp) hh
          case rApp => exact rise_set hr hlt _ rfl
          case pApp =>
            rw [set_fs hr hlt hn]
            · exact updF_perm hp _ _
            · exact hn
end Go.Proofs.Ytnpalplnpfgibaa
