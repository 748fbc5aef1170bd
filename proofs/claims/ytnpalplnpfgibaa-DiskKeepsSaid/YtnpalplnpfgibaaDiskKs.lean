/- A disk that no plan waits on: Create, Append and Used as DiskKeeps' loop asks them. -/
import Derived.Test.YtnpalplnpfgibaaDiskUp
import Derived.Test.YtnpalplnpfgibaaOne
namespace Go.Proofs.Ytnpalplnpfgibaa
open Go.RowKit
structure KS (w : World) (bm : Nat) (cap : Int) (kp eff u : Nat) (W : World) : Prop where
  bel : Below w.heap.size w W
  lo : w.heap.size ≤ bm
  kpH : kp ≤ 9223372036854775807
  capL : 0 ≤ cap
  capH : cap ≤ 9223372036854775807
  st : ∃ D L, IsDisk W bm ⟨cap, eff, false, 0, kp, false⟩ D L ∧ usedF (fsOf L) = u
  effH : eff ≤ 1000
  use : u ≤ 1000000
  room : (u : Int) ≤ cap
theorem notOwn {w W : World} {bm : Nat} {st : DSt} {D : DataW Unit} {L : List Ent} (h : IsDisk W bm st D L) {a : Option Addr} {l : List UInt8} (hb : IsBytes w a l) (hbm : w.heap.size ≤ bm) : ∀ b off, a = some ⟨b, off, none⟩ → 0 < l.length → ¬ Own bm L b := by
  intro b off e h0 ho
  obtain ⟨b', off', h1, h2, _⟩ := hb 0 h0
  rw [e] at h1
  cases h1
  have := own_lo h.fs ho
  omega
theorem createS_k {st : DSt} {fs : Files} {n : ByteArray} (hp : st.planned = false) (hd : st.down = false) : ((createS st fs n).2.1 = st ∨ (createS st fs n).2.1 = st.next) ∧ usedF (createS st fs n).2.2 = usedF fs := by
  unfold createS DSt.falls
  rw [hp, hd]
  simp only [Bool.false_eq_true, if_false, Bool.false_and]
  split
  · exact ⟨.inl rfl, rfl⟩
  · split
    · exact ⟨.inl rfl, rfl⟩
    · exact ⟨.inr rfl, by simp [usedF]⟩
theorem appendS_k {w : World} {bm : Nat} {st : DSt} {D : DataW Unit} {L : List Ent} {n : ByteArray} {news : List UInt8} (h : IsDisk w bm st D L) (hp : st.planned = false) (hd : st.down = false) : ((appendS st (fsOf L) n news).2.1 = st ∨ (appendS st (fsOf L) n news).2.1 = st.next) ∧ (usedF (appendS st (fsOf L) n news).2.2 = usedF (fsOf L) ∨ (usedF (appendS st (fsOf L) n news).2.2 = usedF (fsOf L) + news.length ∧ ((usedF (fsOf L) + news.length : Nat) : Int) ≤ st.cap)) := by
  unfold appendS DSt.falls
  rw [hp, hd]
  simp only [Bool.false_eq_true, if_false, Bool.false_and]
  cases hk : lookF (fsOf L) n with
  | none => exact ⟨.inl rfl, .inl rfl⟩
  | some f =>
    simp only
    by_cases hr : st.cap - (usedF (fsOf L) : Int) < news.length
    · rw [if_pos hr]
      exact ⟨.inl rfl, .inl rfl⟩
    · rw [if_neg hr]
      refine ⟨.inr rfl, .inr ⟨?_, by omega⟩⟩
      obtain ⟨e, R, hp, rfl, rfl⟩ := lookF_some hk
      simp only
      rw [usedF_perm (updF_perm (fsOf_perm hp) _ _), usedF_perm (fsOf_perm hp), updF_cons (names_ne (h.perm hp))]
      simp only [usedF, fsOf, List.map_cons, List.sum_cons, List.length_append]
      omega
theorem KS.wf {w W : World} {bm : Nat} {cap : Int} {kp eff u : Nat} (h : KS w bm cap kp eff u W) {L : List Ent} (hu : usedF (fsOf L) = u) : DWf ⟨cap, eff, false, 0, kp, false⟩ L := by
  have h1 := h.kpH
  have h2 := h.capL
  have h3 := h.capH
  have h4 := h.effH
  have h5 := h.use
  have h6 := h.room
  refine DWfF.wf (fs := fsOf L) (DWfF.lit (by simp only; omega) h1 (by simp only; omega) (by omega) (by simp only; omega) (by simp only; omega) (by simp only; omega)) (List.Perm.refl _)
theorem KS.drew {w W : World} {bm : Nat} {cap : Int} {kp eff u : Nat} (h : KS w bm cap kp eff u W) : KS w bm cap kp eff u W.drew := by
  obtain ⟨D, L, hd, hu⟩ := h.st
  exact ⟨h.bel.drew, h.lo, h.kpH, h.capL, h.capH, ⟨D, L, hd.bel (Below.refl _ _).drew, hu⟩, h.effH, h.use, h.room⟩
theorem ksOf {w W W' : World} {bm : Nat} {cap : Int} {kp eff u : Nat} (h : KS w bm cap kp eff u W) (he : eff ≤ 900) {r : Nat × DSt × Files} {L : List Ent} {d : Nat} {e : Ending} (hr : r.2.1 = (⟨cap, eff, false, 0, kp, false⟩ : DSt) ∨ r.2.1 = (⟨cap, eff, false, 0, kp, false⟩ : DSt).next) (hv : usedF r.2.2 = u ∨ (usedF r.2.2 = u + d ∧ ((u + d : Nat) : Int) ≤ cap)) (hd : d ≤ 1000) (hu : u ≤ 900000) {D : DataW Unit} {st : DSt} (hi : IsDisk W bm st D L) (ha : DAns r bm L W e W') :
    e = .returned (errV r.1) ∧ Below w.heap.size W W' ∧ ∃ eff' u', eff' ≤ eff + 1 ∧ u' ≤ u + 1000 ∧ KS w bm cap kp eff' u' W' := by
  obtain ⟨h1, D', L', h2, h3, h4⟩ := ha
  have hus := usedF_perm h4
  have hb : Below w.heap.size w W' := h.bel.trans (h3.below hi.fs h.lo)
  have hroom := h.room
  have huse : usedF (fsOf L') = u ∨ (usedF (fsOf L') = u + d ∧ ((u + d : Nat) : Int) ≤ cap) := by rw [hus]; exact hv
  refine ⟨h1, h3.below hi.fs h.lo, ?_⟩
  rcases hr with hr | hr
  · rw [hr] at h2
    exact ⟨eff, usedF (fsOf L'), by omega, by omega, hb, h.lo, h.kpH, h.capL, h.capH, ⟨D', L', h2, rfl⟩, by omega, by omega, by omega⟩
  · rw [hr] at h2
    exact ⟨eff + 1, usedF (fsOf L'), by omega, by omega, hb, h.lo, h.kpH, h.capL, h.capH, ⟨D', L', h2, rfl⟩, by omega, by omega, by omega⟩
theorem ksCreate {w W : World} {bm : Nat} {cap : Int} {kp eff u : Nat} (h : KS w bm cap kp eff u W) (he : eff ≤ 900) (hu : u ≤ 900000) (n : ByteArray) (hs : n.size ≤ maxLen) : Calls Try.prog 24 #[.pointer (some ⟨bm + 1, 0, none⟩), .string n] W (fun e W' => ∃ c, e = .returned (errV c) ∧ Below w.heap.size W W' ∧ ∃ eff' u', eff' ≤ eff + 1 ∧ u' ≤ u + 1000 ∧ KS w bm cap kp eff' u' W') := by
  obtain ⟨D, L, hd, hul⟩ := h.st
  have hk := createS_k (st := ⟨cap, eff, false, 0, kp, false⟩) (fs := fsOf L) (n := n) rfl rfl
  refine (diskCreate bm _ D L n W hd (h.wf hul) hs).mono fun e W' ha => ⟨_, ksOf (d := 0) h he hk.1 (.inl (hk.2.trans hul)) (by omega) hu hd ha⟩
theorem ksAppend {w W : World} {bm : Nat} {cap : Int} {kp eff u : Nat} (h : KS w bm cap kp eff u W) (he : eff ≤ 900) (hu : u ≤ 900000) (n : ByteArray) (hs : n.size ≤ maxLen) (a : Option Addr) (c : Nat) (l : List UInt8) (hl : l.length ≤ 1000) (hb : IsBytes w a l) : Calls Try.prog 25 #[.pointer (some ⟨bm + 1, 0, none⟩), .string n, .slice a l.length c] W (fun e W' => ∃ c, e = .returned (errV c) ∧ Below w.heap.size W W' ∧ ∃ eff' u', eff' ≤ eff + 1 ∧ u' ≤ u + 1000 ∧ KS w bm cap kp eff' u' W') := by
  obtain ⟨D, L, hd, hul⟩ := h.st
  have hk := appendS_k (n := n) (news := l) hd rfl rfl
  rw [hul] at hk
  refine (diskAppend bm _ D L n a c l W hd (h.wf hul) hs (hb.below h.bel (Nat.le_refl _)) (by omega) (notOwn hd hb h.lo)).mono fun e W' ha => ⟨_, ksOf (d := l.length) h he hk.1 hk.2 hl hu hd ha⟩
theorem ksUsed {w W : World} {bm : Nat} {cap : Int} {kp eff u : Nat} (h : KS w bm cap kp eff u W) : Calls Try.prog 32 #[.pointer (some ⟨bm + 1, 0, none⟩)] W (fun e W' => e = .returned (.int .i64 (u : Int)) ∧ KS w bm cap kp eff u W') := by
  obtain ⟨D, L, hd, hul⟩ := h.st
  have h1 := h.use
  refine (diskUsed bm _ D L W hd (by rw [usedL_fs]; omega)).mono ?_
  rintro e W' ⟨rfl, h2, h3⟩
  rw [usedL_fs, hul]
  exact ⟨rfl, h.bel.trans (h3.mono h.bel.size), h.lo, h.kpH, h.capL, h.capH, ⟨D, L, h2, hul⟩, h.effH, h.use, h.room⟩
end Go.Proofs.Ytnpalplnpfgibaa
