/- What 'same' asks of both disks: a file's length and bytes; strings out of bytes in a drawn region. -/
import Derived.Test.YtnpalplnpfgibaaDiskNames
import Derived.Test.YtnpalplnpfgibaaDiskUp
namespace Go.Proofs.Ytnpalplnpfgibaa
open Go.RowKit
theorem gives_str {o : Oper} {a : Act} {w : World} (x : Operand) (ho : o.op = .convert 45 9 x) {ad : Option Addr} {n cp : Nat} {l : List UInt8} (hn : n = l.length) (hx : a.eval x = .slice ad n cp) (h : IsBytes w ad l) :
    Reg.gives Try.prog o a w (fun v' w' => w' = w ∧ v' = .string ⟨l.toArray⟩) := by
  subst hn
  have hr := run_string_bytes w ad cp l h
  unfold Reg.gives execOp
  simp only [ho, hx, Sem.run_bind, hr, Result.andThen_ok, Sem.run_pure]
  exact ⟨trivial, trivial⟩
theorem mid_still {R : World → World → Prop} (hr : ∀ w, R w w) {o : Oper} {a : Act} {w : World} {c : Value} (h : Reg.gives Try.prog o a w (fun v' w' => w' = w ∧ v' = c)) : Reg.gives Try.prog o a w (fun v w' => R w w' ∧ v = c) :=
  Reg.gives_mono (fun v w' hh => by obtain ⟨rfl, h2⟩ := hh; exact ⟨hr _, h2⟩) h
/-- Both disks, alike. -/
structure Both (w : World) (bm : Nat) (st : DSt) (D : DataW Unit) (L : List Ent) (bx : Nat) (st' : DSt) (v : Value) (l : List RF) : Prop where
  d : IsDisk w bm st D L
  r : IsRD w bx st' v l
  like : Like st st'
  perm : (fsOf L).Perm (rfsOf l)
  rise : Rise l
  len : l.length ≤ 1000
  used : usedR l ≤ 1000000
  eff : st.eff ≤ 1000
  capL : -9223372036854775808 ≤ st.cap
  capH : st.cap ≤ 9223372036854775807
  room : (usedR l : Int) ≤ max st.cap 0
theorem Both.bel {w w' : World} {bm : Nat} {st : DSt} {D : DataW Unit} {L : List Ent} {bx : Nat} {st' : DSt} {v : Value} {l : List RF} (h : Both w bm st D L bx st' v l) (hb : Below w.heap.size w w') : Both w' bm st D L bx st' v l :=
  { h with d := h.d.bel hb, r := h.r.bel hb }
theorem Both.wf {w : World} {bm : Nat} {st : DSt} {D : DataW Unit} {L : List Ent} {bx : Nat} {st' : DSt} {v : Value} {l : List RF} (h : Both w bm st D L bx st' v l) : DWf st L := by
  have h1 := h.like.le
  have h2 := h.like.bnd
  have h3 := h.like.bnk
  have h4 := h.like.keep
  have h5 := h.eff
  have h6 := h.used
  have h7 := h.room
  rw [← rfs_used (List.Perm.refl _)] at h6 h7
  exact DWfF.wf (fs := rfsOf l) ⟨by omega, by omega, by omega, by omega, h.capL, h.capH, h7⟩ h.perm
theorem Both.ent {w : World} {bm : Nat} {st : DSt} {D : DataW Unit} {L : List Ent} {bx : Nat} {st' : DSt} {v : Value} {l : List RF} (h : Both w bm st D L bx st' v l) {q : RF} (hq : q ∈ l) : ∃ e ∈ L, e.name = q.name ∧ e.f = ⟨q.b, q.s⟩ := by
  have h1 : (q.name, (⟨q.b, q.s⟩ : File)) ∈ rfsOf l := List.mem_map.2 ⟨q, hq, rfl⟩
  obtain ⟨e, he, h2⟩ := List.mem_map.1 (h.perm.mem_iff.2 h1)
  simp only [Prod.mk.injEq] at h2
  exact ⟨e, he, h2.1, h2.2⟩
theorem Both.rwf {w : World} {bm : Nat} {st : DSt} {D : DataW Unit} {L : List Ent} {bx : Nat} {st' : DSt} {v : Value} {l : List RF} (h : Both w bm st D L bx st' v l) : RWf st' l := by
  have h1 := h.like.eff
  have h2 := h.eff
  have h3 := h.used
  have h4 := h.len
  refine ⟨by omega, by omega, by omega, fun q hq => ?_⟩
  obtain ⟨e, he, _, h6⟩ := h.ent hq
  have := (h.d.fs.file e he).le
  rw [h6] at this
  exact this
theorem Both.usedL {w : World} {bm : Nat} {st : DSt} {D : DataW Unit} {L : List Ent} {bx : Nat} {st' : DSt} {v : Value} {l : List RF} (h : Both w bm st D L bx st' v l) : usedL L = usedR l := by
  rw [usedL_fs]
  exact rfs_used h.perm
theorem sameLen {w : World} {bm : Nat} {st : DSt} {D : DataW Unit} {L : List Ent} {bx : Nat} {st' : DSt} {v : Value} {l : List RF} (h : Both w bm st D L bx st' v l) (hd : st.down = false) {q : RF} (hq : q ∈ l) : Calls Try.prog 31 #[.pointer (some ⟨bm + 1, 0, none⟩), .string q.name] w (DLen q.b.length 0 w) := by
  obtain ⟨e, he, h1, h2⟩ := h.ent hq
  have h3 := lenYes bm st D L e w h.d hd he
  rw [h1, h2] at h3
  exact h3
theorem sameRead {w : World} {bm : Nat} {st : DSt} {D : DataW Unit} {L : List Ent} {bx : Nat} {st' : DSt} {v : Value} {l : List RF} (h : Both w bm st D L bx st' v l) (hd : st.down = false) {q : RF} (hq : q ∈ l) : Calls Try.prog 30 #[.pointer (some ⟨bm + 1, 0, none⟩), .string q.name, .int .i64 0, .int .i64 (q.b.length : Int)] w (ReadOk q.b w) := by
  obtain ⟨e, he, h1, h2⟩ := h.ent hq
  have h3 := readOk bm st D L e 0 q.b.length w h.d h.wf hd he (by rw [h2]; simp)
  rw [h1, h2, List.drop_zero, List.take_of_length_le (Nat.le_refl _)] at h3
  exact h3
end Go.Proofs.Ytnpalplnpfgibaa
