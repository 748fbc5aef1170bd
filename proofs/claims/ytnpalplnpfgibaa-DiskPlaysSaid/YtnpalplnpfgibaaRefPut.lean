/- The reference's put and drop (layer 4). -/
import Derived.Test.YtnpalplnpfgibaaRefEff
namespace Go.Proofs.Ytnpalplnpfgibaa
open Go.RowKit
theorem rf_info : (Try.prog.info? 97).map (fun i => (i.zero, i.size, i.bytes)) = some (some (.agg #[.string ByteArray.empty, .slice none 0 0, .int .i64 0]), 3, 48) := by kernel_rfl
theorem rf_one (q : RF) : ∀ u ∈ rfCells q, u.oneCell' = true := by
  intro u hu
  simp only [rfCells, List.mem_cons, List.not_mem_nil, or_false] at hu
  rcases hu with h | h | h <;> subst h <;> rfl
theorem srcR {w : World} {a : Option Addr} {l : List RF} (n cap : Nat) (hn : n = l.length) (h : IsRowOf rfCells (fun _ => True) 3 w a l) : Src Try.prog 3 90 (.slice a n cap) l.length (l.flatMap rfCells) w := by
  subst hn
  exact src_rowOf (C := rfCells) (E := 97) Try.underlying90 (fun _ => rfl) rf_one (by omega) cap h
/-- The reference's disk, grown out of a world w0 in which its blocks were S. -/
structure RIn (S : Nat → Prop) (w0 w : World) (bx : Nat) (st : DSt) (v : Value) (l : List RF) : Prop where
  is : IsRD w bx st v l
  os : w.os = w0.os
  tape : w.tape = w0.tape
  output : w.output = w0.output
  size : w0.heap.size ≤ w.heap.size
  block : ∀ k, k < w0.heap.size → ¬ S k → w.heap[k]? = w0.heap[k]?
  own : ∀ k, ROwn bx v l k → S k ∨ w0.heap.size ≤ k
theorem RIn.of {bx : Nat} {st : DSt} {w0 w : World} {v0 v : Value} {l0 l : List RF} (h : IsRD w bx st v l) (hg : RGrew bx w0 w v0 v l0 l) : RIn (ROwn bx v0 l0) w0 w bx st v l := ⟨h, hg.os, hg.tape, hg.output, hg.size, hg.block, hg.own⟩
theorem RIn.grew {bx : Nat} {st : DSt} {w0 w : World} {v0 v : Value} {l0 l : List RF} (h : RIn (ROwn bx v0 l0) w0 w bx st v l) : RGrew bx w0 w v0 v l0 l := ⟨h.os, h.tape, h.output, h.size, h.block, h.own⟩
theorem RIn.step {S : Nat → Prop} {w0 w w' : World} {bx : Nat} {st st' : DSt} {v v' : Value} {l l' : List RF} (h : RIn S w0 w bx st v l) (h' : IsRD w' bx st' v' l') (hg : RGrew bx w w' v v' l l') : RIn S w0 w' bx st' v' l' := by
  refine ⟨h', hg.os.trans h.os, hg.tape.trans h.tape, hg.output.trans h.output, Nat.le_trans h.size hg.size, fun k hk hn => ?_, fun k hk => ?_⟩
  · rw [hg.block k (Nat.lt_of_lt_of_le hk h.size) (fun e => ?_), h.block k hk hn]
    rcases h.own k e with h1 | h1
    · exact hn h1
    · omega
  · rcases hg.own k hk with h1 | h1
    · exact h.own k h1
    · exact .inr (Nat.le_trans h.size h1)
/-- Of what lay, the box alone may have turned. -/
def Far (bx : Nat) (w w' : World) : Prop := w.heap.size ≤ w'.heap.size ∧ ∀ k, k < w.heap.size → k ≠ bx → w'.heap[k]? = w.heap[k]?
theorem Far.of_below {bx : Nat} {w w' : World} (h : Below w.heap.size w w') : Far bx w w' := ⟨h.size, fun k hk _ => h.block k hk⟩
theorem Far.trans {bx : Nat} {w w1 w2 : World} (h : Far bx w w1) (k : Far bx w1 w2) : Far bx w w2 := ⟨Nat.le_trans h.1 k.1, fun i hi hn => (k.2 i (Nat.lt_of_lt_of_le hi h.1) hn).trans (h.2 i hi hn)⟩
/-- A new row is laid into the box. -/
theorem rowSet {S : Nat → Prop} {w0 w w1 : World} {bx : Nat} {st : DSt} {v v' : Value} {l l' : List RF} (h : RIn S w0 w bx st v l) (hb : Below w.heap.size w w1) (ho : OwnOf 97 rfCells 3 w.heap.size w1 v' l')
    (hl : ∀ q ∈ l', q ∈ l ∨ (IsBytes w q.ba q.b ∧ q.b.length ≤ q.bcap ∧ q.bcap ≤ maxLen ∧ q.name.size ≤ maxLen ∧ ∀ b off, q.ba = some ⟨b, off, none⟩ → 0 < q.b.length → bx + 1 ≤ b ∧ (S b ∨ w0.heap.size ≤ b))) :
    RIn S w0 (w1.setCell ⟨bx, 1, none⟩ v') bx st v' l' ∧ Far bx w (w1.setCell ⟨bx, 1, none⟩ v') := by
  have hbx : bx < w.heap.size := rown_lt h.is (.inl rfl)
  have h1 := h.is.bel hb
  have s1 := heap_setCell_same w1 bx 1 _ _ v' h1.box
  have oth : ∀ k, k ≠ bx → (w1.setCell ⟨bx, 1, none⟩ v').heap[k]? = w1.heap[k]? := fun k hk => Below.heap_setCell _ _ _ _ hk
  have hz : (w1.setCell ⟨bx, 1, none⟩ v').heap.size = w1.heap.size := by simp [World.setCell]
  have hblk : ∀ q ∈ l', ∀ b off, q.ba = some ⟨b, off, none⟩ → 0 < q.b.length → b < w.heap.size ∧ bx + 1 ≤ b ∧ (S b ∨ w0.heap.size ≤ b) := fun q hq b off e h0 => by
    rcases hl q hq with h2 | ⟨h2, _, _, _, h3⟩
    · exact ⟨rown_lt h.is (.inr (.inr ⟨q, h2, h0, off, e⟩)), ((h.is.file q h2).lo b off e h0).1, h.own b (.inr (.inr ⟨q, h2, h0, off, e⟩))⟩
    · obtain ⟨b', off', e1, e2, _⟩ := h2 0 h0
      rw [e] at e1
      cases e1
      exact ⟨e2, h3 b off e h0⟩
  refine ⟨?_, by rw [hz]; exact hb.size, fun k hk hn => (oth k hn).trans (hb.block k hk)⟩
  refine ⟨⟨by rw [s1]; rfl, (ho.mono (by omega)).kept fun k hk => oth k (fun e => by have := (ho.block k hk).1; omega), fun q hq => ?_⟩, hb.os.trans h.os, hb.tape.trans h.tape, hb.output.trans h.output, by rw [hz]; exact Nat.le_trans h.size hb.size, fun k hk hn => ?_, fun k hk => ?_⟩
  · have hk : RFok w bx v' q := by
      have hown : ∀ b off, q.ba = some ⟨b, off, none⟩ → 0 < q.b.length → bx + 1 ≤ b ∧ v'.ownBlock ≠ some b := fun b off e h0 => by
        obtain ⟨h4, h5, _⟩ := hblk q hq b off e h0
        exact ⟨h5, fun e' => by have := (ho.block b e').1; omega⟩
      rcases hl q hq with h2 | ⟨h2, h3, h4, h5, _⟩
      · have := h.is.file q h2
        exact ⟨this.bytes, this.cap, this.capm, this.nm, hown⟩
      · exact ⟨h2, h3, h4, h5, hown⟩
    refine hk.kept (by rw [hz]; exact hb.size) fun b off e h0 => ?_
    obtain ⟨h4, h5, _⟩ := hblk q hq b off e h0
    rw [oth b (by omega), hb.block b h4]
  · rw [oth k (fun e => by
      subst e
      rcases h.own k (.inl rfl) with h2 | h2
      · exact hn h2
      · omega), hb.block k (Nat.lt_of_lt_of_le hk h.size), h.block k hk hn]
  · rcases hk with rfl | hk | ⟨q, hq, h0, off, e⟩
    · exact h.own k (.inl rfl)
    · exact .inr (Nat.le_trans h.size (ho.block k hk).1)
    · exact (hblk q hq k off e h0).2.2
structure RPutAns (S : Nat → Prop) (w0 : World) (bx : Nat) (st : DSt) (l' : List RF) (w : World) (e : Ending) (w' : World) : Prop where
  ret : e = .returned (.tuple #[])
  st : ∃ v', RIn S w0 w' bx st v' l' ∧ Far bx w w'
theorem putMem {l : List RF} {q : RF} {k : Nat} {P : RF → Prop} (hq : P q) : ∀ x ∈ l.take k ++ q :: l.drop k, x ∈ l ∨ P x := by
  intro x hx
  simp only [List.mem_append, List.mem_cons] at hx
  rcases hx with hx | rfl | hx
  · exact .inl (List.mem_of_mem_take hx)
  · exact .inr hq
  · exact .inl (List.mem_of_mem_drop hx)
set_option maxRecDepth 100000 in
set_option maxHeartbeats 8000000 in
theorem refPut (S : Nat → Prop) (w0 : World) (bx : Nat) (st : DSt) (v : Value) (l : List RF) (q : RF) (w : World) (h : RIn S w0 w bx st v l) (hl : l.length ≤ 1000000)
    (hq : IsBytes w q.ba q.b ∧ q.b.length ≤ q.bcap ∧ q.bcap ≤ maxLen ∧ q.name.size ≤ maxLen ∧ ∀ b off, q.ba = some ⟨b, off, none⟩ → 0 < q.b.length → bx + 1 ≤ b ∧ (S b ∨ w0.heap.size ≤ b)) :
    Calls Try.prog 86 #[.pointer (some ⟨bx, 0, none⟩), .agg #[.string q.name, .slice q.ba q.b.length q.bcap, .int .i64 (q.s : Int)]] w (RPutAns S w0 bx st (l.take (rfAt l q.name) ++ q :: l.drop (rfAt l q.name)) w) := by
  obtain ⟨a, cap, rfl, hrow, hlc, hcm, hab⟩ := rf_row h.is
  have HROW := Lib.hid hrow
  have H := Lib.hid h
  have HQ := Lib.hid hq
  have HI := Lib.hid rf_info
  have hbx : bx < w.heap.size := rown_lt h.is (.inl rfl)
  have HBX := Lib.hid hbx
  have HAB := Lib.hid hab
  have bl : (l.length : Int) ≤ 1000000 := by omega
  unfold maxLen at hcm
  obtain ⟨nb, hnb⟩ : ∃ nb, nb = w.heap.size := ⟨_, rfl⟩
  have HNB := Lib.hid hnb
  clear h hq hrow hbx hab hnb
  go_enter Try.func86, Try.ntmps86
  go_wp2_with fail
  rw [← HNB.out]
  obtain ⟨W0, hW0⟩ : ∃ W, W = w.alloc (.cells #[.string q.name, .slice q.ba q.b.length q.bcap, .int .i64 (q.s : Int)] 97) := ⟨_, rfl⟩
  have HB0 := Lib.hid (show Below w.heap.size w W0 by rw [hW0]; exact (Below.refl _ _).alloc (Nat.le_refl _) _)
  have HX0 := Lib.hid (show W0.heap[nb]? = some (.cells #[.string q.name, .slice q.ba q.b.length q.bcap, .int .i64 (q.s : Int)] 97 (0, 0)) by rw [hW0, HNB.out]; exact heap_alloc_new w _)
  rw [← hW0]
  clear hW0
  refine (refFind bx st _ l q.name W0 (H.out.is.bel HB0.out) hl).mono ?_
  rintro e W1 ⟨rfl, hb1⟩
  have HB1 := Lib.hid (HB0.out.trans (hb1.mono HB0.out.size))
  have HX1 := Lib.hid ((hb1.block nb (Array.getElem?_eq_some_iff.1 HX0.out).1).trans HX0.out)
  clear hb1
  obtain ⟨k, hk⟩ : ∃ k, k = rfAt l q.name := ⟨_, rfl⟩
  have HK := Lib.hid hk
  have hkl : k ≤ l.length := by rw [hk]; exact rfAt_le _ _
  rw [← hk]
  clear hk
  have bk0 : (0 : Int) ≤ (k : Int) := by omega
  have bkl : (k : Int) ≤ (l.length : Int) := by omega
  have bkc : (k : Int) ≤ (cap : Int) := by omega
  have bkc' : k ≤ cap := by omega
  have HD1 := Lib.hid (H.out.is.bel HB1.out)
  have q1 := fun o => ((Below.refl W1.heap.size W1).alloc (Nat.le_refl _) o).cell (p := ⟨bx, 1, none⟩) (Array.getElem?_eq_some_iff.1 HD1.out.box).1 |>.trans HD1.out.cells.c1
  have frx := HD1.out.cells.fr
  by_cases hck : cap = k
  · have HDN := Lib.hid (show (l.drop k).length = 0 by simp; omega)
    subst hck
    go_wp2_with (at_builtin; refine wpList_append_of Try.underlying90 HI.out rfl (by omega) rfl (.tmp 14) (.tmp 20) rfl w.heap.size _ ([] : List RF) rfl (OwnOf.emptyAt (C := rfCells) (sz := 3) w.heap.size _ _ rfl HB1.out.size) _ (l.take cap) rfl (srcR cap _ (by rw [List.length_take]; omega) (((HROW.out.bel HB1.out).takeN cap).bel ((Below.refl _ _).alloc (Nat.le_refl _) _))) (Nat.le_trans HB1.out.size (by simp)) (by simp; omega) ?_)
    intro v1 W2 ho1 hg1
    have hbw1 := (HB1.out.trans (((Below.refl W1.heap.size W1).alloc (Nat.le_refl _) (.cells #[] 97)).mono HB1.out.size)).trans (Grew.bel (OwnOf.emptyAt (E := 97) (C := rfCells) (sz := 3) w.heap.size W1 _ rfl HB1.out.size) (Nat.le_trans HB1.out.size (by simp)) hg1)
    have hnb2 := (hg1.1.block nb (by have := (Array.getElem?_eq_some_iff.1 HX1.out).1; simp; omega) (by have := (Array.getElem?_eq_some_iff.1 HX1.out).1; simp [Value.ownBlock]; omega)).trans ((Below.heap_alloc _ _ _ (Array.getElem?_eq_some_iff.1 HX1.out).1).trans HX1.out)
    have HB2 := Lib.hid hbw1
    have HO1 := Lib.hid ho1
    have HX2 := Lib.hid hnb2
    have x0 := cell_of_row W2 nb 0 _ _ _ hnb2
    have x1 := cell_of_row W2 nb 1 _ _ _ hnb2
    have x2 := cell_of_row W2 nb 2 _ _ _ hnb2
    simp at x0 x1 x2
    clear hbw1 hnb2 ho1 hg1 q1 frx
    go_wp2_with (at_builtin; refine wpList_append_of Try.underlying90 HI.out rfl (by omega) rfl (.tmp 22) (.tmp 24) rfl w.heap.size v1 ([] ++ l.take cap) rfl (HO1.out.bel ((Below.refl _ _).alloc (Nat.le_refl _) _)) _ [q] rfl (srcR 1 _ rfl (rowOf_new q trivial rfl (heap_alloc_new W2 _))) (Nat.le_trans HB2.out.size (by simp)) (by simp; omega) ?_)
    intro v2 W3 ho2 hg2
    have HB3 := Lib.hid (HB2.out.trans (Grew.bel HO1.out HB2.out.size hg2.after_alloc))
    have HO2 := Lib.hid ho2
    have HD3 := Lib.hid (H.out.is.bel HB3.out)
    have q1 := HD3.out.cells.c1
    clear ho2 hg2 x0 x1 x2
    go_wp2_with (at_builtin; refine wpList_append_of Try.underlying90 HI.out rfl (by omega) rfl (.tmp 27) (.tmp 33) rfl w.heap.size v2 ([] ++ l.take cap ++ [q]) rfl HO2.out _ (l.drop cap) rfl (srcR 0 _ HDN.out.symm (IsRowOf.ofNil HDN.out)) HB3.out.size (by simp; omega) ?_)
    intro v3 W4 ho3 hg3
    have HB4 := Lib.hid (HB3.out.trans (Grew.bel HO2.out HB3.out.size hg3))
    have HD4 := Lib.hid (H.out.is.bel HB4.out)
    have q1' := HD4.out.cells.c1
    have frx := HD4.out.cells.fr
    have ho4 : OwnOf 97 rfCells 3 w.heap.size W4 v3 (l.take cap ++ q :: l.drop cap) := by simpa using ho3
    have HF := Lib.hid (rowSet H.out HB4.out ho4 (putMem HQ.out))
    obtain ⟨a3, c3, hv3⟩ := ho4.slice
    obtain ⟨n3, hn3⟩ : ∃ n, n = (l.take cap ++ q :: l.drop cap).length := ⟨_, rfl⟩
    rw [← hn3] at hv3
    subst hv3
    clear hn3 ho3 ho4 hg3 q1
    go_wp2
    go_returns
    exact ⟨rfl, _, by rw [← HK.out]; exact HF.out⟩
  · obtain ⟨g, o, ha⟩ : ∃ g o, a = some ⟨g, o, none⟩ := by
      rcases H.out.is.own.2 with ⟨h3, _⟩ | ⟨g, cap', cur, hv, _⟩
      · simp only [Value.slice.injEq] at h3
        omega
      · simp only [Value.slice.injEq] at hv
        exact ⟨g, 0, hv.1⟩
    subst ha
    go_wp2_with (at_builtin; refine wpList_append_of Try.underlying90 HI.out rfl (by omega) rfl (.tmp 14) (.tmp 20) rfl w.heap.size _ ([] : List RF) rfl (OwnOf.emptyAt (C := rfCells) (sz := 3) w.heap.size _ _ rfl HB1.out.size) _ (l.take k) rfl (srcR k _ (by rw [List.length_take]; omega) (((HROW.out.bel HB1.out).takeN k).bel ((Below.refl _ _).alloc (Nat.le_refl _) _))) (Nat.le_trans HB1.out.size (by simp)) (by simp; omega) ?_)
    intro v1 W2 ho1 hg1
    have hbw1 := (HB1.out.trans (((Below.refl W1.heap.size W1).alloc (Nat.le_refl _) (.cells #[] 97)).mono HB1.out.size)).trans (Grew.bel (OwnOf.emptyAt (E := 97) (C := rfCells) (sz := 3) w.heap.size W1 _ rfl HB1.out.size) (Nat.le_trans HB1.out.size (by simp)) hg1)
    have hnb2 := (hg1.1.block nb (by have := (Array.getElem?_eq_some_iff.1 HX1.out).1; simp; omega) (by have := (Array.getElem?_eq_some_iff.1 HX1.out).1; simp [Value.ownBlock]; omega)).trans ((Below.heap_alloc _ _ _ (Array.getElem?_eq_some_iff.1 HX1.out).1).trans HX1.out)
    have HB2 := Lib.hid hbw1
    have HO1 := Lib.hid ho1
    have HX2 := Lib.hid hnb2
    have x0 := cell_of_row W2 nb 0 _ _ _ hnb2
    have x1 := cell_of_row W2 nb 1 _ _ _ hnb2
    have x2 := cell_of_row W2 nb 2 _ _ _ hnb2
    simp at x0 x1 x2
    clear hbw1 hnb2 ho1 hg1 q1 frx
    go_wp2_with (at_builtin; refine wpList_append_of Try.underlying90 HI.out rfl (by omega) rfl (.tmp 22) (.tmp 24) rfl w.heap.size v1 ([] ++ l.take k) rfl (HO1.out.bel ((Below.refl _ _).alloc (Nat.le_refl _) _)) _ [q] rfl (srcR 1 _ rfl (rowOf_new q trivial rfl (heap_alloc_new W2 _))) (Nat.le_trans HB2.out.size (by simp)) (by simp; omega) ?_)
    intro v2 W3 ho2 hg2
    have HB3 := Lib.hid (HB2.out.trans (Grew.bel HO1.out HB2.out.size hg2.after_alloc))
    have HO2 := Lib.hid ho2
    have HD3 := Lib.hid (H.out.is.bel HB3.out)
    have q1 := HD3.out.cells.c1
    clear ho2 hg2 x0 x1 x2
    go_wp2_with (at_builtin; refine wpList_append_of Try.underlying90 HI.out rfl (by omega) rfl (.tmp 27) (.tmp 33) rfl w.heap.size v2 ([] ++ l.take k ++ [q]) rfl HO2.out _ (l.drop k) rfl (srcR (l.length - k) _ (by simp) ((HROW.out.bel HB3.out).dropN k)) HB3.out.size (by simp; omega) ?_)
    intro v3 W4 ho3 hg3
    have HB4 := Lib.hid (HB3.out.trans (Grew.bel HO2.out HB3.out.size hg3))
    have HD4 := Lib.hid (H.out.is.bel HB4.out)
    have q1' := HD4.out.cells.c1
    have frx := HD4.out.cells.fr
    have ho4 : OwnOf 97 rfCells 3 w.heap.size W4 v3 (l.take k ++ q :: l.drop k) := by simpa using ho3
    have HF := Lib.hid (rowSet H.out HB4.out ho4 (putMem HQ.out))
    obtain ⟨a3, c3, hv3⟩ := ho4.slice
    obtain ⟨n3, hn3⟩ : ∃ n, n = (l.take k ++ q :: l.drop k).length := ⟨_, rfl⟩
    rw [← hn3] at hv3
    subst hv3
    clear hn3 ho3 ho4 hg3 q1
    go_wp2
    go_returns
    exact ⟨rfl, _, by rw [← HK.out]; exact HF.out⟩
end Go.Proofs.Ytnpalplnpfgibaa
