/- The reference's drop (layer 4). -/
import Derived.Test.YtnpalplnpfgibaaRefPut
namespace Go.Proofs.Ytnpalplnpfgibaa
open Go.RowKit
theorem gives_emptyF {o : Oper} {a : Act} {w : World} (ho : o.op = .buildSlice 90 0 #[]) :
    Reg.gives Try.prog o a w (fun v' w' => v' = .slice (some ⟨w.heap.size, 0, none⟩) 0 0 ∧ w' = w.alloc (.cells #[] 97)) := by
  unfold Reg.gives
  rw [show execOp a.eval o = execOp a.eval { o with op := .buildSlice 90 0 #[] } by rw [← ho]]
  go_simp
def RDropP (S : Nat → Prop) (w0 : World) (bx : Nat) (st : DSt) (l' : List RF) (W3 W : World) : Prop := ∃ v', RIn S w0 W bx st v' l' ∧ Far bx W3 W
def rfDrop (l : List RF) (n : ByteArray) : List RF := if rfIs l n then l.take (rfAt l n) ++ l.drop (rfAt l n + 1) else l
set_option maxRecDepth 100000 in
set_option maxHeartbeats 8000000 in
theorem refDropNo (S : Nat → Prop) (w0 : World) (bx : Nat) (st : DSt) (v : Value) (l : List RF) (n : ByteArray) (w : World) (h : RIn S w0 w bx st v l) (hl : l.length ≤ 1000000) (hi : rfIs l n = false) :
    Calls Try.prog 87 #[.pointer (some ⟨bx, 0, none⟩), .string n] w (RPutAns S w0 bx st l w) := by
  have H := Lib.hid h
  clear h
  go_enter Try.func87, Try.ntmps87
  go_wp2_with fail
  refine (refFind bx st v l n w H.out.is hl).mono ?_
  rintro e W1 ⟨rfl, hb1⟩
  have HB1 := Lib.hid hb1
  clear hb1
  rw [hi]
  go_wp2_with fail
  go_returns
  exact ⟨rfl, v, H.out.step (H.out.is.bel HB1.out) (RGrew.of_below _ _ HB1.out), Far.of_below HB1.out⟩
set_option maxRecDepth 100000 in
set_option maxHeartbeats 8000000 in
theorem refDropYes (S : Nat → Prop) (w0 : World) (bx : Nat) (st : DSt) (v : Value) (l : List RF) (n : ByteArray) (w : World) (h : RIn S w0 w bx st v l) (hl : l.length ≤ 1000000) (hi : rfIs l n = true) :
    Calls Try.prog 87 #[.pointer (some ⟨bx, 0, none⟩), .string n] w (RPutAns S w0 bx st (l.take (rfAt l n) ++ l.drop (rfAt l n + 1)) w) := by
  have hlt : rfAt l n < l.length := by
    by_cases h1 : rfAt l n < l.length
    · exact h1
    · unfold rfIs at hi
      rw [List.getElem?_eq_none (by omega)] at hi
      cases hi
  obtain ⟨a, cap, rfl, hrow, hlc, hcm, hab⟩ := rf_row h.is
  obtain ⟨g, o, ha⟩ : ∃ g o, a = some ⟨g, o, none⟩ := by
    rcases h.is.own.2 with ⟨h3, _⟩ | ⟨g, cap', cur, hv, _⟩
    · simp only [Value.slice.injEq] at h3
      omega
    · simp only [Value.slice.injEq] at hv
      exact ⟨g, 0, hv.1⟩
  subst ha
  have HROW := Lib.hid hrow
  have H := Lib.hid h
  have HI := Lib.hid rf_info
  have bl : (l.length : Int) ≤ 1000000 := by omega
  unfold maxLen at hcm
  obtain ⟨k, hk⟩ : ∃ k, k = rfAt l n := ⟨_, rfl⟩
  rw [← hk] at hlt ⊢
  have HK := Lib.hid hk
  clear h hrow hk hab
  have bk0 : (0 : Int) ≤ (k : Int) := by omega
  have bk1 : (0 : Int) ≤ (k : Int) + 1 := by omega
  have bkl : (k : Int) < (l.length : Int) := by omega
  have bkl1 : (k : Int) + 1 ≤ (l.length : Int) := by omega
  have bkc : (k : Int) ≤ (cap : Int) := by omega
  have bkc' : k ≤ cap := by omega
  have bkl' : k + 1 ≤ l.length := by omega
  go_enter Try.func87, Try.ntmps87
  go_wp2_with fail
  refine (refFind bx st _ l n w H.out.is hl).mono ?_
  rintro e W1 ⟨rfl, hb1⟩
  have HB1 := Lib.hid hb1
  clear hb1
  rw [hi, ← HK.out]
  go_wp2_with fail
  obtain ⟨W3, hW3⟩ : ∃ W, W = W1.drew := ⟨_, rfl⟩
  have HD3 := Lib.hid (show RIn S w0 W3 bx st (.slice (some ⟨g, o, none⟩) l.length cap) l by
    rw [hW3]
    have hb := HB1.out.drew
    exact H.out.step (H.out.is.bel hb) (RGrew.of_below _ _ hb))
  have HR3 := Lib.hid (show IsRowOf rfCells (fun _ => True) 3 W3 (some ⟨g, o, none⟩) l by
    rw [hW3]; exact (HROW.out.bel HB1.out).bel (Below.refl _ _).drew)
  have HFW := Lib.hid (show Far bx w W3 by rw [hW3]; exact Far.of_below HB1.out.drew)
  have HX3 := Lib.hid (show bx < W3.heap.size ∧ W3.cell? ⟨bx, 1, none⟩ = some (.slice (some ⟨g, o, none⟩) l.length cap) from ⟨rown_lt HD3.out.is (.inl rfl), HD3.out.is.cells.c1⟩)
  have HWW := Lib.hid hW3
  clear hW3
  by_cases hck : cap = k + 1
  · have HDN := Lib.hid (show (l.drop (k + 1)).length = 0 by simp; omega)
    have HCK := Lib.hid hck
    clear hck
    have hW3 := HWW.out
    refine Reg.wp_regionP (RStep bx W3.heap.size) (RStep.refl bx _) (fun a b c => RStep.trans) 19 (Below W3.heap.size W3) (RDropP S w0 bx st (l.take k ++ l.drop (k + 1)) W3) [(1, 8, fun v w => OwnOf 97 rfCells 3 W3.heap.size w v []), (8, 16, fun v w => OwnOf 97 rfCells 3 W3.heap.size w v (l.take k)), (16, 19, fun v w => OwnOf 97 rfCells 3 W3.heap.size w v (l.take k ++ l.drop (k + 1)))] (by kernel_rfl) (by kernel_rfl) (by rw [hW3]; exact Below.refl _ _) ?_
    rw [← hW3]
    clear hW3
    refine Reg.segP 1 (by kernel_rfl) rfl (by kernel_rfl) ?_
    apply Exists.intro
    refine ⟨fun e => ?_, ?_⟩
    · simp only [List.take_succ_cons, List.take_zero]
      repeat (go_big_quiet_step ((intro _; rfl)))
      refine wpQuiet_nil ?_
      exact rfl
    simp only [List.drop_succ_cons, List.drop_zero, Nat.reduceAdd]
    refine Reg.makeP (by kernel_rfl) (by kernel_rfl) (fun e w1 L hN hR hC hl => ⟨by rfl, ?_⟩) ?_
    · refine Reg.gives_mono ?_ (gives_emptyF rfl)
      rintro v2 w2 ⟨rfl, rfl⟩
      have hz : W3.heap.size ≤ w1.heap.size := hC.size
      have ha := (Below.refl W3.heap.size w1).alloc hz (.cells #[] 97)
      exact ⟨RStep.of_below ha, hC.trans ha, fun _ => OwnOf.empty _ _ hz, fun h => absurd h (by decide), fun h => absurd h (by decide), trivial⟩
    simp only [Act.put, List.setIfInBounds_toArray, List.set_cons_zero, List.set_cons_succ, Nat.reduceAdd]
    refine Reg.segP 1 (by kernel_rfl) rfl (by kernel_rfl) ?_
    apply Exists.intro
    refine ⟨fun e => ?_, ?_⟩
    · simp only [List.take_succ_cons, List.take_zero]
      repeat (go_big_quiet_step ((intro _; rfl)))
      refine wpQuiet_nil ?_
      exact rfl
    simp only [List.drop_succ_cons, List.drop_zero, Nat.reduceAdd]
    refine Reg.stillP (.pointer (some ⟨bx, 0, none⟩)) (RStep.refl bx _) (by kernel_rfl) (fun e w1 hR => ⟨by rfl, ?_⟩) ?_
    · unfold Reg.gives
      go_simp
    simp only [Act.put, List.setIfInBounds_toArray, List.set_cons_zero, List.set_cons_succ, Nat.reduceAdd]
    refine Reg.segP 1 (by kernel_rfl) rfl (by kernel_rfl) ?_
    apply Exists.intro
    refine ⟨fun e => ?_, ?_⟩
    · simp only [List.take_succ_cons, List.take_zero]
      repeat (go_big_quiet_step ((intro _; rfl)))
      refine wpQuiet_nil ?_
      exact rfl
    simp only [List.drop_succ_cons, List.drop_zero, Nat.reduceAdd]
    refine Reg.readP (.slice (some ⟨g, o, none⟩) l.length cap) (RStep.refl bx _) (by kernel_rfl) (by kernel_rfl) (fun e w1 hR hC => ⟨by rfl, ?_⟩) ?_
    · have hx := (hC.cell (p := ⟨bx, 1, none⟩) HX3.out.1).trans HX3.out.2
      unfold Reg.gives
      go_simp
    simp only [Act.put, List.setIfInBounds_toArray, List.set_cons_zero, List.set_cons_succ, Nat.reduceAdd]
    refine Reg.segP 1 (by kernel_rfl) rfl (by kernel_rfl) ?_
    apply Exists.intro
    refine ⟨fun e => ?_, ?_⟩
    · simp only [List.take_succ_cons, List.take_zero]
      repeat (go_big_quiet_step ((intro _; rfl)))
      refine wpQuiet_nil ?_
      exact rfl
    simp only [List.drop_succ_cons, List.drop_zero, Nat.reduceAdd]
    refine Reg.stillP (.slice (some ⟨g, o, none⟩) k cap) (RStep.refl bx _) (by kernel_rfl) (fun e w1 hR => ⟨by rfl, ?_⟩) ?_
    · unfold Reg.gives
      go_simp
      all_goals (rw [if_pos bkc']; exact ⟨rfl, rfl⟩)
    simp only [Act.put, List.setIfInBounds_toArray, List.set_cons_zero, List.set_cons_succ, Nat.reduceAdd]
    refine Reg.makeP (by kernel_rfl) (by kernel_rfl) (fun e w1 L hN hR hC hl => ⟨by rfl, ?_⟩) ?_
    · have h5 := hl.1 (hN.2.1 1 (by kernel_rfl)) hN.1
      refine Reg.gives_mono ?_ (gives_append_of Try.underlying90 HI.out rfl (by omega) (.tmp 14) (.tmp 20) rfl W3.heap.size _ ([]) rfl h5 _ (l.take k) rfl (srcR k _ (by rw [List.length_take]; omega) ((HR3.out.bel hC).takeN k)) hC.size (by simp; omega))
      rintro v2 w2 ⟨ho, hg⟩
      have hb := Grew.bel h5 hC.size hg
      exact ⟨RStep.of_below hb, hC.trans hb, fun h => absurd h (by decide), fun _ => by simpa using ho, fun h => absurd h (by decide), trivial⟩
    simp only [Act.put, List.setIfInBounds_toArray, List.set_cons_zero, List.set_cons_succ, Nat.reduceAdd]
    refine Reg.segP 1 (by kernel_rfl) rfl (by kernel_rfl) ?_
    apply Exists.intro
    refine ⟨fun e => ?_, ?_⟩
    · simp only [List.take_succ_cons, List.take_zero]
      repeat (go_big_quiet_step ((intro _; rfl)))
      refine wpQuiet_nil ?_
      exact rfl
    simp only [List.drop_succ_cons, List.drop_zero, Nat.reduceAdd]
    refine Reg.stillP (.pointer (some ⟨bx, 0, none⟩)) (RStep.refl bx _) (by kernel_rfl) (fun e w1 hR => ⟨by rfl, ?_⟩) ?_
    · unfold Reg.gives
      go_simp
    simp only [Act.put, List.setIfInBounds_toArray, List.set_cons_zero, List.set_cons_succ, Nat.reduceAdd]
    refine Reg.segP 1 (by kernel_rfl) rfl (by kernel_rfl) ?_
    apply Exists.intro
    refine ⟨fun e => ?_, ?_⟩
    · simp only [List.take_succ_cons, List.take_zero]
      repeat (go_big_quiet_step ((intro _; rfl)))
      refine wpQuiet_nil ?_
      exact rfl
    simp only [List.drop_succ_cons, List.drop_zero, Nat.reduceAdd]
    refine Reg.readP (.slice (some ⟨g, o, none⟩) l.length cap) (RStep.refl bx _) (by kernel_rfl) (by kernel_rfl) (fun e w1 hR hC => ⟨by rfl, ?_⟩) ?_
    · have hx := (hC.cell (p := ⟨bx, 1, none⟩) HX3.out.1).trans HX3.out.2
      unfold Reg.gives
      go_simp
    simp only [Act.put, List.setIfInBounds_toArray, List.set_cons_zero, List.set_cons_succ, Nat.reduceAdd]
    refine Reg.segP 2 (by kernel_rfl) rfl (by kernel_rfl) ?_
    apply Exists.intro
    refine ⟨fun e => ?_, ?_⟩
    · simp only [List.take_succ_cons, List.take_zero]
      repeat (go_big_quiet_step ((intro _; rfl)))
      refine wpQuiet_nil ?_
      exact rfl
    simp only [List.drop_succ_cons, List.drop_zero, Nat.reduceAdd]
    refine Reg.stillP (.slice (some ⟨g, o, none⟩) (l.length - (k + 1)) (cap - (k + 1))) (RStep.refl bx _) (by kernel_rfl) (fun e w1 hR => ⟨by rfl, ?_⟩) ?_
    · unfold Reg.gives
      go_simp
      all_goals exact HCK.out
    simp only [Act.put, List.setIfInBounds_toArray, List.set_cons_zero, List.set_cons_succ, Nat.reduceAdd]
    refine Reg.makeP (by kernel_rfl) (by kernel_rfl) (fun e w1 L hN hR hC hl => ⟨by rfl, ?_⟩) ?_
    · have h5 := hl.2.1 (hN.2.1 8 (by kernel_rfl)) hN.1
      refine Reg.gives_mono ?_ (gives_append_of Try.underlying90 HI.out rfl (by omega) (.tmp 21) (.tmp 28) rfl W3.heap.size _ (l.take k) rfl h5 _ (l.drop (k + 1)) rfl (srcR (l.length - (k + 1)) _ (by simp) (IsRowOf.ofNil HDN.out)) hC.size (by simp; omega))
      rintro v2 w2 ⟨ho, hg⟩
      have hb := Grew.bel h5 hC.size hg
      exact ⟨RStep.of_below hb, hC.trans hb, fun h => absurd h (by decide), fun h => absurd h (by decide), fun _ => ho, trivial⟩
    simp only [Act.put, List.setIfInBounds_toArray, List.set_cons_zero, List.set_cons_succ, Nat.reduceAdd]
    refine Reg.stillP (.pointer (some ⟨bx, 0, none⟩)) (RStep.refl bx _) (by kernel_rfl) (fun e w1 hR => ⟨by rfl, ?_⟩) ?_
    · unfold Reg.gives
      go_simp
    simp only [Act.put, List.setIfInBounds_toArray, List.set_cons_zero, List.set_cons_succ, Nat.reduceAdd]
    refine Reg.segP 1 (by kernel_rfl) rfl (by kernel_rfl) ?_
    apply Exists.intro
    refine ⟨fun e => ?_, ?_⟩
    · simp only [List.take_succ_cons, List.take_zero]
      repeat (go_big_quiet_step ((intro _; rfl)))
      refine wpQuiet_nil ?_
      exact rfl
    simp only [List.drop_succ_cons, List.drop_zero, Nat.reduceAdd]
    refine Reg.storeP (by kernel_rfl) (fun e w1 L hN hR hC hl => ⟨by rfl, ?_⟩) ?_
    · have h16 := hl.2.2.1 (hN.2.1 16 (by kernel_rfl)) hN.1
      obtain ⟨a3, c3, hev⟩ := h16.slice
      have fr1 := (HD3.out.is.bel hC).cells.fr
      have cx := (HD3.out.is.bel hC).cells.c1
      have HF := Lib.hid (rowSet HD3.out hC h16 (fun x hx => .inl (by
        simp only [List.mem_append] at hx
        exact hx.elim List.mem_of_mem_take List.mem_of_mem_drop)))
      have HRS := Lib.hid (show ∀ x, RStep bx W3.heap.size w1 (w1.setCell ⟨bx, 1, none⟩ x) from fun x => ⟨rfl, rfl, rfl, by simp [World.setCell], fun k _ hk => Below.heap_setCell _ _ _ _ hk⟩)
      obtain ⟨n3, hn3⟩ : ∃ n, n = (l.take k ++ l.drop (k + 1)).length := ⟨_, rfl⟩
      rw [← hn3] at hev
      rw [hev] at HF ⊢
      clear hl hN hR hC h16 hev hn3
      unfold Reg.gives
      go_simp
      exact ⟨HRS.out _, ⟨_, HF.out⟩, fun h => absurd h (by decide), fun h => absurd h (by decide), fun h => absurd h (by decide), trivial⟩
    simp only [Act.put, Nat.reduceAdd]
    intro eY W5 hR5 hJ5 hf5
    obtain ⟨v5, h5⟩ := hJ5.2.1 rfl
    have H5 := Lib.hid h5
    clear hR5 hJ5 hf5 h5
    go_wp2
    go_returns
    exact ⟨rfl, v5, H5.out.1, HFW.out.trans H5.out.2⟩
  · have HCK := Lib.hid hck
    have hW3 := HWW.out
    refine Reg.wp_regionP (RStep bx W3.heap.size) (RStep.refl bx _) (fun a b c => RStep.trans) 19 (Below W3.heap.size W3) (RDropP S w0 bx st (l.take k ++ l.drop (k + 1)) W3) [(1, 8, fun v w => OwnOf 97 rfCells 3 W3.heap.size w v []), (8, 16, fun v w => OwnOf 97 rfCells 3 W3.heap.size w v (l.take k)), (16, 19, fun v w => OwnOf 97 rfCells 3 W3.heap.size w v (l.take k ++ l.drop (k + 1)))] (by kernel_rfl) (by kernel_rfl) (by rw [hW3]; exact Below.refl _ _) ?_
    rw [← hW3]
    clear hW3
    refine Reg.segP 1 (by kernel_rfl) rfl (by kernel_rfl) ?_
    apply Exists.intro
    refine ⟨fun e => ?_, ?_⟩
    · simp only [List.take_succ_cons, List.take_zero]
      repeat (go_big_quiet_step ((intro _; rfl)))
      refine wpQuiet_nil ?_
      exact rfl
    simp only [List.drop_succ_cons, List.drop_zero, Nat.reduceAdd]
    refine Reg.makeP (by kernel_rfl) (by kernel_rfl) (fun e w1 L hN hR hC hl => ⟨by rfl, ?_⟩) ?_
    · refine Reg.gives_mono ?_ (gives_emptyF rfl)
      rintro v2 w2 ⟨rfl, rfl⟩
      have hz : W3.heap.size ≤ w1.heap.size := hC.size
      have ha := (Below.refl W3.heap.size w1).alloc hz (.cells #[] 97)
      exact ⟨RStep.of_below ha, hC.trans ha, fun _ => OwnOf.empty _ _ hz, fun h => absurd h (by decide), fun h => absurd h (by decide), trivial⟩
    simp only [Act.put, List.setIfInBounds_toArray, List.set_cons_zero, List.set_cons_succ, Nat.reduceAdd]
    refine Reg.segP 1 (by kernel_rfl) rfl (by kernel_rfl) ?_
    apply Exists.intro
    refine ⟨fun e => ?_, ?_⟩
    · simp only [List.take_succ_cons, List.take_zero]
      repeat (go_big_quiet_step ((intro _; rfl)))
      refine wpQuiet_nil ?_
      exact rfl
    simp only [List.drop_succ_cons, List.drop_zero, Nat.reduceAdd]
    refine Reg.stillP (.pointer (some ⟨bx, 0, none⟩)) (RStep.refl bx _) (by kernel_rfl) (fun e w1 hR => ⟨by rfl, ?_⟩) ?_
    · unfold Reg.gives
      go_simp
    simp only [Act.put, List.setIfInBounds_toArray, List.set_cons_zero, List.set_cons_succ, Nat.reduceAdd]
    refine Reg.segP 1 (by kernel_rfl) rfl (by kernel_rfl) ?_
    apply Exists.intro
    refine ⟨fun e => ?_, ?_⟩
    · simp only [List.take_succ_cons, List.take_zero]
      repeat (go_big_quiet_step ((intro _; rfl)))
      refine wpQuiet_nil ?_
      exact rfl
    simp only [List.drop_succ_cons, List.drop_zero, Nat.reduceAdd]
    refine Reg.readP (.slice (some ⟨g, o, none⟩) l.length cap) (RStep.refl bx _) (by kernel_rfl) (by kernel_rfl) (fun e w1 hR hC => ⟨by rfl, ?_⟩) ?_
    · have hx := (hC.cell (p := ⟨bx, 1, none⟩) HX3.out.1).trans HX3.out.2
      unfold Reg.gives
      go_simp
    simp only [Act.put, List.setIfInBounds_toArray, List.set_cons_zero, List.set_cons_succ, Nat.reduceAdd]
    refine Reg.segP 1 (by kernel_rfl) rfl (by kernel_rfl) ?_
    apply Exists.intro
    refine ⟨fun e => ?_, ?_⟩
    · simp only [List.take_succ_cons, List.take_zero]
      repeat (go_big_quiet_step ((intro _; rfl)))
      refine wpQuiet_nil ?_
      exact rfl
    simp only [List.drop_succ_cons, List.drop_zero, Nat.reduceAdd]
    refine Reg.stillP (.slice (some ⟨g, o, none⟩) k cap) (RStep.refl bx _) (by kernel_rfl) (fun e w1 hR => ⟨by rfl, ?_⟩) ?_
    · unfold Reg.gives
      go_simp
      all_goals (rw [if_pos bkc']; exact ⟨rfl, rfl⟩)
    simp only [Act.put, List.setIfInBounds_toArray, List.set_cons_zero, List.set_cons_succ, Nat.reduceAdd]
    refine Reg.makeP (by kernel_rfl) (by kernel_rfl) (fun e w1 L hN hR hC hl => ⟨by rfl, ?_⟩) ?_
    · have h5 := hl.1 (hN.2.1 1 (by kernel_rfl)) hN.1
      refine Reg.gives_mono ?_ (gives_append_of Try.underlying90 HI.out rfl (by omega) (.tmp 14) (.tmp 20) rfl W3.heap.size _ ([]) rfl h5 _ (l.take k) rfl (srcR k _ (by rw [List.length_take]; omega) ((HR3.out.bel hC).takeN k)) hC.size (by simp; omega))
      rintro v2 w2 ⟨ho, hg⟩
      have hb := Grew.bel h5 hC.size hg
      exact ⟨RStep.of_below hb, hC.trans hb, fun h => absurd h (by decide), fun _ => by simpa using ho, fun h => absurd h (by decide), trivial⟩
    simp only [Act.put, List.setIfInBounds_toArray, List.set_cons_zero, List.set_cons_succ, Nat.reduceAdd]
    refine Reg.segP 1 (by kernel_rfl) rfl (by kernel_rfl) ?_
    apply Exists.intro
    refine ⟨fun e => ?_, ?_⟩
    · simp only [List.take_succ_cons, List.take_zero]
      repeat (go_big_quiet_step ((intro _; rfl)))
      refine wpQuiet_nil ?_
      exact rfl
    simp only [List.drop_succ_cons, List.drop_zero, Nat.reduceAdd]
    refine Reg.stillP (.pointer (some ⟨bx, 0, none⟩)) (RStep.refl bx _) (by kernel_rfl) (fun e w1 hR => ⟨by rfl, ?_⟩) ?_
    · unfold Reg.gives
      go_simp
    simp only [Act.put, List.setIfInBounds_toArray, List.set_cons_zero, List.set_cons_succ, Nat.reduceAdd]
    refine Reg.segP 1 (by kernel_rfl) rfl (by kernel_rfl) ?_
    apply Exists.intro
    refine ⟨fun e => ?_, ?_⟩
    · simp only [List.take_succ_cons, List.take_zero]
      repeat (go_big_quiet_step ((intro _; rfl)))
      refine wpQuiet_nil ?_
      exact rfl
    simp only [List.drop_succ_cons, List.drop_zero, Nat.reduceAdd]
    refine Reg.readP (.slice (some ⟨g, o, none⟩) l.length cap) (RStep.refl bx _) (by kernel_rfl) (by kernel_rfl) (fun e w1 hR hC => ⟨by rfl, ?_⟩) ?_
    · have hx := (hC.cell (p := ⟨bx, 1, none⟩) HX3.out.1).trans HX3.out.2
      unfold Reg.gives
      go_simp
    simp only [Act.put, List.setIfInBounds_toArray, List.set_cons_zero, List.set_cons_succ, Nat.reduceAdd]
    refine Reg.segP 2 (by kernel_rfl) rfl (by kernel_rfl) ?_
    apply Exists.intro
    refine ⟨fun e => ?_, ?_⟩
    · simp only [List.take_succ_cons, List.take_zero]
      repeat (go_big_quiet_step ((intro _; rfl)))
      refine wpQuiet_nil ?_
      exact rfl
    simp only [List.drop_succ_cons, List.drop_zero, Nat.reduceAdd]
    refine Reg.stillP (.slice (some ⟨g, o + (k + 1) * 3, none⟩) (l.length - (k + 1)) (cap - (k + 1))) (RStep.refl bx _) (by kernel_rfl) (fun e w1 hR => ⟨by rfl, ?_⟩) ?_
    · unfold Reg.gives
      go_simp
      all_goals exact HCK.out
    simp only [Act.put, List.setIfInBounds_toArray, List.set_cons_zero, List.set_cons_succ, Nat.reduceAdd]
    refine Reg.makeP (by kernel_rfl) (by kernel_rfl) (fun e w1 L hN hR hC hl => ⟨by rfl, ?_⟩) ?_
    · have h5 := hl.2.1 (hN.2.1 8 (by kernel_rfl)) hN.1
      refine Reg.gives_mono ?_ (gives_append_of Try.underlying90 HI.out rfl (by omega) (.tmp 21) (.tmp 28) rfl W3.heap.size _ (l.take k) rfl h5 _ (l.drop (k + 1)) rfl (srcR (l.length - (k + 1)) _ (by simp) ((HR3.out.bel hC).dropN (k + 1))) hC.size (by simp; omega))
      rintro v2 w2 ⟨ho, hg⟩
      have hb := Grew.bel h5 hC.size hg
      exact ⟨RStep.of_below hb, hC.trans hb, fun h => absurd h (by decide), fun h => absurd h (by decide), fun _ => ho, trivial⟩
    simp only [Act.put, List.setIfInBounds_toArray, List.set_cons_zero, List.set_cons_succ, Nat.reduceAdd]
    refine Reg.stillP (.pointer (some ⟨bx, 0, none⟩)) (RStep.refl bx _) (by kernel_rfl) (fun e w1 hR => ⟨by rfl, ?_⟩) ?_
    · unfold Reg.gives
      go_simp
    simp only [Act.put, List.setIfInBounds_toArray, List.set_cons_zero, List.set_cons_succ, Nat.reduceAdd]
    refine Reg.segP 1 (by kernel_rfl) rfl (by kernel_rfl) ?_
    apply Exists.intro
    refine ⟨fun e => ?_, ?_⟩
    · simp only [List.take_succ_cons, List.take_zero]
      repeat (go_big_quiet_step ((intro _; rfl)))
      refine wpQuiet_nil ?_
      exact rfl
    simp only [List.drop_succ_cons, List.drop_zero, Nat.reduceAdd]
    refine Reg.storeP (by kernel_rfl) (fun e w1 L hN hR hC hl => ⟨by rfl, ?_⟩) ?_
    · have h16 := hl.2.2.1 (hN.2.1 16 (by kernel_rfl)) hN.1
      obtain ⟨a3, c3, hev⟩ := h16.slice
      have fr1 := (HD3.out.is.bel hC).cells.fr
      have cx := (HD3.out.is.bel hC).cells.c1
      have HF := Lib.hid (rowSet HD3.out hC h16 (fun x hx => .inl (by
        simp only [List.mem_append] at hx
        exact hx.elim List.mem_of_mem_take List.mem_of_mem_drop)))
      have HRS := Lib.hid (show ∀ x, RStep bx W3.heap.size w1 (w1.setCell ⟨bx, 1, none⟩ x) from fun x => ⟨rfl, rfl, rfl, by simp [World.setCell], fun k _ hk => Below.heap_setCell _ _ _ _ hk⟩)
      obtain ⟨n3, hn3⟩ : ∃ n, n = (l.take k ++ l.drop (k + 1)).length := ⟨_, rfl⟩
      rw [← hn3] at hev
      rw [hev] at HF ⊢
      clear hl hN hR hC h16 hev hn3
      unfold Reg.gives
      go_simp
      exact ⟨HRS.out _, ⟨_, HF.out⟩, fun h => absurd h (by decide), fun h => absurd h (by decide), fun h => absurd h (by decide), trivial⟩
    simp only [Act.put, Nat.reduceAdd]
    intro eY W5 hR5 hJ5 hf5
    obtain ⟨v5, h5⟩ := hJ5.2.1 rfl
    have H5 := Lib.hid h5
    clear hR5 hJ5 hf5 h5
    go_wp2
    go_returns
    exact ⟨rfl, v5, H5.out.1, HFW.out.trans H5.out.2⟩
end Go.Proofs.Ytnpalplnpfgibaa
