/- The reference's effect (layer 4): a disk that goes on, a disk that falls. -/
import Derived.Test.YtnpalplnpfgibaaRefSet
import Derived.Test.YtnpalplnpfgibaaRegStr
namespace Go.Proofs.Ytnpalplnpfgibaa
open Go.RowKit
def rdNext (st : DSt) : DSt := { st with left := if st.planned then st.left - 1 else st.left, eff := st.eff + 1 }
theorem rdBoxSet {w w' : World} {bx : Nat} {st st' : DSt} {v : Value} {l : List RF} (h : IsRD w bx st v l) (hb : w'.heap[bx]? = some (.cells (rdCells st' v) 92 (0, 0))) (hg : ∀ k, k ≠ bx → w'.heap[k]? = w.heap[k]?) (h1 : w'.os = w.os) (h2 : w'.tape = w.tape) (h3 : w'.output = w.output) (h4 : w.heap.size ≤ w'.heap.size) : IsRD w' bx st' v l ∧ RGrew bx w w' v v l l :=
  h.box' hb ⟨h1, h2, h3, h4, fun k _ hk => hg k (fun e => hk (by rw [e]))⟩
structure REff (ok : Bool) (st' : DSt) (bx : Nat) (v : Value) (l : List RF) (w : World) (e : Ending) (w' : World) : Prop where
  ret : e = .returned (.bool ok)
  st : IsRD w' bx st' v l ∧ RGrew bx w w' v v l l
set_option maxRecDepth 100000 in
set_option maxHeartbeats 2000000 in
theorem refEffFree (bx : Nat) (st : DSt) (v : Value) (l : List RF) (w : World) (h : IsRD w bx st v l) (hp : st.planned = false) (he : st.eff ≤ 1000000000) : Calls Try.prog 85 #[.pointer (some ⟨bx, 0, none⟩)] w (REff true (rdNext st) bx v l w) := by
  obtain ⟨c0, c1, c2, c3, c4, c5, c6, fr⟩ := h.cells
  rw [hp] at c3
  have H := Lib.hid h
  have HP := Lib.hid hp
  have be : (st.eff : Int) ≤ 1000000000 := by omega
  clear h c0 c1 c4 c5 c6 hp
  go_enter Try.func85, Try.ntmps85
  go_wp2
  go_ret
  refine ⟨rfl, rdBoxSet H.out ?_ (fun k hk => Below.heap_setCell _ _ _ _ hk) rfl rfl rfl (by simp [World.setCell])⟩
  have s1 := heap_setCell_same w bx 2 _ _ (.int .i64 ((st.eff : Int) + 1)) H.out.box
  rw [s1]
  unfold rdNext rdCells
  simp [HP.out]
set_option maxRecDepth 100000 in
set_option maxHeartbeats 2000000 in
theorem refEffPlan (bx : Nat) (st : DSt) (v : Value) (l : List RF) (w : World) (h : IsRD w bx st v l) (hp : st.planned = true) (hl : st.left ≠ 0) (hl2 : st.left ≤ 9223372036854775807) (he : st.eff ≤ 1000000000) : Calls Try.prog 85 #[.pointer (some ⟨bx, 0, none⟩)] w (REff true (rdNext st) bx v l w) := by
  obtain ⟨c0, c1, c2, c3, c4, c5, c6, fr⟩ := h.cells
  rw [hp] at c3
  have H := Lib.hid h
  have HP := Lib.hid hp
  have be : (st.eff : Int) ≤ 1000000000 := by omega
  have b1 : (1 : Int) ≤ (st.left : Int) := by omega
  have b2 : (st.left : Int) ≤ 9223372036854775807 := by omega
  have d1 : ((st.left : Int) == 0) = false := by simp; omega
  have d1' : (st.left == 0) = false := by simp; omega
  have d1'' : decide ((st.left : Int) = 0) = false := by simp; omega
  have HL := Lib.hid (show (st.left : Int) - 1 = ((st.left - 1 : Nat) : Int) by omega)
  clear h c0 c1 c5 c6 hp hl
  go_enter Try.func85, Try.ntmps85
  go_wp2
  go_ret
  refine ⟨rfl, rdBoxSet H.out ?_ (fun k hk => by rw [Below.heap_setCell _ _ _ _ hk, Below.heap_setCell _ _ _ _ hk]) rfl rfl rfl (by simp [World.setCell])⟩
  have s1 := heap_setCell_same w bx 4 _ _ (.int .i64 ((st.left : Int) - 1)) H.out.box
  have s2 := heap_setCell_same _ bx 2 _ _ (.int .i64 ((st.eff : Int) + 1)) s1
  rw [s2, HL.out]
  unfold rdNext rdCells
  simp [HP.out]
/-! A disk that falls -/
structure RFall (bx : Nat) (st : DSt) (v : Value) (l : List RF) (w : World) (e : Ending) (w' : World) : Prop where
  ret : e = .returned (.bool false)
  st : ∃ l', rfsOf l' = crashF st.keep (rfsOf l) ∧ IsRD w' bx st.fall v l' ∧ RGrew bx w w' v v l l'
theorem rdFallSet {w0 w : World} {bx : Nat} {st : DSt} {v : Value} {l l' : List RF} (h : IsRD w bx st v l') (hg : RGrew bx w0 w v v l l') :
    IsRD ((w.setCell ⟨bx, 6, none⟩ (.bool true)).setCell ⟨bx, 3, none⟩ (.bool false)) bx st.fall v l' ∧ RGrew bx w0 ((w.setCell ⟨bx, 6, none⟩ (.bool true)).setCell ⟨bx, 3, none⟩ (.bool false)) v v l l' := by
  have s1 := heap_setCell_same w bx 6 _ _ (.bool true) h.box
  have s2 := heap_setCell_same _ bx 3 _ _ (.bool false) s1
  obtain ⟨h1, h2⟩ := rdBoxSet (w' := (w.setCell ⟨bx, 6, none⟩ (.bool true)).setCell ⟨bx, 3, none⟩ (.bool false)) (st' := st.fall) h (by rw [s2]; rfl) (fun k hk => by rw [Below.heap_setCell _ _ _ _ hk, Below.heap_setCell _ _ _ _ hk]) rfl rfl rfl (by simp [World.setCell])
  exact ⟨h1, hg.trans h2⟩
set_option maxRecDepth 100000 in
set_option maxHeartbeats 2000000 in
theorem refFallNone (bx : Nat) (st : DSt) (v : Value) (w : World) (h : IsRD w bx st v []) (hp : st.planned = true) (hl : st.left = 0) : Calls Try.prog 85 #[.pointer (some ⟨bx, 0, none⟩)] w (RFall bx st v [] w) := by
  obtain ⟨c0, c1, c2, c3, c4, c5, c6, fr⟩ := h.cells
  obtain ⟨a, cap, rfl, _⟩ := rf_row h
  rw [hp] at c3
  rw [hl] at c4
  have H := Lib.hid h
  clear h c0 c2 c5 hp hl
  go_enter Try.func85, Try.ntmps85
  go_wp2
  refine wp_loop_rounds 1 ?_
  rw [rounds_succ]
  go_wp2
  go_ret
  exact ⟨rfl, [], rfl, rdFallSet H.out (RGrew.refl _ _ _ _)⟩
theorem IsBytes.cut {w : World} {a : Option Addr} {l : List UInt8} (h : IsBytes w a l) (n : Nat) : IsBytes w a (l.take n) := by
  intro i hi
  obtain ⟨b, off, h1, h2, h3⟩ := h i (by simp at hi; omega)
  refine ⟨b, off, h1, h2, ?_⟩
  rw [h3, List.getElem_take]
def RPut (bx : Nat) (st : DSt) (v : Value) (m : List RF) (j : Nat) (hj : j < m.length) (tb : List UInt8) (W3 W : World) : Prop :=
  ∃ a' c', IsRD W bx st v (m.set j { m[j] with ba := a', bcap := c', b := tb }) ∧ RGrew bx W3 W v v m (m.set j { m[j] with ba := a', bcap := c', b := tb })
theorem fallStep {w W5 : World} {bx g n cap : Nat} {st : DSt} {l m p : List RF} {j kn : Nat} {a5 : Option Addr} {k5 : Nat} {q : RF} {tb : List UInt8} (hm : m = p ++ l.drop j) (hp : p.length = j) (hj : j < l.length) (hjm : j < m.length) (hq : m[j] = l[j]) (hc : rfsOf p = crashF st.keep (rfsOf (l.take j)))
    (hd : IsRD W5 bx st (.slice (some ⟨g, 0, none⟩) n cap) (m.set j { m[j] with ba := a5, bcap := k5, b := tb })) (hg : RGrew bx w W5 (.slice (some ⟨g, 0, none⟩) n cap) (.slice (some ⟨g, 0, none⟩) n cap) l (m.set j { m[j] with ba := a5, bcap := k5, b := tb })) (htb : tb = q.b.take kn) (hq2 : q = l[j]) (hkn : kn = (⟨q.b, q.s⟩ : File).kept st.keep) :
    (p ++ [{ m[j] with ba := a5, bcap := k5, b := tb, s := kn }]).length = j + 1 ∧ rfsOf (p ++ [{ m[j] with ba := a5, bcap := k5, b := tb, s := kn }]) = crashF st.keep (rfsOf (l.take (j + 1))) ∧
    IsRD (W5.setCell ⟨g, j * 3 + 2, none⟩ (.int .i64 (kn : Int))) bx st (.slice (some ⟨g, 0, none⟩) n cap) ((p ++ [{ m[j] with ba := a5, bcap := k5, b := tb, s := kn }]) ++ l.drop (j + 1)) ∧
    RGrew bx w (W5.setCell ⟨g, j * 3 + 2, none⟩ (.int .i64 (kn : Int))) (.slice (some ⟨g, 0, none⟩) n cap) (.slice (some ⟨g, 0, none⟩) n cap) l ((p ++ [{ m[j] with ba := a5, bcap := k5, b := tb, s := kn }]) ++ l.drop (j + 1)) := by
  have hps := putS hd j (by simpa using hjm) kn (kn : Int) rfl
  have hset : ∀ x : RF, m.set j x = (p ++ [x]) ++ l.drop (j + 1) := fun x => by
    rw [hm, List.set_append_right _ _ (by omega), hp, Nat.sub_self, List.drop_eq_getElem_cons hj, List.set_cons_zero, List.append_assoc]
    rfl
  simp only [List.getElem_set_self, List.set_set] at hps
  rw [hset] at hps
  refine ⟨by simp [hp], ?_, hps.1, ?_⟩
  · have h1 : l.take (j + 1) = l.take j ++ [l[j]] := List.take_succ_eq_append_getElem hj
    have h2 : ∀ a b : List RF, rfsOf (a ++ b) = rfsOf a ++ rfsOf b := fun a b => List.map_append
    have h3 : ∀ a b : Files, crashF st.keep (a ++ b) = crashF st.keep a ++ crashF st.keep b := fun a b => List.map_append
    rw [h1, h2, h2, h3, hc]
    congr 1
    subst hq2
    rw [htb, hkn, hq]
    rfl
  · have h1 := hg.trans (by rw [hset]; rw [← hset] at hps; rw [← hset]; exact hps.2)
    rw [hset] at h1
    exact h1
set_option maxRecDepth 100000 in
set_option maxHeartbeats 8000000 in
theorem refFallSome (bx : Nat) (st : DSt) (v : Value) (l : List RF) (w : World) (h : IsRD w bx st v l) (hp : st.planned = true) (hlf : st.left = 0) (hk : st.keep ≤ 9223372036854775807) (h0 : 0 < l.length) (hl : l.length ≤ 1000000) (hle : ∀ q ∈ l, q.s ≤ q.b.length ∧ q.b.length ≤ 1000000000) : Calls Try.prog 85 #[.pointer (some ⟨bx, 0, none⟩)] w (RFall bx st v l w) := by
  obtain ⟨g, cap, rfl, hgb, _, hlc, hcm⟩ := h.own.get1 h0
  obtain ⟨c0, c1, c2, c3, c4, c5, c6, fr⟩ := h.cells
  rw [hp] at c3
  rw [hlf] at c4
  have H := Lib.hid h
  have HLE := Lib.hid hle
  have HGB := Lib.hid (show bx < g by omega)
  have bl : (l.length : Int) ≤ 1000000 := by omega
  have bk : (st.keep : Int) ≤ 9223372036854775807 := by omega
  have HCM := Lib.hid (And.intro hlc hcm)
  have HST := Lib.hid (And.intro hp hlf)
  clear h c0 c2 c5 hp hlf hle hk hlc hcm hgb
  go_enter Try.func85, Try.ntmps85
  go_wp2
  go_loopw [3] (fun i wr => ∃ (j : Nat) (p : List RF), j ≤ l.length ∧ i = .int .i64 j ∧ Hid (p.length = j) ∧ Hid (rfsOf p = crashF st.keep (rfsOf (l.take j))) ∧ Hid (IsRD wr bx st (.slice (some ⟨g, 0, none⟩) l.length cap) (p ++ l.drop j)) ∧ Hid (RGrew bx w wr (.slice (some ⟨g, 0, none⟩) l.length cap) (.slice (some ⟨g, 0, none⟩) l.length cap) l (p ++ l.drop j))) (fun i _ => l.length - (intOf i).toNat)
  case atStart => exact ⟨0, [], Nat.zero_le _, rfl, rfl, rfl, H, RGrew.refl _ _ _ _⟩
  case round =>
    obtain ⟨j, p, hj, rfl, HPL, HPC, HP, HPG⟩ := hrel
    clear c1 c3 c4 c6 fr
    have b0 : (0 : Int) ≤ (j : Int) := by omega
    obtain ⟨m, hm⟩ : ∃ m, m = p ++ l.drop j := ⟨_, rfl⟩
    have HM := Lib.hid hm
    have hml : m.length = l.length := by rw [hm, List.length_append, HPL.out, List.length_drop]; omega
    have HML := Lib.hid hml
    rw [← hm] at HP HPG
    clear hm hml
    obtain ⟨_, q1, _, _, _, q5, _, frx⟩ := HP.out.cells
    by_cases hlt : j < l.length
    · have bj : (j : Int) < (l.length : Int) := by omega
      have HJM := Lib.hid (show j < m.length by rw [HML.out]; exact hlt)
      obtain ⟨q, hq⟩ : ∃ q, q = m[j]'HJM.out := ⟨_, rfl⟩
      have HQ := Lib.hid hq
      have hql : q = l[j] := by
        have e1 : m[j]? = l[j]? := by rw [HM.out, List.getElem?_append_right (by rw [HPL.out]; exact Nat.le_refl _), HPL.out, Nat.sub_self, List.getElem?_drop]; rfl
        rw [List.getElem?_eq_getElem HJM.out, List.getElem?_eq_getElem hlt] at e1
        rw [hq]
        exact Option.some.inj e1
      have HQL := Lib.hid hql
      have hqs := HLE.out q (by rw [hql]; exact List.getElem_mem hlt)
      have HOK := Lib.hid (HP.out.file q (by rw [hq]; exact List.getElem_mem _))
      have hqc := HOK.out.cap
      have hqm := HOK.out.capm
      unfold maxLen at hqm
      have r1 := HP.out.own.at_ (C := rfCells) (sz := 3) (fun _ => rfl) j HJM.out 1 (by omega)
      have r2 := HP.out.own.at_ (C := rfCells) (sz := 3) (fun _ => rfl) j HJM.out 2 (by omega)
      rw [← HQ.out] at r1 r2
      simp only [rfCells, List.getElem?_cons_zero, List.getElem?_cons_succ] at r1 r2
      have HBXR := Lib.hid (rown_lt HP.out (.inl rfl))
      have HGR := Lib.hid (rown_lt HP.out (.inr (.inl rfl)))
      have bs0 : (0 : Int) ≤ (q.s : Int) := by omega
      have bs1 : (q.s : Int) ≤ (q.b.length : Int) := by omega
      have bb : (q.b.length : Int) ≤ 1000000000 := by omega
      have HQS := Lib.hid hqs
      have HQC := Lib.hid hqc
      clear hq hql hqs hqc
      go_wp2
      refine Reg.wp_region0 (by kernel_rfl) (by kernel_rfl) ?_
      refine Reg.seg0 1 (by kernel_rfl) rfl ?_
      apply Exists.intro
      refine ⟨fun e => ?_, ?_⟩
      · simp only [List.take_succ_cons, List.take_zero]
        repeat (go_big_quiet_step ((intro _; rfl)))
        refine wpQuiet_nil ?_
        exact rfl
      simp only [List.drop_succ_cons, List.drop_zero, Nat.reduceAdd]
      refine Reg.const0 (.pointer (some ⟨bx, 0, none⟩)) (fun e w1 hR hf => ⟨by rfl, ?_⟩) ?_
      · unfold Reg.gives
        clear hf
        go_simp
        exact Reg.bel_refl _
      simp only [Act.put, List.setIfInBounds_toArray, List.set_cons_zero, List.set_cons_succ, Nat.reduceAdd]
      refine Reg.seg0 1 (by kernel_rfl) rfl ?_
      apply Exists.intro
      refine ⟨fun e => ?_, ?_⟩
      · simp only [List.take_succ_cons, List.take_zero]
        repeat (go_big_quiet_step ((intro _; rfl)))
        refine wpQuiet_nil ?_
        exact rfl
      simp only [List.drop_succ_cons, List.drop_zero, Nat.reduceAdd]
      refine Reg.const0 (.slice (some ⟨g, 0, none⟩) l.length cap) (fun e w1 hR hf => ⟨by rfl, ?_⟩) ?_
      · have c1' := (Below.cell hR (p := ⟨bx, 1, none⟩) (show bx < wr.heap.size from HBXR.out)).trans q1
        unfold Reg.gives
        clear hf
        go_simp
        exact Reg.bel_refl _
      simp only [Act.put, List.setIfInBounds_toArray, List.set_cons_zero, List.set_cons_succ, Nat.reduceAdd]
      refine Reg.seg0 3 (by kernel_rfl) rfl ?_
      apply Exists.intro
      refine ⟨fun e => ?_, ?_⟩
      · simp only [List.take_succ_cons, List.take_zero]
        repeat (go_big_quiet_step ((intro _; rfl)))
        refine wpQuiet_nil ?_
        exact rfl
      simp only [List.drop_succ_cons, List.drop_zero, Nat.reduceAdd]
      refine Reg.const0 (.slice q.ba q.b.length q.bcap) (fun e w1 hR hf => ⟨by rfl, ?_⟩) ?_
      · have c1' := (Below.cell hR (p := ⟨g, j * 3 + 1, none⟩) (show g < wr.heap.size from HGR.out)).trans r1
        unfold Reg.gives
        clear hf
        go_simp
        exact Reg.bel_refl _
      simp only [Act.put, List.setIfInBounds_toArray, List.set_cons_zero, List.set_cons_succ, Nat.reduceAdd]
      refine Reg.seg0 2 (by kernel_rfl) rfl ?_
      apply Exists.intro
      refine ⟨fun e => ?_, ?_⟩
      · simp only [List.take_succ_cons, List.take_zero]
        repeat (go_big_quiet_step ((intro _; rfl)))
        refine wpQuiet_nil ?_
        exact rfl
      simp only [List.drop_succ_cons, List.drop_zero, Nat.reduceAdd]
      refine Reg.const0 (.pointer (some ⟨bx, 0, none⟩)) (fun e w1 hR hf => ⟨by rfl, ?_⟩) ?_
      · unfold Reg.gives
        clear hf
        go_simp
        exact Reg.bel_refl _
      simp only [Act.put, List.setIfInBounds_toArray, List.set_cons_zero, List.set_cons_succ, Nat.reduceAdd]
      refine Reg.seg0 1 (by kernel_rfl) rfl ?_
      apply Exists.intro
      refine ⟨fun e => ?_, ?_⟩
      · simp only [List.take_succ_cons, List.take_zero]
        repeat (go_big_quiet_step ((intro _; rfl)))
        refine wpQuiet_nil ?_
        exact rfl
      simp only [List.drop_succ_cons, List.drop_zero, Nat.reduceAdd]
      refine Reg.const0 (.slice (some ⟨g, 0, none⟩) l.length cap) (fun e w1 hR hf => ⟨by rfl, ?_⟩) ?_
      · have c1' := (Below.cell hR (p := ⟨bx, 1, none⟩) (show bx < wr.heap.size from HBXR.out)).trans q1
        unfold Reg.gives
        clear hf
        go_simp
        exact Reg.bel_refl _
      simp only [Act.put, List.setIfInBounds_toArray, List.set_cons_zero, List.set_cons_succ, Nat.reduceAdd]
      refine Reg.seg0 3 (by kernel_rfl) rfl ?_
      apply Exists.intro
      refine ⟨fun e => ?_, ?_⟩
      · simp only [List.take_succ_cons, List.take_zero]
        repeat (go_big_quiet_step ((intro _; rfl)))
        refine wpQuiet_nil ?_
        exact rfl
      simp only [List.drop_succ_cons, List.drop_zero, Nat.reduceAdd]
      refine Reg.const0 (.int .i64 (q.s : Int)) (fun e w1 hR hf => ⟨by rfl, ?_⟩) ?_
      · have c1' := (Below.cell hR (p := ⟨g, j * 3 + 2, none⟩) (show g < wr.heap.size from HGR.out)).trans r2
        unfold Reg.gives
        clear hf
        go_simp
        exact Reg.bel_refl _
      simp only [Act.put, List.setIfInBounds_toArray, List.set_cons_zero, List.set_cons_succ, Nat.reduceAdd]
      refine Reg.seg0 2 (by kernel_rfl) rfl ?_
      apply Exists.intro
      refine ⟨fun e => ?_, ?_⟩
      · simp only [List.take_succ_cons, List.take_zero]
        repeat (go_big_quiet_step ((intro _; rfl)))
        refine wpQuiet_nil ?_
        exact rfl
      simp only [List.drop_succ_cons, List.drop_zero, Nat.reduceAdd]
      intro eX W1 hR hJ hf
      have HB1 := Lib.hid ((Below.refl wr.heap.size wr).drew.trans hR)
      clear hR hJ hf q1 q5 r1 r2
      have HD1 := Lib.hid (HP.out.bel HB1.out)
      have HG1 := Lib.hid (HPG.out.trans (RGrew.of_below _ _ HB1.out))
      obtain ⟨_, q1, _, _, _, q5, _, frx⟩ := HD1.out.cells
      have r1 := HD1.out.own.at_ (C := rfCells) (sz := 3) (fun _ => rfl) j HJM.out 1 (by omega)
      have r2 := HD1.out.own.at_ (C := rfCells) (sz := 3) (fun _ => rfl) j HJM.out 2 (by omega)
      rw [← HQ.out] at r1 r2
      simp only [rfCells, List.getElem?_cons_zero, List.getElem?_cons_succ] at r1 r2
      have frg := HD1.out.own.fr
      obtain ⟨kn, hkn⟩ : ∃ kn, kn = (⟨q.b, q.s⟩ : File).kept st.keep := ⟨_, rfl⟩
      have hkd : kn = q.s + min st.keep (q.b.length - q.s) := hkn
      have HKN := Lib.hid hkn
      have hk1 : kn ≤ q.b.length := by have := HQS.out; omega
      clear hkn
      by_cases hgt : st.keep < q.b.length - q.s
      · have dg : decide ((st.keep : Int) < (q.b.length : Int) - (q.s : Int)) = true := by simp; have := HQS.out; omega
        have HE := Lib.hid (show (st.keep : Int) + (q.s : Int) = (kn : Int) by omega)
        clear hkd
        go_wp2
        rw [HE.out]
        obtain ⟨W3, hW3⟩ : ∃ W, W = W1.drew := ⟨_, rfl⟩
        have HD4 := Lib.hid (show IsRD W3 bx st (.slice (some ⟨g, 0, none⟩) l.length cap) m by rw [hW3]; exact HD1.out.bel (Below.refl _ _).drew)
        have HG4 := Lib.hid (show RGrew bx w W3 (.slice (some ⟨g, 0, none⟩) l.length cap) (.slice (some ⟨g, 0, none⟩) l.length cap) l m by rw [hW3]; exact HG1.out.trans (RGrew.of_below _ _ (Below.refl _ _).drew))
        have HX3 := Lib.hid (show bx < W3.heap.size ∧ g < W3.heap.size ∧ W3.cell? ⟨bx, 1, none⟩ = some (.slice (some ⟨g, 0, none⟩) l.length cap) ∧ W3.cell? ⟨g, j * 3 + 1, none⟩ = some (.slice q.ba q.b.length q.bcap) by
          have e1 := HD4.out.own.at_ (C := rfCells) (sz := 3) (fun _ => rfl) j HJM.out 1 (by omega)
          rw [← HQ.out] at e1
          exact ⟨rown_lt HD4.out (.inl rfl), rown_lt HD4.out (.inr (.inl rfl)), HD4.out.cells.c1, e1⟩)
        obtain ⟨tb, htb⟩ : ∃ tb, tb = q.b.take kn := ⟨_, rfl⟩
        have HTB := Lib.hid htb
        have HTL := Lib.hid (show tb.length = kn by rw [htb, List.length_take]; omega)
        have HBY := Lib.hid (show IsBytes W3 q.ba tb by rw [htb]; exact (HD4.out.file q (by rw [HQ.out]; exact List.getElem_mem _)).bytes.cut kn)
        have HTS := Lib.hid (show tb.length ≤ 1000000000 by rw [HTL.out]; omega)
        have bkc : (kn : Int) ≤ (q.bcap : Int) := by have := HQC.out; omega
        have bkc' : kn ≤ q.bcap := by have := HQC.out; omega
        have bk0 : (0 : Int) ≤ (kn : Int) := by omega
        clear htb q1 q5 r1 r2 frx frg
        refine Reg.wp_regionP (RStep g W3.heap.size) (RStep.refl g _) (fun a b c => RStep.trans) 19 (Below W3.heap.size W3) (RPut bx st (.slice (some ⟨g, 0, none⟩) l.length cap) m j HJM.out tb W3) [(5, 16, fun v w => OwnB W3.heap.size w v []), (16, 19, fun v w => OwnB W3.heap.size w v tb)] (by kernel_rfl) (by kernel_rfl) (by rw [hW3]; exact Below.refl _ _) ?_
        rw [← hW3]
        clear hW3
        refine Reg.segP 1 (by kernel_rfl) rfl (by kernel_rfl) ?_
        apply Exists.intro
        refine ⟨fun e => ?_, ?_⟩
        · simp only [List.take_succ_cons, List.take_zero]
          repeat (go_big_quiet_step ((intro _; rfl)))
          refine wpQuiet_nil ?_
          exact rfl
        simp only [List.drop_succ_cons, List.drop_zero, Nat.reduceAdd]
        refine Reg.stillP (.pointer (some ⟨bx, 0, none⟩)) (RStep.refl g _) (by kernel_rfl) (fun e w1 hR => ⟨by rfl, ?_⟩) ?_
        · unfold Reg.gives
          go_simp
        simp only [Act.put, List.setIfInBounds_toArray, List.set_cons_zero, List.set_cons_succ, Nat.reduceAdd]
        refine Reg.segP 1 (by kernel_rfl) rfl (by kernel_rfl) ?_
        apply Exists.intro
        refine ⟨fun e => ?_, ?_⟩
        · simp only [List.take_succ_cons, List.take_zero]
          repeat (go_big_quiet_step ((intro _; rfl)))
          refine wpQuiet_nil ?_
          exact rfl
        simp only [List.drop_succ_cons, List.drop_zero, Nat.reduceAdd]
        refine Reg.readP (.slice (some ⟨g, 0, none⟩) l.length cap) (RStep.refl g _) (by kernel_rfl) (by kernel_rfl) (fun e w1 hR hC => ⟨by rfl, ?_⟩) ?_
        · have hx := (hC.cell (p := ⟨bx, 1, none⟩) HX3.out.1).trans HX3.out.2.2.1
          unfold Reg.gives
          go_simp
        simp only [Act.put, List.setIfInBounds_toArray, List.set_cons_zero, List.set_cons_succ, Nat.reduceAdd]
        refine Reg.segP 1 (by kernel_rfl) rfl (by kernel_rfl) ?_
        apply Exists.intro
        refine ⟨fun e => ?_, ?_⟩
        · simp only [List.take_succ_cons, List.take_zero]
          repeat (go_big_quiet_step ((intro _; rfl)))
          refine wpQuiet_nil ?_
          exact rfl
        simp only [List.drop_succ_cons, List.drop_zero, Nat.reduceAdd]
        refine Reg.makeP (by kernel_rfl) (by kernel_rfl) (fun e w1 L hN hR hC hl => ⟨by rfl, ?_⟩) ?_
        · refine Reg.gives_mono ?_ (gives_empty rfl)
          rintro v2 w2 ⟨rfl, rfl⟩
          have hz : W3.heap.size ≤ w1.heap.size := hC.size
          have ha := (Below.refl W3.heap.size w1).alloc hz (.cells #[] 5)
          exact ⟨RStep.of_below ha, hC.trans ha, fun _ => OwnB.empty _ _ hz, fun h => absurd h (by decide), trivial⟩
        simp only [Act.put, List.setIfInBounds_toArray, List.set_cons_zero, List.set_cons_succ, Nat.reduceAdd]
        refine Reg.segP 1 (by kernel_rfl) rfl (by kernel_rfl) ?_
        apply Exists.intro
        refine ⟨fun e => ?_, ?_⟩
        · simp only [List.take_succ_cons, List.take_zero]
          repeat (go_big_quiet_step ((intro _; rfl)))
          refine wpQuiet_nil ?_
          exact rfl
        simp only [List.drop_succ_cons, List.drop_zero, Nat.reduceAdd]
        refine Reg.stillP (.pointer (some ⟨bx, 0, none⟩)) (RStep.refl g _) (by kernel_rfl) (fun e w1 hR => ⟨by rfl, ?_⟩) ?_
        · unfold Reg.gives
          go_simp
        simp only [Act.put, List.setIfInBounds_toArray, List.set_cons_zero, List.set_cons_succ, Nat.reduceAdd]
        refine Reg.segP 1 (by kernel_rfl) rfl (by kernel_rfl) ?_
        apply Exists.intro
        refine ⟨fun e => ?_, ?_⟩
        · simp only [List.take_succ_cons, List.take_zero]
          repeat (go_big_quiet_step ((intro _; rfl)))
          refine wpQuiet_nil ?_
          exact rfl
        simp only [List.drop_succ_cons, List.drop_zero, Nat.reduceAdd]
        refine Reg.readP (.slice (some ⟨g, 0, none⟩) l.length cap) (RStep.refl g _) (by kernel_rfl) (by kernel_rfl) (fun e w1 hR hC => ⟨by rfl, ?_⟩) ?_
        · have hx := (hC.cell (p := ⟨bx, 1, none⟩) HX3.out.1).trans HX3.out.2.2.1
          unfold Reg.gives
          go_simp
        simp only [Act.put, List.setIfInBounds_toArray, List.set_cons_zero, List.set_cons_succ, Nat.reduceAdd]
        refine Reg.segP 3 (by kernel_rfl) rfl (by kernel_rfl) ?_
        apply Exists.intro
        refine ⟨fun e => ?_, ?_⟩
        · simp only [List.take_succ_cons, List.take_zero]
          repeat (go_big_quiet_step ((intro _; rfl)))
          refine wpQuiet_nil ?_
          exact rfl
        simp only [List.drop_succ_cons, List.drop_zero, Nat.reduceAdd]
        refine Reg.readP (.slice q.ba q.b.length q.bcap) (RStep.refl g _) (by kernel_rfl) (by kernel_rfl) (fun e w1 hR hC => ⟨by rfl, ?_⟩) ?_
        · have hx := (hC.cell (p := ⟨g, j * 3 + 1, none⟩) HX3.out.2.1).trans HX3.out.2.2.2
          unfold Reg.gives
          go_simp
        simp only [Act.put, List.setIfInBounds_toArray, List.set_cons_zero, List.set_cons_succ, Nat.reduceAdd]
        refine Reg.segP 1 (by kernel_rfl) rfl (by kernel_rfl) ?_
        apply Exists.intro
        refine ⟨fun e => ?_, ?_⟩
        · simp only [List.take_succ_cons, List.take_zero]
          repeat (go_big_quiet_step ((intro _; rfl)))
          refine wpQuiet_nil ?_
          exact rfl
        simp only [List.drop_succ_cons, List.drop_zero, Nat.reduceAdd]
        refine Reg.stillP (.slice q.ba kn q.bcap) (RStep.refl g _) (by kernel_rfl) (fun e w1 hR => ⟨by rfl, ?_⟩) ?_
        · unfold Reg.gives
          go_simp
          all_goals (rw [if_pos bkc']; exact ⟨rfl, rfl⟩)
        simp only [Act.put, List.setIfInBounds_toArray, List.set_cons_zero, List.set_cons_succ, Nat.reduceAdd]
        refine Reg.makeP (by kernel_rfl) (by kernel_rfl) (fun e w1 L hN hR hC hl => ⟨by rfl, ?_⟩) ?_
        · have h5 := hl.1 (hN.2.1 5 (by kernel_rfl)) hN.1
          refine Reg.gives_mono ?_ (gives_append (.tmp 68) (.tmp 78) rfl W3.heap.size _ [] rfl h5 (.slice q.ba kn q.bcap) tb rfl (by have h6 := SrcB.ofBytes q.bcap (HBY.out.bel hC); rw [HTL.out] at h6; exact h6) hC.size (by have := HTS.out; simp; omega))
          rintro v2 w2 ⟨ho, hg⟩
          have hb := hg.below hC.size (fun k hk => (h5.block k hk).1)
          exact ⟨RStep.of_below hb, hC.trans hb, fun h => absurd h (by decide), fun _ => by simpa using ho, trivial⟩
        simp only [Act.put, List.setIfInBounds_toArray, List.set_cons_zero, List.set_cons_succ, Nat.reduceAdd]
        refine Reg.segP 2 (by kernel_rfl) rfl (by kernel_rfl) ?_
        apply Exists.intro
        refine ⟨fun e => ?_, ?_⟩
        · simp only [List.take_succ_cons, List.take_zero]
          repeat (go_big_quiet_step ((intro _; rfl)))
          refine wpQuiet_nil ?_
          exact rfl
        simp only [List.drop_succ_cons, List.drop_zero, Nat.reduceAdd]
        refine Reg.storeP (by kernel_rfl) (fun e w1 L hN hR hC hl => ⟨by rfl, ?_⟩) ?_
        · have h16 := hl.2.1 (hN.2.1 16 (by kernel_rfl)) hN.1
          obtain ⟨va, vc, hev, hby, hlc2, hcm2⟩ := h16.out
          have fr1 := (HD4.out.bel hC).own.fr
          have cx := (HD4.out.bel hC).own.at_ (C := rfCells) (sz := 3) (fun _ => rfl) j HJM.out 1 (by omega)
          simp only [rfCells, List.getElem?_cons_zero, List.getElem?_cons_succ] at cx
          have HF := Lib.hid (putB HD4.out hC j HJM.out va vc tb hby hlc2 hcm2 (fun b off e1 _ => (h16.block b (by rw [hev, e1]; rfl)).1))
          have HRS := Lib.hid (show RStep g W3.heap.size w1 (w1.setCell ⟨g, j * 3 + 1, none⟩ (.slice va tb.length vc)) from ⟨rfl, rfl, rfl, by simp [World.setCell], fun k _ hk => Below.heap_setCell _ _ _ _ hk⟩)
          rw [hev]
          clear hl hN hR hC h16 hev hby hlc2 hcm2
          unfold Reg.gives
          go_simp
          exact ⟨HRS.out, ⟨va, vc, HF.out⟩, fun h => absurd h (by decide), fun h => absurd h (by decide), trivial⟩
        simp only [Act.put, Nat.reduceAdd]
        intro eY W5 hR5 hJ5 hf5
        obtain ⟨a5, k5, hd5, hg5⟩ := hJ5.2.1 rfl
        have HD5 := Lib.hid hd5
        have HG5 := Lib.hid (HG4.out.trans hg5)
        have q1 := hd5.cells.c1
        have frg := hd5.own.fr
        have r2 := hd5.own.at_ (C := rfCells) (sz := 3) (fun _ => rfl) j (by simpa using HJM.out) 2 (by omega)
        simp only [List.getElem_set_self, rfCells, List.getElem?_cons_zero, List.getElem?_cons_succ] at r2
        have HEND := Lib.hid (fallStep HM.out HPL.out hlt HJM.out (HQ.out.symm.trans HQL.out) HPC.out hd5 HG5.out HTB.out HQL.out HKN.out)
        clear hR5 hJ5 hf5 hd5 hg5
        go_wp2
        go_roundw
        case rel => exact ⟨j + 1, _, by omega, by go_num, HEND.out.1, HEND.out.2.1, HEND.out.2.2.1, HEND.out.2.2.2⟩
        case measure => simp [intOf]; omega
      · have dg : decide ((st.keep : Int) < (q.b.length : Int) - (q.s : Int)) = false := by simp; have := HQS.out; omega
        have HKN2 := Lib.hid (show q.b.length = (⟨q.b, q.s⟩ : File).kept st.keep by rw [← HKN.out]; have := HQS.out; omega)
        clear HKN hkd hk1
        go_wp2
        obtain ⟨W3, hW3⟩ : ∃ W, W = W1.drew := ⟨_, rfl⟩
        have HD4 := Lib.hid (show IsRD W3 bx st (.slice (some ⟨g, 0, none⟩) l.length cap) m by rw [hW3]; exact HD1.out.bel (Below.refl _ _).drew)
        have HG4 := Lib.hid (show RGrew bx w W3 (.slice (some ⟨g, 0, none⟩) l.length cap) (.slice (some ⟨g, 0, none⟩) l.length cap) l m by rw [hW3]; exact HG1.out.trans (RGrew.of_below _ _ (Below.refl _ _).drew))
        have HX3 := Lib.hid (show bx < W3.heap.size ∧ g < W3.heap.size ∧ W3.cell? ⟨bx, 1, none⟩ = some (.slice (some ⟨g, 0, none⟩) l.length cap) ∧ W3.cell? ⟨g, j * 3 + 1, none⟩ = some (.slice q.ba q.b.length q.bcap) by
          have e1 := HD4.out.own.at_ (C := rfCells) (sz := 3) (fun _ => rfl) j HJM.out 1 (by omega)
          rw [← HQ.out] at e1
          exact ⟨rown_lt HD4.out (.inl rfl), rown_lt HD4.out (.inr (.inl rfl)), HD4.out.cells.c1, e1⟩)
        obtain ⟨tb, htb⟩ : ∃ tb, tb = q.b.take q.b.length := ⟨_, rfl⟩
        have HTB := Lib.hid htb
        have HTL := Lib.hid (show tb.length = q.b.length by rw [htb, List.length_take]; omega)
        have HBY := Lib.hid (show IsBytes W3 q.ba tb by rw [htb]; exact (HD4.out.file q (by rw [HQ.out]; exact List.getElem_mem _)).bytes.cut q.b.length)
        have HTS := Lib.hid (show tb.length ≤ 1000000000 by rw [HTL.out]; omega)
        have bkc : (q.b.length : Int) ≤ (q.bcap : Int) := by have := HQC.out; omega
        have bkc' : q.b.length ≤ q.bcap := by have := HQC.out; omega
        have bk0 : (0 : Int) ≤ (q.b.length : Int) := by omega
        clear htb q1 q5 r1 r2 frx frg
        refine Reg.wp_regionP (RStep g W3.heap.size) (RStep.refl g _) (fun a b c => RStep.trans) 19 (Below W3.heap.size W3) (RPut bx st (.slice (some ⟨g, 0, none⟩) l.length cap) m j HJM.out tb W3) [(5, 16, fun v w => OwnB W3.heap.size w v []), (16, 19, fun v w => OwnB W3.heap.size w v tb)] (by kernel_rfl) (by kernel_rfl) (by rw [hW3]; exact Below.refl _ _) ?_
        rw [← hW3]
        clear hW3
        refine Reg.segP 1 (by kernel_rfl) rfl (by kernel_rfl) ?_
        apply Exists.intro
        refine ⟨fun e => ?_, ?_⟩
        · simp only [List.take_succ_cons, List.take_zero]
          repeat (go_big_quiet_step ((intro _; rfl)))
          refine wpQuiet_nil ?_
          exact rfl
        simp only [List.drop_succ_cons, List.drop_zero, Nat.reduceAdd]
        refine Reg.stillP (.pointer (some ⟨bx, 0, none⟩)) (RStep.refl g _) (by kernel_rfl) (fun e w1 hR => ⟨by rfl, ?_⟩) ?_
        · unfold Reg.gives
          go_simp
        simp only [Act.put, List.setIfInBounds_toArray, List.set_cons_zero, List.set_cons_succ, Nat.reduceAdd]
        refine Reg.segP 1 (by kernel_rfl) rfl (by kernel_rfl) ?_
        apply Exists.intro
        refine ⟨fun e => ?_, ?_⟩
        · simp only [List.take_succ_cons, List.take_zero]
          repeat (go_big_quiet_step ((intro _; rfl)))
          refine wpQuiet_nil ?_
          exact rfl
        simp only [List.drop_succ_cons, List.drop_zero, Nat.reduceAdd]
        refine Reg.readP (.slice (some ⟨g, 0, none⟩) l.length cap) (RStep.refl g _) (by kernel_rfl) (by kernel_rfl) (fun e w1 hR hC => ⟨by rfl, ?_⟩) ?_
        · have hx := (hC.cell (p := ⟨bx, 1, none⟩) HX3.out.1).trans HX3.out.2.2.1
          unfold Reg.gives
          go_simp
        simp only [Act.put, List.setIfInBounds_toArray, List.set_cons_zero, List.set_cons_succ, Nat.reduceAdd]
        refine Reg.segP 1 (by kernel_rfl) rfl (by kernel_rfl) ?_
        apply Exists.intro
        refine ⟨fun e => ?_, ?_⟩
        · simp only [List.take_succ_cons, List.take_zero]
          repeat (go_big_quiet_step ((intro _; rfl)))
          refine wpQuiet_nil ?_
          exact rfl
        simp only [List.drop_succ_cons, List.drop_zero, Nat.reduceAdd]
        refine Reg.makeP (by kernel_rfl) (by kernel_rfl) (fun e w1 L hN hR hC hl => ⟨by rfl, ?_⟩) ?_
        · refine Reg.gives_mono ?_ (gives_empty rfl)
          rintro v2 w2 ⟨rfl, rfl⟩
          have hz : W3.heap.size ≤ w1.heap.size := hC.size
          have ha := (Below.refl W3.heap.size w1).alloc hz (.cells #[] 5)
          exact ⟨RStep.of_below ha, hC.trans ha, fun _ => OwnB.empty _ _ hz, fun h => absurd h (by decide), trivial⟩
        simp only [Act.put, List.setIfInBounds_toArray, List.set_cons_zero, List.set_cons_succ, Nat.reduceAdd]
        refine Reg.segP 1 (by kernel_rfl) rfl (by kernel_rfl) ?_
        apply Exists.intro
        refine ⟨fun e => ?_, ?_⟩
        · simp only [List.take_succ_cons, List.take_zero]
          repeat (go_big_quiet_step ((intro _; rfl)))
          refine wpQuiet_nil ?_
          exact rfl
        simp only [List.drop_succ_cons, List.drop_zero, Nat.reduceAdd]
        refine Reg.stillP (.pointer (some ⟨bx, 0, none⟩)) (RStep.refl g _) (by kernel_rfl) (fun e w1 hR => ⟨by rfl, ?_⟩) ?_
        · unfold Reg.gives
          go_simp
        simp only [Act.put, List.setIfInBounds_toArray, List.set_cons_zero, List.set_cons_succ, Nat.reduceAdd]
        refine Reg.segP 1 (by kernel_rfl) rfl (by kernel_rfl) ?_
        apply Exists.intro
        refine ⟨fun e => ?_, ?_⟩
        · simp only [List.take_succ_cons, List.take_zero]
          repeat (go_big_quiet_step ((intro _; rfl)))
          refine wpQuiet_nil ?_
          exact rfl
        simp only [List.drop_succ_cons, List.drop_zero, Nat.reduceAdd]
        refine Reg.readP (.slice (some ⟨g, 0, none⟩) l.length cap) (RStep.refl g _) (by kernel_rfl) (by kernel_rfl) (fun e w1 hR hC => ⟨by rfl, ?_⟩) ?_
        · have hx := (hC.cell (p := ⟨bx, 1, none⟩) HX3.out.1).trans HX3.out.2.2.1
          unfold Reg.gives
          go_simp
        simp only [Act.put, List.setIfInBounds_toArray, List.set_cons_zero, List.set_cons_succ, Nat.reduceAdd]
        refine Reg.segP 3 (by kernel_rfl) rfl (by kernel_rfl) ?_
        apply Exists.intro
        refine ⟨fun e => ?_, ?_⟩
        · simp only [List.take_succ_cons, List.take_zero]
          repeat (go_big_quiet_step ((intro _; rfl)))
          refine wpQuiet_nil ?_
          exact rfl
        simp only [List.drop_succ_cons, List.drop_zero, Nat.reduceAdd]
        refine Reg.readP (.slice q.ba q.b.length q.bcap) (RStep.refl g _) (by kernel_rfl) (by kernel_rfl) (fun e w1 hR hC => ⟨by rfl, ?_⟩) ?_
        · have hx := (hC.cell (p := ⟨g, j * 3 + 1, none⟩) HX3.out.2.1).trans HX3.out.2.2.2
          unfold Reg.gives
          go_simp
        simp only [Act.put, List.setIfInBounds_toArray, List.set_cons_zero, List.set_cons_succ, Nat.reduceAdd]
        refine Reg.segP 1 (by kernel_rfl) rfl (by kernel_rfl) ?_
        apply Exists.intro
        refine ⟨fun e => ?_, ?_⟩
        · simp only [List.take_succ_cons, List.take_zero]
          repeat (go_big_quiet_step ((intro _; rfl)))
          refine wpQuiet_nil ?_
          exact rfl
        simp only [List.drop_succ_cons, List.drop_zero, Nat.reduceAdd]
        refine Reg.stillP (.slice q.ba q.b.length q.bcap) (RStep.refl g _) (by kernel_rfl) (fun e w1 hR => ⟨by rfl, ?_⟩) ?_
        · unfold Reg.gives
          go_simp
          all_goals (rw [if_pos bkc']; exact ⟨rfl, rfl⟩)
        simp only [Act.put, List.setIfInBounds_toArray, List.set_cons_zero, List.set_cons_succ, Nat.reduceAdd]
        refine Reg.makeP (by kernel_rfl) (by kernel_rfl) (fun e w1 L hN hR hC hl => ⟨by rfl, ?_⟩) ?_
        · have h5 := hl.1 (hN.2.1 5 (by kernel_rfl)) hN.1
          refine Reg.gives_mono ?_ (gives_append (.tmp 68) (.tmp 78) rfl W3.heap.size _ [] rfl h5 (.slice q.ba q.b.length q.bcap) tb rfl (by have h6 := SrcB.ofBytes q.bcap (HBY.out.bel hC); rw [HTL.out] at h6; exact h6) hC.size (by have := HTS.out; simp; omega))
          rintro v2 w2 ⟨ho, hg⟩
          have hb := hg.below hC.size (fun k hk => (h5.block k hk).1)
          exact ⟨RStep.of_below hb, hC.trans hb, fun h => absurd h (by decide), fun _ => by simpa using ho, trivial⟩
        simp only [Act.put, List.setIfInBounds_toArray, List.set_cons_zero, List.set_cons_succ, Nat.reduceAdd]
        refine Reg.segP 2 (by kernel_rfl) rfl (by kernel_rfl) ?_
        apply Exists.intro
        refine ⟨fun e => ?_, ?_⟩
        · simp only [List.take_succ_cons, List.take_zero]
          repeat (go_big_quiet_step ((intro _; rfl)))
          refine wpQuiet_nil ?_
          exact rfl
        simp only [List.drop_succ_cons, List.drop_zero, Nat.reduceAdd]
        refine Reg.storeP (by kernel_rfl) (fun e w1 L hN hR hC hl => ⟨by rfl, ?_⟩) ?_
        · have h16 := hl.2.1 (hN.2.1 16 (by kernel_rfl)) hN.1
          obtain ⟨va, vc, hev, hby, hlc2, hcm2⟩ := h16.out
          have fr1 := (HD4.out.bel hC).own.fr
          have cx := (HD4.out.bel hC).own.at_ (C := rfCells) (sz := 3) (fun _ => rfl) j HJM.out 1 (by omega)
          simp only [rfCells, List.getElem?_cons_zero, List.getElem?_cons_succ] at cx
          have HF := Lib.hid (putB HD4.out hC j HJM.out va vc tb hby hlc2 hcm2 (fun b off e1 _ => (h16.block b (by rw [hev, e1]; rfl)).1))
          have HRS := Lib.hid (show RStep g W3.heap.size w1 (w1.setCell ⟨g, j * 3 + 1, none⟩ (.slice va tb.length vc)) from ⟨rfl, rfl, rfl, by simp [World.setCell], fun k _ hk => Below.heap_setCell _ _ _ _ hk⟩)
          rw [hev]
          clear hl hN hR hC h16 hev hby hlc2 hcm2
          unfold Reg.gives
          go_simp
          exact ⟨HRS.out, ⟨va, vc, HF.out⟩, fun h => absurd h (by decide), fun h => absurd h (by decide), trivial⟩
        simp only [Act.put, Nat.reduceAdd]
        intro eY W5 hR5 hJ5 hf5
        obtain ⟨a5, k5, hd5, hg5⟩ := hJ5.2.1 rfl
        have HD5 := Lib.hid hd5
        have HG5 := Lib.hid (HG4.out.trans hg5)
        have q1 := hd5.cells.c1
        have frg := hd5.own.fr
        have r2 := hd5.own.at_ (C := rfCells) (sz := 3) (fun _ => rfl) j (by simpa using HJM.out) 2 (by omega)
        simp only [List.getElem_set_self, rfCells, List.getElem?_cons_zero, List.getElem?_cons_succ] at r2
        have HEND := Lib.hid (fallStep HM.out HPL.out hlt HJM.out (HQ.out.symm.trans HQL.out) HPC.out hd5 HG5.out HTB.out HQL.out HKN2.out)
        clear hR5 hJ5 hf5 hd5 hg5
        go_wp2
        go_roundw
        case rel => exact ⟨j + 1, _, by omega, by go_num, HEND.out.1, HEND.out.2.1, HEND.out.2.2.1, HEND.out.2.2.2⟩
        case measure => simp [intOf]; omega
    · obtain rfl : j = l.length := by omega
      go_wp2
      go_ret
      exact ⟨rfl, m, by rw [HM.out, List.drop_length, List.append_nil, HPC.out, List.take_length], rdFallSet HP.out HPG.out⟩
end Go.Proofs.Ytnpalplnpfgibaa
