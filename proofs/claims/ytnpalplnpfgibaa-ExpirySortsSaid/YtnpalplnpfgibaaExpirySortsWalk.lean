/- The walk of ExpirySorts. -/
import Derived.Test.YtnpalplnpfgibaaHeapUse
import Derived.Test.YtnpalplnpfgibaaItKey
import Derived.Test.YtnpalplnpfgibaaItOpen
import Derived.BigQuiet
import Derived.WalkLawsBesides
import Derived.Lib.MinMaxS
namespace Go.Proofs.Ytnpalplnpfgibaa
open Go.RowKit
def ESDone (w : World) (e : Ending) (w' : World) : Prop := e = .returned (.bool true) ∧ Below w.heap.size w w'
set_option maxRecDepth 100000 in
set_option maxHeartbeats 1000000 in
theorem sortsHead (a0 : Option Addr) (m cap0 : Nat) (w : World) (h : 200 < m) :
    Calls Try.prog 3 #[.slice a0 m cap0] w (ESDone w) := by
  have e0 : decide ((200 : Int) < (m : Int)) = true := by simp; omega
  go_enter Try.func3, Try.ntmps3
  go_wp2_with fail
  refine (expiryUp _).mono ?_
  rintro e W1 ⟨rfl, hb⟩
  go_wp2_with fail
  refine (hasNew _).mono ?_
  rintro e W2 ⟨rfl, ht, hb2⟩
  have HX := Lib.hid (below_next hb hb2)
  clear ht hb hb2
  go_wp2_with fail
  go_ret
  exact ⟨rfl, HX.out⟩
structure ESt (w : World) (bh bm : Nat) (v : Value) (m c : List It) (n : Nat) (D : DataW Unit) (wr : World) : Prop where
  has : HasIt wr bh v m
  own : wr.ownsMap Try.prog 30 (plainElem Try.prog 3) bm n D
  apart : v.ownBlock ≠ some bm
  ne : bh < bm
  cnt : Cnts D c
  bel : Below w.heap.size w wr
  base : w.heap.size ≤ bh
theorem ESt.turn {w wr w1 : World} {bh bm n : Nat} {v v1 : Value} {m m1 c : List It} {D : DataW Unit} (h : ESt w bh bm v m c n D wr) (hg : HGrew bh wr w1 v v1) (h1 : HasIt w1 bh v1 m1) : ESt w bh bm v1 m1 c n D w1 := by
  have hlt := h.own.lt
  refine ⟨h1, ?_, fun e => ?_, h.ne, h.cnt, h.bel.trans (h.has.below hg h.base), h.base⟩
  · obtain ⟨es, clock, hb, F, hs, hD⟩ := h.own
    exact ⟨es, clock, (hg.block bm hlt (by have := h.ne; omega) h.apart).trans hb, F, hs, hD⟩
  · rcases hg.own bm e with h2 | h2
    · exact h.apart h2
    · omega
theorem ESt.bel' {w wr w1 : World} {bh bm n : Nat} {v : Value} {m c : List It} {D : DataW Unit} (h : ESt w bh bm v m c n D wr) (hb : Below wr.heap.size wr w1) : ESt w bh bm v m c n D w1 :=
  h.turn (HGrew.of_below v hb) (h.has.bel hb)
theorem ESt.put {w wr w1 : World} {bh bm n n' : Nat} {v : Value} {m c c' : List It} {D D' : DataW Unit} (h : ESt w bh bm v m c n D wr) (hg : wr.grownBy w1 (some bm)) (ho : w1.ownsMap Try.prog 30 (plainElem Try.prog 3) bm n' D') (hc : Cnts D' c') : ESt w bh bm v m c' n' D' w1 := by
  obtain ⟨l, h1, h2⟩ := h.has
  have hlt := h1.lt
  have hne := h.ne
  refine ⟨⟨l, ⟨?_, h1.own.kept fun k hk => hg.block k (h1.own.block k hk).2 (fun e => h.apart (by rw [hk, e])), h1.wf⟩, h2⟩, ho, h.apart, h.ne, hc, ?_, h.base⟩
  · rw [hg.block bh hlt (by simp; omega)]; exact h1.box
  · exact h.bel.grown hg h.bel.size (fun k hk => by cases hk; have := h.base; omega)
theorem HasIt.wf {w : World} {bh : Nat} {v : Value} {m : List It} (h : HasIt w bh v m) : ∀ a ∈ m, a.wf := by
  obtain ⟨l, h1, h2⟩ := h
  exact fun a ha => h1.wf a (h2.perm.mem_iff.1 ha)
theorem HasIt.sorted {w : World} {bh : Nat} {v : Value} {m : List It} (h : HasIt w bh v m) : m.Pairwise fun a b => ¬ b.lt a := by
  obtain ⟨l, h1, h2⟩ := h
  exact h2.sorted
theorem zero_int (w : World) : (zeroValue 3).run Try.prog w = .ok (.int .i64 0) w := by kernel_rfl
def count64 (l : List It) (x : It) : Int := l.count x
theorem count64_wf (l : List It) (x : It) (h : l.length ≤ 200) (k : Int) (h1 : -1 ≤ k) (h2 : k ≤ 1) : (Lit.int .i64 (count64 l x + k)).wf = true := by
  have h3 := List.count_le_length (a := x) (l := l)
  unfold count64
  simp [Lit.wf, IntKind.min, IntKind.max, IntKind.bits, IntKind.signed]
  omega
theorem less_str (a b : ByteArray) : Op.bytesLess a.toList b.toList = decide (a.data.toList < b.data.toList) := by rw [Proofs.bytesLess_eq, Lib.toList_data, Lib.toList_data]
theorem ESt.side {w wr w1 : World} {bh bm bl n : Nat} {v : Value} {m c : List It} {D : DataW Unit} (h : ESt w bh bm v m c n D wr) (hg : wr.grownBy w1 (some bl)) (h1 : bl ≠ bh) (h2 : bl ≠ bm) (h3 : v.ownBlock ≠ some bl) (h4 : w.heap.size ≤ bl) : ESt w bh bm v m c n D w1 := by
  obtain ⟨l, h5, h6⟩ := h.has
  have hlt := h5.lt
  refine ⟨⟨l, ⟨?_, h5.own.kept fun k hk => hg.block k (h5.own.block k hk).2 (fun e => h3 (by rw [hk, e])), h5.wf⟩, h6⟩, h.own.kept hg (by simp; omega), h.apart, h.ne, h.cnt, ?_, h.base⟩
  · rw [hg.block bh hlt (by simp; omega)]; exact h5.box
  · exact h.bel.grown hg h.bel.size (fun k hk => by cases hk; exact h4)
/-- A box of an item, apart from the rest. -/
structure EBox (w : World) (bh bm b : Nat) (v : Value) (x : It) (wr : World) : Prop where
  at_ : wr.heap[b]? = some (.cells #[.int .u64 x.t, .string x.k] 30 (0, 0))
  nh : b ≠ bh
  nm : b ≠ bm
  nv : v.ownBlock ≠ some b
  base : w.heap.size ≤ b
theorem EBox.lt {w wr : World} {bh bm b : Nat} {v : Value} {x : It} (h : EBox w bh bm b v x wr) : b < wr.heap.size := (Array.getElem?_eq_some_iff.1 h.at_).1
theorem EBox.turn {w wr w1 : World} {bh bm b : Nat} {v v1 : Value} {x : It} (h : EBox w bh bm b v x wr) (hg : HGrew bh wr w1 v v1) : EBox w bh bm b v1 x w1 :=
  ⟨(hg.block b h.lt h.nh h.nv).trans h.at_, h.nh, h.nm, fun e => by rcases hg.own b e with h2 | h2; exact h.nv h2; have := h.lt; omega, h.base⟩
theorem EBox.bel' {w wr w1 : World} {bh bm b : Nat} {v : Value} {x : It} (h : EBox w bh bm b v x wr) (hb : Below wr.heap.size wr w1) : EBox w bh bm b v x w1 := ⟨(hb.block b h.lt).trans h.at_, h.nh, h.nm, h.nv, h.base⟩
theorem EBox.side {w wr w1 : World} {bh bm b c : Nat} {v : Value} {x : It} (h : EBox w bh bm b v x wr) (hg : wr.grownBy w1 (some c)) (hne : b ≠ c) : EBox w bh bm b v x w1 := ⟨(hg.block b h.lt (by simp; omega)).trans h.at_, h.nh, h.nm, h.nv, h.base⟩
theorem EBox.cells {w wr : World} {bh bm b : Nat} {v : Value} {x : It} (h : EBox w bh bm b v x wr) : wr.cell? ⟨b, 0, none⟩ = some (.int .u64 x.t) ∧ wr.cell? ⟨b, 1, none⟩ = some (.string x.k) ∧ wr.frozen? ⟨b, 0, none⟩ = false ∧ wr.frozen? ⟨b, 1, none⟩ = false := by
  have h0 := cell_of_row wr b 0 _ _ _ h.at_
  have h1 := cell_of_row wr b 1 _ _ _ h.at_
  exact ⟨by simpa using h0, by simpa using h1, frozen_of_row wr b 0 _ _ h.at_, frozen_of_row wr b 1 _ _ h.at_⟩
/-- A new item is stored into its box. -/
theorem EBox.store {w wr : World} {bh bm b : Nat} {v : Value} {x : It} (h : EBox w bh bm b v x wr) (y : It) :
    EBox w bh bm b v y ((wr.setCell ⟨b, 0, none⟩ (.int .u64 y.t)).setCell ⟨b, 1, none⟩ (.string y.k)) ∧ wr.grownBy ((wr.setCell ⟨b, 0, none⟩ (.int .u64 y.t)).setCell ⟨b, 1, none⟩ (.string y.k)) (some b) := by
  have s1 := heap_setCell_same wr b 0 _ _ (.int .u64 y.t) h.at_
  have s2 := heap_setCell_same _ b 1 _ _ (.string y.k) s1
  refine ⟨⟨by simpa using s2, h.nh, h.nm, h.nv, h.base⟩, rfl, rfl, rfl, by simp [World.setCell], fun k _ hk => ?_⟩
  have hk' : k ≠ b := fun e => hk (by rw [e])
  rw [Below.heap_setCell _ _ _ _ hk', Below.heap_setCell _ _ _ _ hk']
def SR2 (w : World) (bh bm bl : Nat) (z : List It) (j : Nat) (wr : World) : Prop := ∃ v m D la, ESt w bh bm v m m (z.length + j) D wr ∧ m.length + j = z.length ∧ EBox w bh bm bl v la wr ∧ (j = 0 ∨ ∀ a ∈ m, ¬ a.lt la)
def SR1 (w : World) (bh bm : Nat) (z : List It) (j : Nat) (wr : World) : Prop := ∃ v m D, ESt w bh bm v m m j D wr ∧ m.Perm (z.take j)
set_option maxRecDepth 100000 in
set_option maxHeartbeats 8000000 in
theorem sortsMain (a0 : Option Addr) (cap0 : Nat) (z : List It) (w : World) (h0 : z.length ≤ 200) (hz : IsRowOf itCells It.wf 2 w a0 z) :
    Calls Try.prog 3 #[.slice a0 z.length cap0] w (ESDone w) := by
  have e0 : decide ((200 : Int) < (z.length : Int)) = false := by simp; omega
  have HZ := Lib.hid hz
  have bz : (z.length : Int) ≤ 200 := by omega
  clear hz
  go_enter Try.func3, Try.ntmps3
  go_wp2_with fail
  refine (expiryUp _).mono ?_
  rintro e W1 ⟨rfl, hb⟩
  go_wp2_with fail
  refine (hasNew _).mono ?_
  rintro e W2 ⟨rfl, ht, hb2⟩
  have hmk := World.ownsMap_made W2 Try.prog 30 (plainElem (H := Unit) Try.prog 3)
  have hbm := (Below.refl W2.heap.size W2).alloc (Nat.le_refl _) (.map #[] 0)
  have HS := Lib.hid (show SR1 w W1.heap.size W2.heap.size z 0 (W2.alloc (.map #[] 0)) from ⟨_, [], _, ⟨ht.bel hbm, hmk, fun e => (by cases e), ht.lt, Cnts.nil, (below_next hb hb2).trans (hbm.mono (below_next hb hb2).size), hb.size⟩, by simp⟩)
  have hmm := @run_makeMap Try.prog
  generalize W1.heap.size = bh at *
  have HBM := Lib.hid (show bh < W2.heap.size from ht.lt)
  clear ht hb hb2 hmk hbm e0
  go_wp2
  obtain ⟨bm, hbm⟩ : ∃ bm, bm = W2.heap.size := ⟨_, rfl⟩
  rw [← hbm] at HS HBM ⊢
  clear hbm hmm
  go_loopw [6] (fun i wr => ∃ j : Nat, j ≤ z.length ∧ i = .int .i64 j ∧ Hid (SR1 w bh bm z j wr)) (fun i _ => z.length - (intOf i).toNat)
  case atStart => exact ⟨0, Nat.zero_le _, rfl, HS⟩
  case round =>
    obtain ⟨j, hj, rfl, HR⟩ := hrel
    clear HS
    have b0 : (0 : Int) ≤ (j : Int) := by omega
    by_cases hlt : j < z.length
    · obtain ⟨v, m, D, HE', HP'⟩ := HR.out
      have HE := Lib.hid HE'
      have HP := Lib.hid HP'
      have HM := Lib.hid (show m.length = j by rw [HP'.length_eq, List.length_take]; omega)
      have bj : (j : Int) < (z.length : Int) := by omega
      have HTK := Lib.hid (show z.take (j + 1) = z.take j ++ [z[j]] from List.take_succ_eq_append_getElem hlt)
      obtain ⟨b, off, hax, hbx, hcell, hyw⟩ := HZ.out j hlt
      obtain ⟨y, hy⟩ : ∃ y, y = z[j] := ⟨_, rfl⟩
      rw [← hy] at hcell hyw HTK
      have HBX := Lib.hid (show ∀ w', Below w.heap.size w w' → w'.cell? ⟨b, off + j * 2, none⟩ = some (.int .u64 y.t) ∧ w'.cell? ⟨b, off + j * 2 + 1, none⟩ = some (.string y.k) from fun w' hb => ⟨(hb.cell (p := ⟨b, off + j * 2, none⟩) hbx).trans (hcell 0 (by omega)), (hb.cell (p := ⟨b, off + j * 2 + 1, none⟩) hbx).trans (hcell 1 (by omega))⟩)
      have HYW := Lib.hid hyw
      rw [hax]
      obtain ⟨hc0, hc1⟩ := HBX.out _ HE.out.bel
      clear hax hcell hyw hy HE' HP'
      go_wp2_with fail
      refine (hasPush bh v m y _ HE.out.has HYW.out (by rw [HM.out]; omega)).mono ?_
      rintro e W5 ⟨rfl, v5, h5, g5⟩
      have HE5 := Lib.hid (HE.out.turn g5 h5)
      have HCV := Lib.hid (HE5.out.cnt.2 y HYW.out)
      have HKY := Lib.hid (keyOf_it y HYW.out)
      have HCW := Lib.hid (count64_wf m y (by rw [HM.out]; omega) 1 (by omega) (by omega))
      have hcb : 0 ≤ count64 m y ∧ count64 m y ≤ 200 := by
        unfold count64
        have := List.count_le_length (a := y) (l := m)
        have := HM.out
        omega
      obtain ⟨hcb0, hcb1⟩ := hcb
      clear h5 g5 hc0 hc1
      go_wp2_with fail
      have HC := Lib.hid (fun (w' : World) (hR : Reg.belB w.heap.size W5.drew w') => HBX.out w' (HE5.out.bel.trans (((Below.refl _ W5).drew).trans hR)))
      refine Reg.wp_regionO w.heap.size 12 (ESt w bh bm v5 (ins y m) m j D) (ESt w bh bm v5 (ins y m) (y :: m) (j + 1) (D.put (ik y) (.lit (.int .i64 (count64 m y + 1))))) (by kernel_rfl) (by kernel_rfl) (HE5.out.bel' (Below.refl _ _).drew) ?_
      refine Reg.segO 4 (by kernel_rfl) rfl (by kernel_rfl) ?_
      apply Exists.intro
      refine ⟨fun e => ?_, ?_⟩
      · simp only [List.take_succ_cons, List.take_zero]
        repeat (go_big_quiet_step ((intro _; rfl)))
        refine wpQuiet_nil ?_
        exact rfl
      simp only [List.drop_succ_cons, List.drop_zero, Nat.reduceAdd]
      refine Reg.stillO (.agg #[.int .u64 y.t, .string y.k]) (fun _ => Below.refl _ _) (by decide) (fun e w hR => ⟨by rfl, ?_⟩) ?_
      · have hcx := HC.out w hR
        obtain ⟨hcx0, hcx1⟩ := hcx
        unfold Reg.gives
        go_simp
      simp only [Act.put, List.setIfInBounds_toArray, List.set_cons_zero, List.set_cons_succ, Nat.reduceAdd]
      refine Reg.segO 4 (by kernel_rfl) rfl (by kernel_rfl) ?_
      apply Exists.intro
      refine ⟨fun e => ?_, ?_⟩
      · simp only [List.take_succ_cons, List.take_zero]
        repeat (go_big_quiet_step ((intro _; rfl)))
        refine wpQuiet_nil ?_
        exact rfl
      simp only [List.drop_succ_cons, List.drop_zero, Nat.reduceAdd]
      refine Reg.stillO (.agg #[.int .u64 y.t, .string y.k]) (fun _ => Below.refl _ _) (by decide) (fun e w hR => ⟨by rfl, ?_⟩) ?_
      · have hcx := HC.out w hR
        obtain ⟨hcx0, hcx1⟩ := hcx
        unfold Reg.gives
        go_simp
      simp only [Act.put, List.setIfInBounds_toArray, List.set_cons_zero, List.set_cons_succ, Nat.reduceAdd]
      refine Reg.readO (.int .i64 (count64 m y)) (fun _ => Below.refl _ _) (by decide) (by kernel_rfl) (fun e w hR hp => ⟨by rfl, ?_⟩) ?_
      · exact gives_lookup_int (.tmp 45) (.tmp 49) _ rfl 30 3 .i64 it_keyed Try.underlying26 Try.underlying3 (zero_int w) bm j D rfl hp.own (.agg #[.int .u64 y.t, .string y.k]) (ik y) rfl HKY.out _ HCV.out
      simp only [Act.put, List.setIfInBounds_toArray, List.set_cons_zero, List.set_cons_succ, Nat.reduceAdd]
      refine Reg.segO 1 (by kernel_rfl) rfl (by kernel_rfl) ?_
      apply Exists.intro
      refine ⟨fun e => ?_, ?_⟩
      · simp only [List.take_succ_cons, List.take_zero]
        repeat (go_big_quiet_step ((intro _; rfl)))
        refine wpQuiet_nil ?_
        exact rfl
      simp only [List.drop_succ_cons, List.drop_zero, Nat.reduceAdd]
      refine Reg.callO (fun e w' hR hp => ⟨by rfl, ?_⟩) ?_
      · refine Reg.gives_mono ?_ (gives_mapUpdate (.tmp 40) (.tmp 44) (.tmp 51) _ rfl 30 3 it_keyed Try.underlying26 (plainElem Try.prog 3) bm j D rfl hp.own (by unfold maxLen; omega) (.agg #[.int .u64 y.t, .string y.k]) (.int .i64 (count64 m y + 1)) (ik y) rfl rfl HKY.out (.lit (.int .i64 (count64 m y + 1))) [] (plainElem_int Try.underlying3 HCW.out))
        rintro _ w2 ⟨ho, hg⟩
        exact ⟨(Below.refl _ _).grown hg (by have h1 := hp.bel.size; exact h1) (fun k hk => by cases hk; have h1 := hp.base; have h2 := hp.ne; omega), hp.put hg ho (hp.cnt.push y HYW.out)⟩
      simp only [Act.put, Nat.reduceAdd]
      intro e W6 hR hJ hf
      have HE6 := Lib.hid (hJ.2 rfl)
      clear hR hJ hf
      go_wp2
      go_roundw
      case rel =>
        refine ⟨j + 1, by omega, by go_num, v5, ins y m, _, ⟨HE6.out.has, HE6.out.own, HE6.out.apart, HE6.out.ne, HE6.out.cnt.perm (ins_perm y m).symm, HE6.out.bel, HE6.out.base⟩, ?_⟩
        rw [HTK.out]
        exact (ins_perm y m).trans ((HP.out.cons y).trans (List.perm_append_singleton y _).symm)
      case measure => simp [intOf]; omega
    · obtain rfl : j = z.length := by omega
      obtain ⟨v, m, D, HE', HP'⟩ := HR.out
      rw [List.take_length] at HP'
      have hbx := (Below.refl wr.heap.size wr).alloc (Nat.le_refl _) (.cells #[.int .u64 0, .string ByteArray.empty] 30)
      have HS2 := Lib.hid (show SR2 w bh bm wr.heap.size z 0 (wr.alloc (.cells #[.int .u64 0, .string ByteArray.empty] 30)) from ⟨v, m, D, ⟨0, ByteArray.empty⟩, HE'.bel' hbx, HP'.length_eq, ⟨heap_alloc_new wr _, by have := HE'.has.lt; omega, by have := HE'.own.lt; omega, fun e => by have := (HE'.has.own _ e).2; omega, HE'.bel.size⟩, .inl rfl⟩)
      clear HR HE' HP' hbx hlt hj
      go_wp2
      obtain ⟨bl, hbl⟩ : ∃ bl, bl = wr.heap.size := ⟨_, rfl⟩
      obtain ⟨wz, hwz⟩ : ∃ wz, wz = wr.alloc (.cells #[.int .u64 0, .string ⟨#[]⟩] 30) := ⟨_, rfl⟩
      have HS3 : Hid (SR2 w bh bm bl z 0 wz) := by rw [hwz, hbl]; exact HS2
      rw [← hwz, ← hbl]
      clear hwz hbl HS2
      have HS2 := HS3
      clear HS3
      go_loopw [8] (fun i wr => ∃ j : Nat, j ≤ z.length ∧ i = .int .i64 j ∧ Hid (SR2 w bh bm bl z j wr)) (fun i _ => z.length - (intOf i).toNat)
      case atStart => exact ⟨0, Nat.zero_le _, rfl, HS2⟩
      case round =>
        obtain ⟨j, hj, rfl, HR⟩ := hrel
        clear HS2
        obtain ⟨v, m, D, la, HE', hml, HL', hla⟩ := HR.out
        have HE := Lib.hid HE'
        have HL := Lib.hid HL'
        clear HE' HL' HR
        by_cases hlt : j < z.length
        · obtain ⟨x, m', rfl⟩ : ∃ x m', m = x :: m' := by
            cases m with
            | nil => simp at hml; omega
            | cons x m' => exact ⟨x, m', rfl⟩
          have HXW := Lib.hid (HE.out.has.wf x (by simp))
          have HSO := Lib.hid (List.pairwise_cons.1 HE.out.has.sorted).1
          have hmn : m'.length ≤ 200 := by simp at hml; omega
          have bj : (j : Int) < (z.length : Int) := by omega
          have b0 : (0 : Int) ≤ (j : Int) := by omega
          go_wp2_with fail
          refine (hasPop bh v x m' _ HE.out.has (by omega)).mono ?_
          rintro e W5 ⟨rfl, v5, h5, g5⟩
          have hbx := (Below.refl W5.heap.size W5).alloc (Nat.le_refl _) (.cells #[.int .u64 x.t, .string x.k] 30)
          have he5 := HE.out.turn g5 h5
          have hl5 := HL.out.turn g5
          obtain ⟨hl0, hl1, _, _⟩ := hl5.cells
          have hllt := hl5.lt
          have HX6 := Lib.hid (show EBox w bh bm W5.heap.size v5 x (W5.alloc (.cells #[.int .u64 x.t, .string x.k] 30)) from ⟨heap_alloc_new W5 _, by have := he5.has.lt; omega, by have := he5.own.lt; omega, fun e => by have := (he5.has.own _ e).2; omega, he5.bel.size⟩)
          have HL6 := Lib.hid (hl5.bel' hbx)
          have HE6 := Lib.hid (he5.bel' hbx)
          have HKY := Lib.hid (keyOf_it x HXW.out)
          have HCV := Lib.hid (HE6.out.cnt.2 x HXW.out)
          have HCW := Lib.hid (show (Lit.int .i64 (count64 (x :: m') x - 1)).wf = true by
            have h3 := List.count_le_length (a := x) (l := x :: m')
            unfold count64
            simp only [List.length_cons] at h3
            rw [List.count_cons_self] at h3 ⊢
            simp [Lit.wf, IntKind.min, IntKind.max, IntKind.bits, IntKind.signed]
            omega)
          have hcb : 1 ≤ count64 (x :: m') x ∧ count64 (x :: m') x ≤ 201 := by
            have h3 := List.count_le_length (a := x) (l := x :: m')
            unfold count64
            simp only [List.length_cons] at h3
            rw [List.count_cons_self] at h3 ⊢
            omega
          obtain ⟨hcb0, hcb1⟩ := hcb
          obtain ⟨c, hrun, hat, _⟩ := HE6.out.own.lookup_int it_keyed Try.underlying26 Try.underlying3 (zero_int _) HKY.out
          rw [HCV.out] at hat
          obtain rfl : c = count64 (x :: m') x := by
            simp only [DataW.lit.injEq, Lit.int.injEq, true_and] at hat
            exact hat.symm
          have dc : (count64 (x :: m') x == 0) = false := by simp; omega
          have HLA := Lib.hid (show j = 0 ∨ ¬ x.lt la from hla.imp id fun h => h x (by simp))
          clear hat hla h5 g5 hbx he5 hl5 HE HL
          by_cases hj0 : j = 0
          · have dj : decide ((0 : Int) < (j : Int)) = false := by simp; omega
            have dj2 : decide (0 < j) = false := by simp; omega
            clear hj0
            go_wp2_with fail
            refine Reg.wp_regionO w.heap.size 6 (fun w1 => ESt w bh bm v5 m' (x :: m') (z.length + j) D w1 ∧ EBox w bh bm bl v5 la w1 ∧ EBox w bh bm W5.heap.size v5 x w1) (fun w1 => ESt w bh bm v5 m' m' (z.length + j + 1) (D.put (ik x) (.lit (.int .i64 (count64 (x :: m') x - 1)))) w1 ∧ EBox w bh bm bl v5 la w1 ∧ EBox w bh bm W5.heap.size v5 x w1) (by kernel_rfl) (by kernel_rfl) ⟨HE6.out.bel' (Below.refl _ _).drew, HL6.out.bel' (Below.refl _ _).drew, HX6.out.bel' (Below.refl _ _).drew⟩ ?_
            clear hl0 hl1 hrun
            refine Reg.segO 1 (by kernel_rfl) rfl (by kernel_rfl) ?_
            apply Exists.intro
            refine ⟨fun e => ?_, ?_⟩
            · simp only [List.take_succ_cons, List.take_zero]
              repeat (go_big_quiet_step ((intro _; rfl)))
              refine wpQuiet_nil ?_
              exact rfl
            simp only [List.drop_succ_cons, List.drop_zero, Nat.reduceAdd]
            refine Reg.readO (.agg #[.int .u64 x.t, .string x.k]) (fun _ => Below.refl _ _) (by decide) (by kernel_rfl) (fun e w hR hp => ⟨by rfl, ?_⟩) ?_
            · obtain ⟨hcx0, hcx1, _, _⟩ := hp.2.2.cells
              clear hp
              unfold Reg.gives
              go_simp
            simp only [Act.put, List.setIfInBounds_toArray, List.set_cons_zero, List.set_cons_succ, Nat.reduceAdd]
            refine Reg.segO 1 (by kernel_rfl) rfl (by kernel_rfl) ?_
            apply Exists.intro
            refine ⟨fun e => ?_, ?_⟩
            · simp only [List.take_succ_cons, List.take_zero]
              repeat (go_big_quiet_step ((intro _; rfl)))
              refine wpQuiet_nil ?_
              exact rfl
            simp only [List.drop_succ_cons, List.drop_zero, Nat.reduceAdd]
            refine Reg.readO (.agg #[.int .u64 x.t, .string x.k]) (fun _ => Below.refl _ _) (by decide) (by kernel_rfl) (fun e w hR hp => ⟨by rfl, ?_⟩) ?_
            · obtain ⟨hcx0, hcx1, _, _⟩ := hp.2.2.cells
              clear hp
              unfold Reg.gives
              go_simp
            simp only [Act.put, List.setIfInBounds_toArray, List.set_cons_zero, List.set_cons_succ, Nat.reduceAdd]
            refine Reg.readO (.int .i64 (count64 (x :: m') x)) (fun _ => Below.refl _ _) (by decide) (by kernel_rfl) (fun e w hR hp => ⟨by rfl, ?_⟩) ?_
            · exact gives_lookup_int (.tmp 96) (.tmp 97) _ rfl 30 3 .i64 it_keyed Try.underlying26 Try.underlying3 (zero_int w) bm _ D rfl hp.1.own (.agg #[.int .u64 x.t, .string x.k]) (ik x) rfl HKY.out _ HCV.out
            simp only [Act.put, List.setIfInBounds_toArray, List.set_cons_zero, List.set_cons_succ, Nat.reduceAdd]
            refine Reg.segO 1 (by kernel_rfl) rfl (by kernel_rfl) ?_
            apply Exists.intro
            refine ⟨fun e => ?_, ?_⟩
            · simp only [List.take_succ_cons, List.take_zero]
              repeat (go_big_quiet_step ((intro _; rfl)))
              refine wpQuiet_nil ?_
              exact rfl
            simp only [List.drop_succ_cons, List.drop_zero, Nat.reduceAdd]
            refine Reg.callO (fun e w' hR hp => ⟨by rfl, ?_⟩) ?_
            · refine Reg.gives_mono ?_ (gives_mapUpdate (.tmp 94) (.tmp 95) (.tmp 99) _ rfl 30 3 it_keyed Try.underlying26 (plainElem Try.prog 3) bm _ D rfl hp.1.own (by unfold maxLen; omega) (.agg #[.int .u64 x.t, .string x.k]) (.int .i64 (count64 (x :: m') x - 1)) (ik x) rfl rfl HKY.out (.lit (.int .i64 (count64 (x :: m') x - 1))) [] (plainElem_int Try.underlying3 HCW.out))
              rintro _ w2 ⟨ho, hg⟩
              exact ⟨(Below.refl _ _).grown hg (by have h1 := hp.1.bel.size; exact h1) (fun k hk => by cases hk; have h1 := hp.1.base; have h2 := hp.1.ne; omega), hp.1.put hg ho (hp.1.cnt.pop HXW.out), hp.2.1.side hg hp.2.1.nm, hp.2.2.side hg hp.2.2.nm⟩
            simp only [Act.put, Nat.reduceAdd]
            intro e W7 hR hJ hf
            have HJ := Lib.hid (hJ.2 rfl)
            obtain ⟨qx0, qx1, _, _⟩ := HJ.out.2.2.cells
            obtain ⟨ql0, ql1, qf0, qf1⟩ := HJ.out.2.1.cells
            have hst := HJ.out.2.1.store x
            have HST := Lib.hid (show SR2 w bh bm bl z (j + 1) ((W7.setCell ⟨bl, 0, none⟩ (.int .u64 x.t)).setCell ⟨bl, 1, none⟩ (.string x.k)) from ⟨v5, m', _, x, (HJ.out.1.side hst.2 HJ.out.2.1.nh HJ.out.2.1.nm HJ.out.2.1.nv HJ.out.2.1.base), by simp at hml; omega, hst.1, .inr HSO.out⟩)
            clear hR hJ hf hst
            go_wp2
            go_roundw
            case rel => exact ⟨j + 1, by omega, by go_num, HST⟩
            case measure => simp [intOf]; omega
          · have hnl : ¬ x.lt la := HLA.out.resolve_left hj0
            have dj : decide ((0 : Int) < (j : Int)) = true := by simp; omega
            have dj2 : 0 < j := by omega
            have dt : decide (x.t < la.t) = false := by
              simp only [decide_eq_false_iff_not]
              exact fun h => hnl (.inl h)
            by_cases ht : x.t = la.t
            · obtain ⟨lt, lk⟩ := la
              simp only at ht hl0 hl1 hnl
              subst ht
              have dk : Op.bytesLess x.k.toList lk.toList = false := by
                rw [less_str]
                simp only [decide_eq_false_iff_not]
                exact fun h => hnl (.inr ⟨rfl, h⟩)
              clear hj0 hnl dt
              go_wp2_with fail
              refine Reg.wp_regionO w.heap.size 6 (fun w1 => ESt w bh bm v5 m' (x :: m') (z.length + j) D w1 ∧ EBox w bh bm bl v5 ⟨x.t, lk⟩ w1 ∧ EBox w bh bm W5.heap.size v5 x w1) (fun w1 => ESt w bh bm v5 m' m' (z.length + j + 1) (D.put (ik x) (.lit (.int .i64 (count64 (x :: m') x - 1)))) w1 ∧ EBox w bh bm bl v5 ⟨x.t, lk⟩ w1 ∧ EBox w bh bm W5.heap.size v5 x w1) (by kernel_rfl) (by kernel_rfl) ⟨HE6.out.bel' (Below.refl _ _).drew, HL6.out.bel' (Below.refl _ _).drew, HX6.out.bel' (Below.refl _ _).drew⟩ ?_
              clear hl0 hl1 hrun
              refine Reg.segO 1 (by kernel_rfl) rfl (by kernel_rfl) ?_
              apply Exists.intro
              refine ⟨fun e => ?_, ?_⟩
              · simp only [List.take_succ_cons, List.take_zero]
                repeat (go_big_quiet_step ((intro _; rfl)))
                refine wpQuiet_nil ?_
                exact rfl
              simp only [List.drop_succ_cons, List.drop_zero, Nat.reduceAdd]
              refine Reg.readO (.agg #[.int .u64 x.t, .string x.k]) (fun _ => Below.refl _ _) (by decide) (by kernel_rfl) (fun e w hR hp => ⟨by rfl, ?_⟩) ?_
              · obtain ⟨hcx0, hcx1, _, _⟩ := hp.2.2.cells
                clear hp
                unfold Reg.gives
                go_simp
              simp only [Act.put, List.setIfInBounds_toArray, List.set_cons_zero, List.set_cons_succ, Nat.reduceAdd]
              refine Reg.segO 1 (by kernel_rfl) rfl (by kernel_rfl) ?_
              apply Exists.intro
              refine ⟨fun e => ?_, ?_⟩
              · simp only [List.take_succ_cons, List.take_zero]
                repeat (go_big_quiet_step ((intro _; rfl)))
                refine wpQuiet_nil ?_
                exact rfl
              simp only [List.drop_succ_cons, List.drop_zero, Nat.reduceAdd]
              refine Reg.readO (.agg #[.int .u64 x.t, .string x.k]) (fun _ => Below.refl _ _) (by decide) (by kernel_rfl) (fun e w hR hp => ⟨by rfl, ?_⟩) ?_
              · obtain ⟨hcx0, hcx1, _, _⟩ := hp.2.2.cells
                clear hp
                unfold Reg.gives
                go_simp
              simp only [Act.put, List.setIfInBounds_toArray, List.set_cons_zero, List.set_cons_succ, Nat.reduceAdd]
              refine Reg.readO (.int .i64 (count64 (x :: m') x)) (fun _ => Below.refl _ _) (by decide) (by kernel_rfl) (fun e w hR hp => ⟨by rfl, ?_⟩) ?_
              · exact gives_lookup_int (.tmp 96) (.tmp 97) _ rfl 30 3 .i64 it_keyed Try.underlying26 Try.underlying3 (zero_int w) bm _ D rfl hp.1.own (.agg #[.int .u64 x.t, .string x.k]) (ik x) rfl HKY.out _ HCV.out
              simp only [Act.put, List.setIfInBounds_toArray, List.set_cons_zero, List.set_cons_succ, Nat.reduceAdd]
              refine Reg.segO 1 (by kernel_rfl) rfl (by kernel_rfl) ?_
              apply Exists.intro
              refine ⟨fun e => ?_, ?_⟩
              · simp only [List.take_succ_cons, List.take_zero]
                repeat (go_big_quiet_step ((intro _; rfl)))
                refine wpQuiet_nil ?_
                exact rfl
              simp only [List.drop_succ_cons, List.drop_zero, Nat.reduceAdd]
              refine Reg.callO (fun e w' hR hp => ⟨by rfl, ?_⟩) ?_
              · refine Reg.gives_mono ?_ (gives_mapUpdate (.tmp 94) (.tmp 95) (.tmp 99) _ rfl 30 3 it_keyed Try.underlying26 (plainElem Try.prog 3) bm _ D rfl hp.1.own (by unfold maxLen; omega) (.agg #[.int .u64 x.t, .string x.k]) (.int .i64 (count64 (x :: m') x - 1)) (ik x) rfl rfl HKY.out (.lit (.int .i64 (count64 (x :: m') x - 1))) [] (plainElem_int Try.underlying3 HCW.out))
                rintro _ w2 ⟨ho, hg⟩
                exact ⟨(Below.refl _ _).grown hg (by have h1 := hp.1.bel.size; exact h1) (fun k hk => by cases hk; have h1 := hp.1.base; have h2 := hp.1.ne; omega), hp.1.put hg ho (hp.1.cnt.pop HXW.out), hp.2.1.side hg hp.2.1.nm, hp.2.2.side hg hp.2.2.nm⟩
              simp only [Act.put, Nat.reduceAdd]
              intro e W7 hR hJ hf
              have HJ := Lib.hid (hJ.2 rfl)
              obtain ⟨qx0, qx1, _, _⟩ := HJ.out.2.2.cells
              obtain ⟨ql0, ql1, qf0, qf1⟩ := HJ.out.2.1.cells
              have hst := HJ.out.2.1.store x
              have HST := Lib.hid (show SR2 w bh bm bl z (j + 1) ((W7.setCell ⟨bl, 0, none⟩ (.int .u64 x.t)).setCell ⟨bl, 1, none⟩ (.string x.k)) from ⟨v5, m', _, x, (HJ.out.1.side hst.2 HJ.out.2.1.nh HJ.out.2.1.nm HJ.out.2.1.nv HJ.out.2.1.base), by simp at hml; omega, hst.1, .inr HSO.out⟩)
              clear hR hJ hf hst
              go_wp2
              go_roundw
              case rel => exact ⟨j + 1, by omega, by go_num, HST⟩
              case measure => simp [intOf]; omega
            · have dt2 : (x.t == la.t) = false := by simpa using ht
              clear hj0 hnl ht
              go_wp2_with fail
              refine Reg.wp_regionO w.heap.size 6 (fun w1 => ESt w bh bm v5 m' (x :: m') (z.length + j) D w1 ∧ EBox w bh bm bl v5 la w1 ∧ EBox w bh bm W5.heap.size v5 x w1) (fun w1 => ESt w bh bm v5 m' m' (z.length + j + 1) (D.put (ik x) (.lit (.int .i64 (count64 (x :: m') x - 1)))) w1 ∧ EBox w bh bm bl v5 la w1 ∧ EBox w bh bm W5.heap.size v5 x w1) (by kernel_rfl) (by kernel_rfl) ⟨HE6.out.bel' (Below.refl _ _).drew, HL6.out.bel' (Below.refl _ _).drew, HX6.out.bel' (Below.refl _ _).drew⟩ ?_
              clear hl0 hl1 hrun
              refine Reg.segO 1 (by kernel_rfl) rfl (by kernel_rfl) ?_
              apply Exists.intro
              refine ⟨fun e => ?_, ?_⟩
              · simp only [List.take_succ_cons, List.take_zero]
                repeat (go_big_quiet_step ((intro _; rfl)))
                refine wpQuiet_nil ?_
                exact rfl
              simp only [List.drop_succ_cons, List.drop_zero, Nat.reduceAdd]
              refine Reg.readO (.agg #[.int .u64 x.t, .string x.k]) (fun _ => Below.refl _ _) (by decide) (by kernel_rfl) (fun e w hR hp => ⟨by rfl, ?_⟩) ?_
              · obtain ⟨hcx0, hcx1, _, _⟩ := hp.2.2.cells
                clear hp
                unfold Reg.gives
                go_simp
              simp only [Act.put, List.setIfInBounds_toArray, List.set_cons_zero, List.set_cons_succ, Nat.reduceAdd]
              refine Reg.segO 1 (by kernel_rfl) rfl (by kernel_rfl) ?_
              apply Exists.intro
              refine ⟨fun e => ?_, ?_⟩
              · simp only [List.take_succ_cons, List.take_zero]
                repeat (go_big_quiet_step ((intro _; rfl)))
                refine wpQuiet_nil ?_
                exact rfl
              simp only [List.drop_succ_cons, List.drop_zero, Nat.reduceAdd]
              refine Reg.readO (.agg #[.int .u64 x.t, .string x.k]) (fun _ => Below.refl _ _) (by decide) (by kernel_rfl) (fun e w hR hp => ⟨by rfl, ?_⟩) ?_
              · obtain ⟨hcx0, hcx1, _, _⟩ := hp.2.2.cells
                clear hp
                unfold Reg.gives
                go_simp
              simp only [Act.put, List.setIfInBounds_toArray, List.set_cons_zero, List.set_cons_succ, Nat.reduceAdd]
              refine Reg.readO (.int .i64 (count64 (x :: m') x)) (fun _ => Below.refl _ _) (by decide) (by kernel_rfl) (fun e w hR hp => ⟨by rfl, ?_⟩) ?_
              · exact gives_lookup_int (.tmp 96) (.tmp 97) _ rfl 30 3 .i64 it_keyed Try.underlying26 Try.underlying3 (zero_int w) bm _ D rfl hp.1.own (.agg #[.int .u64 x.t, .string x.k]) (ik x) rfl HKY.out _ HCV.out
              simp only [Act.put, List.setIfInBounds_toArray, List.set_cons_zero, List.set_cons_succ, Nat.reduceAdd]
              refine Reg.segO 1 (by kernel_rfl) rfl (by kernel_rfl) ?_
              apply Exists.intro
              refine ⟨fun e => ?_, ?_⟩
              · simp only [List.take_succ_cons, List.take_zero]
                repeat (go_big_quiet_step ((intro _; rfl)))
                refine wpQuiet_nil ?_
                exact rfl
              simp only [List.drop_succ_cons, List.drop_zero, Nat.reduceAdd]
              refine Reg.callO (fun e w' hR hp => ⟨by rfl, ?_⟩) ?_
              · refine Reg.gives_mono ?_ (gives_mapUpdate (.tmp 94) (.tmp 95) (.tmp 99) _ rfl 30 3 it_keyed Try.underlying26 (plainElem Try.prog 3) bm _ D rfl hp.1.own (by unfold maxLen; omega) (.agg #[.int .u64 x.t, .string x.k]) (.int .i64 (count64 (x :: m') x - 1)) (ik x) rfl rfl HKY.out (.lit (.int .i64 (count64 (x :: m') x - 1))) [] (plainElem_int Try.underlying3 HCW.out))
                rintro _ w2 ⟨ho, hg⟩
                exact ⟨(Below.refl _ _).grown hg (by have h1 := hp.1.bel.size; exact h1) (fun k hk => by cases hk; have h1 := hp.1.base; have h2 := hp.1.ne; omega), hp.1.put hg ho (hp.1.cnt.pop HXW.out), hp.2.1.side hg hp.2.1.nm, hp.2.2.side hg hp.2.2.nm⟩
              simp only [Act.put, Nat.reduceAdd]
              intro e W7 hR hJ hf
              have HJ := Lib.hid (hJ.2 rfl)
              obtain ⟨qx0, qx1, _, _⟩ := HJ.out.2.2.cells
              obtain ⟨ql0, ql1, qf0, qf1⟩ := HJ.out.2.1.cells
              have hst := HJ.out.2.1.store x
              have HST := Lib.hid (show SR2 w bh bm bl z (j + 1) ((W7.setCell ⟨bl, 0, none⟩ (.int .u64 x.t)).setCell ⟨bl, 1, none⟩ (.string x.k)) from ⟨v5, m', _, x, (HJ.out.1.side hst.2 HJ.out.2.1.nh HJ.out.2.1.nm HJ.out.2.1.nv HJ.out.2.1.base), by simp at hml; omega, hst.1, .inr HSO.out⟩)
              clear hR hJ hf hst
              go_wp2
              go_roundw
              case rel => exact ⟨j + 1, by omega, by go_num, HST⟩
              case measure => simp [intOf]; omega
        · obtain rfl : j = z.length := by omega
          obtain rfl : m = [] := List.eq_nil_of_length_eq_zero (by omega)
          clear hml hla
          go_wp2_with fail
          refine (hasNo _ _ _ HE.out.has).mono ?_
          rintro e W7 ⟨rfl, h7, b7⟩
          have B7 := Lib.hid (HE.out.bel.trans (b7.mono HE.out.bel.size))
          have B8 := Lib.hid (B7.out.trans (((Below.refl W7.heap.size W7).alloc (Nat.le_refl _) (.cells #[.int .u64 0, .string ByteArray.empty] 30)).mono B7.out.size))
          clear h7 b7
          go_wp2
          go_ret
          exact ⟨rfl, B8.out⟩
theorem ExpirySorts_walk (a0 : Option Addr) (len0 cap0 : Nat) (z0 : In_ExpirySorts_0.T) (w : World) (w0 : In_ExpirySorts_0 w a0 len0 cap0 z0) :
    LawOk Try.prog 3 #[.slice a0 len0 cap0] w := by
  obtain ⟨rfl, hz, _⟩ := w0
  by_cases h : 200 < z0.length
  · exact sortsHead a0 _ cap0 w h
  · exact sortsMain a0 cap0 z0 w (by omega) hz
end Go.Proofs.Ytnpalplnpfgibaa
