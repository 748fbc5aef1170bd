/- The walk of CommandBack. -/
import Derived.Test.YtlngefhjoobmdaaMg7
import Derived.Test.YtlngefhjoobmdaaMg6
import Derived.BigQuiet
import Derived.Deep.DeepCutAuto
namespace Go.Proofs.Ytlngefhjoobmdaa
open Go.RowKit
/-- What Parse came to lies in a box. -/
theorem parse_box9 {B : Nat} {T E : TypeId} (hE : (Try.prog.info? T).map (·.size) = some 16) {W : World} {r : Option CReq} {u : Value} (ho : OwnOf E COp.cells 5 B W u (reqOf r).ops) : ∃ W', (Instr.storeAt T (.pointer (some ⟨W.heap.size, 0, none⟩)) (.agg ((reqOf r).cells u))).run Try.prog (W.alloc (.cells (CReq.zero.cells nilS) T)) = .ok () W' ∧ W'.heap[W.heap.size]? = some (.cells ((reqOf r).cells u) T (0, 0)) ∧ Below W.heap.size W W' ∧ W.heap.size < W'.heap.size := by
  refine ⟨_, run_storeRow (W.alloc (.cells (CReq.zero.cells nilS) T)) T W.heap.size (CReq.zero.cells nilS) ((reqOf r).cells u) (heap_alloc_new W _) hE rfl (by obtain ⟨a5, c5, h5⟩ := ho.slice; rw [h5]; exact cells_one _ _ _ _), setRow_heap (W.alloc (.cells (CReq.zero.cells nilS) T)) W.heap.size (CReq.zero.cells nilS) _ T (0, 0) (heap_alloc_new W _), below_boxC W (CReq.zero.cells nilS) _ T, by simp [World.setRow]⟩
theorem run_load_boxB (w : World) (g : Nat) (T : TypeId) (C : Array Value) (fs) (hg : w.heap[g]? = some (.cells C T (0, 0))) (hu : Try.prog.underlying T = some (.struct fs)) (hi : (Try.prog.info? T).map (·.size) = some C.size) : (Instr.loadAt T (.pointer (some ⟨g, 0, none⟩))).run Try.prog w = .ok (.agg C) w := by
  simp only [Instr.loadAt, Instr.sureAddr, Sem.run_bind, Sem.run_pure, Result.andThen_ok, run_loadVar_row w g T T C (0, 0) _ hg hu rfl hi]
theorem rgives_loadB {w : World} {g : Nat} {T : TypeId} {C : Array Value} {fs} {o : Oper} {a : Act} (x : Operand) (ho : o.op = .load T x) (hx : a.eval x = .pointer (some ⟨g, 0, none⟩)) (hg : w.heap[g]? = some (.cells C T (0, 0))) (hu : Try.prog.underlying T = some (.struct fs)) (hi : (Try.prog.info? T).map (·.size) = some C.size) : Reg.gives Try.prog o a w (fun v w' => v = .agg C ∧ w' = w) :=
  gives_load_op T x ho _ _ hx (run_load_boxB w g T C fs hg hu hi)
theorem own_start (w : World) : OwnB w.heap.size (w.alloc (.cells #[] 5)) (.slice (some ⟨w.heap.size, 0, none⟩) 0 0) [] := ⟨by simp, .inr ⟨w.heap.size, 0, #[], rfl, Nat.le_refl _, heap_alloc_new w _, Nat.le_refl _, Nat.zero_le _, by simp, by simp⟩⟩
theorem guard_lit {e : Value} (x : Operand) (w : World) : (eqGuard .eql 34 x (.const .nilIface) e .nilIface).run Try.prog w = .ok () w := by
  cases e <;> cases x <;> rfl
def BDone (w : World) (e : Ending) (w' : World) : Prop := e = .returned (.bool true) ∧ Below w.heap.size w w'
set_option maxRecDepth 100000 in
set_option maxHeartbeats 40000000 in
theorem backMain (q : CReq) (u : Value) (a1 : Option Addr) (cap1 : Nat) (b : List UInt8) (a2 : Option Addr) (cap2 : Nat) (c : List UInt8) (w : World) (h : ReqIn w q u) (hm : q.ops.length ≤ maxLen) (hr1 : Reads w (.slice a1 b.length cap1) b) (hr2 : Reads w (.slice a2 c.length cap2) c) :
    Calls Try.prog 5 #[.agg (q.cells u), .slice a1 b.length cap1, .slice a2 c.length cap2] w (BDone w) := by
  have HQSZ := Lib.hid (creq_size q u)
  have HFEW := Lib.hid (fun W (hi : ReqIn W q u) => lawFew q u W hi.sl (by unfold maxLen at hm; exact hm))
  have HPUT := Lib.hid (fun W (hi : ReqIn W q u) (hn : q.ops.length ≤ 1000000) => cPutReq q u W hi hn)
  have HAS := Lib.hid (fun W (hi : ReqIn W q u) (hn : q.ops.length ≤ 1000000) => lawAs q u W hi.sl (by omega))
  have HB0 := Lib.hid ((Below.refl w.heap.size w).alloc (Nat.le_refl _) (.cells (q.cells u) 32))
  have HR0 := Lib.hid (heap_alloc_new w (.cells (q.cells u) 32))
  have HLT0 := Lib.hid (show w.heap.size < (w.alloc (.cells (q.cells u) 32)).heap.size by simp)
  have HIN0 := Lib.hid (h.bel HB0.out)
  have HX1 := Lib.hid hr1
  have HX2 := Lib.hid hr2
  generalize hCq : q.cells u = C at *
  clear h hm hCq hr1 hr2
  go_enter Try.func5, Try.ntmps5
  go_wp2_with fail
  generalize (w.alloc (.cells C 32)) = W0 at *
  refine (cmdUp _).mono ?_
  rintro e W1 ⟨rfl, hb1⟩
  have HB1 := Lib.hid (below_next HB0.out hb1)
  have HIN1 := Lib.hid (HIN0.out.bel hb1)
  have HQ1 := Lib.hid ((hb1.block w.heap.size HLT0.out).trans HR0.out)
  have HLT1 := Lib.hid (Nat.lt_of_lt_of_le HLT0.out hb1.size)
  clear hb1 HB0 HIN0 HR0 HLT0
  go_wp2_with ((with_reducible refine atLoad ?_); refine wpList_load_row rfl 32 (.tmp 3) rfl w.heap.size rfl 32 C (0, 0) _ HQ1.out Try.underlying32 rfl HQSZ.out ?_)
  refine (HFEW.out _ HIN1.out).mono ?_
  rintro e W2 ⟨rfl, hb2⟩
  have HB2 := Lib.hid (below_next HB1.out hb2)
  have HIN2 := Lib.hid (HIN1.out.bel hb2)
  have HQ2 := Lib.hid ((hb2.block w.heap.size HLT1.out).trans HQ1.out)
  have HLT2 := Lib.hid (Nat.lt_of_lt_of_le HLT1.out hb2.size)
  clear hb2 HB1 HIN1 HQ1 HLT1 HFEW
  cases hfew : fewQ q with
  | false =>
    clear hfew
    go_wp2_with fail
    go_ret
    exact ⟨rfl, HB2.out⟩
  | true =>
    have HOPS := Lib.hid (few_opsB hfew)
    clear hfew
    by_cases h1 : 25000 < b.length
    · have d1 : decide ((25000 : Int) < (b.length : Int)) = true := by rw [decide_eq_true_iff]; omega
      clear h1
      go_wp2_with fail
      go_ret
      exact ⟨rfl, HB2.out⟩
    have d1 : decide ((25000 : Int) < (b.length : Int)) = false := by rw [decide_eq_false_iff_not]; omega
    clear h1
    by_cases h2 : 25000 < c.length
    · have d2 : decide ((25000 : Int) < (c.length : Int)) = true := by rw [decide_eq_true_iff]; omega
      clear h2
      go_wp2_with fail
      go_ret
      exact ⟨rfl, HB2.out⟩
    have d2 : decide ((25000 : Int) < (c.length : Int)) = false := by rw [decide_eq_false_iff_not]; omega
    clear h2
    go_wp2_with ((with_reducible refine atLoad ?_); refine wpList_load_row rfl 32 (.tmp 3) rfl w.heap.size rfl 32 C (0, 0) _ HQ2.out Try.underlying32 rfl HQSZ.out ?_)
    clear d1 d2
    refine (HPUT.out _ HIN2.out (by have := HOPS.out; omega)).mono ?_
    rintro e W3 ⟨hret, hb3⟩
    have HB3 := Lib.hid (below_next HB2.out hb3)
    have HIN3 := Lib.hid (HIN2.out.bel hb3)
    have HQ3 := Lib.hid ((hb3.block w.heap.size HLT2.out).trans HQ2.out)
    have HLT3 := Lib.hid (Nat.lt_of_lt_of_le HLT2.out hb3.size)
    obtain ⟨v3, er3, eb, hv3, kgd, keq, hr3⟩ : ∃ v er eb, e = .returned (.tuple #[v, er]) ∧ (∀ x w, (eqGuard .eql 34 x (.const .nilIface) er .nilIface).run Try.prog w = .ok () w) ∧ (∀ w, (binOp .eql 34 er .nilIface).run Try.prog w = .ok (.bool eb) w) ∧ ((putQ q = none ∧ eb = false) ∨ ∃ L, putQ q = some L ∧ eb = true ∧ OwnB W2.heap.size W3 v L) := by
      cases hp : putQ q with
      | none => exact ⟨_, _, false, hret.1 hp, guard_lit, fun w => code_eql_nil w 1, .inl ⟨rfl, rfl⟩⟩
      | some L => obtain ⟨v, e1, e2⟩ := hret.2 L hp; exact ⟨v, _, true, e1, guard_lit, code_nil_nil, .inr ⟨L, rfl, rfl, e2⟩⟩
    subst hv3
    have HRET := Lib.hid hr3
    clear hb3 hret hr3 HB2 HIN2 HQ2 HLT2 HPUT
    go_upto_if 41 with fail
    go_cut [] (fun wx => Hid (Below w.heap.size w wx))
    case first =>
      rcases HRET.out with ⟨hpn, rfl⟩ | ⟨L, hpn, rfl, ho⟩
      · clear HRET hpn
        go_wp2_with fail
        go_meet
        exact HB3
      · obtain ⟨hL1, hL2⟩ := putQ_back hpn
        have HP1 := Lib.hid hL1
        have HP2 := Lib.hid hL2
        have HPF := Lib.hid (parseP_wf hL1)
        obtain ⟨a3, cap3, hv3, hrd⟩ := OwnB.reads ho
        subst hv3
        have HO := Lib.hid ho
        have HRD := Lib.hid (OwnB.reads HO.out)
        have HLL := Lib.hid (show L.length ≤ 140737488355000 by have := putQ_len hpn; omega)
        have k1 := code_nil_nil
        have k2 := code_nil_neq_nil
        have k3 := code_neq
        clear HRET hpn hL1 hL2 ho hrd
        go_wp2_with fail
        refine (crParse a3 cap3 L W3 HRD.out).mono ?_
        rw [HP1.out]
        rintro e W4 ⟨⟨u1, rfl, ho1⟩, hb4⟩
        have HB4 := Lib.hid (below_next HB3.out hb4)
        have HO4 := Lib.hid (HO.out.bel hb4)
        have HIN4 := Lib.hid (HIN3.out.bel hb4)
        have HQ4 := Lib.hid ((hb4.block w.heap.size HLT3.out).trans HQ3.out)
        have HLT4 := Lib.hid (Nat.lt_of_lt_of_le HLT3.out hb4.size)
        obtain ⟨W5, hs5, hl5, hb5, hz5⟩ := parse_box9 (T := 32) (by exact req_size) ho1
        have HO15 := Lib.hid (ho1.bel hb5)
        have HS5 := Lib.hid hs5
        have HL5 := Lib.hid hl5
        have HZ5 := Lib.hid hz5
        have HB5 := Lib.hid (below_next HB4.out hb5)
        have HO5 := Lib.hid (HO4.out.bel hb5)
        have HIN5 := Lib.hid (HIN4.out.bel hb5)
        have HQ5 := Lib.hid ((hb5.block w.heap.size HLT4.out).trans HQ4.out)
        have HLT5 := Lib.hid (Nat.lt_of_lt_of_le HLT4.out hb5.size)
        clear hs5 hl5 hb4 hb5 hz5 ho1 HB3 HIN3 HQ3 HLT3 HRD HO HB4 HIN4 HQ4 HLT4 HO4
        unfold tupE
        rw [show errV (errN (some q)) = .nilIface from rfl]
        simp only [show reqOf (some q) = q from rfl] at HO15 HS5 HL5 ⊢
        obtain ⟨D, hD⟩ : ∃ D, D = q.cells u1 := ⟨_, rfl⟩
        have HD := Lib.hid hD
        rw [← hD] at HS5 HL5 ⊢
        have HDZ := Lib.hid (show (Try.prog.info? 32).map (·.size) = some D.size by rw [hD]; exact req_size)
        clear hD
        have HE5 := Lib.hid (own_start W5)
        have HSX := Lib.hid (show SrcB 22 (.slice a3 L.length cap3) (W5.alloc (.cells #[] 5)) L from SrcB.ofBytes cap3 (HO5.out.reads.bytes.alloc _))
        go_wp2_with (first | ((with_reducible refine atStore ?_); refine wpList_store_by rfl 32 (.tmp 10) (.tmp 45) rfl (.pointer (some ⟨W4.heap.size, 0, none⟩)) _ rfl rfl HS5.out ?_) | (at_builtin; refine wpList_append_bytes rfl (.tmp 48) (.tmp 49) 22 rfl W5.heap.size _ [] rfl HE5.out _ L rfl HSX.out (by simp) (by have := HLL.out; simp; omega) ?_))
        intro v6 W6 ho6 hg6
        have ho6 : OwnB W5.heap.size W6 v6 L := ho6
        have HO6 := Lib.hid ho6
        have hb6 : Below W5.heap.size W5 W6 := (((Below.refl W5.heap.size W5).alloc (Nat.le_refl _) (.cells #[] 5)).trans (hg6.below (by simp) (fun k hk => (by cases hk; exact Nat.le_refl _))))
        have HB56 := Lib.hid hb6
        have HSY := Lib.hid (srcB_one W6 0 0 rfl)
        have HO6a := Lib.hid (ho6.alloc (.cells #[.int .u8 0] 5))
        clear ho6 hg6 hb6 HE5 HSX HS5
        go_wp2_with (at_builtin; refine wpList_append_bytes rfl (.tmp 50) (.tmp 51) 22 rfl W5.heap.size v6 L rfl HO6a.out _ [0] rfl HSY.out (by have := HB56.out.size; simp; omega) (by have := HLL.out; simp; omega) ?_)
        intro v7 W7 ho7 hg7
        obtain ⟨X, hX⟩ : ∃ X, X = L ++ [0] := ⟨_, rfl⟩
        have ho7 : OwnB W5.heap.size W7 v7 X := hX ▸ ho7
        have HP3 := Lib.hid (show parseP X = none by rw [hX]; exact HP2.out)
        clear hX HP2
        have hb7 : Below W5.heap.size W5 W7 := HB56.out.trans (((Below.refl W6.heap.size W6).alloc (Nat.le_refl _) (.cells #[.int .u8 0] 5)).mono HB56.out.size |>.trans (hg7.below (by have := HB56.out.size; simp; omega) (fun k hk => (HO6a.out.block k hk).1)))
        obtain ⟨a7, cap7, hv7, hrd7⟩ := OwnB.reads ho7
        subst hv7
        have HRD7 := Lib.hid (OwnB.reads ho7)
        have HB57 := Lib.hid hb7
        clear ho7 hg7 hb7 hrd7 HSY HO6a HO6 HB56
        go_wp2_with fail
        refine (crParse a7 cap7 X W7 HRD7.out).mono ?_
        rw [HP3.out]
        rintro e W8 ⟨⟨u2, rfl, ho2⟩, hb8⟩
        obtain ⟨W9, hs9, hl9, hb9, hz9⟩ := parse_box9 (T := 32) (by exact req_size) ho2
        have HS9 := Lib.hid hs9
        have HB59 := Lib.hid (below_next (below_next HB57.out hb8) hb9)
        clear hs9 hl9 hb8 hb9 hz9 ho2 HRD7 HB57
        unfold tupE
        rw [errN_none]
        obtain ⟨E, hE⟩ : ∃ E, E = (reqOf none).cells u2 := ⟨_, rfl⟩
        rw [← hE] at HS9 ⊢
        clear hE
        go_wp2_with ((with_reducible refine atStore ?_); refine wpList_store_by rfl 32 (.tmp 12) (.tmp 54) rfl (.pointer (some ⟨W8.heap.size, 0, none⟩)) _ rfl rfl HS9.out ?_)
        have HRB := Lib.hid (show Below W5.heap.size W5 W9.drew from HB59.out.trans (((Below.refl _ _).drew).mono HB59.out.size))
        refine Reg.wp_region0 (by kernel_rfl) (by kernel_rfl) ?_
        refine Reg.seg0 8 (by kernel_rfl) rfl ?_
        apply Exists.intro
        refine ⟨fun e => ?_, ?_⟩
        · simp only [List.take_succ_cons, List.take_zero]
          repeat (go_big_quiet_step ((intro _; rfl)))
          refine wpQuiet_nil ?_
          exact rfl
        simp only [List.drop_succ_cons, List.drop_zero, Nat.reduceAdd]
        refine Reg.const0 (.agg D) (fun e w2 hR hf => ⟨by rfl, ?_⟩) ?_
        · refine Reg.gives_mono (fun v' w' h => ?_) (rgives_loadB (.tmp 10) rfl rfl (((HRB.out.trans (hR.mono HRB.out.size)).block _ HZ5.out).trans HL5.out) Try.underlying32 HDZ.out)
          obtain ⟨rfl, rfl⟩ := h
          exact ⟨Reg.bel_refl _, rfl⟩
        simp only [Act.put, List.setIfInBounds_toArray, List.set_cons_zero, List.set_cons_succ, Nat.reduceAdd]
        refine Reg.fact0 (fun v w => ∃ u, v = .agg (q.cells u) ∧ ∃ B, OwnOf 90 COp.cells 5 B w u q.ops) (fun v w w' h hR => by obtain ⟨u, h1, B, h2⟩ := h; exact ⟨u, h1, B, h2.bel hR⟩) (fun e w2 hR hf => ⟨by rfl, ?_⟩) ?_
        · have HIN := Lib.hid (req_rowOf (HO15.out.bel (HRB.out.trans (hR.mono HRB.out.size))))
          clear hf hR
          unfold Reg.gives
          go_simp
          rw [HD.out]
          refine (lawAs q u1 w2 HIN.out (by have := HPF.out.2; omega)).mono ?_
          rintro en w3 ⟨⟨u, rfl, ho⟩, hb⟩
          exact ⟨_, rfl, hb, u, rfl, _, ho⟩
        simp only [Act.put, List.setIfInBounds_toArray, List.set_cons_zero, List.set_cons_succ, Nat.reduceAdd]
        refine Reg.const0 (.agg C) (fun e w2 hR hf => ⟨by rfl, ?_⟩) ?_
        · refine Reg.gives_mono (fun v' w' h => ?_) (rgives_loadB (.tmp 3) rfl rfl (((HRB.out.trans (hR.mono HRB.out.size)).block _ HLT5.out).trans HQ5.out) Try.underlying32 HQSZ.out)
          obtain ⟨rfl, rfl⟩ := h
          exact ⟨Reg.bel_refl _, rfl⟩
        simp only [Act.put, List.setIfInBounds_toArray, List.set_cons_zero, List.set_cons_succ, Nat.reduceAdd]
        refine Reg.fact0 (fun v w => ∃ u, v = .agg (q.cells u) ∧ ∃ B, OwnOf 90 COp.cells 5 B w u q.ops) (fun v w w' h hR => by obtain ⟨u, h1, B, h2⟩ := h; exact ⟨u, h1, B, h2.bel hR⟩) (fun e w2 hR hf => ⟨by rfl, ?_⟩) ?_
        · have HIN := Lib.hid (HIN5.out.bel (HRB.out.trans (hR.mono HRB.out.size)))
          clear hf hR
          unfold Reg.gives
          go_simp
          refine (HAS.out w2 HIN.out (by have := HOPS.out; omega)).mono ?_
          rintro en w3 ⟨⟨u, rfl, ho⟩, hb⟩
          exact ⟨_, rfl, hb, u, rfl, _, ho⟩
        simp only [Act.put, List.setIfInBounds_toArray, List.set_cons_zero, List.set_cons_succ, Nat.reduceAdd]
        refine Reg.const0 (.bool true) (fun e w2 hR hf => ⟨by rfl, ?_⟩) ?_
        · obtain ⟨ua, hua, Ba, hoa⟩ := Reg.factsAt_here (Reg.factsAt_there hf) (by kernel_rfl)
          obtain ⟨ub, hub, Bb, hob⟩ := Reg.factsAt_here hf (by kernel_rfl)
          have HIA := Lib.hid (req_rowOf hoa)
          have HIB := Lib.hid (req_rowOf hob)
          clear hf hR hoa hob
          unfold Reg.gives
          go_simp
          refine (rSame q q ua ub w2 HIA.out HIB.out (by have := HOPS.out; omega)).mono ?_
          rw [decide_eq_true rfl]
          rintro en w3 ⟨rfl, hb⟩
          exact ⟨rfl, hb⟩
        simp only [Act.put, List.setIfInBounds_toArray, List.set_cons_zero, List.set_cons_succ, Nat.reduceAdd]
        refine Reg.seg0 2 (by kernel_rfl) rfl ?_
        apply Exists.intro
        refine ⟨fun e => ?_, ?_⟩
        · simp only [List.take_succ_cons, List.take_zero]
          repeat (go_big_quiet_step ((intro _; rfl)))
          refine wpQuiet_nil ?_
          exact rfl
        simp only [List.drop_succ_cons, List.drop_zero, Nat.reduceAdd]
        intro e W10 hR hJ hf
        have HB10 := Lib.hid (below_next HB5.out (HRB.out.trans (hR.mono HRB.out.size)))
        clear hR hJ hf
        go_wp2_with fail
        go_meet
        exact HB10
    case rest =>
      have HB4 := hcut
      clear hcut HRET HB3 HIN3 HQ3 HLT3 HAS HQSZ keq kgd
      generalize wc = W4 at *
      have HX4 := Lib.hid (HX1.out.bel' (HB4.out))
      have HX5 := Lib.hid (HX2.out.bel' (HB4.out))
      clear HX1 HX2
      go_wp2_with fail
      refine (crParse a1 cap1 b W4 HX4.out).mono ?_
      rintro e W5 ⟨⟨u1, rfl, ho1⟩, hb5⟩
      obtain ⟨W6, hs6, hl6, hb6, hz6⟩ := parse_box9 (T := 32) (by exact req_size) ho1
      have HO6 := Lib.hid (ho1.bel hb6)
      have HS6 := Lib.hid hs6
      have HL6 := Lib.hid hl6
      have HB6 := Lib.hid (below_next (below_next HB4.out hb5) hb6)
      have HX6 := Lib.hid ((HX4.out.bel' hb5).bel' hb6)
      have HX7 := Lib.hid ((HX5.out.bel' hb5).bel' hb6)
      clear hs6 hl6 hb5 hb6 hz6 ho1 HX4 HX5 HB4
      unfold tupE
      generalize hpp : parseP b = r at *
      have HPP := Lib.hid hpp
      clear hpp
      obtain ⟨D, hD⟩ : ∃ D, D = (reqOf r).cells u1 := ⟨_, rfl⟩
      have HD := Lib.hid hD
      rw [← hD] at HS6 HL6 ⊢
      have HDZ := Lib.hid (show (Try.prog.info? 32).map (·.size) = some D.size by rw [hD]; exact req_size)
      clear hD
      obtain ⟨er, eb, her, kgd, keq, heb⟩ : ∃ er eb, errV (errN r) = er ∧ (∀ x w, (eqGuard .eql 34 x (.const .nilIface) er .nilIface).run Try.prog w = .ok () w) ∧ (∀ w, (binOp .eql 34 er .nilIface).run Try.prog w = .ok (.bool eb) w) ∧ eb = r.isSome := by
        cases r with
        | none => exact ⟨_, false, rfl, guard_lit, fun w => code_eql_nil w 2, rfl⟩
        | some q => exact ⟨_, true, rfl, guard_lit, code_nil_nil, rfl⟩
      rw [her]
      have HEB := Lib.hid heb
      clear her heb
      go_upto_if 77 with ((with_reducible refine atStore ?_); refine wpList_store_by rfl 32 (.tmp 14) (.tmp 74) rfl (.pointer (some ⟨W5.heap.size, 0, none⟩)) _ rfl rfl HS6.out ?_)
      go_cut [] (fun wx => Hid (Below w.heap.size w wx ∧ Reads wx (.slice a2 c.length cap2) c))
      case first =>
        cases r with
        | none =>
          obtain rfl : eb = false := HEB.out
          go_wp2_with fail
          go_meet
          exact Lib.hid ⟨HB6.out, HX7.out⟩
        | some p =>
          obtain rfl : eb = true := HEB.out
          have k1 := code_nil_nil
          have k2 := code_nil_neq_nil
          have HPF := Lib.hid (parseP_wf HPP.out)
          have HPQ := Lib.hid (putQ_parse HPP.out)
          go_wp2_with ((with_reducible refine atLoad ?_); refine wpList_load_row rfl 32 (.tmp 14) rfl W5.heap.size rfl 32 D (0, 0) _ HL6.out Try.underlying32 rfl HDZ.out ?_)
          rw [HD.out]
          refine (cPutReq p u1 W6 ⟨req_rowOf HO6.out, HPF.out.1⟩ (by have := HPF.out.2; omega)).mono ?_
          rintro e W7 ⟨hret, hb7⟩
          obtain ⟨v7, rfl, ho7⟩ := hret.2 _ HPQ.out
          obtain ⟨a7, cap7, rfl, hby7, _, _⟩ := ho7.out
          have HB7 := Lib.hid (And.intro (below_next HB6.out hb7) (HX7.out.bel' hb7))
          have kc1 := run_string_bytes W7 a7 cap7 _ hby7
          have kc2 := run_string_bytes W7 a1 cap1 _ (HX6.out.bel' hb7).bytes
          clear hret hb7 ho7 hby7
          go_wp2_with fail
          go_meet
          exact HB7
      case rest =>
        have HB8 := hcut
        clear hcut HS6 HL6 HO6 HB6 HX6 HX7 HPP HD HDZ HEB keq kgd
        generalize wc = W8 at *
        go_wp2_with fail
        refine (crDecode a2 cap2 c W8 HB8.out.2).mono ?_
        rintro e W9 ⟨⟨p, y, rfl, ho1, ho2⟩, hb9⟩
        obtain ⟨W10, hs, hl, hb10, hz⟩ := dec_put ho1 ho2
        have HO1 := Lib.hid (ho1.bel hb10)
        have HO2 := Lib.hid (ho2.bel hb10)
        have HS10 := Lib.hid hs
        have HL10 := Lib.hid hl
        have HZ10 := Lib.hid hz
        have HB10 := Lib.hid (below_next (below_next HB8.out.1 hb9) hb10)
        have HX10 := Lib.hid ((HB8.out.2.bel' hb9).bel' hb10)
        clear hs hl hb9 hb10 hz ho1 ho2 HB8
        generalize hpp : decodeP c = r at *
        have HPP := Lib.hid hpp
        clear hpp
        obtain ⟨D, hD⟩ : ∃ D, D = (resOf r).cells p y := ⟨_, rfl⟩
        have HD := Lib.hid hD
        rw [← hD] at HS10 HL10 ⊢
        have HDZ := Lib.hid (show (Try.prog.info? 49).map (·.size) = some D.size by rw [hD]; exact dres_size)
        clear hD
        cases r with
        | none =>
          rw [show errV (decErr none) = .iface 57 (.int .i64 2) from rfl]
          have k1 := code_neq_nil
          have k2 := code_eql
          have c0 := (cell_of_row W10 W9.heap.size 0 _ _ _ HL10.out).trans (show _ = some (.int .i64 0) from by rw [HD.out]; rfl)
          go_wp2_with ((with_reducible refine atStore ?_); refine wpList_store_by rfl 49 (.tmp 18) (.tmp 95) rfl (.pointer (some ⟨W9.heap.size, 0, none⟩)) _ rfl rfl HS10.out ?_)
          go_ret
          exact ⟨rfl, HB10.out⟩
        | some r =>
          rw [show errV (decErr (some r)) = .nilIface from rfl]
          have k2 := code_nil_neq_nil
          obtain ⟨hw, hp9, hb9⟩ := decode_form HPP.out
          have HE := Lib.hid (encL_decode HPP.out)
          have HRI := Lib.hid (res_in (r := r) hw HO1.out HO2.out)
          have HPN := Lib.hid (And.intro hp9 hb9)
          clear hw hp9 hb9
          go_wp2_with ((with_reducible refine atStore ?_); refine wpList_store_by rfl 49 (.tmp 18) (.tmp 95) rfl (.pointer (some ⟨W9.heap.size, 0, none⟩)) _ rfl rfl HS10.out ?_)
          have HRB := Lib.hid (show Below W10.heap.size W10 W10.drew from (Below.refl _ _).drew)
          refine Reg.wp_region0 (by kernel_rfl) (by kernel_rfl) ?_
          refine Reg.seg0 2 (by kernel_rfl) rfl ?_
          apply Exists.intro
          refine ⟨fun e => ?_, ?_⟩
          · simp only [List.take_succ_cons, List.take_zero]
            repeat (go_big_quiet_step ((intro _; rfl)))
            refine wpQuiet_nil ?_
            exact rfl
          simp only [List.drop_succ_cons, List.drop_zero, Nat.reduceAdd]
          refine Reg.const0 (.agg D) (fun e w2 hR hf => ⟨by rfl, ?_⟩) ?_
          · refine Reg.gives_mono (fun v' w' h => ?_) (rgives_loadB (.tmp 18) rfl rfl (((HRB.out.trans (hR.mono HRB.out.size)).block _ HZ10.out).trans HL10.out) Try.underlying49 HDZ.out)
            obtain ⟨rfl, rfl⟩ := h
            exact ⟨Reg.bel_refl _, rfl⟩
          simp only [Act.put, List.setIfInBounds_toArray, List.set_cons_zero, List.set_cons_succ, Nat.reduceAdd]
          refine Reg.fact0 (fun v w => Bytes w v c) (fun v w w' h hR => h.bel hR) (fun e w2 hR hf => ⟨by rfl, ?_⟩) ?_
          · have HI := Lib.hid (HRI.out.bel' (HRB.out.trans (hR.mono HRB.out.size)))
            clear hf hR
            unfold Reg.gives
            go_simp
            rw [HD.out]
            refine (cEncode r p y w2 HI.out (by have := HPN.out; omega) (by have := HPN.out; omega)).mono ?_
            rw [HE.out]
            rintro en w3 ⟨v3, rfl, ho, hb⟩
            exact ⟨_, rfl, hb, ho.bytes⟩
          simp only [Act.put, List.setIfInBounds_toArray, List.set_cons_zero, List.set_cons_succ, Nat.reduceAdd]
          refine Reg.const0 (.string ⟨c.toArray⟩) (fun e w2 hR hf => ⟨by rfl, ?_⟩) ?_
          · have hby := Reg.factsAt_here hf (by kernel_rfl)
            refine Reg.gives_mono (fun v' w' h => ?_) (gives_string (.tmp 113) rfl rfl hby)
            obtain ⟨rfl, rfl⟩ := h
            exact ⟨Reg.bel_refl _, rfl⟩
          simp only [Act.put, List.setIfInBounds_toArray, List.set_cons_zero, List.set_cons_succ, Nat.reduceAdd]
          refine Reg.seg0 1 (by kernel_rfl) rfl ?_
          apply Exists.intro
          refine ⟨fun e => ?_, ?_⟩
          · simp only [List.take_succ_cons, List.take_zero]
            repeat (go_big_quiet_step ((intro _; rfl)))
            refine wpQuiet_nil ?_
            exact rfl
          simp only [List.drop_succ_cons, List.drop_zero, Nat.reduceAdd]
          refine Reg.const0 (.string ⟨c.toArray⟩) (fun e w2 hR hf => ⟨by rfl, ?_⟩) ?_
          · have hby := HX10.out.bel' (HRB.out.trans (hR.mono HRB.out.size))
            refine Reg.gives_mono (fun v' w' h => ?_) (gives_string (.tmp 115) rfl rfl ⟨a2, cap2, rfl, hby.bytes⟩)
            obtain ⟨rfl, rfl⟩ := h
            exact ⟨Reg.bel_refl _, rfl⟩
          simp only [Act.put, List.setIfInBounds_toArray, List.set_cons_zero, List.set_cons_succ, Nat.reduceAdd]
          refine Reg.seg0 3 (by kernel_rfl) rfl ?_
          apply Exists.intro
          refine ⟨fun e => ?_, ?_⟩
          · simp only [List.take_succ_cons, List.take_zero]
            repeat (go_big_quiet_step ((intro _; rfl)))
            refine wpQuiet_nil ?_
            exact rfl
          simp only [List.drop_succ_cons, List.drop_zero, Nat.reduceAdd]
          intro e W11 hR hJ hf
          have HB11 := Lib.hid (below_next HB10.out (HRB.out.trans (hR.mono HRB.out.size)))
          clear hR hJ hf
          go_wp2_with fail
          go_ret
          exact ⟨rfl, HB11.out⟩
theorem CommandBack_walk (a0 : CReq) (u0 : Value) (a1 : Option Addr) (len1 cap1 : Nat) (z1 : List Int) (a2 : Option Addr) (len2 cap2 : Nat) (z2 : List Int) (w : World) (w0 : ReqIn w a0 u0 ∧ a0.ops.length ≤ maxLen) (w1 : IsRow .u8 w a1 len1 cap1 z1) (w2 : IsRow .u8 w a2 len2 cap2 z2) : LawOk Try.prog 5 #[.agg (a0.cells u0), .slice a1 len1 cap1, .slice a2 len2 cap2] w := by
  obtain ⟨b, rfl, hb⟩ := w1.reads
  obtain ⟨c, rfl, hc⟩ := w2.reads
  exact backMain a0 u0 a1 cap1 b a2 cap2 c w w0.1 w0.2 hb hc
end Go.Proofs.Ytlngefhjoobmdaa
