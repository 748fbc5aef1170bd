/- The walk of CommandPuts. -/
import Derived.Test.YtlngefhjoobmdaaZCommandParsesWalk
import Derived.Test.YtlngefhjoobmdaaMg9
namespace Go.Proofs.Ytlngefhjoobmdaa
open Go.RowKit
theorem res_size : (Try.prog.info? 49).map (·.size) = some 14 := by kernel_rfl
theorem few_ops {q : CReq} (h : fewQ q = true) : q.ops.length ≤ 20 := by
  unfold fewQ at h
  simp only [Bool.and_eq_true, decide_eq_true_eq] at h
  exact h.2.1
/-- A response in the document's struct, as the region has it. -/
def RIn (r : CRes) (b v : Value) (w : World) : Prop := ∃ p s, v = .agg (r.rcells p s b) ∧ ResIn w r p b ∧ ∃ a cap, s = .slice a 4 cap ∧ IsRowOf natC (fun _ => True) 1 w a r.stats
theorem RIn.bel {r : CRes} {b v : Value} {w w' : World} (h : RIn r b v w) (hb : Below w.heap.size w w') : RIn r b v w' := by
  obtain ⟨p, s, h1, h2, a, cap, h3, h4⟩ := h
  obtain ⟨⟨a1, c1, e1, r1⟩, ⟨a2, c2, e2, r2⟩, hw⟩ := h2
  exact ⟨p, s, h1, ⟨⟨a1, c1, e1, r1.bel hb⟩, ⟨a2, c2, e2, r2.bel hb⟩, hw⟩, a, cap, h3, h4.bel hb⟩
theorem ResIn.bel {r : CRes} {p b : Value} {w w' : World} (h : ResIn w r p b) (hb : Below w.heap.size w w') : ResIn w' r p b := by
  obtain ⟨⟨a1, c1, e1, r1⟩, ⟨a2, c2, e2, r2⟩, hw⟩ := h
  exact ⟨⟨a1, c1, e1, r1.bel hb⟩, ⟨a2, c2, e2, r2.bel hb⟩, hw⟩
theorem told_rin {r : CRes} {b p s : Value} {W : World} {g : Nat} {B : Nat} (hr : r.wf) (hb : ∃ a cap, b = .slice a r.bk.length cap ∧ IsRowOf intC (fun _ => True) 1 W a r.bk) (ho : OwnOf 101 CPair.cells 2 B W p r.page) (hs : s = .slice (some ⟨g, 0, none⟩) 4 4) (hg : IsRowOf natC (fun _ => True) 1 W (some ⟨g, 0, none⟩) r.stats) : RIn r b (.agg (r.rcells p s b)) W := by
  obtain ⟨a, cap, h1, h2, _⟩ := ho.rowOf pair_len (W := fun _ => True) (fun _ _ => trivial)
  exact ⟨p, s, rfl, ⟨⟨a, cap, h1, h2⟩, hb, hr⟩, _, 4, hs, hg⟩
theorem rgives_load {w : World} {g : Nat} {T : TypeId} {C : Array Value} {fs} {o : Oper} {a : Act} (x : Operand) (ho : o.op = .load T x) (hx : a.eval x = .pointer (some ⟨g, 0, none⟩)) (hg : w.heap[g]? = some (.cells C T (0, 0))) (hu : Try.prog.underlying T = some (.struct fs)) (hi : (Try.prog.info? T).map (·.size) = some C.size) : Reg.gives Try.prog o a w (fun v w' => v = .agg C ∧ w' = w) :=
  gives_load_op T x ho _ _ hx (run_load_box w g T C fs hg hu hi)
set_option maxRecDepth 100000 in
set_option maxHeartbeats 40000000 in
theorem putsMain (q : CReq) (u : Value) (r : CRes) (p b : Value) (w : World) (h : ReqIn w q u) (hm : q.ops.length ≤ maxLen) (k : ResIn w r p b) (hpm : r.page.length ≤ maxLen) (hbm : r.bk.length ≤ maxLen) :
    LawOk Try.prog 4 #[.agg (q.cells u), .agg (r.cells p b)] w := by
  unfold LawOk
  obtain ⟨pa, pcap, hp, hpr⟩ := k.pg
  obtain ⟨ba, bcap, hb, _⟩ := k.bk
  have HK := Lib.hid k
  have HPR := Lib.hid hpr
  have HPM := Lib.hid hpm
  have HBM := Lib.hid hbm
  have HQSZ := Lib.hid (creq_size q u)
  have H49Z := Lib.hid (show (Try.prog.info? 49).map (·.size) = some (r.cells p b).size from res_size)
  have HFEW := Lib.hid (fun W (hi : ReqIn W q u) => lawFew q u W hi.sl (by unfold maxLen at hm; exact hm))
  have HPUT := Lib.hid (fun W (hi : ReqIn W q u) (hn : q.ops.length ≤ 1000000) => cPutReq q u W hi hn)
  have HAS := Lib.hid (fun W (hi : ReqIn W q u) (hn : q.ops.length ≤ 1000000) => lawAs q u W hi.sl (by omega))
  have HENC := Lib.hid (fun W (hi : ResIn W r p b) h1 h2 => cEncode r p b W hi h1 h2)
  have HTOLD := Lib.hid (fun W (hi : ResIn W r p b) h1 => lawTold r p b W hi h1)
  have HB0 := Lib.hid (((Below.refl w.heap.size w).alloc (Nat.le_refl _) (.cells (q.cells u) 32)).alloc (by simp) (.cells (r.cells p b) 49))
  have HR1 := Lib.hid ((Below.heap_alloc (w.alloc (.cells (q.cells u) 32)) (.cells (r.cells p b) 49) w.heap.size (by simp)).trans (heap_alloc_new w (.cells (q.cells u) 32)))
  have HR2 := Lib.hid (heap_alloc_new (w.alloc (.cells (q.cells u) 32)) (.cells (r.cells p b) 49))
  rw [World.size_alloc] at HR2
  have HLT := Lib.hid (show w.heap.size + 1 < ((w.alloc (.cells (q.cells u) 32)).alloc (.cells (r.cells p b) 49)).heap.size by simp)
  have HIN0 := Lib.hid (h.bel HB0.out)
  have HRI0 := Lib.hid (k.bel HB0.out)
  have HC7 := Lib.hid (show (r.cells p b)[7]? = some (.slice pa r.page.length pcap) from by rw [hp]; rfl)
  have HC13 := Lib.hid (show (r.cells p b)[13]? = some (.slice ba r.bk.length bcap) from by rw [hb]; rfl)
  have HC6 := Lib.hid (show (r.cells p b)[6]? = some (.string r.val) from rfl)
  generalize hCq : q.cells u = C at *
  generalize hCr : r.cells p b = D at *
  clear h hm k hpm hbm hpr hp hb hCq hCr
  go_enter Try.func4, Try.ntmps4
  go_wp2_with fail
  generalize ((w.alloc (.cells C 32)).alloc (.cells D 49)) = W0 at *
  refine (cmdUp _).mono ?_
  rintro e W1 ⟨rfl, hb1⟩
  have HB1 := Lib.hid (below_next HB0.out hb1)
  have HIN1 := Lib.hid (HIN0.out.bel hb1)
  have HRI1 := Lib.hid (HRI0.out.bel hb1)
  have HQ1 := Lib.hid ((hb1.block w.heap.size (by have := HLT.out; omega)).trans HR1.out)
  have HS1 := Lib.hid ((hb1.block (w.heap.size + 1) HLT.out).trans HR2.out)
  have HLT1 := Lib.hid (Nat.lt_of_lt_of_le HLT.out hb1.size)
  clear hb1 HB0 HIN0 HRI0 HR1 HR2 HLT
  go_wp2_with ((with_reducible refine atLoad ?_); refine wpList_load_row rfl 32 (.tmp 2) rfl w.heap.size rfl 32 C (0, 0) _ HQ1.out Try.underlying32 rfl HQSZ.out ?_)
  refine (HFEW.out _ HIN1.out).mono ?_
  rintro e W2 ⟨rfl, hb2⟩
  have HB2 := Lib.hid (below_next HB1.out hb2)
  have HIN2 := Lib.hid (HIN1.out.bel hb2)
  have HRI2 := Lib.hid (HRI1.out.bel hb2)
  have HQ2 := Lib.hid ((hb2.block w.heap.size (by have := HLT1.out; omega)).trans HQ1.out)
  have HS2 := Lib.hid ((hb2.block (w.heap.size + 1) HLT1.out).trans HS1.out)
  have HLT2 := Lib.hid (Nat.lt_of_lt_of_le HLT1.out hb2.size)
  clear hb2 HB1 HIN1 HRI1 HQ1 HS1 HLT1
  cases hfew : fewQ q with
  | false =>
    clear hfew
    go_wp2_with fail
    go_ret
    exact ⟨rfl, HB2.out⟩
  | true =>
    have HOPS := Lib.hid (few_ops hfew)
    clear hfew
    have c7 := (cell_of_row W2 (w.heap.size + 1) 7 _ _ _ HS2.out).trans HC7.out
    have c13 := (cell_of_row W2 (w.heap.size + 1) 13 _ _ _ HS2.out).trans HC13.out
    have c6 := (cell_of_row W2 (w.heap.size + 1) 6 _ _ _ HS2.out).trans HC6.out
    by_cases h1 : 300 < r.page.length
    · have d1 : decide ((300 : Int) < (r.page.length : Int)) = true := by rw [decide_eq_true_iff]; omega
      clear h1
      go_wp2_with fail
      go_ret
      exact ⟨rfl, HB2.out⟩
    have d1 : decide ((300 : Int) < (r.page.length : Int)) = false := by rw [decide_eq_false_iff_not]; omega
    by_cases h2 : 300 < r.bk.length
    · have d2 : decide ((300 : Int) < (r.bk.length : Int)) = true := by rw [decide_eq_true_iff]; omega
      clear h1 h2
      go_wp2_with fail
      go_ret
      exact ⟨rfl, HB2.out⟩
    have d2 : decide ((300 : Int) < (r.bk.length : Int)) = false := by rw [decide_eq_false_iff_not]; omega
    by_cases h3 : 2000 < r.val.size
    · have d3 : decide ((2000 : Int) < (r.val.size : Int)) = true := by rw [decide_eq_true_iff]; omega
      clear h1 h2 h3
      go_wp2_with fail
      go_ret
      exact ⟨rfl, HB2.out⟩
    have d3 : decide ((2000 : Int) < (r.val.size : Int)) = false := by rw [decide_eq_false_iff_not]; omega
    have HPN := Lib.hid (show r.page.length ≤ 300 by omega)
    have HBN := Lib.hid (show r.bk.length ≤ 300 by omega)
    clear h1 h2 h3
    go_wp2_with fail
    clear c13 c6 d1 d2 d3 c7
    generalize hpp : r.page.length = n at *
    have HPP := Lib.hid hpp
    clear hpp
    go_loopw [6] (fun i wr => ∃ j : Nat, j ≤ n ∧ i = .int .i64 j ∧ wr = W2) (fun i _ => n - (intOf i).toNat)
    case atStart => exact ⟨0, Nat.zero_le _, rfl, rfl⟩
    case round =>
      obtain ⟨j, hj, rfl, rfl⟩ := hrel
      have c7 := (cell_of_row wr (w.heap.size + 1) 7 _ _ _ HS2.out).trans HC7.out
      by_cases hlt : j < n
      · have hji : (j : Int) < (n : Int) := by omega
        have hj9 : j < 1000 := by have := HPN.out; omega
        have hjl : j < r.page.length := by rw [HPP.out]; exact hlt
        obtain ⟨b1, o1, rfl, hb1, hc1, _⟩ := HPR.out j hjl
        have hx1 : wr.cell? ⟨b1, o1 + j * 2, none⟩ = some (.string r.page[j].key) := (HB2.out.cell (p := ⟨b1, o1 + j * 2 + 0, none⟩) hb1).trans (hc1 0 (by omega))
        have hx2 : wr.cell? ⟨b1, o1 + j * 2 + 1, none⟩ = some (.string r.page[j].val) := (HB2.out.cell (p := ⟨b1, o1 + j * 2 + 1, none⟩) hb1).trans (hc1 1 (by omega))
        clear hc1 hb1
        generalize r.page[j] = x at *
        clear hjl
        obtain ⟨xk, xv⟩ := x
        simp only at hx1 hx2
        by_cases h1 : 100 < xk.size
        · have d1 : decide ((100 : Int) < (xk.size : Int)) = true := by rw [decide_eq_true_iff]; omega
          clear h1
          go_wp2_with fail
          go_ret
          exact ⟨rfl, HB2.out⟩
        have d1 : decide ((100 : Int) < (xk.size : Int)) = false := by rw [decide_eq_false_iff_not]; omega
        by_cases h2 : 1500 < xv.size
        · have d2 : decide ((1500 : Int) < (xv.size : Int)) = true := by rw [decide_eq_true_iff]; omega
          clear h1 h2
          go_wp2_with fail
          go_ret
          exact ⟨rfl, HB2.out⟩
        have d2 : decide ((1500 : Int) < (xv.size : Int)) = false := by rw [decide_eq_false_iff_not]; omega
        clear h1 h2
        go_wp2_with fail
        go_roundw
        case rel => exact ⟨j + 1, by omega, by go_num, by simp⟩
        case measure => simp [intOf]; omega
      · obtain rfl : j = n := by omega
        clear hlt hj
        go_wp2_with ((with_reducible refine atLoad ?_); refine wpList_load_row rfl 32 (.tmp 2) rfl w.heap.size rfl 32 C (0, 0) _ HQ2.out Try.underlying32 rfl HQSZ.out ?_)
        refine (HPUT.out _ HIN2.out (by have := HOPS.out; omega)).mono ?_
        rw [putQ_written]
        rintro e W3 ⟨hret, hb3⟩
        have HB3 := Lib.hid (below_next HB2.out hb3)
        have HIN3 := Lib.hid (HIN2.out.bel hb3)
        have HRI3 := Lib.hid (HRI2.out.bel hb3)
        have HQ3 := Lib.hid ((hb3.block w.heap.size (by have := HLT2.out; omega)).trans HQ2.out)
        have HS3 := Lib.hid ((hb3.block (w.heap.size + 1) HLT2.out).trans HS2.out)
        have HLT3 := Lib.hid (Nat.lt_of_lt_of_le HLT2.out hb3.size)
        have HRET := Lib.hid hret
        clear hb3 hret HB2 HIN2 HRI2 HQ2 HS2 HLT2 c7
        cases hwr : writtenQ q with
        | none =>
          rw [hwr] at HRET
          have HWR := Lib.hid hwr
          clear hwr
          obtain rfl := HRET.out.1 rfl
          rw [show errV 1 = .iface 57 (.int .i64 1) from rfl]
          clear HRET
          have k1 := code_neq
          go_wp2_with ((with_reducible refine atLoad ?_); refine wpList_load_row rfl 32 (.tmp 2) rfl w.heap.size rfl 32 C (0, 0) _ HQ3.out Try.underlying32 rfl HQSZ.out ?_)
          refine (HAS.out _ HIN3.out (by have := HOPS.out; omega)).mono ?_
          rintro e W4 ⟨⟨vq, rfl, hoq⟩, hb4⟩
          have HB4 := Lib.hid (below_next HB3.out hb4)
          have HB34 := Lib.hid hb4
          have HRI4 := Lib.hid (HRI3.out.bel hb4)
          have HS4 := Lib.hid ((hb4.block (w.heap.size + 1) HLT3.out).trans HS3.out)
          have HLT4 := Lib.hid (Nat.lt_of_lt_of_le HLT3.out hb4.size)
          have HQIN := Lib.hid (show ReqIn W4 q vq from ⟨req_rowOf hoq, HIN3.out.wf⟩)
          clear hoq hb4 HB3 HRI3 HQ3 HS3 HLT3 HIN3
          go_wp2_with fail
          refine (rWritten q vq W4 HQIN.out (by have := HOPS.out; omega)).mono ?_
          rw [HWR.out]
          rintro e W5 ⟨hret, hb5⟩
          have HB5 := Lib.hid (below_next HB4.out hb5)
          have HB45 := Lib.hid hb5
          have HRI5 := Lib.hid (HRI4.out.bel hb5)
          have HS5 := Lib.hid ((hb5.block (w.heap.size + 1) HLT4.out).trans HS4.out)
          have HLT5 := Lib.hid (Nat.lt_of_lt_of_le HLT4.out hb5.size)
          have HRET := Lib.hid hret
          clear hret hb5 HB4 HRI4 HS4 HLT4 HQIN
          obtain ⟨v6, rfl⟩ := HRET.out.1 rfl
          clear HRET
          go_wp2_with fail
          have HRB := Lib.hid (HRI5.out.bel (show Below W5.heap.size W5 W5.drew from (Below.refl _ _).drew))
          refine Reg.wp_region0 (by kernel_rfl) (by kernel_rfl) ?_
          refine Reg.seg0 2 (by kernel_rfl) rfl ?_
          apply Exists.intro
          refine ⟨fun e => ?_, ?_⟩
          · simp only [List.take_succ_cons, List.take_zero]
            repeat (go_big_quiet_step ((intro _; rfl)))
            refine wpQuiet_nil ?_
            exact rfl
          simp only [List.drop_succ_cons, List.drop_zero, Nat.reduceAdd]
          refine Reg.const0 (.agg D) (fun e w2 hR hf => ⟨by rfl, ?_⟩) ?_
          · refine Reg.gives_mono (fun v' w' h => ?_) (rgives_load (.tmp 3) rfl rfl ((hR.block _ HLT5.out).trans HS5.out) Try.underlying49 H49Z.out)
            obtain ⟨rfl, rfl⟩ := h
            exact ⟨Reg.bel_refl _, rfl⟩
          simp only [Act.put, List.setIfInBounds_toArray, List.set_cons_zero, List.set_cons_succ, Nat.reduceAdd]
          refine Reg.fact0 (fun v w => Bytes w v (encL r)) (fun v w w' h hR => h.bel hR) (fun e w2 hR hf => ⟨by rfl, ?_⟩) ?_
          · have HI := Lib.hid (HRB.out.bel hR)
            clear hf hR
            unfold Reg.gives
            go_simp
            refine (HENC.out w2 HI.out (by have := HPN.out; have := HPP.out; omega) (by have := HBN.out; omega)).mono ?_
            rintro en w3 ⟨v3, rfl, ho, hb⟩
            exact ⟨_, rfl, hb, ho.bytes⟩
          simp only [Act.put, List.setIfInBounds_toArray, List.set_cons_zero, List.set_cons_succ, Nat.reduceAdd]
          refine Reg.const0 (.string ⟨(encL r).toArray⟩) (fun e w2 hR hf => ⟨by rfl, ?_⟩) ?_
          · have hby := Reg.factsAt_here hf (by kernel_rfl)
            refine Reg.gives_mono (fun v' w' h => ?_) (gives_string (.tmp 93) rfl rfl hby)
            obtain ⟨rfl, rfl⟩ := h
            exact ⟨Reg.bel_refl _, rfl⟩
          simp only [Act.put, List.setIfInBounds_toArray, List.set_cons_zero, List.set_cons_succ, Nat.reduceAdd]
          refine Reg.const0 (.agg D) (fun e w2 hR hf => ⟨by rfl, ?_⟩) ?_
          · refine Reg.gives_mono (fun v' w' h => ?_) (rgives_load (.tmp 3) rfl rfl ((hR.block _ HLT5.out).trans HS5.out) Try.underlying49 H49Z.out)
            obtain ⟨rfl, rfl⟩ := h
            exact ⟨Reg.bel_refl _, rfl⟩
          simp only [Act.put, List.setIfInBounds_toArray, List.set_cons_zero, List.set_cons_succ, Nat.reduceAdd]
          refine Reg.fact0 (fun v w => RIn r b v w) (fun v w w' h hR => h.bel hR) (fun e w2 hR hf => ⟨by rfl, ?_⟩) ?_
          · have HI := Lib.hid (HRB.out.bel hR)
            clear hf hR
            unfold Reg.gives
            go_simp
            refine (HTOLD.out w2 HI.out (by have := HPN.out; have := HPP.out; omega)).mono ?_
            rintro en w3 ⟨⟨p3, s3, rfl, ho, g3, hs3, _, hg3⟩, hb⟩
            exact ⟨_, rfl, hb, told_rin HI.out.wf (HI.out.bel hb).bk ho hs3 hg3⟩
          simp only [Act.put, List.setIfInBounds_toArray, List.set_cons_zero, List.set_cons_succ, Nat.reduceAdd]
          refine Reg.fact0 (fun v w => Bytes w v (encL r)) (fun v w w' h hR => h.bel hR) (fun e w2 hR hf => ⟨by rfl, ?_⟩) ?_
          · obtain ⟨p3, s3, hv3, hin3, hst3⟩ := Reg.factsAt_here hf (by kernel_rfl)
            have HI := Lib.hid hin3
            have HT := Lib.hid hst3
            clear hf hR hin3 hst3
            unfold Reg.gives
            go_simp
            refine (rEncode r p3 s3 b w2 HI.out HT.out (by have := HPN.out; have := HPP.out; omega) (by have := HBN.out; omega)).mono ?_
            rintro en w3 ⟨v3, rfl, ho, hb⟩
            exact ⟨_, rfl, hb, ho.bytes⟩
          simp only [Act.put, List.setIfInBounds_toArray, List.set_cons_zero, List.set_cons_succ, Nat.reduceAdd]
          refine Reg.const0 (.string ⟨(encL r).toArray⟩) (fun e w2 hR hf => ⟨by rfl, ?_⟩) ?_
          · have hby := Reg.factsAt_here hf (by kernel_rfl)
            refine Reg.gives_mono (fun v' w' h => ?_) (gives_string (.tmp 97) rfl rfl hby)
            obtain ⟨rfl, rfl⟩ := h
            exact ⟨Reg.bel_refl _, rfl⟩
          simp only [Act.put, List.setIfInBounds_toArray, List.set_cons_zero, List.set_cons_succ, Nat.reduceAdd]
          refine Reg.seg0 3 (by kernel_rfl) rfl ?_
          apply Exists.intro
          refine ⟨fun e => ?_, ?_⟩
          · simp only [List.take_succ_cons, List.take_zero]
            repeat (go_big_quiet_step ((intro _; rfl)))
            refine wpQuiet_nil ?_
            exact rfl
          simp only [List.drop_succ_cons, List.drop_zero, Nat.reduceAdd]
          intro e W9 hR hJ hf
          have HB9 := Lib.hid (below_next HB5.out (((Below.refl _ _).drew).trans hR))
          clear hR hJ hf
          go_wp2_with fail
          go_ret
          exact ⟨rfl, HB9.out⟩
        | some L =>
          rw [hwr] at HRET
          have HWR := Lib.hid hwr
          clear hwr
          obtain ⟨v3, rfl, ho3⟩ := HRET.out.2 _ rfl
          obtain ⟨a3, cap3, rfl, hby3, _, _⟩ := ho3.out
          have HBY := Lib.hid hby3
          clear HRET ho3 hby3
          have k1 := code_nil_nil
          go_wp2_with ((with_reducible refine atLoad ?_); refine wpList_load_row rfl 32 (.tmp 2) rfl w.heap.size rfl 32 C (0, 0) _ HQ3.out Try.underlying32 rfl HQSZ.out ?_)
          refine (HAS.out _ HIN3.out (by have := HOPS.out; omega)).mono ?_
          rintro e W4 ⟨⟨vq, rfl, hoq⟩, hb4⟩
          have HB4 := Lib.hid (below_next HB3.out hb4)
          have HB34 := Lib.hid hb4
          have HRI4 := Lib.hid (HRI3.out.bel hb4)
          have HS4 := Lib.hid ((hb4.block (w.heap.size + 1) HLT3.out).trans HS3.out)
          have HLT4 := Lib.hid (Nat.lt_of_lt_of_le HLT3.out hb4.size)
          have HQIN := Lib.hid (show ReqIn W4 q vq from ⟨req_rowOf hoq, HIN3.out.wf⟩)
          clear hoq hb4 HB3 HRI3 HQ3 HS3 HLT3 HIN3
          go_wp2_with fail
          refine (rWritten q vq W4 HQIN.out (by have := HOPS.out; omega)).mono ?_
          rw [HWR.out]
          rintro e W5 ⟨hret, hb5⟩
          have HB5 := Lib.hid (below_next HB4.out hb5)
          have HB45 := Lib.hid hb5
          have HRI5 := Lib.hid (HRI4.out.bel hb5)
          have HS5 := Lib.hid ((hb5.block (w.heap.size + 1) HLT4.out).trans HS4.out)
          have HLT5 := Lib.hid (Nat.lt_of_lt_of_le HLT4.out hb5.size)
          have HRET := Lib.hid hret
          clear hret hb5 HB4 HRI4 HS4 HLT4 HQIN
          obtain ⟨v6, rfl, ho6⟩ := HRET.out.2 _ rfl
          obtain ⟨a6, cap6, rfl, hby6, _, _⟩ := ho6.out
          have kc1 := run_string_bytes W5 a3 cap3 _ ((HBY.out.bel HB34.out).bel HB45.out)
          have kc2 := run_string_bytes W5 a6 cap6 _ hby6
          clear HRET ho6 hby6
          go_wp2_with fail
          have HRB := Lib.hid (HRI5.out.bel (show Below W5.heap.size W5 W5.drew from (Below.refl _ _).drew))
          refine Reg.wp_region0 (by kernel_rfl) (by kernel_rfl) ?_
          refine Reg.seg0 2 (by kernel_rfl) rfl ?_
          apply Exists.intro
          refine ⟨fun e => ?_, ?_⟩
          · simp only [List.take_succ_cons, List.take_zero]
            repeat (go_big_quiet_step ((intro _; rfl)))
            refine wpQuiet_nil ?_
            exact rfl
          simp only [List.drop_succ_cons, List.drop_zero, Nat.reduceAdd]
          refine Reg.const0 (.agg D) (fun e w2 hR hf => ⟨by rfl, ?_⟩) ?_
          · refine Reg.gives_mono (fun v' w' h => ?_) (rgives_load (.tmp 3) rfl rfl ((hR.block _ HLT5.out).trans HS5.out) Try.underlying49 H49Z.out)
            obtain ⟨rfl, rfl⟩ := h
            exact ⟨Reg.bel_refl _, rfl⟩
          simp only [Act.put, List.setIfInBounds_toArray, List.set_cons_zero, List.set_cons_succ, Nat.reduceAdd]
          refine Reg.fact0 (fun v w => Bytes w v (encL r)) (fun v w w' h hR => h.bel hR) (fun e w2 hR hf => ⟨by rfl, ?_⟩) ?_
          · have HI := Lib.hid (HRB.out.bel hR)
            clear hf hR
            unfold Reg.gives
            go_simp
            refine (HENC.out w2 HI.out (by have := HPN.out; have := HPP.out; omega) (by have := HBN.out; omega)).mono ?_
            rintro en w3 ⟨v3, rfl, ho, hb⟩
            exact ⟨_, rfl, hb, ho.bytes⟩
          simp only [Act.put, List.setIfInBounds_toArray, List.set_cons_zero, List.set_cons_succ, Nat.reduceAdd]
          refine Reg.const0 (.string ⟨(encL r).toArray⟩) (fun e w2 hR hf => ⟨by rfl, ?_⟩) ?_
          · have hby := Reg.factsAt_here hf (by kernel_rfl)
            refine Reg.gives_mono (fun v' w' h => ?_) (gives_string (.tmp 93) rfl rfl hby)
            obtain ⟨rfl, rfl⟩ := h
            exact ⟨Reg.bel_refl _, rfl⟩
          simp only [Act.put, List.setIfInBounds_toArray, List.set_cons_zero, List.set_cons_succ, Nat.reduceAdd]
          refine Reg.const0 (.agg D) (fun e w2 hR hf => ⟨by rfl, ?_⟩) ?_
          · refine Reg.gives_mono (fun v' w' h => ?_) (rgives_load (.tmp 3) rfl rfl ((hR.block _ HLT5.out).trans HS5.out) Try.underlying49 H49Z.out)
            obtain ⟨rfl, rfl⟩ := h
            exact ⟨Reg.bel_refl _, rfl⟩
          simp only [Act.put, List.setIfInBounds_toArray, List.set_cons_zero, List.set_cons_succ, Nat.reduceAdd]
          refine Reg.fact0 (fun v w => RIn r b v w) (fun v w w' h hR => h.bel hR) (fun e w2 hR hf => ⟨by rfl, ?_⟩) ?_
          · have HI := Lib.hid (HRB.out.bel hR)
            clear hf hR
            unfold Reg.gives
            go_simp
            refine (HTOLD.out w2 HI.out (by have := HPN.out; have := HPP.out; omega)).mono ?_
            rintro en w3 ⟨⟨p3, s3, rfl, ho, g3, hs3, _, hg3⟩, hb⟩
            exact ⟨_, rfl, hb, told_rin HI.out.wf (HI.out.bel hb).bk ho hs3 hg3⟩
          simp only [Act.put, List.setIfInBounds_toArray, List.set_cons_zero, List.set_cons_succ, Nat.reduceAdd]
          refine Reg.fact0 (fun v w => Bytes w v (encL r)) (fun v w w' h hR => h.bel hR) (fun e w2 hR hf => ⟨by rfl, ?_⟩) ?_
          · obtain ⟨p3, s3, hv3, hin3, hst3⟩ := Reg.factsAt_here hf (by kernel_rfl)
            have HI := Lib.hid hin3
            have HT := Lib.hid hst3
            clear hf hR hin3 hst3
            unfold Reg.gives
            go_simp
            refine (rEncode r p3 s3 b w2 HI.out HT.out (by have := HPN.out; have := HPP.out; omega) (by have := HBN.out; omega)).mono ?_
            rintro en w3 ⟨v3, rfl, ho, hb⟩
            exact ⟨_, rfl, hb, ho.bytes⟩
          simp only [Act.put, List.setIfInBounds_toArray, List.set_cons_zero, List.set_cons_succ, Nat.reduceAdd]
          refine Reg.const0 (.string ⟨(encL r).toArray⟩) (fun e w2 hR hf => ⟨by rfl, ?_⟩) ?_
          · have hby := Reg.factsAt_here hf (by kernel_rfl)
            refine Reg.gives_mono (fun v' w' h => ?_) (gives_string (.tmp 97) rfl rfl hby)
            obtain ⟨rfl, rfl⟩ := h
            exact ⟨Reg.bel_refl _, rfl⟩
          simp only [Act.put, List.setIfInBounds_toArray, List.set_cons_zero, List.set_cons_succ, Nat.reduceAdd]
          refine Reg.seg0 3 (by kernel_rfl) rfl ?_
          apply Exists.intro
          refine ⟨fun e => ?_, ?_⟩
          · simp only [List.take_succ_cons, List.take_zero]
            repeat (go_big_quiet_step ((intro _; rfl)))
            refine wpQuiet_nil ?_
            exact rfl
          simp only [List.drop_succ_cons, List.drop_zero, Nat.reduceAdd]
          intro e W9 hR hJ hf
          have HB9 := Lib.hid (below_next HB5.out (((Below.refl _ _).drew).trans hR))
          clear hR hJ hf
          go_wp2_with fail
          go_ret
          exact ⟨rfl, HB9.out⟩
theorem CommandPuts_walk (a0 : CReq) (u0 : Value) (a1 : CRes) (p1 b1 : Value) (w : World) (w0 : ReqIn w a0 u0 ∧ a0.ops.length ≤ maxLen) (w1 : ResIn w a1 p1 b1 ∧ a1.page.length ≤ maxLen ∧ a1.bk.length ≤ maxLen) : LawOk Try.prog 4 #[.agg (a0.cells u0), .agg (a1.cells p1 b1)] w := putsMain a0 u0 a1 p1 b1 w w0.1 w0.2 w1.1 w1.2.1 w1.2.2
end Go.Proofs.Ytlngefhjoobmdaa
