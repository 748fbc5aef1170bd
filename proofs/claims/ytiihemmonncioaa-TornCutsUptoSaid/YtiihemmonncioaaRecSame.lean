/- The contract of the reference's Same. -/
import Derived.Test.YtiihemmonncioaaRecRow
import Derived.Test.YtiihemmonncioaaRegion
import Derived.BigQuiet
namespace Go.Proofs.Ytiihemmonncioaa
open Go.RowKit
theorem gives_load_by {o : Oper} {a : Act} {w : World} (ty : TypeId) (x : Operand) (ho : o.op = .load ty x) (p v : Value) (hx : a.eval x = p) (hr : (Instr.loadAt ty p).run Try.prog w = .ok v w) : Reg.gives Try.prog o a w (fun v' w' => v' = v ∧ w' = w) := by
  unfold Reg.gives execOp
  simp only [ho, hx, Sem.run_bind, hr, Result.andThen_ok, Sem.run_pure]
  exact ⟨trivial, trivial⟩
theorem lists_ne {α : Type} {l m : List α} {j : Nat} (h1 : j < l.length) (h2 : j < m.length) (h : l[j] ≠ m[j]) : l ≠ m := by
  intro e
  subst e
  exact h rfl
set_option maxRecDepth 100000 in
set_option maxHeartbeats 4000000 in
theorem recSame (a1 : Option Addr) (c1 : Nat) (l : List Rec) (a2 : Option Addr) (c2 : Nat) (m : List Rec) (w : World) (hl : l.length ≤ 1000000000) (h1 : IsRecs w a1 l) (h2 : IsRecs w a2 m) :
    Calls Try.prog 24 #[.slice a1 l.length c1, .slice a2 m.length c2] w (BoolOk (decide (l = m)) w) := by
  have H1 := Lib.hid h1
  have H2 := Lib.hid h2
  clear h1 h2
  by_cases hne : l.length = m.length
  rotate_left
  · have d0 : ((l.length : Int) != (m.length : Int)) = true := by rw [bne_iff_ne]; omega
    have hd : decide (l = m) = false := decide_eq_false (fun e => hne (by rw [e]))
    have HD := Lib.hid hd
    clear hd hne
    go_enter Try.func24, Try.ntmps24
    go_wp2
    go_ret
    exact ⟨by rw [HD.out]; rfl, Below.refl _ _⟩
  have d0 : ((l.length : Int) != (m.length : Int)) = false := by rw [hne]; simp
  have HNE := Lib.hid hne
  clear hne
  go_enter Try.func24, Try.ntmps24
  go_wp2
  go_loopw [5] (fun i wr => ∃ j : Nat, j ≤ l.length ∧ i = .int .i64 j ∧ Hid (l.take j = m.take j) ∧ Hid (Below w.heap.size w wr)) (fun i _ => l.length - (intOf i).toNat)
  case atStart => exact ⟨0, Nat.zero_le _, rfl, rfl, Below.refl _ _⟩
  case round =>
    obtain ⟨j, hj, rfl, HT, HB⟩ := hrel
    by_cases hlt : j < l.length
    · have hlm : j < m.length := by have := HNE.out; omega
      obtain ⟨b1, o1, rfl, hb1, hr1, hwa⟩ := H1.out j hlt
      obtain ⟨b2, o2, rfl, hb2, hr2, hwb⟩ := H2.out j hlm
      have HLD1 := Lib.hid (fun (w2 : World) (hb : Below w.heap.size w w2) => run_load_rec w2 b1 (o1 + j * 14) l[j] (fun q hq => by rw [← hr1 q hq]; exact hb.cell (p := ⟨b1, o1 + j * 14 + q, none⟩) hb1))
      have HLD2 := Lib.hid (fun (w2 : World) (hb : Below w.heap.size w w2) => run_load_rec w2 b2 (o2 + j * 14) m[j] (fun q hq => by rw [← hr2 q hq]; exact hb.cell (p := ⟨b2, o2 + j * 14 + q, none⟩) hb2))
      have HTK := Lib.hid (fun (e : l[j] = m[j]) => show l.take (j + 1) = m.take (j + 1) from by rw [List.take_succ_eq_append_getElem hlt, List.take_succ_eq_append_getElem hlm, HT.out, e])
      have HBAD := Lib.hid (fun (e : l[j] ≠ m[j]) => show decide (l = m) = false from decide_eq_false (lists_ne hlt hlm e))
      have HNQ := Lib.hid (fun w => rec_neq w l[j] m[j])
      have hml : (j : Int) < (m.length : Int) := by omega
      clear hwa hwb hr1 hr2 hb1 hb2
      generalize l[j] = r at *
      generalize m[j] = s at *
      clear hlm
      unfold Rec.v at HLD1 HLD2 HNQ
      generalize r.cells = C at *
      generalize s.cells = D at *
      go_wp2
      refine Reg.wp_region0 (by kernel_rfl) (by kernel_rfl) ?_
      refine Reg.seg0 3 (by kernel_rfl) rfl ?_
      apply Exists.intro
      refine ⟨fun e => ?_, ?_⟩
      · simp only [List.take_succ_cons, List.take_zero]
        repeat (go_big_quiet_step ((intro _; rfl)))
        refine wpQuiet_nil ?_
        exact rfl
      simp only [List.drop_succ_cons, List.drop_zero, Nat.reduceAdd]
      refine Reg.const0 (.agg C) (fun e w2 hR hf => ⟨by rfl, ?_⟩) ?_
      · refine Reg.gives_mono (fun v' w' h => ?_) (gives_load_by 61 (.tmp 19) rfl _ _ rfl (HLD1.out w2 (below_next HB.out (((Below.refl _ _).drew).trans hR))))
        obtain ⟨rfl, rfl⟩ := h
        exact ⟨Reg.bel_refl _, rfl⟩
      simp only [Act.put, List.setIfInBounds_toArray, List.set_cons_zero, List.set_cons_succ, Nat.reduceAdd]
      refine Reg.seg0 3 (by kernel_rfl) rfl ?_
      apply Exists.intro
      refine ⟨fun e => ?_, ?_⟩
      · simp only [List.take_succ_cons, List.take_zero]
        repeat (go_big_quiet_step ((intro _; rfl)))
        refine wpQuiet_nil ?_
        exact rfl
      simp only [List.drop_succ_cons, List.drop_zero, Nat.reduceAdd]
      refine Reg.const0 (.agg D) (fun e w2 hR hf => ⟨by rfl, ?_⟩) ?_
      · refine Reg.gives_mono (fun v' w' h => ?_) (gives_load_by 61 (.tmp 23) rfl _ _ rfl (HLD2.out w2 (below_next HB.out (((Below.refl _ _).drew).trans hR))))
        obtain ⟨rfl, rfl⟩ := h
        exact ⟨Reg.bel_refl _, rfl⟩
      simp only [Act.put, List.setIfInBounds_toArray, List.set_cons_zero, List.set_cons_succ, Nat.reduceAdd]
      refine Reg.const0 (.bool (!decide (r = s))) (fun e w2 hR hf => ⟨by rfl, ?_⟩) ?_
      · refine Reg.gives_mono (fun v' w' h => ?_) (gives_recEq (.tmp 20) (.tmp 24) .neq rfl C D _ rfl rfl HNQ.out)
        obtain ⟨rfl, rfl⟩ := h
        exact ⟨Reg.bel_refl _, rfl⟩
      simp only [Act.put, List.setIfInBounds_toArray, List.set_cons_zero, List.set_cons_succ, Nat.reduceAdd]
      intro e W9 hR hJ hf
      have HB9 := Lib.hid (below_next HB.out (((Below.refl _ _).drew).trans hR))
      clear hR hJ hf
      by_cases hrs : r = s
      · have HK := Lib.hid (HTK.out hrs)
        rw [decide_eq_true hrs]
        clear hrs HTK HBAD HLD1 HLD2 HNQ HT
        go_wp2
        go_roundw
        case rel => exact ⟨j + 1, by omega, by go_num, HK, HB9⟩
        case measure => simp [intOf]; omega
      · have HK := Lib.hid (HBAD.out hrs)
        rw [decide_eq_false hrs]
        clear hrs HTK HBAD HLD1 HLD2 HNQ HT
        go_wp2
        go_ret
        exact ⟨by rw [HK.out]; rfl, HB9.out⟩
    · obtain rfl : j = l.length := by omega
      have HE : Hid (decide (l = m) = true) := decide_eq_true (by have := HT.out; rw [List.take_length, HNE.out, List.take_length] at this; exact this)
      clear HT
      go_wp2
      go_ret
      exact ⟨by rw [HE.out]; rfl, HB.out⟩
end Go.Proofs.Ytiihemmonncioaa
