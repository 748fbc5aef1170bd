/- The walk of RightsStay. -/
import Derived.Test.YtkfpolhglndbkaaTokUp
import Derived.Test.YtkfpolhglndbkaaDeeds
import Derived.Test.YtkfpolhglndbkaaOne
import Derived.BigQuiet
namespace Go.Proofs.Ytkfpolhglndbkaa
open Go.RowKit

def SDone (w : World) (e : Ending) (w' : World) : Prop := e = .returned (.bool true) ∧ Below w.heap.size w w'
theorem putAny (bm n : Nat) (D : DataW Unit) (k r s : Int) (w : World) (ht : IsTable w bm n D) (hk : (Lit.int .u32 k).wf = true) (hn : n < maxLen) :
    Calls Try.prog 28 #[.pointer (some ⟨bm + 1, 0, none⟩), .int .u32 k, .int .i64 r, .int .u64 s] w (fun e w' => ∃ v, e = .returned v ∧ Below bm w w' ∧ ∃ n' D', n' ≤ n + 1 ∧ (D' = D ∨ D' = D.put (.int .u32 k) (tokD r s)) ∧ IsTable w' bm n' D') := by
  have no : ∀ e w', PutNo bm n D w e w' → ∃ v, e = .returned v ∧ Below bm w w' ∧ ∃ n' D', n' ≤ n + 1 ∧ (D' = D ∨ D' = D.put (.int .u32 k) (tokD r s)) ∧ IsTable w' bm n' D' := by
    rintro e w' ⟨⟨c, rfl⟩, h1, h2⟩
    exact ⟨_, rfl, h2, n, D, Nat.le_succ _, .inl rfl, h1⟩
  have yes : ∀ e w', PutYes bm n D k r s w e w' → ∃ v, e = .returned v ∧ Below bm w w' ∧ ∃ n' D', n' ≤ n + 1 ∧ (D' = D ∨ D' = D.put (.int .u32 k) (tokD r s)) ∧ IsTable w' bm n' D' := by
    rintro e w' ⟨rfl, h1, h2⟩
    exact ⟨_, rfl, h2, n + 1, _, Nat.le_refl _, .inr rfl, h1⟩
  by_cases h1 : r < 1
  · exact (put_low bm n D k r s _ w ht hk rfl h1).mono no
  by_cases h7 : 7 < r
  · exact (put_high bm n D k r s _ w ht hk rfl h7).mono no
  cases hh : Maps.has D (.int .u32 k) with
  | true => exact (put_old bm n D k r s w ht hk hh (by omega) (by omega) hn).mono yes
  | false =>
    by_cases hz : 100 ≤ Maps.size D
    · exact (put_full bm n D k r s w ht hk hh (by omega) (by omega) hz).mono no
    · exact (put_new bm n D k r s w ht hk hh (by omega) (by omega) hn (by omega)).mono yes
set_option maxRecDepth 100000 in
set_option maxHeartbeats 1000000 in
theorem stayHead1 (a0 : Option Addr) (m cap0 : Nat) (a1 a2 a3 a4 : Int) (w : World) (h : 90 < m) :
    Calls Try.prog 8 #[.slice a0 m cap0, .int .u32 a1, .int .i64 a2, .int .u64 a3, .int .u64 a4] w (SDone w) := by
  have e0 : decide ((90 : Int) < (m : Int)) = true := by simp; omega
  go_enter Try.func8, Try.ntmps8
  go_wp2_with fail
  refine (rightsUp _).mono ?_
  rintro e W1 ⟨rfl, hb⟩
  go_wp2_with fail
  refine (rightsNew _).mono ?_
  rintro e W2 ⟨rfl, ht, hb2⟩
  have HX := Lib.hid (below_next hb hb2)
  clear ht hb hb2
  go_wp2_with fail
  go_ret
  exact ⟨rfl, HX.out⟩
set_option maxRecDepth 100000 in
set_option maxHeartbeats 1000000 in
theorem stayHead2 (a0 : Option Addr) (m cap0 : Nat) (a1 a2 a3 a4 : Int) (w : World) (h0 : ¬ 90 < m) (h : a2 < 1) :
    Calls Try.prog 8 #[.slice a0 m cap0, .int .u32 a1, .int .i64 a2, .int .u64 a3, .int .u64 a4] w (SDone w) := by
  have e0 : decide ((90 : Int) < (m : Int)) = false := by simp; omega
  have e1 : decide (a2 < 1) = true := by simp; omega
  go_enter Try.func8, Try.ntmps8
  go_wp2_with fail
  refine (rightsUp _).mono ?_
  rintro e W1 ⟨rfl, hb⟩
  go_wp2_with fail
  refine (rightsNew _).mono ?_
  rintro e W2 ⟨rfl, ht, hb2⟩
  have HX := Lib.hid (below_next hb hb2)
  clear ht hb hb2
  go_wp2_with fail
  go_ret
  exact ⟨rfl, HX.out⟩
set_option maxRecDepth 100000 in
set_option maxHeartbeats 1000000 in
theorem stayHead3 (a0 : Option Addr) (m cap0 : Nat) (a1 a2 a3 a4 : Int) (w : World) (h0 : ¬ 90 < m) (h : 7 < a2) :
    Calls Try.prog 8 #[.slice a0 m cap0, .int .u32 a1, .int .i64 a2, .int .u64 a3, .int .u64 a4] w (SDone w) := by
  have e0 : decide ((90 : Int) < (m : Int)) = false := by simp; omega
  have e1 : decide (a2 < 1) = false := by simp; omega
  have e2 : decide (7 < a2) = true := by simp; omega
  go_enter Try.func8, Try.ntmps8
  go_wp2_with fail
  refine (rightsUp _).mono ?_
  rintro e W1 ⟨rfl, hb⟩
  go_wp2_with fail
  refine (rightsNew _).mono ?_
  rintro e W2 ⟨rfl, ht, hb2⟩
  have HX := Lib.hid (below_next hb hb2)
  clear ht hb hb2
  go_wp2_with fail
  go_ret
  exact ⟨rfl, HX.out⟩

def Keeps (D : DataW Unit) (k r s : Int) : Prop := D.atKey (.int .u32 k) (tokD 0 0) = tokD r s ∧ Maps.has D (.int .u32 k) = true
theorem key_ne {a b : Int} (h : a ≠ b) : (Lit.int .u32 b) ≠ (Lit.int .u32 a) := by intro e; cases e; exact h rfl
theorem Keeps.put {D : DataW Unit} {k r s : Int} (h : Keeps D k r s) (y : Int) (hne : y ≠ k) (d : DataW Unit) : Keeps (D.put (.int .u32 y) d) k r s :=
  ⟨(Maps.atKey_put_other (key_ne hne) d _).trans h.1, (Maps.has_put_other (key_ne hne) d).trans h.2⟩
theorem Keeps.del {D : DataW Unit} {k r s : Int} (h : Keeps D k r s) (y : Int) (hne : y ≠ k) : Keeps (D.del (.int .u32 y)) k r s :=
  ⟨(Maps.atKey_del_other (key_ne hne) _).trans h.1, (Maps.has_del_other (key_ne hne)).trans h.2⟩
set_option maxRecDepth 100000 in
set_option maxHeartbeats 4000000 in
theorem stayMain (a0 : Option Addr) (cap0 : Nat) (z : In_RightsStay_0.T) (k own sec oth : Int) (w : World) (h0 : z.length ≤ 90) (h1 : 1 ≤ own) (h7 : own ≤ 7) (hk : (Lit.int .u32 k).wf = true) (hz : In_RightsStay_0 w a0 z.length cap0 z) :
    Calls Try.prog 8 #[.slice a0 z.length cap0, .int .u32 k, .int .i64 own, .int .u64 sec, .int .u64 oth] w (SDone w) := by
  have HZ := Lib.hid hz.2
  have HK := Lib.hid hk
  have H1 := Lib.hid h1
  have H7 := Lib.hid h7
  have e0 : decide ((90 : Int) < (z.length : Int)) = false := by simp; omega
  have e1 : decide (own < 1) = false := by simp; omega
  have e2 : decide (7 < own) = false := by simp; omega
  clear hz hk h1 h7
  go_enter Try.func8, Try.ntmps8
  go_wp2_with fail
  refine (rightsUp _).mono ?_
  rintro e W1 ⟨rfl, hb1⟩
  have HQ1 := Lib.hid hb1
  clear hb1
  go_wp2_with fail
  refine (rightsNew _).mono ?_
  rintro e W2 ⟨rfl, ht, hb2⟩
  have HT2 := Lib.hid ht
  have HB2 := Lib.hid hb2
  clear ht hb2
  go_wp2_with fail
  refine (put_new W1.heap.size 0 (.map []) k own sec _ HT2.out HK.out rfl H1.out H7.out (by unfold maxLen; omega) (by decide)).mono ?_
  rintro e W3 ⟨rfl, ht, hb3⟩
  have HT3 := Lib.hid ht
  have HB3 := Lib.hid (HB2.out.trans hb3)
  have HD3 := Lib.hid (show Keeps _ k own sec from put_at (.map []) Maps.isMap_empty k own sec)
  clear ht hb3 HT2 HB2 e0 e1 e2
  generalize (DataW.put (.map []) (.int .u32 k) (tokD own sec) : DataW Unit) = D3 at *
  go_wp2_with fail
  go_loopw [14] (fun i wr => ∃ (j n : Nat) (D : DataW Unit), j ≤ z.length ∧ i = .int .i64 j ∧ n ≤ j + 1 ∧ Hid (IsTable wr W1.heap.size n D) ∧ Hid (Keeps D k own sec) ∧ Hid (Below W1.heap.size W1 wr)) (fun i _ => z.length - (intOf i).toNat)
  case atStart => exact ⟨0, 1, D3, Nat.zero_le _, rfl, Nat.le_refl _, HT3, HD3, HB3⟩
  case round =>
    obtain ⟨j, n, D, hj, rfl, hn, HT, HD, HB⟩ := hrel
    clear HT3 HB3 HD3
    by_cases hlt : j < z.length
    · obtain ⟨b, off, hax, hbx, ⟨hc0, hc1, hc2, hc3⟩, hy0, hy1⟩ := HZ.out j hlt
      have hW : ∀ w', Below W1.heap.size W1 w' → Below w.heap.size w w' := fun w' h => below_next HQ1.out h
      have HC0 := Lib.hid (fun w' (h : Below W1.heap.size W1 w') => (And.intro (((hW w' h).cell (p := ⟨b, off + j * 4, none⟩) hbx).trans hc0) (And.intro (((hW w' h).cell (p := ⟨b, off + j * 4 + 1, none⟩) hbx).trans hc1) (And.intro (((hW w' h).cell (p := ⟨b, off + j * 4 + 2, none⟩) hbx).trans hc2) (((hW w' h).cell (p := ⟨b, off + j * 4 + 3, none⟩) hbx).trans hc3)))))
      have HY0 := Lib.hid hy0
      have HY := Lib.hid hy1
      rw [hax]
      clear hc0 hc1 hc2 hc3 hy0 hy1 hW
      generalize z[j] = y at *
      obtain ⟨y0, y1, y2, y3⟩ := y
      simp only at HC0 HY HY0
      have hcs := HC0.out _ HB.out
      obtain ⟨hc0, hc1, _, _⟩ := hcs
      by_cases hs : y1 = k
      · subst hs
        go_wp2
        go_roundw
        case rel => exact ⟨j + 1, n, D, by omega, by go_num, by omega, HT, HD, HB⟩
        case measure => simp [intOf]; omega
      · have HS := Lib.hid hs
        have d0 : (y1 == k) = false := by simpa using hs
        clear hs
        go_wp2_with fail
        refine (rightsPick y0 _ HY0.out).mono ?_
        rintro e w2 ⟨⟨p, rfl⟩, rfl⟩
        by_cases hp : p = 2
        · subst hp
          go_wp2_with fail
          refine (rightsRevoke W1.heap.size n D y1 _ _ HT.out HY.out rfl).mono ?_
          rintro e w3 ⟨rfl, ht, hb⟩
          have HT3 := Lib.hid ht
          have HB3 := Lib.hid (HB.out.trans hb)
          have HD3 := Lib.hid (HD.out.del y1 HS.out)
          clear ht hb HT HB HD HC0 hc0 hc1
          go_wp2_with fail
          go_roundw
          case rel => exact ⟨j + 1, n, _, by omega, by go_num, by omega, HT3, HD3, HB3⟩
          case measure => simp [intOf]; omega
        · have d1 : (p == 2) = false := by simpa using hp
          clear hp
          go_wp2_with fail
          have HC := Lib.hid (fun (w' : World) (hR : Reg.belB W1.heap.size w2.drew w') => (HC0.out w' (HB.out.trans (((Below.refl _ w2).drew).trans hR))).2)
          have HNM := Lib.hid (show n < maxLen by unfold maxLen; omega)
          refine Reg.wp_regionO W1.heap.size 16 (fun w => IsTable w W1.heap.size n D) (fun w => ∃ n' D', n' ≤ n + 1 ∧ (D' = D ∨ D' = D.put (.int .u32 y1) (tokD y2 y3)) ∧ IsTable w W1.heap.size n' D') (by kernel_rfl) (by kernel_rfl) (HT.out.bel (Below.refl _ _).drew) ?_
          refine Reg.segO 5 (by kernel_rfl) rfl (by kernel_rfl) ?_
          apply Exists.intro
          refine ⟨fun e => ?_, ?_⟩
          · simp only [List.take_succ_cons, List.take_zero]
            repeat (go_big_quiet_step ((intro _; rfl)))
            refine wpQuiet_nil ?_
            exact rfl
          simp only [List.drop_succ_cons, List.drop_zero, Nat.reduceAdd]
          refine Reg.stillO (.int .u32 y1) (fun _ => Below.refl _ _) (by decide) (fun e w hR => ⟨by rfl, ?_⟩) ?_
          · have hcx := (HC.out w hR).1
            unfold Reg.gives
            go_simp
          simp only [Act.put, List.setIfInBounds_toArray, List.set_cons_zero, List.set_cons_succ, Nat.reduceAdd]
          refine Reg.segO 4 (by kernel_rfl) rfl (by kernel_rfl) ?_
          apply Exists.intro
          refine ⟨fun e => ?_, ?_⟩
          · simp only [List.take_succ_cons, List.take_zero]
            repeat (go_big_quiet_step ((intro _; rfl)))
            refine wpQuiet_nil ?_
            exact rfl
          simp only [List.drop_succ_cons, List.drop_zero, Nat.reduceAdd]
          refine Reg.stillO (.int .i64 y2) (fun _ => Below.refl _ _) (by decide) (fun e w hR => ⟨by rfl, ?_⟩) ?_
          · have hcx := (HC.out w hR).2.1
            unfold Reg.gives
            go_simp
          simp only [Act.put, List.setIfInBounds_toArray, List.set_cons_zero, List.set_cons_succ, Nat.reduceAdd]
          refine Reg.segO 4 (by kernel_rfl) rfl (by kernel_rfl) ?_
          apply Exists.intro
          refine ⟨fun e => ?_, ?_⟩
          · simp only [List.take_succ_cons, List.take_zero]
            repeat (go_big_quiet_step ((intro _; rfl)))
            refine wpQuiet_nil ?_
            exact rfl
          simp only [List.drop_succ_cons, List.drop_zero, Nat.reduceAdd]
          refine Reg.stillO (.int .u64 y3) (fun _ => Below.refl _ _) (by decide) (fun e w hR => ⟨by rfl, ?_⟩) ?_
          · have hcx := (HC.out w hR).2.2
            unfold Reg.gives
            go_simp
          simp only [Act.put, List.setIfInBounds_toArray, List.set_cons_zero, List.set_cons_succ, Nat.reduceAdd]
          refine Reg.callO (fun e w hR hP => ⟨by rfl, ?_⟩) ?_
          · unfold Reg.gives
            go_simp
            refine (putAny W1.heap.size n D y1 y2 y3 w hP HY.out HNM.out).mono ?_
            rintro e w' ⟨v, he, hb, hx⟩
            obtain ⟨n', D', hle, hD, hT⟩ := hx
            refine ⟨⟨v, he⟩, hb, n', hle, ?_⟩
            rcases hD with rfl | rfl
            · exact .inl hT
            · exact .inr hT
          simp only [Act.put, List.setIfInBounds_toArray, List.set_cons_zero, List.set_cons_succ, Nat.reduceAdd]
          intro e w3 hR hJ hf
          obtain ⟨n', D', hn', hD', ht⟩ := hJ.2 (by decide)
          have HT3 := Lib.hid ht
          have HB3 := Lib.hid (HB.out.trans (((Below.refl _ w2).drew).trans hR))
          have HD3 := Lib.hid (show Keeps D' k own sec by
            rcases hD' with rfl | rfl
            · exact HD.out
            · exact HD.out.put y1 HS.out _)
          clear ht hR hJ hf HT HB HD HC HC0 hc0 hc1 hD'
          go_wp2_with fail
          go_roundw
          case rel => exact ⟨j + 1, n', D', by omega, by go_num, by omega, HT3, HD3, HB3⟩
          case measure => simp [intOf]; omega
    · obtain rfl : j = z.length := by omega
      go_wp2_with fail
      refine (rights_yes W1.heap.size n D k sec own sec _ HT.out HK.out HD.out.2 HD.out.1 rfl).mono ?_
      rintro e w2 ⟨rfl, ht, hb⟩
      have HT4 := Lib.hid ht
      have HB4 := Lib.hid (HB.out.trans (Below.mono hb (Nat.le_of_lt (Nat.lt_of_succ_lt HT.out.lt))))
      clear ht hb HT HB
      by_cases ho : oth = sec
      · subst ho
        go_wp2_with fail
        refine (rightsRevoke W1.heap.size n D k true _ HT4.out HK.out HD.out.2).mono ?_
        rintro e w5 ⟨rfl, ht, hb⟩
        have HT5 := Lib.hid ht
        have HB5 := Lib.hid (HB4.out.trans hb)
        clear ht hb HT4 HB4
        go_wp2_with fail
        refine (rightsRevoke W1.heap.size n _ k false _ HT5.out HK.out Maps.has_del_same).mono ?_
        rintro e w6 ⟨rfl, ht, hb⟩
        have HT6 := Lib.hid ht
        have HB6 := Lib.hid (HB5.out.trans hb)
        clear ht hb HT5 HB5
        go_wp2_with fail
        refine (rights_no W1.heap.size n _ k oth 0 0 _ HT6.out HK.out Maps.has_del_same (Maps.atKey_del_same _)).mono ?_
        rintro e w7 ⟨rfl, ht, hb⟩
        have HB7 := Lib.hid (HB6.out.trans (Below.mono hb (Nat.le_of_lt (Nat.lt_of_succ_lt HT6.out.lt))))
        clear ht hb HT6 HB6
        go_wp2_with fail
        go_ret
        exact ⟨rfl, below_next HQ1.out HB7.out⟩
      · have d2 : (oth != sec) = true := by simpa using ho
        go_wp2_with fail
        refine (rights_other W1.heap.size n D k oth own sec _ HT4.out HK.out HD.out.2 HD.out.1 (fun e => ho e.symm)).mono ?_
        rintro e w3 ⟨rfl, ht, hb⟩
        have HT5 := Lib.hid ht
        have HB5 := Lib.hid (HB4.out.trans (Below.mono hb (Nat.le_of_lt (Nat.lt_of_succ_lt HT4.out.lt))))
        clear ht hb HT4 HB4
        have HT4 := HT5
        have HB4 := HB5
        clear HT5 HB5
        go_wp2_with fail
        refine (rightsRevoke W1.heap.size n D k true _ HT4.out HK.out HD.out.2).mono ?_
        rintro e w5 ⟨rfl, ht, hb⟩
        have HT5 := Lib.hid ht
        have HB5 := Lib.hid (HB4.out.trans hb)
        clear ht hb HT4 HB4
        go_wp2_with fail
        refine (rightsRevoke W1.heap.size n _ k false _ HT5.out HK.out Maps.has_del_same).mono ?_
        rintro e w6 ⟨rfl, ht, hb⟩
        have HT6 := Lib.hid ht
        have HB6 := Lib.hid (HB5.out.trans hb)
        clear ht hb HT5 HB5
        go_wp2_with fail
        refine (rights_no W1.heap.size n _ k sec 0 0 _ HT6.out HK.out Maps.has_del_same (Maps.atKey_del_same _)).mono ?_
        rintro e w7 ⟨rfl, ht, hb⟩
        have HB7 := Lib.hid (HB6.out.trans (Below.mono hb (Nat.le_of_lt (Nat.lt_of_succ_lt HT6.out.lt))))
        clear ht hb HT6 HB6
        go_wp2_with fail
        go_ret
        exact ⟨rfl, below_next HQ1.out HB7.out⟩

theorem RightsStay_walk (a0 : Option Addr) (len0 cap0 : Nat) (z0 : In_RightsStay_0.T) (a1 : Int) (a2 : Int) (a3 : Int) (a4 : Int) (w : World) (w0 : In_RightsStay_0 w a0 len0 cap0 z0) (w1 : (Lit.int .u32 a1).wf = true) (_w2 : (Lit.int .i64 a2).wf = true) (_w3 : (Lit.int .u64 a3).wf = true) (_w4 : (Lit.int .u64 a4).wf = true) :
    LawOk Try.prog 8 #[.slice a0 len0 cap0, .int .u32 a1, .int .i64 a2, .int .u64 a3, .int .u64 a4] w := by
  obtain rfl := w0.1
  show Calls _ _ _ w (SDone w)
  by_cases h0 : 90 < z0.length
  · exact stayHead1 a0 _ cap0 a1 a2 a3 a4 w h0
  by_cases h1 : a2 < 1
  · exact stayHead2 a0 _ cap0 a1 a2 a3 a4 w h0 h1
  by_cases h2 : 7 < a2
  · exact stayHead3 a0 _ cap0 a1 a2 a3 a4 w h0 h2
  exact stayMain a0 cap0 z0 a1 a2 a3 a4 w (by omega) (by omega) (by omega) w1 w0
end Go.Proofs.Ytkfpolhglndbkaa
