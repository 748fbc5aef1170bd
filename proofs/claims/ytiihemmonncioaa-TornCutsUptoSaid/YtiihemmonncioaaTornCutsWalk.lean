/- The walk of TornCuts (the second form). -/
import Derived.Test.YtiihemmonncioaaCutsPure
import Derived.Test.YtiihemmonncioaaCutsOpen
import Derived.Test.YtiihemmonncioaaRecFew
import Derived.Test.YtiihemmonncioaaTornSame
namespace Go.Proofs.Ytiihemmonncioaa
open Go.RowKit
def endsI (ls : List (List Rec)) (j : Nat) : List Int := (List.range j).map fun i => ((endAt ls (i + 1) : Nat) : Int)
theorem endsI_succ (ls : List (List Rec)) (j : Nat) : endsI ls (j + 1) = endsI ls j ++ [((endAt ls (j + 1) : Nat) : Int)] := by simp [endsI, List.range_succ]
theorem endsI_len (ls : List (List Rec)) (j : Nat) : (endsI ls j).length = j := by simp [endsI]
theorem endsI_at (ls : List (List Rec)) (j i : Nat) (h : i < (endsI ls j).length) : (endsI ls j)[i] = ((endAt ls (i + 1) : Nat) : Int) := by simp [endsI]
theorem OwnI.keepB {B C : Nat} {w w' : World} {u v v' : Value} {l : List Int} {m : List UInt8} (h : OwnI B w u l) (hv : OwnB C w v m) (hg : Grew w w' v v') : OwnI B w' u l := by
  refine ⟨h.1, ?_⟩
  rcases h.2 with h2 | ⟨g, cap, cur, e, hbg, hgg, hr⟩
  · exact .inl h2
  · exact .inr ⟨g, cap, cur, e, hbg, keep_row hv hg (by decide) hgg, hr⟩
theorem OwnB.keepI {B C : Nat} {w w' : World} {u v v' : Value} {l : List UInt8} {m : List Int} (h : OwnB B w u l) (hv : OwnI C w v m) (hg : Grew w w' v v') : OwnB B w' u l := by
  refine ⟨h.1, ?_⟩
  rcases h.2 with h2 | ⟨g, cap, cur, e, hbg, hgg, hr⟩
  · exact .inl h2
  · exact .inr ⟨g, cap, cur, e, hbg, keep_typed hv hg (by decide) hgg, hr⟩
def TcDone (w : World) (e : Ending) (w' : World) : Prop := e = .returned (.bool true) ∧ Below w.heap.size w w'
set_option maxRecDepth 100000 in
set_option maxHeartbeats 8000000 in
theorem cutsMain (a0 : Option Addr) (cap0 : Nat) (ls : List (List Rec)) (c : Nat) (w : World) (hn : ls.length ≤ 15) (hx : ∀ x ∈ ls, x.length ≤ 1048576) (hi : IsRecss w a0 ls) :
    Calls Try.prog 6 #[.slice a0 ls.length cap0, .int .i64 c] w (TcDone w) := by
  have d0 : decide ((15 : Int) < (ls.length : Int)) = false := by rw [decide_eq_false_iff_not]; omega
  have d00 : decide (15 < ls.length) = false := by rw [decide_eq_false_iff_not]; omega
  have d1 : decide ((c : Int) < 0) = false := by simp
  have HN := Lib.hid hn
  have HX := Lib.hid hx
  have HI := Lib.hid hi
  clear hn hx hi
  go_enter Try.func6, Try.ntmps6
  go_wp2_with fail
  refine (tornUp _).mono ?_
  rintro e W1 ⟨rfl, hb1, _⟩
  have HQ1 := Lib.hid hb1
  clear hb1
  go_wp2_with fail
  clear d0 d00 d1
  go_loopw [6, 7, 8] (fun bb ee i wr => ∃ j : Nat, j ≤ ls.length ∧ i = .int .i64 j ∧ Hid (OwnB W1.heap.size wr bb (framesL (ls.take j))) ∧ Hid (OwnI W1.heap.size wr ee (endsI ls j)) ∧ Hid (Below w.heap.size w wr) ∧ Hid (W1.heap.size ≤ wr.heap.size) ∧ Hid (GoodL (ls.take j)) ∧ Hid ((framesL (ls.take j)).length ≤ 20008 * j)) (fun _ _ i _ => ls.length - (intOf i).toNat)
  case atStart => exact ⟨0, Nat.zero_le _, rfl, OwnB.nil _ _, OwnI.nil _ _, HQ1, Nat.le_refl _, fun x hx => by simp at hx, by show _ ≤ _; simp [framesL]⟩
  case round =>
    obtain ⟨j, hj, rfl, HO, HE, HB, HZ, HG, HLN⟩ := hrel
    obtain ⟨ab, cb, rfl, _⟩ := HO.out.out
    obtain ⟨ae, ce, rfl, hei, _⟩ := HE.out.out
    have HEI := Lib.hid hei
    clear hei
    rw [endsI_len] at HE ⊢
    by_cases hlt : j < ls.length
    · clear HEI
      obtain ⟨bl, off, au, cu, rfl, hbl, hcell, hrec, hlm⟩ := (HI.out.bel HB.out) j hlt
      have HREC := Lib.hid hrec
      have HLM := Lib.hid hlm
      have HXL := Lib.hid (HX.out _ (List.getElem_mem hlt))
      have HES := Lib.hid (endAt_succ ls j hlt)
      have HFS : Hid (framesL (ls.take (j + 1)) = framesL (ls.take j) ++ frameL (recsL ls[j])) := by
        show _ = _
        rw [List.take_succ_eq_append_getElem hlt, framesL_append, framesL_cons]
        simp [framesL]
      have HWF := Lib.hid (fun r hr => by
        obtain ⟨i, hi, rfl⟩ := List.getElem_of_mem hr
        obtain ⟨_, _, _, _, _, hw⟩ := hrec i hi
        exact hw : ∀ r ∈ ls[j], r.wf)
      have HGS : Hid (putOk ls[j] = true → (∀ r ∈ ls[j], r.wf) → GoodL (ls.take (j + 1))) := by
        intro h1 h2 x hx
        rw [List.take_succ_eq_append_getElem hlt] at hx
        rcases List.mem_append.1 hx with e | e
        · exact HG.out x e
        · rw [List.mem_singleton] at e; rw [e]; exact ⟨h1, h2⟩
      have hcell2 := hcell
      have HCL := Lib.hid (And.intro hbl hcell2)
      clear hrec hlm hbl hcell2 HG
      generalize ls[j] = x at *
      go_wp2_with fail
      refine (recFew au cu x 10 _ HLM.out HREC.out).mono ?_
      rintro e W2 ⟨rfl, f, rfl, _⟩
      go_wp2_with fail
      refine (refBodyBig au cu x _ HXL.out HREC.out).mono ?_
      rintro e W2 ⟨hb2, hcase⟩
      have HB2 := Lib.hid (below_next HB.out hb2)
      have HO2 := Lib.hid (HO.out.bel hb2)
      have HE2 := Lib.hid (HE.out.bel hb2)
      have HZ2 := Lib.hid (Nat.le_trans HZ.out hb2.size)
      clear hb2 hcell HCL HO HE HB HZ HREC HLM HXL
      rcases hcase with ⟨_, vb, rfl, hob⟩ | ⟨_, rfl⟩
      rotate_left
      · cases f <;> (go_wp2_with fail; go_ret; exact ⟨rfl, HB2.out⟩)
      cases f with
      | false =>
        clear hob
        go_wp2_with fail
        go_ret
        exact ⟨rfl, HB2.out⟩
      | true =>
        by_cases hpo : putOk x = true
        rotate_left
        · have hpf : putOk x = false := by simpa using hpo
          rw [hpf]
          clear hpo hpf hob HGS
          go_wp2_with fail
          go_ret
          exact ⟨rfl, HB2.out⟩
        rw [hpo]
        have HPO := Lib.hid hpo
        obtain ⟨_, _, hle, _⟩ := putOk_all hpo
        have HLE := Lib.hid hle
        obtain ⟨avb, cvb, rfl, hbb, _⟩ := hob.out
        have HBBY := Lib.hid hbb
        clear hpo hle hob hbb
        go_wp2_with fail
        refine (refFrame avb cvb (recsL x) _ HLE.out HBBY.out).mono ?_
        rintro e W3 ⟨v3, rfl, ho3, hb3⟩
        have HB3 := Lib.hid (below_next HB2.out hb3)
        have HO3 := Lib.hid (HO2.out.bel hb3)
        have HE3 := Lib.hid (HE2.out.bel hb3)
        have HZ3 := Lib.hid (Nat.le_trans HZ2.out hb3.size)
        obtain ⟨a3, c3, rfl, hy3, _⟩ := ho3.out
        have HY3 := Lib.hid hy3
        have HFL := Lib.hid (frameL_length (recsL x))
        clear hb3 ho3 hy3 HB2 HO2 HE2 HZ2 HBBY
        go_wp2_with (at_builtin; refine wpList_append_bytes rfl (.tmp 54) (.tmp 56) 22 rfl W1.heap.size _ (framesL (ls.take j)) rfl HO3.out _ (frameL (recsL x)) rfl (SrcB.ofBytes c3 HY3.out) ?c1 ?c2 ?hh1)
        case c1 => exact HZ3.out
        case c2 => have h1 := HLN.out; have h2 := HFL.out; have h3 := HLE.out; have h4 := HN.out; omega
        intro v4 W4 ho4 hg4
        rw [← HFS.out] at ho4
        have hb4 := below_of_grown HO3.out HZ3.out hg4
        have HB4 := Lib.hid (HB3.out.trans (hb4.mono (by have := HQ1.out.size; omega)))
        have HE4 := Lib.hid (HE3.out.keepB HO3.out hg4)
        have HZ4 := Lib.hid (Nat.le_trans HZ3.out hb4.size)
        have HO4 := Lib.hid ho4
        obtain ⟨a4, c4, rfl, _⟩ := ho4.out
        have hel : (framesL (ls.take (j + 1))).length = endAt ls (j + 1) := rfl
        have HLN4 : Hid ((framesL (ls.take (j + 1))).length ≤ 20008 * (j + 1)) := by show _ ≤ _; rw [HFS.out, List.length_append, HFL.out]; have h1 := HLN.out; have h2 := HLE.out; omega
        rw [hel] at HO4 ⊢
        clear ho4 hg4 hb4 HB3 HE3 HZ3 HO3 HY3 hel
        generalize hN : endAt ls (j + 1) = N at *
        have HNE := Lib.hid hN
        clear hN
        go_wp2_with (at_builtin; refine wpList_append_ints rfl (.tmp 58) (.tmp 61) rfl W1.heap.size _ (endsI ls j) rfl (HE4.out.alloc _) _ [(N : Int)] rfl (srcI_one W4 (N : Int)) ?c3 ?c4 ?hh2)
        case c3 => have := HZ4.out; simp; omega
        case c4 => rw [endsI_len]; have := HN.out; simp; omega
        intro v5 W5 ho5 hg5
        have hes : endsI ls j ++ [(N : Int)] = endsI ls (j + 1) := by rw [endsI_succ, HNE.out]
        rw [hes] at ho5
        have hz5 : W1.heap.size ≤ (W4.alloc (.cells #[.int .i64 (N : Int)] 3)).heap.size := by have := HZ4.out; simp; omega
        have hb5 : Below W1.heap.size W4 W5 := ((Below.refl W1.heap.size W4).alloc HZ4.out _).trans (below_of_grownI (HE4.out.alloc _) hz5 hg5)
        have HO5 := Lib.hid ((HO4.out.alloc _).keepI (HE4.out.alloc _) hg5)
        have HB5 := Lib.hid (HB4.out.trans (hb5.mono (by have := HQ1.out.size; omega)))
        have HZ5 := Lib.hid (Nat.le_trans HZ4.out hb5.size)
        have HE5 := Lib.hid ho5
        have HG5 := Lib.hid (HGS.out HPO.out HWF.out)
        have hll := HN.out
        clear ho5 hg5 hb5 hz5 hes HB4 HE4 HZ4 HO4 HGS HWF HPO
        go_wp2_with fail
        go_roundw
        case rel => exact ⟨j + 1, by omega, by go_num, HO5, HE5, HB5, HZ5, HG5, HLN4⟩
        case measure => simp [intOf]; omega
    · obtain rfl : j = ls.length := by omega
      have hgood : GoodL ls := by have := HG.out; rw [List.take_length] at this; exact this
      have hob : OwnB W1.heap.size wr (.slice ab (framesL ls).length cb) (framesL ls) := by have := HO.out; rw [List.take_length] at this; exact this
      have hln : (framesL ls).length ≤ 300120 := by have h1 := HLN.out; have h2 := HN.out; rw [List.take_length] at h1; omega
      have hLL : ls.take ls.length = ls := List.take_length
      rw [hLL]
      have HRB := Lib.hid hob.reads
      have hcap : (framesL ls).length ≤ cb := by
        obtain ⟨a, cap, hv, _, hc, _⟩ := hob.out
        simp only [Value.slice.injEq] at hv
        rw [hv.2.2]
        exact hc
      obtain ⟨k, hk, hk1, hk2⟩ := find_cut ls (c % ((framesL ls).length + 1)) (by have := Nat.mod_lt c (show (framesL ls).length + 1 > 0 by omega); omega)
      have hatN : c % ((framesL ls).length + 1) ≤ (framesL ls).length := by have := Nat.mod_lt c (show (framesL ls).length + 1 > 0 by omega); omega
      have hrem : (c : Int).tmod (((framesL ls).length : Int) + 1) = ((c % ((framesL ls).length + 1) : Nat) : Int) := by exact_mod_cast (Int.ofNat_tmod c ((framesL ls).length + 1)).symm
      have hwr : IntKind.i64.wrap (((framesL ls).length : Int) + 1) = ((framesL ls).length : Int) + 1 := by rw [IntKind.wrap_i64]; omega
      have hnz : ¬ (((framesL ls).length : Int) + 1 = 0) := by omega
      have HSC := Lib.hid (scan_cut ls hgood (c % ((framesL ls).length + 1)) k hk hk1 hk2)
      have HSE := Lib.hid (scan_cut ls hgood (endAt ls k) k hk (Nat.le_refl _) (by
        rcases hk2 with ⟨h1, h2⟩ | ⟨h1, h2⟩
        · exact .inl ⟨h1, by omega⟩
        · exact .inr ⟨h1, rfl⟩))
      have HMONO := Lib.hid (endAt_mono ls)
      have HPF := Lib.hid (piecesFrom_len 0 (ls.take k))
      have HPA := Lib.hid (piecesFrom_at 0 (ls.take k))
      clear HO HE HG HLN hob hgood hLL hlt hj
      generalize hat : c % ((framesL ls).length + 1) = at_ at *
      clear hat
      generalize framesL ls = L at *
      have HK := Lib.hid (And.intro hk (And.intro hk1 (And.intro hk2 (And.intro hatN (And.intro hcap hln)))))
      clear hk hk1 hk2 hatN hcap hln
      go_wp2_with fail
      clear hrem hwr hnz
      go_loop [13, 14, 15] (fun wn en i => ∃ j : Nat, j ≤ ls.length ∧ i = .int .i64 j ∧ wn = .int .i64 ((min j k : Nat) : Int) ∧ en = .int .i64 ((endAt ls (min j k) : Nat) : Int)) (fun _ _ i => ls.length - (intOf i).toNat)
      case atStart => exact ⟨0, Nat.zero_le _, rfl, by simp, by simp [endAt_zero]⟩
      case round =>
        obtain ⟨j, hj, rfl, rfl, rfl⟩ := hrel
        by_cases hlt : j < ls.length
        · obtain ⟨be, oe, rfl, _, hce⟩ := HEI.out j (by rw [endsI_len]; exact hlt)
          rw [endsI_at] at hce
          have hll := HN.out
          by_cases hjk : j + 1 ≤ k
          · have d1 : decide (((endAt ls (j + 1) : Nat) : Int) ≤ (at_ : Int)) = true := by rw [decide_eq_true_eq]; have h1 := HMONO.out k (j + 1) hjk; have h2 := HK.out.2.1; omega
            have d2 : decide (endAt ls (j + 1) ≤ at_) = true := by rw [decide_eq_true_eq]; have h1 := HMONO.out k (j + 1) hjk; have h2 := HK.out.2.1; omega
            have hmin : min (j + 1) k = j + 1 := by omega
            have HMIN := Lib.hid hmin
            clear hmin hjk
            generalize he1 : endAt ls (j + 1) = e1 at *
            have HE1 := Lib.hid he1
            clear he1
            generalize endAt ls (min j k) = e2 at *
            generalize ((min j k : Nat) : Int) = m1 at *
            go_wp2_with fail
            go_round
            case rel => exact ⟨j + 1, by omega, by go_num, by rw [HMIN.out]; go_num, by rw [HMIN.out, HE1.out]⟩
            case measure => simp [intOf]; omega
          · have hgt : at_ < endAt ls (j + 1) := by
              have h1 := HMONO.out (j + 1) (k + 1) (by omega)
              rcases HK.out.2.2.1 with ⟨_, h3⟩ | ⟨h3, _⟩
              · omega
              · omega
            have d1 : decide (((endAt ls (j + 1) : Nat) : Int) ≤ (at_ : Int)) = false := by rw [decide_eq_false_iff_not]; omega
            have d2 : decide (endAt ls (j + 1) ≤ at_) = false := by rw [decide_eq_false_iff_not]; omega
            have hmin : min (j + 1) k = min j k := by omega
            have HMIN := Lib.hid hmin
            clear hmin hjk hgt
            generalize endAt ls (j + 1) = e1 at *
            generalize hmj : min j k = mj at *
            have HMJ := Lib.hid hmj
            clear hmj
            generalize he2 : endAt ls mj = e2 at *
            have HE2 := Lib.hid he2
            clear he2
            go_wp2_with fail
            go_round
            case rel => exact ⟨j + 1, by omega, by go_num, by rw [HMIN.out], by rw [HMIN.out, HE2.out]⟩
            case measure => simp [intOf]; omega
        · obtain rfl : j = ls.length := by omega
          have hmk : min ls.length k = k := by have := HK.out.1; omega
          rw [hmk]
          have HTL := Lib.hid (show (L.take at_).length = at_ by have := HK.out.2.2.2.1; rw [List.length_take]; omega)
          have hek : endAt ls k ≤ L.length := by have h1 := HK.out.2.1; have h2 := HK.out.2.2.2.1; omega
          have HTE := Lib.hid (show (L.take (endAt ls k)).length = endAt ls k by rw [List.length_take]; omega)
          have HEK := Lib.hid hek
          have HR1 := Lib.hid (HRB.out.take at_ HK.out.2.2.2.1)
          have hc1 : at_ ≤ cb := by have h1 := HK.out.2.2.2.1; have h2 := HK.out.2.2.2.2.1; omega
          have hc2 : endAt ls k ≤ cb := by have h2 := HK.out.2.2.2.2.1; omega
          have HC1 := Lib.hid hc1
          have HC2 := Lib.hid hc2
          clear hmk hek hlt hj HMONO HEI
          generalize hE : endAt ls k = E at *
          have hpl : (piecesFrom 0 (ls.take k)).length = k := by rw [HPF.out, List.length_take]; have := HK.out.1; omega
          have HPL := Lib.hid hpl
          clear hE hpl
          go_wp2_with fail
          clear hc1 hc2
          refine (tornScan ab at_ cb (L.take at_) _ HTL.out (by rw [HTL.out]; have h1 := HK.out.2.2.2.1; have h2 := HK.out.2.2.2.2.2; omega) HR1.out).mono ?_
          rintro e W6 ⟨hb6, v6, rfl, ho6⟩
          rw [HSC.out] at ho6 ⊢
          obtain ⟨a6, c6, rfl, hp6⟩ := ho6.pieces
          have HP6 := Lib.hid hp6
          have HB6 := Lib.hid (below_next HB.out hb6)
          have HR6 := Lib.hid (HRB.out.bel hb6)
          simp only
          rw [HPL.out]
          clear hb6 ho6 hp6 HR1 HRB HB
          go_wp2_with fail
          go_loopw [18] (fun i wr => ∃ j : Nat, j ≤ k ∧ i = .int .i64 j ∧ Hid (Below w.heap.size w wr) ∧ Hid (Below W6.heap.size W6 wr)) (fun i _ => k - (intOf i).toNat)
          case atStart => exact ⟨0, Nat.zero_le _, rfl, HB6, Below.refl _ _⟩
          case round =>
            obtain ⟨j, hj, rfl, HB7, HW7⟩ := hrel
            by_cases hlt : j < k
            · have hjp : j < (piecesFrom 0 (ls.take k)).length := by rw [HPL.out]; exact hlt
              have hjl : j < ls.length := by have := HK.out.1; omega
              obtain ⟨g1, o1, u1, d1, rfl, hg1, z1, z2, x3, x4⟩ := HP6.out j hjp
              clear z1 z2
              obtain ⟨g2, o2, u2, d2, rfl, hg2, y3, y4, _⟩ := HI.out j hjl
              have hpx : (piecesFrom 0 (ls.take k))[j].2.2 = ls[j] := by rw [HPA.out j hjp (by rw [List.length_take]; omega)]; simp
              rw [hpx] at x3 x4
              have hxl := HX.out _ (List.getElem_mem hjl)
              clear hpx
              generalize ls[j] = x at *
              clear hjp
              have X3 := Lib.hid (fun (w2 : World) (hb : Below W6.heap.size W6 w2) => (hb.cell (p := ⟨g1, o1 + j * 3 + 2, none⟩) hg1).trans x3)
              have Y3 := Lib.hid (fun (w2 : World) (hb : Below w.heap.size w w2) => (hb.cell (p := ⟨g2, o2 + j, none⟩) hg2).trans y3)
              have HSM := Lib.hid (fun (w2 : World) (hb : Below W6.heap.size W6 w2) (hbw : Below w.heap.size w w2) => by
                have := recSame u1 d1 x u2 d2 x w2 (by omega) (x4.bel hb) (y4.bel hbw)
                rw [decide_eq_true (rfl : x = x)] at this
                exact this)
              have hil : (j : Int) < (ls.length : Int) := by omega
              clear x3 x4 y3 y4 hg1 hg2 hxl
              generalize x.length = nL at *
              go_wp2
              refine Reg.wp_region0 (by kernel_rfl) (by kernel_rfl) ?_
              refine Reg.seg0 4 (by kernel_rfl) rfl ?_
              apply Exists.intro
              refine ⟨fun e => ?_, ?_⟩
              · simp only [List.take_succ_cons, List.take_zero]
                repeat (go_big_quiet_step ((intro _; rfl)))
                refine wpQuiet_nil ?_
                exact rfl
              simp only [List.drop_succ_cons, List.drop_zero, Nat.reduceAdd]
              refine Reg.const0 (.slice u1 nL d1) (fun e w2 hR hf => ⟨by rfl, ?_⟩) ?_
              · have hc := X3.out w2 (below_next HW7.out (((Below.refl _ _).drew).trans hR))
                unfold Reg.gives
                clear hf
                go_simp
                exact Reg.bel_refl _
              simp only [Act.put, List.setIfInBounds_toArray, List.set_cons_zero, List.set_cons_succ, Nat.reduceAdd]
              refine Reg.seg0 3 (by kernel_rfl) rfl ?_
              apply Exists.intro
              refine ⟨fun e => ?_, ?_⟩
              · simp only [List.take_succ_cons, List.take_zero]
                repeat (go_big_quiet_step ((intro _; rfl)))
                refine wpQuiet_nil ?_
                exact rfl
              simp only [List.drop_succ_cons, List.drop_zero, Nat.reduceAdd]
              refine Reg.const0 (.slice u2 nL d2) (fun e w2 hR hf => ⟨by rfl, ?_⟩) ?_
              · have hc := Y3.out w2 (below_next HB7.out (((Below.refl _ _).drew).trans hR))
                unfold Reg.gives
                clear hf
                go_simp
                exact Reg.bel_refl _
              simp only [Act.put, List.setIfInBounds_toArray, List.set_cons_zero, List.set_cons_succ, Nat.reduceAdd]
              refine Reg.const0 (.bool true) (fun e w2 hR hf => ⟨by rfl, ?_⟩) ?_
              · unfold Reg.gives
                clear hf
                go_simp
                exact (HSM.out w2 (below_next HW7.out (((Below.refl _ _).drew).trans hR)) (below_next HB7.out (((Below.refl _ _).drew).trans hR))).mono fun e w' h => ⟨h.1, h.2⟩
              simp only [Act.put, List.setIfInBounds_toArray, List.set_cons_zero, List.set_cons_succ, Nat.reduceAdd]
              refine Reg.seg0 1 (by kernel_rfl) rfl ?_
              apply Exists.intro
              refine ⟨fun e => ?_, ?_⟩
              · simp only [List.take_succ_cons, List.take_zero]
                repeat (go_big_quiet_step ((intro _; rfl)))
                refine wpQuiet_nil ?_
                exact rfl
              simp only [List.drop_succ_cons, List.drop_zero, Nat.reduceAdd]
              intro e W9 hR hJ hf
              have HB9 := Lib.hid (below_next HB7.out (((Below.refl _ _).drew).trans hR))
              have HW9 := Lib.hid (below_next HW7.out (((Below.refl _ _).drew).trans hR))
              have hkk := HK.out.1
              have hll := HN.out
              clear hR hJ hf X3 Y3 HSM HB7 HW7
              go_wp2
              go_roundw
              case rel => exact ⟨j + 1, by omega, by go_num, HB9, HW9⟩
              case measure => simp [intOf]; omega
            · obtain rfl : j = k := by omega
              have hc1 := HC1.out
              have hc2 := HC2.out
              have HR7 := Lib.hid (HR6.out.bel HW7.out)
              have hle : E ≤ L.length := HEK.out
              clear hlt hj
              go_wp2_with fail
              refine (tornWhole ab E cb (L.take E) _ HTE.out (by rw [HTE.out]; have h2 := HK.out.2.2.2.2.2; omega) (HR7.out.take E HEK.out)).mono ?_
              rintro e W8 ⟨rfl, hb8⟩
              have hdt : ∀ P : List PieceL, decide ((P, E).2 = E) = true := fun _ => decide_eq_true rfl
              rw [HSE.out, HTE.out, hdt]
              clear hdt
              have HB8 := Lib.hid (below_next HB7.out hb8)
              have HR8 := Lib.hid (HR7.out.bel hb8)
              clear hb8 HB7 HR7
              go_wp2_with fail
              refine (tornWhole ab at_ cb (L.take at_) _ HTL.out (by rw [HTL.out]; have h1 := HK.out.2.2.2.1; have h2 := HK.out.2.2.2.2.2; omega) (HR8.out.take at_ HK.out.2.2.2.1)).mono ?_
              rintro e W9 ⟨rfl, hb9⟩
              rw [HSC.out, HTL.out]
              simp only
              have HB9 := Lib.hid (below_next HB8.out hb9)
              clear hb9 hc1 hc2 hle
              by_cases he : E = at_
              · have e1 : ((at_ : Int) == (E : Int)) = true := by rw [beq_iff_eq]; omega
                rw [decide_eq_true he]
                clear he
                go_wp2_with fail
                go_ret
                exact ⟨rfl, HB9.out⟩
              · have e1 : ((at_ : Int) == (E : Int)) = false := by rw [beq_eq_false_iff_ne]; omega
                rw [decide_eq_false he]
                clear he
                go_wp2_with fail
                go_ret
                exact ⟨rfl, HB9.out⟩
set_option maxRecDepth 100000 in
set_option maxHeartbeats 2000000 in
theorem cutsHead (a0 : Option Addr) (n0 cap0 : Nat) (c : Int) (w : World) (h : 15 < n0 ∨ c < 0) : Calls Try.prog 6 #[.slice a0 n0 cap0, .int .i64 c] w (TcDone w) := by
  by_cases h0 : 15 < n0
  · have d0 : decide ((15 : Int) < (n0 : Int)) = true := by rw [decide_eq_true_eq]; omega
    have d00 : decide (15 < n0) = true := by rw [decide_eq_true_eq]; omega
    clear h h0
    go_enter Try.func6, Try.ntmps6
    go_wp2_with fail
    refine (tornUp _).mono ?_
    rintro e W1 ⟨rfl, hb1, _⟩
    go_wp2_with fail
    go_ret
    exact ⟨rfl, hb1⟩
  · have d0 : decide ((15 : Int) < (n0 : Int)) = false := by rw [decide_eq_false_iff_not]; omega
    have d00 : decide (15 < n0) = false := by rw [decide_eq_false_iff_not]; omega
    have d1 : decide (c < 0) = true := by rw [decide_eq_true_eq]; omega
    clear h h0
    go_enter Try.func6, Try.ntmps6
    go_wp2_with fail
    refine (tornUp _).mono ?_
    rintro e W1 ⟨rfl, hb1, _⟩
    go_wp2_with fail
    go_ret
    exact ⟨rfl, hb1⟩
theorem TornCuts_walk (a0 : Option Addr) (len0 cap0 : Nat) (ls : List (List Rec)) (a1 : Int) (w : World) (h0 : In_TornCuts_0 w a0 len0 cap0 ls) (_ : (Lit.int .i64 a1).wf = true) :
    Calls Try.prog 6 #[.slice a0 len0 cap0, .int .i64 a1] w fun e w' => e = .returned (.bool true) ∧ Below w.heap.size w w' := by
  obtain ⟨rfl, hi, hx⟩ := h0
  show Calls _ _ _ w (TcDone w)
  by_cases h : 15 < ls.length ∨ a1 < 0
  · exact cutsHead a0 _ cap0 a1 w h
  · obtain ⟨c, rfl⟩ := Int.eq_ofNat_of_zero_le (show 0 ≤ a1 by omega)
    exact cutsMain a0 cap0 ls c w (by omega) hx hi
end Go.Proofs.Ytiihemmonncioaa
