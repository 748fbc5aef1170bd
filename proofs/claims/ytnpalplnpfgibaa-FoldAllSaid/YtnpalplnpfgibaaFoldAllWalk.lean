/- The walk of FoldAll. -/
import Derived.Test.YtnpalplnpfgibaaFoldUp
namespace Go.Proofs.Ytnpalplnpfgibaa
open Go.RowKit
abbrev In_FoldAll_0.T := List BA
def In_FoldAll_0 (w : World) (a : Option Addr) (len _cap : Nat) (z : In_FoldAll_0.T) : Prop := z.length = len ∧ IsStrs w a z ∧ len ≤ maxLen
theorem open_FoldAll_0 {H : Type} {enc : TypeId × Value → H} {w : World} {base : Nat} {spare : Nat → Bool} {held : Bool} {a : Option Addr} {len cap : Nat} {d : DataW H} {p : List MemPlace} (h : DataW.Trod enc Try.prog w base spare held 81 (.slice a len cap) d p) : ∃ z, In_FoldAll_0 w a len cap z := open_strs h
def FPDone (w : World) (e : Ending) (w' : World) : Prop := e = .returned (.bool true) ∧ Below w.heap.size w w'
theorem sel_next {A zs : List BA} {e s : BA} (hA : A = selL zs e true) {c : Nat} (h0 : 0 < c) (hs : A[c - 1]? = some s) : selL zs s false = A.drop c := by
  have hr : Rise A := by rw [hA]; exact selL_rise _ _ _
  have hm : ∀ x, x ∈ A ↔ x ∈ zs := fun x => by rw [hA, selL_mem]; simp [pickB]
  obtain ⟨h1, h2⟩ := List.getElem?_eq_some_iff.1 hs
  have h3 : c - 1 = atL A s := by
    refine atL_eq s A (c - 1) (by omega) (fun k hk hki => ?_) (fun _ => by rw [h2]; exact nlt_irrefl _)
    rw [← h2]
    exact List.pairwise_iff_getElem.1 hr k (c - 1) hk h1 hki
  have h4 : isL A s = true := isL_iff.2 (by rw [← h3]; exact hs)
  rw [← sel_behind hr hm s, h4, ← h3]
  congr 1
  simp
  omega
def FIv (A : List BA) (i c : Nat) (s : BA) : Prop := (i = 0 ∧ c = 0) ∨ (0 < i ∧ i ≤ c ∧ c < A.length ∧ A[c - 1]? = some s)
theorem FIv.sel {A zs : List BA} {e s : BA} (hA : A = selL zs e true) {i c : Nat} (h : FIv A i c s) : selL zs s (decide (i = 0)) = A.drop c := by
  rcases h with ⟨rfl, rfl⟩ | ⟨h1, h2, h3, h4⟩
  · rw [List.drop_zero, hA]
    refine rise_ext (selL_rise _ _ _) (selL_rise _ _ _) fun x => ?_
    rw [selL_mem, selL_mem]
    simp [pickB]
  · rw [decide_eq_false (by omega)]
    exact sel_next hA (by omega) h4
def MetI (A : List BA) (key : BA) (k : Nat) (m' : Bool) : Prop := m' = true ↔ ∃ d, ∃ h : d < A.length, d < k ∧ A[d] = key
structure FAs (w : World) (A P : List BA) (c k : Nat) (v3 av : Value) (W : World) : Prop where
  all : OwnS w.heap.size W av (A.take (c + k))
  pg : OwnS w.heap.size W v3 P
  apart : ∀ b, v3.ownBlock = some b → av.ownBlock ≠ some b
  bel : Below w.heap.size w W
theorem FAs.bel' {w : World} {A P : List BA} {c k : Nat} {v3 av : Value} {W W1 : World} (h : FAs w A P c k v3 av W) (hb : Below W.heap.size W W1) : FAs w A P c k v3 av W1 :=
  ⟨OwnOf.bel h.all hb, OwnOf.bel h.pg hb, h.apart, h.bel.trans (hb.mono h.bel.size)⟩
theorem FAs.app {w : World} {A P : List BA} {c k : Nat} {v3 av : Value} {W W2 : World} {v2 : Value} {q : BA} (h : FAs w A P c k v3 av W) (ho : OwnS w.heap.size W2 v2 (A.take (c + k) ++ [q])) (hg : Grew W W2 av v2) (hq : A[c + k]? = some q) : FAs w A P c (k + 1) v3 v2 W2 := by
  obtain ⟨h1, h2⟩ := List.getElem?_eq_some_iff.1 hq
  refine ⟨?_, h.pg.kept fun b hb => hg.1.block b (h.pg.block b hb).2 (fun e => h.apart b hb e.symm), fun b hb e => ?_, h.bel.trans (Grew.bel h.all h.bel.size hg)⟩
  · rw [← Nat.add_assoc, List.take_succ_eq_append_getElem h1, h2]
    exact ho
  · rcases hg.2 b e with h3 | h3
    · exact h.apart b hb h3
    · have := (h.pg.block b hb).2
      omega
theorem ownS_at {B : Nat} {w : World} {a : Option Addr} {n cap k : Nat} {l : List BA} (h : OwnS B w (.slice a n cap) l) (hk : k < l.length) : n = l.length ∧ ∃ b, a = some ⟨b, 0, none⟩ ∧ b < w.heap.size ∧ w.cell? ⟨b, k, none⟩ = some (.string l[k]) := by
  obtain ⟨a', c', h1, h2, _⟩ := OwnS.strs h
  simp only [Value.slice.injEq] at h1
  obtain ⟨rfl, rfl, _⟩ := h1
  obtain ⟨b, off, h3, h4, _⟩ := h2 k hk
  have h6 : off = 0 := by
    rcases h.2 with ⟨h7, _⟩ | ⟨g, cap', cur, h7, _⟩
    · simp only [Value.slice.injEq] at h7
      omega
    · simp only [Value.slice.injEq] at h7
      rw [h7.1] at h3
      simp only [Option.some.injEq, Addr.mk.injEq] at h3
      exact h3.2.1.symm
  subst h6
  refine ⟨rfl, b, h3, h4, ?_⟩
  have h5 := strs_at h2 hk h3
  rw [enc_bl, Nat.zero_add] at h5
  exact h5
set_option maxRecDepth 100000 in
set_option maxHeartbeats 16000000 in
theorem foldAllMain (a : Option Addr) (cap : Nat) (zs : List BA) (many : Int) (w : World) (h : IsStrs w a zs) (hl : zs.length ≤ maxLen) : Calls Try.prog 8 #[.slice a zs.length cap, .int .i64 many] w (FPDone w) := by
  have HZ := Lib.hid h
  have HLM := Lib.hid hl
  have HI := Lib.hid st_info
  clear h hl
  go_enter Try.func8, Try.ntmps8
  go_wp2_with fail
  refine (foldUp w).mono ?_
  rintro e W1 ⟨rfl, hb1⟩
  have HB1 := Lib.hid hb1
  have HZ1 := Lib.hid (strsBel HZ.out hb1)
  clear hb1
  go_wp2_with fail
  refine (smallAns a cap zs W1 HZ1.out HLM.out).mono ?_
  rintro e W2 ⟨b, rfl, rfl, hsm⟩
  cases b with
  | false =>
    go_wp2_with fail
    go_ret
    exact ⟨rfl, HB1.out⟩
  | true =>
    have hlz : zs.length ≤ 200 := (hsm rfl).1
    have HLZ := Lib.hid (show zs.length ≤ 1000 by omega)
    have blz : (zs.length : Int) ≤ 200 := by omega
    clear hsm hlz
    by_cases hs : many < 1
    · have ds : decide (many < 1) = true := decide_eq_true hs
      clear hs
      go_wp2_with fail
      go_ret
      exact ⟨rfl, HB1.out⟩
    · have ds : decide (many < 1) = false := decide_eq_false hs
      by_cases hs2 : 1000 < many
      · have ds2 : decide ((1000 : Int) < many) = true := decide_eq_true hs2
        clear hs hs2
        go_wp2_with fail
        go_ret
        exact ⟨rfl, HB1.out⟩
      · obtain ⟨m, rfl⟩ : ∃ m : Nat, many = (m : Int) := ⟨many.toNat, by omega⟩
        have ds2 : decide ((1000 : Int) < (m : Int)) = false := decide_eq_false hs2
        have HM1 := Lib.hid (show 1 ≤ m ∧ m ≤ 1000 by omega)
        clear hs hs2
        obtain ⟨A, hA⟩ : ∃ A, A = selL zs ByteArray.empty true := ⟨_, rfl⟩
        have HAE := Lib.hid hA
        have HAR := Lib.hid (show Rise A by rw [hA]; exact selL_rise _ _ _)
        have HAL := Lib.hid (show A.length ≤ zs.length ∧ zs.length ≤ 1000 from ⟨by rw [hA]; exact selL_len _ _ _, HLZ.out⟩)
        have HAM := Lib.hid (show ∀ x, x ∈ A ↔ x ∈ zs from fun x => by rw [hA, selL_mem]; simp [pickB])
        have HN0 := Lib.hid (show OwnS w.heap.size W2 (.slice none 0 0) (A.take 0) from OwnOf.nil _ _)
        have HI1 := Lib.hid (show FIv A 0 0 ⟨#[]⟩ from .inl ⟨rfl, rfl⟩)
        clear hA
        go_wp2_with fail
        go_loopw [6, 7, 8] (fun av sv iv wr => ∃ (i c : Nat) (s : BA), iv = .int .i64 i ∧ sv = .string s ∧ Hid (FIv A i c s) ∧ Hid (OwnS w.heap.size wr av (A.take c)) ∧ Hid (Below w.heap.size w wr)) (fun _ _ iv _ => zs.length + 1 - (intOf iv).toNat)
        case atStart => exact ⟨0, 0, ⟨#[]⟩, rfl, rfl, HI1, HN0, HB1⟩
        case round =>
          obtain ⟨i, c, s, rfl, rfl, HI0, HO, HB⟩ := hrel
          have b0 : (0 : Int) ≤ (i : Int) := by omega
          have hiz : i ≤ zs.length := by have := HAL.out; rcases HI0.out with ⟨h1, _⟩ | ⟨_, h1, h2, _⟩ <;> omega
          have HCA := Lib.hid (show c ≤ A.length by rcases HI0.out with ⟨_, h1⟩ | ⟨_, _, h2, _⟩ <;> omega)
          have diz : decide ((i : Int) ≤ (zs.length : Int)) = true := decide_eq_true (by omega)
          obtain ⟨fb, hfb⟩ : ∃ fb, fb = decide (i = 0) := ⟨_, rfl⟩
          have f1 : ((i : Int) == 0) = fb := by rw [hfb, Bool.eq_iff_iff]; simp
          have f2 : decide ((i : Int) = 0) = fb := by rw [hfb, Bool.eq_iff_iff]; simp
          have f3 : (i == 0) = fb := by rw [hfb, Bool.eq_iff_iff]; simp
          have f4 : decide (i = 0) = fb := hfb.symm
          have HSEL := Lib.hid (show selL zs s fb = A.drop c by rw [hfb]; exact FIv.sel HAE.out HI0.out)
          clear hfb
          go_wp2_with fail
          refine (foldPage a cap zs s fb (m : Int) wr (strsBel HZ.out HB.out) HLZ.out).mono ?_
          rintro e W3 ⟨⟨v3, rfl, ho3⟩, hb3⟩
          rw [HSEL.out] at ho3 ⊢
          rw [Int.toNat_natCast] at ho3 ⊢
          obtain ⟨P, hP⟩ : ∃ P, P = (A.drop c).take m := ⟨_, rfl⟩
          have HPE := Lib.hid hP
          have HPL := Lib.hid (show P.length ≤ m by rw [hP, List.length_take]; omega)
          have hpm : P.length = min m (A.length - c) := by rw [hP, List.length_take, List.length_drop]
          have hdl : (A.drop c).length = A.length - c := List.length_drop
          rw [← hP] at ho3
          rw [hdl]
          obtain ⟨a3, c3, rfl, _⟩ := OwnS.strs ho3
          have HF0 := Lib.hid (show FAs w A P c 0 (.slice a3 P.length c3) u6 W3 from ⟨OwnOf.bel HO.out hb3, OwnOf.mono ho3 HB.out.size, fun b hb e => by
            have h1 := (ho3.block b hb).1
            have h2 := (OwnOf.block HO.out b e).2
            omega, HB.out.trans (hb3.mono HB.out.size)⟩)
          have bP : (P.length : Int) ≤ 1000 := by have := HPL.out; have := HM1.out; omega
          have dpm : decide ((m : Int) < (P.length : Int)) = false := decide_eq_false (by have := HPL.out; omega)
          have dpm' : decide (m < P.length) = false := decide_eq_false (by have := HPL.out; omega)
          clear hP ho3 hb3 hdl HO HB
          by_cases hmb : m < A.length - c
          · have HPM := Lib.hid (show P.length = m by omega)
            have HMB := Lib.hid hmb
            have e1 : ((P.length : Int) != (m : Int)) = false := by rw [HPM.out]; simp
            have e2 : (P.length != m) = false := by rw [HPM.out]; simp
            have e3 : (!((P.length : Int) == (m : Int))) = false := by rw [HPM.out]; simp
            rw [decide_eq_true hmb]
            clear hmb hpm
            go_wp2_with fail
            go_loopw [6, 11] (fun av kv wr => ∃ k : Nat, k ≤ P.length ∧ kv = .int .i64 k ∧ Hid (FAs w A P c k (.slice a3 P.length c3) av wr)) (fun _ kv _ => P.length - (intOf kv).toNat)
            case atStart => exact ⟨0, Nat.zero_le _, rfl, HF0⟩
            case round =>
              obtain ⟨k, hk, rfl, HF⟩ := hrel
              clear HF0
              have bk0 : (0 : Int) ≤ (k : Int) := by omega
              by_cases hkl : k < P.length
              · have bkl : (k : Int) < (P.length : Int) := by omega
                obtain ⟨_, b3, ha3, hb3x, hc3⟩ := ownS_at HF.out.pg hkl
                obtain ⟨q, hq⟩ : ∃ q, q = P[k] := ⟨_, rfl⟩
                rw [← hq] at hc3
                have HQA := Lib.hid (show A[c + k]? = some q by
                  have h5 : P[k]? = some q := by rw [List.getElem?_eq_getElem hkl, hq]
                  rw [HPE.out, List.getElem?_take_of_lt (by have := HPL.out; omega), List.getElem?_drop] at h5
                  exact h5)
                have hckl : c + k < A.length := (List.getElem?_eq_some_iff.1 HQA.out).1
                obtain ⟨a6, c6, hv6, hs6, _⟩ := OwnS.strs HF.out.all
                have htl : (A.take (c + k)).length = c + k := by rw [List.length_take]; omega
                rw [htl] at hv6
                clear hq hs6
                subst hv6
                subst ha3
                by_cases h0 : 0 < c + k
                · have d0 : decide ((0 : Int) < ((c + k : Nat) : Int)) = true := decide_eq_true (by omega)
                  obtain ⟨n6, hn6⟩ : ∃ n6, n6 = c + k := ⟨_, rfl⟩
                  obtain ⟨u, hu⟩ : ∃ u : Nat, ((n6 : Nat) : Int) - 1 = (u : Int) := ⟨n6 - 1, by omega⟩
                  have hul : u < (A.take (c + k)).length := by rw [htl]; omega
                  obtain ⟨_, b6, ha6, hb6x, hc6⟩ := ownS_at HF.out.all hul
                  obtain ⟨y, hy⟩ : ∃ y, y = (A.take (c + k))[u] := ⟨_, rfl⟩
                  rw [← hy] at hc6
                  have hyq : nlt y q := by
                    obtain ⟨h7, h8⟩ := List.getElem?_eq_some_iff.1 HQA.out
                    rw [hy, List.getElem_take, ← h8]
                    exact List.pairwise_iff_getElem.1 HAR.out u (c + k) (by omega) h7 (by omega)
                  have dl : Op.bytesLess q.toList y.toList = false := (less_nm _ _).trans (ltB_no.2 fun h => nlt_irrefl _ (nlt_trans hyq h))
                  have dl2 : Op.bytesLess y.toList q.toList = true := (less_nm _ _).trans (ltB_iff.2 hyq)
                  have de : (q.toList == y.toList) = false := beq_ba fun e => nlt_irrefl _ (by rw [e] at hyq; exact hyq)
                  have HLT := Lib.hid (And.intro hb3x hb6x)
                  have bu0 : (0 : Int) ≤ (u : Int) := by omega
                  have bu1 : (u : Int) < (n6 : Int) := by omega
                  rw [← hn6] at d0 ⊢
                  have HN6 := Lib.hid hn6
                  have d0' : decide (0 < n6) = true := decide_eq_true (by omega)
                  have bn6 : (n6 : Int) ≤ 2000 := by have := HAL.out; omega
                  have bn61 : (1 : Int) ≤ (n6 : Int) := by omega
                  have bn62 : (0 : Int) ≤ (n6 : Int) - 1 := by omega
                  have bn63 : (n6 : Int) - 1 < (n6 : Int) := by omega
                  subst ha6
                  clear hy hyq hul h0 hb3x hb6x htl hn6
                  go_wp2_with fail
                  refine Reg.wp_region0 (by kernel_rfl) (by kernel_rfl) ?_
                  refine Reg.seg0 3 (by kernel_rfl) rfl ?_
                  apply Exists.intro
                  refine ⟨fun e => ?_, ?_⟩
                  · simp only [List.take_succ_cons, List.take_zero]
                    repeat (go_big_quiet_step ((intro _; rfl)))
                    refine wpQuiet_nil ?_
                    exact rfl
                  simp only [List.drop_succ_cons, List.drop_zero, Nat.reduceAdd]
                  refine Reg.const0 (.string q) (fun e w1 hR hf => ⟨by rfl, ?_⟩) ?_
                  · have c1' := (Below.cell hR (p := ⟨b3, k, none⟩) HLT.out.1).trans hc3
                    unfold Reg.gives
                    clear hf
                    go_simp
                    exact Reg.bel_refl _
                  simp only [Act.put, List.setIfInBounds_toArray, List.set_cons_zero, List.set_cons_succ, Nat.reduceAdd]
                  refine Reg.seg0 5 (by kernel_rfl) rfl ?_
                  apply Exists.intro
                  refine ⟨fun e => ?_, ?_⟩
                  · simp only [List.take_succ_cons, List.take_zero]
                    repeat (go_big_quiet_step ((intro _; rfl)))
                    refine wpQuiet_nil ?_
                    exact rfl
                  simp only [List.drop_succ_cons, List.drop_zero, Nat.reduceAdd]
                  refine Reg.const0 (.string y) (fun e w1 hR hf => ⟨by rfl, ?_⟩) ?_
                  · have c1' := (Below.cell hR (p := ⟨b6, u, none⟩) HLT.out.2).trans hc6
                    unfold Reg.gives
                    clear hf
                    go_simp
                    exact Reg.bel_refl _
                  simp only [Act.put, List.setIfInBounds_toArray, List.set_cons_zero, List.set_cons_succ, Nat.reduceAdd]
                  refine Reg.seg0 1 (by kernel_rfl) rfl ?_
                  apply Exists.intro
                  refine ⟨fun e => ?_, ?_⟩
                  · simp only [List.take_succ_cons, List.take_zero]
                    repeat (go_big_quiet_step ((intro _; rfl)))
                    refine wpQuiet_nil ?_
                    exact rfl
                  simp only [List.drop_succ_cons, List.drop_zero, Nat.reduceAdd]
                  intro eX W7 hR hJ hf
                  have hb7 := (Below.refl wr.heap.size wr).drew.trans hR
                  have HF7 := Lib.hid (show FAs w A P c k (.slice (some ⟨b3, 0, none⟩) P.length c3) (.slice (some ⟨b6, 0, none⟩) n6 c6) W7 by rw [HN6.out]; exact HF.out.bel' hb7)
                  have hc37 := (hb7.cell (p := ⟨b3, k, none⟩) HLT.out.1).trans hc3
                  clear hR hJ hf hb7 hc3 hc6 hu d0 d0' bn6 bn61 bn62 bn63 bu0 bu1
                  obtain ⟨T6, hT6⟩ : ∃ T6, T6 = A.take (c + k) := ⟨_, rfl⟩
                  have HT6 := Lib.hid hT6
                  have hto := HF7.out.all
                  rw [← hT6] at hto
                  have HTO := Lib.hid hto
                  have HTL6 := Lib.hid (show T6.length ≤ 1000 by rw [hT6, List.length_take]; have := HAL.out; omega)
                  clear hT6 hto
                  go_wp2_with (at_builtin; refine wpList_append_of Try.underlying81 HI.out rfl (by omega) rfl (.tmp 76) (.tmp 81) rfl w.heap.size _ T6 rfl (OwnOf.bel (HTO.out) ((Below.refl _ _).alloc (Nat.le_refl _) _)) _ [q] rfl (srcS 1 _ rfl (rowOf_new (C := sCells) (W := fun _ => True) q trivial rfl (heap_alloc_new W7 _))) (Nat.le_trans HF7.out.bel.size (by simp)) (by have := HTL6.out; simp only [List.length_cons, List.length_nil]; omega) ?_)
                  intro v8 W8 ho8 hg8
                  have HF8 := Lib.hid (HF7.out.app (by rw [← HT6.out]; exact ho8) hg8.after_alloc HQA.out)
                  clear ho8 hg8
                  go_wp2_with fail
                  go_roundw
                  case rel => exact ⟨k + 1, by omega, by go_num, HF8⟩
                  case measure => simp [intOf]; omega
                · have h00 : c + k = 0 := by omega
                  have hfz := HF.out
                  rw [show Value.slice a6 (c + k) c6 = Value.slice a6 0 c6 by rw [h00]] at hfz
                  have HFz := Lib.hid hfz
                  rw [h00]
                  have H00 := Lib.hid h00
                  clear h0 hfz htl h00
                  obtain ⟨T6, hT6⟩ : ∃ T6, T6 = A.take (c + k) := ⟨_, rfl⟩
                  have HT6 := Lib.hid hT6
                  have hto := HFz.out.all
                  rw [← hT6] at hto
                  have HTO := Lib.hid hto
                  have HTL6 := Lib.hid (show T6.length ≤ 1000 by rw [hT6, List.length_take]; have := HAL.out; omega)
                  clear hT6 hto
                  go_wp2_with (at_builtin; refine wpList_append_of Try.underlying81 HI.out rfl (by omega) rfl (.tmp 76) (.tmp 81) rfl w.heap.size _ T6 rfl (OwnOf.bel (HTO.out) ((Below.refl _ _).alloc (Nat.le_refl _) _)) _ [q] rfl (srcS 1 _ rfl (rowOf_new (C := sCells) (W := fun _ => True) q trivial rfl (heap_alloc_new wr _))) (Nat.le_trans HFz.out.bel.size (by simp)) (by have := HTL6.out; simp only [List.length_cons, List.length_nil]; omega) ?_)
                  intro v8 W8 ho8 hg8
                  have HF8 := Lib.hid (HFz.out.app (by rw [← HT6.out]; exact ho8) hg8.after_alloc HQA.out)
                  clear ho8 hg8
                  go_wp2_with fail
                  go_roundw
                  case rel => exact ⟨k + 1, by omega, by go_num, HF8⟩
                  case measure => simp [intOf]; omega
              · obtain rfl : k = P.length := by omega
                have hu : ((P.length : Nat) : Int) - 1 = ((P.length - 1 : Nat) : Int) := by have := HM1.out; have := HPM.out; omega
                obtain ⟨u, hu2⟩ : ∃ u, u = P.length - 1 := ⟨_, rfl⟩
                rw [← hu2] at hu
                have hul : u < P.length := by have := HM1.out; have := HPM.out; omega
                obtain ⟨_, b3, ha3, hb3x, hc3⟩ := ownS_at HF.out.pg hul
                obtain ⟨q, hq⟩ : ∃ q, q = P[u] := ⟨_, rfl⟩
                rw [← hq] at hc3
                have HQA := Lib.hid (show A[c + P.length - 1]? = some q by
                  have h5 : P[u]? = some q := by rw [List.getElem?_eq_getElem hul, hq]
                  rw [HPE.out, List.getElem?_take_of_lt (by have := HPM.out; omega), List.getElem?_drop] at h5
                  rw [show c + P.length - 1 = c + u by omega]
                  exact h5)
                have HIV := Lib.hid (show FIv A (i + 1) (c + P.length) q from .inr ⟨by omega, by have := HM1.out; have := HPM.out; rcases HI0.out with ⟨h1, h2⟩ | ⟨_, h2, _⟩ <;> omega, by have := HPM.out; have := HMB.out; omega, HQA.out⟩)
                have bu0 : (0 : Int) ≤ (u : Int) := by omega
                have bu1 : (u : Int) < (P.length : Int) := by omega
                subst ha3
                clear hq hul hu2
                go_wp2_with fail
                go_roundw
                case rel => exact ⟨i + 1, c + P.length, q, by go_num, rfl, HIV, Lib.hid HF.out.all, Lib.hid HF.out.bel⟩
                case measure => simp [intOf]; omega
          · have HPN := Lib.hid (show A.length ≤ c + P.length by omega)
            rw [decide_eq_false hmb]
            clear hmb hpm
            go_wp2_with fail
            go_loopw [6, 11] (fun av kv wr => ∃ k : Nat, k ≤ P.length ∧ kv = .int .i64 k ∧ Hid (FAs w A P c k (.slice a3 P.length c3) av wr)) (fun _ kv _ => P.length - (intOf kv).toNat)
            case atStart => exact ⟨0, Nat.zero_le _, rfl, HF0⟩
            case round =>
              obtain ⟨k, hk, rfl, HF⟩ := hrel
              clear HF0
              have bk0 : (0 : Int) ≤ (k : Int) := by omega
              by_cases hkl : k < P.length
              · have bkl : (k : Int) < (P.length : Int) := by omega
                obtain ⟨_, b3, ha3, hb3x, hc3⟩ := ownS_at HF.out.pg hkl
                obtain ⟨q, hq⟩ : ∃ q, q = P[k] := ⟨_, rfl⟩
                rw [← hq] at hc3
                have HQA := Lib.hid (show A[c + k]? = some q by
                  have h5 : P[k]? = some q := by rw [List.getElem?_eq_getElem hkl, hq]
                  rw [HPE.out, List.getElem?_take_of_lt (by have := HPL.out; omega), List.getElem?_drop] at h5
                  exact h5)
                have hckl : c + k < A.length := (List.getElem?_eq_some_iff.1 HQA.out).1
                obtain ⟨a6, c6, hv6, hs6, _⟩ := OwnS.strs HF.out.all
                have htl : (A.take (c + k)).length = c + k := by rw [List.length_take]; omega
                rw [htl] at hv6
                clear hq hs6
                subst hv6
                subst ha3
                by_cases h0 : 0 < c + k
                · have d0 : decide ((0 : Int) < ((c + k : Nat) : Int)) = true := decide_eq_true (by omega)
                  obtain ⟨n6, hn6⟩ : ∃ n6, n6 = c + k := ⟨_, rfl⟩
                  obtain ⟨u, hu⟩ : ∃ u : Nat, ((n6 : Nat) : Int) - 1 = (u : Int) := ⟨n6 - 1, by omega⟩
                  have hul : u < (A.take (c + k)).length := by rw [htl]; omega
                  obtain ⟨_, b6, ha6, hb6x, hc6⟩ := ownS_at HF.out.all hul
                  obtain ⟨y, hy⟩ : ∃ y, y = (A.take (c + k))[u] := ⟨_, rfl⟩
                  rw [← hy] at hc6
                  have hyq : nlt y q := by
                    obtain ⟨h7, h8⟩ := List.getElem?_eq_some_iff.1 HQA.out
                    rw [hy, List.getElem_take, ← h8]
                    exact List.pairwise_iff_getElem.1 HAR.out u (c + k) (by omega) h7 (by omega)
                  have dl : Op.bytesLess q.toList y.toList = false := (less_nm _ _).trans (ltB_no.2 fun h => nlt_irrefl _ (nlt_trans hyq h))
                  have dl2 : Op.bytesLess y.toList q.toList = true := (less_nm _ _).trans (ltB_iff.2 hyq)
                  have de : (q.toList == y.toList) = false := beq_ba fun e => nlt_irrefl _ (by rw [e] at hyq; exact hyq)
                  have HLT := Lib.hid (And.intro hb3x hb6x)
                  have bu0 : (0 : Int) ≤ (u : Int) := by omega
                  have bu1 : (u : Int) < (n6 : Int) := by omega
                  rw [← hn6] at d0 ⊢
                  have HN6 := Lib.hid hn6
                  have d0' : decide (0 < n6) = true := decide_eq_true (by omega)
                  have bn6 : (n6 : Int) ≤ 2000 := by have := HAL.out; omega
                  have bn61 : (1 : Int) ≤ (n6 : Int) := by omega
                  have bn62 : (0 : Int) ≤ (n6 : Int) - 1 := by omega
                  have bn63 : (n6 : Int) - 1 < (n6 : Int) := by omega
                  subst ha6
                  clear hy hyq hul h0 hb3x hb6x htl hn6
                  go_wp2_with fail
                  refine Reg.wp_region0 (by kernel_rfl) (by kernel_rfl) ?_
                  refine Reg.seg0 3 (by kernel_rfl) rfl ?_
                  apply Exists.intro
                  refine ⟨fun e => ?_, ?_⟩
                  · simp only [List.take_succ_cons, List.take_zero]
                    repeat (go_big_quiet_step ((intro _; rfl)))
                    refine wpQuiet_nil ?_
                    exact rfl
                  simp only [List.drop_succ_cons, List.drop_zero, Nat.reduceAdd]
                  refine Reg.const0 (.string q) (fun e w1 hR hf => ⟨by rfl, ?_⟩) ?_
                  · have c1' := (Below.cell hR (p := ⟨b3, k, none⟩) HLT.out.1).trans hc3
                    unfold Reg.gives
                    clear hf
                    go_simp
                    exact Reg.bel_refl _
                  simp only [Act.put, List.setIfInBounds_toArray, List.set_cons_zero, List.set_cons_succ, Nat.reduceAdd]
                  refine Reg.seg0 5 (by kernel_rfl) rfl ?_
                  apply Exists.intro
                  refine ⟨fun e => ?_, ?_⟩
                  · simp only [List.take_succ_cons, List.take_zero]
                    repeat (go_big_quiet_step ((intro _; rfl)))
                    refine wpQuiet_nil ?_
                    exact rfl
                  simp only [List.drop_succ_cons, List.drop_zero, Nat.reduceAdd]
                  refine Reg.const0 (.string y) (fun e w1 hR hf => ⟨by rfl, ?_⟩) ?_
                  · have c1' := (Below.cell hR (p := ⟨b6, u, none⟩) HLT.out.2).trans hc6
                    unfold Reg.gives
                    clear hf
                    go_simp
                    exact Reg.bel_refl _
                  simp only [Act.put, List.setIfInBounds_toArray, List.set_cons_zero, List.set_cons_succ, Nat.reduceAdd]
                  refine Reg.seg0 1 (by kernel_rfl) rfl ?_
                  apply Exists.intro
                  refine ⟨fun e => ?_, ?_⟩
                  · simp only [List.take_succ_cons, List.take_zero]
                    repeat (go_big_quiet_step ((intro _; rfl)))
                    refine wpQuiet_nil ?_
                    exact rfl
                  simp only [List.drop_succ_cons, List.drop_zero, Nat.reduceAdd]
                  intro eX W7 hR hJ hf
                  have hb7 := (Below.refl wr.heap.size wr).drew.trans hR
                  have HF7 := Lib.hid (show FAs w A P c k (.slice (some ⟨b3, 0, none⟩) P.length c3) (.slice (some ⟨b6, 0, none⟩) n6 c6) W7 by rw [HN6.out]; exact HF.out.bel' hb7)
                  have hc37 := (hb7.cell (p := ⟨b3, k, none⟩) HLT.out.1).trans hc3
                  clear hR hJ hf hb7 hc3 hc6 hu d0 d0' bn6 bn61 bn62 bn63 bu0 bu1
                  obtain ⟨T6, hT6⟩ : ∃ T6, T6 = A.take (c + k) := ⟨_, rfl⟩
                  have HT6 := Lib.hid hT6
                  have hto := HF7.out.all
                  rw [← hT6] at hto
                  have HTO := Lib.hid hto
                  have HTL6 := Lib.hid (show T6.length ≤ 1000 by rw [hT6, List.length_take]; have := HAL.out; omega)
                  clear hT6 hto
                  go_wp2_with (at_builtin; refine wpList_append_of Try.underlying81 HI.out rfl (by omega) rfl (.tmp 76) (.tmp 81) rfl w.heap.size _ T6 rfl (OwnOf.bel (HTO.out) ((Below.refl _ _).alloc (Nat.le_refl _) _)) _ [q] rfl (srcS 1 _ rfl (rowOf_new (C := sCells) (W := fun _ => True) q trivial rfl (heap_alloc_new W7 _))) (Nat.le_trans HF7.out.bel.size (by simp)) (by have := HTL6.out; simp only [List.length_cons, List.length_nil]; omega) ?_)
                  intro v8 W8 ho8 hg8
                  have HF8 := Lib.hid (HF7.out.app (by rw [← HT6.out]; exact ho8) hg8.after_alloc HQA.out)
                  clear ho8 hg8
                  go_wp2_with fail
                  go_roundw
                  case rel => exact ⟨k + 1, by omega, by go_num, HF8⟩
                  case measure => simp [intOf]; omega
                · have h00 : c + k = 0 := by omega
                  have hfz := HF.out
                  rw [show Value.slice a6 (c + k) c6 = Value.slice a6 0 c6 by rw [h00]] at hfz
                  have HFz := Lib.hid hfz
                  rw [h00]
                  have H00 := Lib.hid h00
                  clear h0 hfz htl h00
                  obtain ⟨T6, hT6⟩ : ∃ T6, T6 = A.take (c + k) := ⟨_, rfl⟩
                  have HT6 := Lib.hid hT6
                  have hto := HFz.out.all
                  rw [← hT6] at hto
                  have HTO := Lib.hid hto
                  have HTL6 := Lib.hid (show T6.length ≤ 1000 by rw [hT6, List.length_take]; have := HAL.out; omega)
                  clear hT6 hto
                  go_wp2_with (at_builtin; refine wpList_append_of Try.underlying81 HI.out rfl (by omega) rfl (.tmp 76) (.tmp 81) rfl w.heap.size _ T6 rfl (OwnOf.bel (HTO.out) ((Below.refl _ _).alloc (Nat.le_refl _) _)) _ [q] rfl (srcS 1 _ rfl (rowOf_new (C := sCells) (W := fun _ => True) q trivial rfl (heap_alloc_new wr _))) (Nat.le_trans HFz.out.bel.size (by simp)) (by have := HTL6.out; simp only [List.length_cons, List.length_nil]; omega) ?_)
                  intro v8 W8 ho8 hg8
                  have HF8 := Lib.hid (HFz.out.app (by rw [← HT6.out]; exact ho8) hg8.after_alloc HQA.out)
                  clear ho8 hg8
                  go_wp2_with fail
                  go_roundw
                  case rel => exact ⟨k + 1, by omega, by go_num, HF8⟩
                  case measure => simp [intOf]; omega
              · obtain rfl : k = P.length := by omega
                have bA : (A.length : Int) ≤ 1000 := by have := HAL.out; omega
                have hall : A.take (c + P.length) = A := List.take_of_length_le (by have := HPN.out; omega)
                have hov := HF.out.all
                rw [hall] at hov
                obtain ⟨a6, c6, hv6, hs6, _⟩ := OwnS.strs hov
                subst hv6
                have HS6 := Lib.hid hs6
                have HBW := Lib.hid HF.out.bel
                obtain ⟨Wb, hWb⟩ : ∃ Wb, Wb = wr := ⟨_, rfl⟩
                rw [← hWb] at HS6 HBW
                have HR0 := Lib.hid (show Below Wb.heap.size Wb wr by rw [hWb]; exact Below.refl _ _)
                clear hall hov hs6 HF hWb
                go_wp2_with fail
                go_loopw [12] (fun iv wr => ∃ i : Nat, i ≤ zs.length ∧ iv = .int .i64 i ∧ Hid (Below Wb.heap.size Wb wr)) (fun iv _ => zs.length - (intOf iv).toNat)
                case atStart => exact ⟨0, Nat.zero_le _, rfl, HR0⟩
                case round =>
                  obtain ⟨i, hi, rfl, HB⟩ := hrel
                  have b0 : (0 : Int) ≤ (i : Int) := by omega
                  by_cases hil : i < zs.length
                  · have bil : (i : Int) < (zs.length : Int) := by omega
                    obtain ⟨key, hkey⟩ : ∃ key, key = zs[i] := ⟨_, rfl⟩
                    have HKEY := Lib.hid (show ∃ d, ∃ h : d < A.length, A[d] = key from List.getElem_of_mem ((HAM.out key).2 (by rw [hkey]; exact List.getElem_mem _)))
                    obtain ⟨bz, offz, haz, hbz, _⟩ := HZ.out i hil
                    have hcz := strs_at HZ.out hil haz
                    rw [enc_bl, ← hkey] at hcz
                    have HCZ := Lib.hid (show ∀ W, Below Wb.heap.size Wb W → W.cell? ⟨bz, offz + i, none⟩ = some (.string key) ∧ bz < W.heap.size from fun W hW => ⟨((HBW.out.trans (hW.mono HBW.out.size)).cell (p := ⟨bz, offz + i, none⟩) hbz).trans hcz, Nat.lt_of_lt_of_le (Nat.lt_of_lt_of_le hbz HBW.out.size) hW.size⟩)
                    subst haz
                    clear hkey hbz hcz
                    go_wp2_with fail
                    go_loopw [13, 14] (fun mt kv wr => ∃ (k : Nat) (m' : Bool), k ≤ A.length ∧ kv = .int .i64 k ∧ mt = .bool m' ∧ Hid (MetI A key k m') ∧ Hid (Below Wb.heap.size Wb wr)) (fun _ kv _ => A.length - (intOf kv).toNat)
                    case atStart => exact ⟨0, false, Nat.zero_le _, rfl, rfl, Lib.hid ⟨fun h => (by cases h), fun ⟨d, _, h, _⟩ => by omega⟩, HB⟩
                    case round =>
                      obtain ⟨k, m', hk, rfl, rfl, HM, HB⟩ := hrel
                      have bk0 : (0 : Int) ≤ (k : Int) := by omega
                      by_cases hkl : k < A.length
                      · have bkl : (k : Int) < (A.length : Int) := by omega
                        cases m' with
                        | true =>
                          have HMS := Lib.hid (show MetI A key (k + 1) true from ⟨fun _ => by obtain ⟨d, h1, h2, h3⟩ := HM.out.1 rfl; exact ⟨d, h1, by omega, h3⟩, fun _ => rfl⟩)
                          go_wp2_with fail
                          refine Reg.wp_region0 (by kernel_rfl) (by kernel_rfl) ?_
                          refine Reg.seg0 13 (by kernel_rfl) rfl ?_
                          apply Exists.intro
                          refine ⟨fun e => ?_, ?_⟩
                          · simp only [List.take_succ_cons, List.take_zero]
                            repeat (go_big_quiet_step ((intro _; rfl)))
                            refine wpQuiet_nil ?_
                            exact rfl
                          simp only [List.drop_succ_cons, List.drop_zero, Nat.reduceAdd]
                          intro eX W7 hR hJ hf
                          have HB7 := Lib.hid (HB.out.trans (((Below.refl wr.heap.size wr).drew.trans hR).mono HB.out.size))
                          clear hR hJ hf
                          go_wp2_with fail
                          go_roundw
                          case rel => exact ⟨k + 1, true, by omega, by go_num, rfl, HMS, HB7⟩
                          case measure => simp [intOf]; omega
                        | false =>
                          obtain ⟨bA, offA, haA, hbA, _⟩ := HS6.out k hkl
                          have hcA := (HB.out.cell (p := ⟨bA, offA + k, none⟩) hbA).trans (strs_at HS6.out hkl haA)
                          rw [enc_bl] at hcA
                          obtain ⟨q, hq⟩ : ∃ q, q = A[k] := ⟨_, rfl⟩
                          have HQ := Lib.hid hq
                          rw [← hq] at hcA
                          obtain ⟨hcz, hbz⟩ := HCZ.out wr HB.out
                          have HLT := Lib.hid (And.intro (Nat.lt_of_lt_of_le hbA HB.out.size) hbz)
                          subst haA
                          clear hq hbA hbz
                          by_cases he : q = key
                          · have de : (q.toList == key.toList) = true := by rw [he]; simp
                            have HMS := Lib.hid (show MetI A key (k + 1) true from ⟨fun _ => ⟨k, hkl, by omega, by rw [← HQ.out, he]⟩, fun _ => rfl⟩)
                            clear he
                            go_wp2_with fail
                            refine Reg.wp_region0 (by kernel_rfl) (by kernel_rfl) ?_
                            refine Reg.seg0 5 (by kernel_rfl) rfl ?_
                            apply Exists.intro
                            refine ⟨fun e => ?_, ?_⟩
                            · simp only [List.take_succ_cons, List.take_zero]
                              repeat (go_big_quiet_step ((intro _; rfl)))
                              refine wpQuiet_nil ?_
                              exact rfl
                            simp only [List.drop_succ_cons, List.drop_zero, Nat.reduceAdd]
                            refine Reg.const0 (.string q) (fun e w1 hR hf => ⟨by rfl, ?_⟩) ?_
                            · have c1' := (Below.cell hR (p := ⟨bA, offA + k, none⟩) HLT.out.1).trans hcA
                              unfold Reg.gives
                              clear hf
                              go_simp
                              exact Reg.bel_refl _
                            simp only [Act.put, List.setIfInBounds_toArray, List.set_cons_zero, List.set_cons_succ, Nat.reduceAdd]
                            refine Reg.seg0 3 (by kernel_rfl) rfl ?_
                            apply Exists.intro
                            refine ⟨fun e => ?_, ?_⟩
                            · simp only [List.take_succ_cons, List.take_zero]
                              repeat (go_big_quiet_step ((intro _; rfl)))
                              refine wpQuiet_nil ?_
                              exact rfl
                            simp only [List.drop_succ_cons, List.drop_zero, Nat.reduceAdd]
                            refine Reg.const0 (.string key) (fun e w1 hR hf => ⟨by rfl, ?_⟩) ?_
                            · have c1' := (Below.cell hR (p := ⟨bz, offz + i, none⟩) HLT.out.2).trans hcz
                              unfold Reg.gives
                              clear hf
                              go_simp
                              exact Reg.bel_refl _
                            simp only [Act.put, List.setIfInBounds_toArray, List.set_cons_zero, List.set_cons_succ, Nat.reduceAdd]
                            refine Reg.seg0 3 (by kernel_rfl) rfl ?_
                            apply Exists.intro
                            refine ⟨fun e => ?_, ?_⟩
                            · simp only [List.take_succ_cons, List.take_zero]
                              repeat (go_big_quiet_step ((intro _; rfl)))
                              refine wpQuiet_nil ?_
                              exact rfl
                            simp only [List.drop_succ_cons, List.drop_zero, Nat.reduceAdd]
                            intro eX W7 hR hJ hf
                            have HB7 := Lib.hid (HB.out.trans (((Below.refl wr.heap.size wr).drew.trans hR).mono HB.out.size))
                            clear hR hJ hf
                            go_wp2_with fail
                            go_roundw
                            case rel => exact ⟨k + 1, true, by omega, by go_num, rfl, HMS, HB7⟩
                            case measure => simp [intOf]; omega
                          · have de : (q.toList == key.toList) = false := beq_ba he
                            have HMS := Lib.hid (show MetI A key (k + 1) false from ⟨fun h => (by cases h), fun ⟨d, h1, h2, h3⟩ => by
                              by_cases e : d = k
                              · subst e; rw [← HQ.out] at h3; exact absurd h3 he
                              · exact HM.out.2 ⟨d, h1, by omega, h3⟩⟩)
                            clear he
                            go_wp2_with fail
                            refine Reg.wp_region0 (by kernel_rfl) (by kernel_rfl) ?_
                            refine Reg.seg0 5 (by kernel_rfl) rfl ?_
                            apply Exists.intro
                            refine ⟨fun e => ?_, ?_⟩
                            · simp only [List.take_succ_cons, List.take_zero]
                              repeat (go_big_quiet_step ((intro _; rfl)))
                              refine wpQuiet_nil ?_
                              exact rfl
                            simp only [List.drop_succ_cons, List.drop_zero, Nat.reduceAdd]
                            refine Reg.const0 (.string q) (fun e w1 hR hf => ⟨by rfl, ?_⟩) ?_
                            · have c1' := (Below.cell hR (p := ⟨bA, offA + k, none⟩) HLT.out.1).trans hcA
                              unfold Reg.gives
                              clear hf
                              go_simp
                              exact Reg.bel_refl _
                            simp only [Act.put, List.setIfInBounds_toArray, List.set_cons_zero, List.set_cons_succ, Nat.reduceAdd]
                            refine Reg.seg0 3 (by kernel_rfl) rfl ?_
                            apply Exists.intro
                            refine ⟨fun e => ?_, ?_⟩
                            · simp only [List.take_succ_cons, List.take_zero]
                              repeat (go_big_quiet_step ((intro _; rfl)))
                              refine wpQuiet_nil ?_
                              exact rfl
                            simp only [List.drop_succ_cons, List.drop_zero, Nat.reduceAdd]
                            refine Reg.const0 (.string key) (fun e w1 hR hf => ⟨by rfl, ?_⟩) ?_
                            · have c1' := (Below.cell hR (p := ⟨bz, offz + i, none⟩) HLT.out.2).trans hcz
                              unfold Reg.gives
                              clear hf
                              go_simp
                              exact Reg.bel_refl _
                            simp only [Act.put, List.setIfInBounds_toArray, List.set_cons_zero, List.set_cons_succ, Nat.reduceAdd]
                            refine Reg.seg0 3 (by kernel_rfl) rfl ?_
                            apply Exists.intro
                            refine ⟨fun e => ?_, ?_⟩
                            · simp only [List.take_succ_cons, List.take_zero]
                              repeat (go_big_quiet_step ((intro _; rfl)))
                              refine wpQuiet_nil ?_
                              exact rfl
                            simp only [List.drop_succ_cons, List.drop_zero, Nat.reduceAdd]
                            intro eX W7 hR hJ hf
                            have HB7 := Lib.hid (HB.out.trans (((Below.refl wr.heap.size wr).drew.trans hR).mono HB.out.size))
                            clear hR hJ hf
                            go_wp2_with fail
                            go_roundw
                            case rel => exact ⟨k + 1, false, by omega, by go_num, rfl, HMS, HB7⟩
                            case measure => simp [intOf]; omega
                      · obtain rfl : k = A.length := by omega
                        have hm1 : m' = true := HM.out.2 (by obtain ⟨d, h1, h2⟩ := HKEY.out; exact ⟨d, h1, h1, h2⟩)
                        subst hm1
                        go_wp2_with fail
                        go_roundw
                        case rel => exact ⟨i + 1, by omega, by go_num, HB⟩
                        case measure => simp [intOf]; omega
                  · obtain rfl : i = zs.length := by omega
                    go_wp2_with fail
                    go_ret
                    exact ⟨rfl, HBW.out.trans (HB.out.mono HBW.out.size)⟩
theorem FoldAll_walk (a0 : Option Addr) (len0 cap0 : Nat) (z0 : In_FoldAll_0.T) (a1 : Int) (w : World) (w0 : In_FoldAll_0 w a0 len0 cap0 z0) (_w1 : (Lit.int .i64 a1).wf = true) :
    LawOk Try.prog 8 #[.slice a0 len0 cap0, .int .i64 a1] w := by
  obtain ⟨rfl, hz, hl⟩ := w0
  exact foldAllMain _ _ _ _ w hz hl
end Go.Proofs.Ytnpalplnpfgibaa
