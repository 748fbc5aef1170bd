/- Contract of expiry's Push. -/
import Derived.Test.YtnpalplnpfgibaaHeap
import Derived.Test.YtnpalplnpfgibaaChain
namespace Go.Proofs.Ytnpalplnpfgibaa
open Go.RowKit
def HPush (bh : Nat) (v : Value) (l : List It) (x : It) (w : World) (e : Ending) (w' : World) : Prop := e = .returned (.tuple #[]) ∧ ∃ v' l', IsHeap w' bh v' l' ∧ HGrew bh w w' v v' ∧ HeapL l' ∧ l'.Perm (l ++ [x])
def PushMid (bh : Nat) (v : Value) (l : List It) (n : Nat) (vv : Value) (w : World) : Prop := w.heap[bh]? = some (.cells #[v] 121 (0, 0)) ∧ OwnT (bh + 1) w vv l ∧ ∀ k, vv.ownBlock = some k → v.ownBlock = some k ∨ n ≤ k
def PushEnd (bh : Nat) (v : Value) (l : List It) (n : Nat) (w : World) : Prop := ∃ vv, IsHeap w bh vv l ∧ ∀ k, vv.ownBlock = some k → v.ownBlock = some k ∨ n ≤ k
def ItNew (bh : Nat) (v : Value) (x : It) (u : Value) (w : World) : Prop := ∃ g, u = .slice (some ⟨g, 0, none⟩) 1 1 ∧ g < w.heap.size ∧ g ≠ bh ∧ v.ownBlock ≠ some g ∧ w.heap[g]? = some (.cells #[.int .u64 x.t, .string x.k] 30 (0, 0))
theorem itNew (bh : Nat) (v : Value) (l : List It) (x : It) (w : World) (h : IsHeap w bh v l) : HGrew bh w (w.alloc (.cells #[.int .u64 x.t, .string x.k] 30)) v v ∧ IsHeap (w.alloc (.cells #[.int .u64 x.t, .string x.k] 30)) bh v l ∧ ItNew bh v x (.slice (some ⟨w.heap.size, 0, none⟩) 1 1) (w.alloc (.cells #[.int .u64 x.t, .string x.k] 30)) := by
  have hbel := (Below.refl w.heap.size w).alloc (Nat.le_refl _) (.cells #[.int .u64 x.t, .string x.k] 30)
  refine ⟨HGrew.of_below v hbel, h.bel hbel, w.heap.size, rfl, by simp, fun e => ?_, fun e => ?_, heap_alloc_new w _⟩
  · have := h.lt; omega
  · have := (h.own.block _ e).2; omega
theorem pushStore (bh : Nat) (v vv : Value) (l : List It) (n : Nat) (w : World) (hb : w.heap[bh]? = some (.cells #[v] 121 (0, 0))) (ho : OwnT (bh + 1) w vv l) (hk : ∀ k, vv.ownBlock = some k → v.ownBlock = some k ∨ n ≤ k) (hwf : ∀ a ∈ l, a.wf) :
    HGrew bh w (w.setCell ⟨bh, 0, none⟩ vv) v v ∧ PushEnd bh v l n (w.setCell ⟨bh, 0, none⟩ vv) := by
  refine ⟨⟨rfl, rfl, rfl, by simp [World.setCell], fun k _ h1 _ => Below.heap_setCell _ _ _ _ h1, fun k hk => .inl hk⟩, vv, ⟨?_, ho.kept fun k hk => Below.heap_setCell _ _ _ _ (by have := (ho.block k hk).1; simp; omega), hwf⟩, hk⟩
  have := heap_setCell_same w bh 0 #[v] _ vv hb
  simpa using this
theorem hg_refl (bh : Nat) (v : Value) (w : World) : HGrew bh w w v v := HGrew.refl bh w v
set_option maxRecDepth 100000 in
set_option maxHeartbeats 4000000 in
theorem heapPush (bh : Nat) (v : Value) (l : List It) (x : It) (w : World) (h : IsHeap w bh v l) (hh : HeapL l) (hx : x.wf) (hsz : l.length ≤ 1000000000) :
    Calls Try.prog 14 #[.pointer (some ⟨bh, 0, none⟩), .agg #[.int .u64 x.t, .string x.k]] w (HPush bh v l x w) := by
  have H := Lib.hid h
  have HH := Lib.hid hh
  have HX := Lib.hid hx
  have HSZ := Lib.hid hsz
  have hlt := h.lt
  have HWF := Lib.hid (show ∀ a ∈ l ++ [x], a.wf from fun a ha => by
    rcases List.mem_append.1 ha with h1 | h1
    · exact h.wf a h1
    · simp at h1; subst h1; exact hx)
  have hvb : v.ownBlock ≠ some w.heap.size := fun e => by have := (h.own.block _ e).2; omega
  have HVB := Lib.hid hvb
  have HVB2 := Lib.hid (show v.ownBlock ≠ some bh from fun e => by have := (h.own.block _ e).1; omega)
  clear h hh hx hsz hvb
  go_enter Try.func14, Try.ntmps14
  go_wp2
  have HB0 := Lib.hid ((Below.refl w.heap.size w).alloc (Nat.le_refl _) (.cells #[.int .u64 x.t, .string x.k] 30))
  refine Reg.wp_regionC (fun w w' => HGrew bh w w' v v) (hg_refl bh v) (fun a b c h k => h.trans k) 7 10 (fun w => IsHeap w bh v l) (PushMid bh v (l ++ [x]) (w.heap.size + 1)) (PushEnd bh v (l ++ [x]) (w.heap.size + 1)) (by kernel_rfl) (by kernel_rfl) ((H.out.bel HB0.out).bel (Below.refl _ _).drew) ?_
  refine Reg.segC 2 (by kernel_rfl) rfl (by kernel_rfl) ?_
  apply Exists.intro
  refine ⟨fun e => ?_, ?_⟩
  · simp only [List.take_succ_cons, List.take_zero]
    repeat (go_big_quiet_step ((intro _; rfl)))
    refine wpQuiet_nil ?_
    exact rfl
  simp only [List.drop_succ_cons, List.drop_zero, Nat.reduceAdd]
  refine Reg.stillC (.pointer (some ⟨bh, 0, none⟩)) (hg_refl bh v) rfl (fun e w1 hR hf => ⟨by rfl, ?_⟩) ?_
  · unfold Reg.gives
    clear hf
    go_simp
  simp only [Act.put, List.setIfInBounds_toArray, List.set_cons_zero, List.set_cons_succ, Nat.reduceAdd]
  refine Reg.segC 1 (by kernel_rfl) rfl (by kernel_rfl) ?_
  apply Exists.intro
  refine ⟨fun e => ?_, ?_⟩
  · simp only [List.take_succ_cons, List.take_zero]
    repeat (go_big_quiet_step ((intro _; rfl)))
    refine wpQuiet_nil ?_
    exact rfl
  simp only [List.drop_succ_cons, List.drop_zero, Nat.reduceAdd]
  refine Reg.readC v (hg_refl bh v) rfl (by kernel_rfl) (fun e w1 hR hp => ⟨by rfl, ?_⟩) ?_
  · have hc := hp.cell
    obtain ⟨a, cap, hv⟩ := hp.own.slice
    have HP := Lib.hid hp
    clear hp
    rw [hv] at hc ⊢
    unfold Reg.gives
    go_simp
  simp only [Act.put, List.setIfInBounds_toArray, List.set_cons_zero, List.set_cons_succ, Nat.reduceAdd]
  refine Reg.stillC (.agg #[.int .u64 x.t, .string x.k]) (hg_refl bh v) rfl (fun e w1 hR hf => ⟨by rfl, ?_⟩) ?_
  · have hb := hR.block w.heap.size (by simp) (by omega) HVB.out
    have hb2 : w1.heap[w.heap.size]? = some (.cells #[.int .u64 x.t, .string x.k] 30 (0, 0)) := hb.trans (heap_alloc_new w _)
    have c0 := cell_of_row w1 w.heap.size 0 _ _ _ hb2
    have c1 := cell_of_row w1 w.heap.size 1 _ _ _ hb2
    simp at c0 c1
    clear hb hb2 hf
    unfold Reg.gives
    go_simp
  simp only [Act.put, List.setIfInBounds_toArray, List.set_cons_zero, List.set_cons_succ, Nat.reduceAdd]
  refine Reg.makeC (ItNew bh v x) ?_ rfl (by kernel_rfl) (fun e w1 hR hp hf => ⟨by rfl, ?_⟩) ?_
  · rintro u w1 w2 ⟨g, hu, h1, h2, h3, h4⟩ hr
    exact ⟨g, hu, Nat.lt_of_lt_of_le h1 hr.size, h2, h3, (hr.block g h1 h2 h3).trans h4⟩
  · have HP := Lib.hid hp
    clear hp hf hR
    unfold Reg.gives
    go_simp
    exact itNew bh v l x w1 HP.out
  simp only [Act.put, List.setIfInBounds_toArray, List.set_cons_zero, List.set_cons_succ, Nat.reduceAdd]
  refine Reg.callC (by kernel_rfl) (fun e w1 hR hp hf => ⟨by rfl, ?_⟩) ?_
  · obtain ⟨g, hu, h1, h2, h3, h4⟩ := Reg.factsAt_here hf (by kernel_rfl)
    refine Reg.gives_mono ?_ (gives_append_it (.tmp 9) (.tmp 11) rfl (bh + 1) v l rfl hp.own _ x hu (src_at w1 g x _ _ h4) (by have := hp.lt; omega) HSZ.out)
    rintro v' w2 ⟨ho, hg⟩
    refine ⟨⟨hg.1.os, hg.1.tape, hg.1.output, hg.1.size, fun k hk hk1 hk2 => hg.1.block k hk (fun e => hk2 e.symm), fun k hk => .inl hk⟩, ⟨?_, ho, fun k hk => ?_⟩⟩
    · rw [hg.1.block bh hp.lt (fun e => HVB2.out e.symm)]; exact hp.box
    · rcases hg.2 k hk with h5 | h5
      · exact .inl h5
      · right
        have := hR.size
        simp at this
        omega
  simp only [Act.put, List.setIfInBounds_toArray, List.set_cons_zero, List.set_cons_succ, Nat.reduceAdd]
  refine Reg.stillC (.pointer (some ⟨bh, 0, none⟩)) (hg_refl bh v) rfl (fun e w1 hR hf => ⟨by rfl, ?_⟩) ?_
  · unfold Reg.gives
    clear hf
    go_simp
  simp only [Act.put, List.setIfInBounds_toArray, List.set_cons_zero, List.set_cons_succ, Nat.reduceAdd]
  refine Reg.segC 1 (by kernel_rfl) rfl (by kernel_rfl) ?_
  apply Exists.intro
  refine ⟨fun e => ?_, ?_⟩
  · simp only [List.take_succ_cons, List.take_zero]
    repeat (go_big_quiet_step ((intro _; rfl)))
    refine wpQuiet_nil ?_
    exact rfl
  simp only [List.drop_succ_cons, List.drop_zero, Nat.reduceAdd]
  refine Reg.storeC (by kernel_rfl) (fun e w1 hR hp hf => ⟨by rfl, ?_⟩) ?_
  · obtain ⟨hb, ho, hk⟩ := hp
    obtain ⟨a, cap, hv⟩ := ho.slice
    have c0 := cell_of_row w1 bh 0 _ _ _ hb
    have f0 := frozen_of_row w1 bh 0 _ _ hb
    simp at c0
    have HO := Lib.hid ho
    have HBX := Lib.hid hb
    have HKK := Lib.hid hk
    rw [hv] at HO HKK ⊢
    have HN : (l ++ [x]).length = l.length + 1 := by simp
    rw [HN] at HO HKK
    clear HN
    clear hf hb ho hk hR
    unfold Reg.gives
    go_simp
    exact pushStore bh v _ (l ++ [x]) _ w1 HBX.out HO.out HKK.out HWF.out
  simp only [Act.put, Nat.reduceAdd]
  intro e W5 hR hJ hf
  obtain ⟨vv, h5, hk5⟩ := hJ.2.2 rfl
  have hg5 : HGrew bh w W5 v vv := by
    have h0 := (HGrew.of_below (bh := bh) v HB0.out).trans ((HGrew.of_below v (Below.refl _ _).drew).trans hR)
    refine ⟨h0.os, h0.tape, h0.output, h0.size, h0.block, fun k hk => ?_⟩
    rcases hk5 k hk with h1 | h1
    · exact .inl h1
    · exact .inr (by omega)
  obtain ⟨g, cap, rfl, _, hg2, hlc, hcm, _, _⟩ := h5.own.get (by simp)
  have hc5 := h5.cell
  have H5 := Lib.hid h5
  have HG5 := Lib.hid hg5
  have HU5 := Lib.hid (up_start HH.out x)
  have HL1 := Lib.hid (show (l ++ [x]).length = l.length + 1 by simp)
  unfold maxLen at hcm
  have hl1 : (0 : Int) < ((l ++ [x]).length : Int) := by rw [HL1.out]; omega
  have hlm : ((l ++ [x]).length : Int) ≤ 9223372036854775807 := by omega
  clear h5 hk5 hg5 hJ hf hR
  generalize hgl : l ++ [x] = l1 at *
  have HGL := Lib.hid hgl
  clear hgl
  go_wp2
  go_loopw [4] (fun i wr => ∃ (k : Nat) (l' : List It), i = .int .i64 k ∧ k < l'.length ∧ Hid (l'.length = l1.length) ∧ Hid (IsHeap wr bh (.slice (some ⟨g, 0, none⟩) l'.length cap) l') ∧ Hid (UpInv l' k) ∧ Hid (l'.Perm l1) ∧ Hid (HGrew bh w wr v (.slice (some ⟨g, 0, none⟩) l1.length cap))) (fun i _ => (intOf i).toNat)
  case atStart => exact ⟨l.length, l1, by rw [HL1.out]; simp, by rw [HL1.out]; omega, rfl, H5, HU5, List.Perm.refl _, HG5⟩
  case round =>
    obtain ⟨k, l', rfl, hk, HL, HI, HU, HP, HG⟩ := hrel
    have hck := HI.out.cell
    have HG0 := Lib.hid (show HeapL l' → HPush bh v l x w (.returned (.tuple #[])) _ from fun hh => ⟨rfl, _, l', HI.out, HL.out ▸ HG.out, hh, by rw [HGL.out]; exact HP.out⟩)
    by_cases h0 : k = 0
    · subst h0
      go_wp2
      go_returns
      exact HG0.out (up_end HU.out (fun _ h => by omega))
    · have b1 : (1 : Int) ≤ (k : Int) := by omega
      have b0 : 0 < k := by omega
      have hpk : (k - 1) / 2 < l'.length := by omega
      have hpe : ((k : Int) - 1) / 2 = (((k - 1) / 2 : Nat) : Int) := by omega
      have HPE := Lib.hid hpe
      have HK := Lib.hid (show k < l'.length ∧ 0 < k from ⟨hk, by omega⟩)
      have bk : (k : Int) ≤ 9223372036854775807 := by have := HL.out; omega
      clear hpe
      by_cases hlt2 : (l'[k]).lt (l'[(k - 1) / 2]'hpk)
      · have d := decide_eq_true hlt2
        have HLT := Lib.hid hlt2
        clear hlt2 h0
        go_wp2_with fail
        rw [HPE.out]
        refine (heapLess bh l' g cap k ((k - 1) / 2) _ HI.out HK.out.1 hpk).mono ?_
        rintro e2 W6 ⟨rfl, hb6⟩
        have HI6 := Lib.hid (HI.out.bel hb6)
        have HG6 := Lib.hid (HG.out.trans (HGrew.of_below _ hb6))
        clear HI HG hb6 hck HG0
        go_wp2_with fail
        rw [HPE.out]
        refine (heapSwap bh l' g cap k ((k - 1) / 2) _ HI6.out HK.out.1 hpk).mono ?_
        rintro e3 W7 ⟨rfl, hi7, hg7⟩
        have HI7 := Lib.hid hi7
        have HG7 := Lib.hid (HG6.out.trans (HL.out ▸ hg7))
        clear hi7 hg7 HI6 HG6
        go_wp2_with fail
        go_roundw
        case rel => exact ⟨(k - 1) / 2, sw l' k ((k - 1) / 2) HK.out.1 hpk, by rw [HPE.out], by rw [sw_len]; omega, by rw [sw_len]; exact HL.out, by rw [sw_len]; exact HI7.out, up_step HU.out HK.out.1 HK.out.2 HLT.out, (sw_perm HK.out.1 hpk).trans HP.out, HG7⟩
        case measure => simp [intOf]; omega
      · have d := decide_eq_false hlt2
        have HLT := Lib.hid hlt2
        clear hlt2 h0
        go_wp2_with fail
        rw [HPE.out]
        refine (heapLess bh l' g cap k ((k - 1) / 2) _ HI.out HK.out.1 hpk).mono ?_
        rintro e2 W6 ⟨rfl, hb6⟩
        have HI6 := Lib.hid (HI.out.bel hb6)
        have HG6 := Lib.hid (HG.out.trans (HGrew.of_below _ hb6))
        clear HI HG hb6 hck HG0
        go_wp2_with fail
        go_returns
        exact ⟨rfl, _, l', HI6.out, HL.out ▸ HG6.out, up_end HU.out (fun _ _ => HLT.out), by rw [HGL.out]; exact HP.out⟩
end Go.Proofs.Ytnpalplnpfgibaa
