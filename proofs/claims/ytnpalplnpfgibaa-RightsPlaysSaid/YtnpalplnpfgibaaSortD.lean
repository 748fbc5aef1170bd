/- order2Ordered, medianOrdered, choosePivotOrdered at uint32. -/
import Derived.Test.YtnpalplnpfgibaaSortA
namespace Go.Proofs.Ytnpalplnpfgibaa
open Go.RowKit
set_option linter.unusedSimpArgs false
set_option linter.unusedVariables false
/-- The box of 'swaps'. -/
def SBox (w : World) (sb s : Nat) : Prop := w.heap[sb]? = some (.cells #[.int .i64 (s : Int)] 3 (0, 0))
theorem SBox.cell {w : World} {sb s : Nat} (h : SBox w sb s) : w.cell? ⟨sb, 0, none⟩ = some (.int .i64 (s : Int)) := (cell_of_row w sb 0 _ _ _ h).trans rfl
theorem SBox.fro {w : World} {sb s : Nat} (h : SBox w sb s) : w.frozen? ⟨sb, 0, none⟩ = false := frozen_of_row w sb 0 _ _ h
theorem SBox.set {w : World} {sb s : Nat} (h : SBox w sb s) (s' : Nat) : SBox (w.setCell ⟨sb, 0, none⟩ (.int .i64 (s' : Int))) sb s' := heap_setCell_same w sb 0 _ _ _ h
theorem SBox.bel {w w' : World} {sb s : Nat} (h : SBox w sb s) (hb : Below w.heap.size w w') : SBox w' sb s := (hb.block sb (Array.getElem?_eq_some_iff.1 h).1).trans h
theorem SRow.sk {w w' : World} {g sb : Nat} {d : Array Int} {sp : Array Value} (h : SRow w g d sp) (hs : SK sb w w') (hne : g ≠ sb) : SRow w' g d sp := (hs.block g h.lt hne).trans h
structure O2 (sb s : Nat) (v : Value) (w : World) (e : Ending) (W : World) : Prop where
  ret : e = .returned v
  box : SBox W sb s
  sk : SK sb w W
def two (a b : Nat) : Value := .tuple #[.int .i64 (a : Int), .int .i64 (b : Int)]
set_option maxRecDepth 100000 in
set_option maxHeartbeats 4000000 in
theorem order32 (g n cap : Nat) (d : Array Int) (sp : Array Value) (a b sb s x y z : Nat) (w : World) (h : SRow w g d sp) (hn : d.size = n) (hmx : n ≤ 1000000000) (hs : SBox w sb s) (ha : a < n) (hb : b < n) (hsm : s ≤ 100) (hr : Sort.order2 ltI d a b s = (x, y, z)) : Calls Try.prog 183 #[.slice (some ⟨g, 0, none⟩) n cap, .int .i64 (a : Int), .int .i64 (b : Int), .pointer (some ⟨sb, 0, none⟩)] w (O2 sb z (two x y) w) := by
  have HB := Lib.hid hs
  have han : (a : Int) < (n : Int) := by omega
  have hbn : (b : Int) < (n : Int) := by omega
  have c1 := h.cell a (by omega)
  have c2 := h.cell b (by omega)
  have HW := Lib.hid (show IntKind.i64.wrap ((s : Int) + 1) = (s : Int) + 1 by rw [IntKind.wrap_i64]; omega)
  have HO := Lib.hid (show (if ltI d[b]! d[a]! then (b, a, s + 1) else (a, b, s)) = (x, y, z) from hr)
  obtain ⟨t, hb1⟩ : ∃ t, ltI d[b]! d[a]! = t := ⟨_, rfl⟩
  have HT := Lib.hid hb1
  have HL := Lib.hid (show ∀ w, Calls Try.prog 147 #[.int .u32 d[b]!, .int .u32 d[a]!] w (fun e w' => e = .returned (.bool t) ∧ w' = w) from fun w => by rw [← hb1]; exact less32 _ _ _)
  clear hb1
  clear h hn hs ha hb hsm hr
  go_enter Try.func183, Try.ntmps183
  go_wp2
  go_quiet (first | (go_at_call 147; refine Calls.quiet_of_same (HL.out _)))
  have HB1 := Lib.hid (HB.out.bel (below_drewN (Below.refl _ _) nq))
  have HS1 := Lib.hid (show SK sb w (w.drewN nq) from SK.bel (below_drewN (Below.refl _ _) nq))
  clear c1 c2
  generalize World.drewN w nq = W1 at *
  have hO := HO.out
  rw [HT.out] at hO
  clear HO HT HL
  cases t with
  | true =>
    simp only [if_pos, Prod.mk.injEq] at hO
    obtain ⟨rfl, rfl, rfl⟩ := hO
    have hw := HW.out
    have c1 := HB1.out.cell
    have f1 := HB1.out.fro
    have HX := Lib.hid (And.intro (HB1.out.set (s + 1)) (HS1.out.trans (SK.set sb 0 (.int .i64 ((s + 1 : Nat) : Int)) W1)))
    go_wp2
    go_ret2
    exact ⟨rfl, HX.out.1, HX.out.2⟩
  | false =>
    simp only [Bool.false_eq_true, if_false, Prod.mk.injEq] at hO
    obtain ⟨rfl, rfl, rfl⟩ := hO
    go_wp2
    go_ret2
    exact ⟨rfl, HB1.out, HS1.out⟩
theorem order_lt {n a b s x y z : Nat} {d : Array Int} (ha : a < n) (hb : b < n) (h : Sort.order2 ltI d a b s = (x, y, z)) : x < n ∧ y < n ∧ z ≤ s + 1 := by
  unfold Sort.order2 at h
  split at h <;> (simp only [Prod.mk.injEq] at h; obtain ⟨rfl, rfl, rfl⟩ := h; omega)
theorem order_ex (d : Array Int) (a b s : Nat) : ∃ x y z, Sort.order2 ltI d a b s = (x, y, z) := ⟨_, _, _, rfl⟩
def inte (a : Nat) : Value := .int .i64 (a : Int)
set_option maxRecDepth 100000 in
set_option maxHeartbeats 4000000 in
theorem median32 (g n cap : Nat) (d : Array Int) (sp : Array Value) (a b c sb s x z : Nat) (w : World) (h : SRow w g d sp) (hn : d.size = n) (hmx : n ≤ 1000000000) (hne : g ≠ sb) (hs : SBox w sb s) (ha : a < n) (hb : b < n) (hc : c < n) (hsm : s ≤ 50) (hr : Sort.median ltI d a b c s = (x, z)) : Calls Try.prog 174 #[.slice (some ⟨g, 0, none⟩) n cap, .int .i64 (a : Int), .int .i64 (b : Int), .int .i64 (c : Int), .pointer (some ⟨sb, 0, none⟩)] w (fun e W => O2 sb z (inte x) w e W ∧ x < n ∧ z ≤ s + 3) := by
  obtain ⟨a1, b1, s1, h1⟩ := order_ex d a b s
  obtain ⟨b2, c2, s2, h2⟩ := order_ex d b1 c s1
  obtain ⟨a3, b3, s3, h3⟩ := order_ex d a1 b2 s2
  have l1 := order_lt ha hb h1
  have l2 := order_lt l1.2.1 hc h2
  have l3 := order_lt l1.1 l2.1 h3
  have hm : (b3, s3) = (x, z) := by
    rw [← hr]
    unfold Sort.median
    simp only [h1, h2, h3]
  obtain ⟨rfl, rfl⟩ := Prod.mk.inj hm
  have HC1 := Lib.hid (fun W (hW : SRow W g d sp) (hb : SBox W sb s) => order32 g n cap d sp a b sb s a1 b1 s1 W hW hn hmx hb ha ‹b < n› (by omega) h1)
  have HC2 := Lib.hid (fun W (hW : SRow W g d sp) (hb : SBox W sb s1) => order32 g n cap d sp b1 c sb s1 b2 c2 s2 W hW hn hmx hb l1.2.1 hc (by omega) h2)
  have HC3 := Lib.hid (fun W (hW : SRow W g d sp) (hb : SBox W sb s2) => order32 g n cap d sp a1 b2 sb s2 a3 b3 s3 W hW hn hmx hb l1.1 l2.1 (by omega) h3)
  have HR := Lib.hid h
  have HB := Lib.hid hs
  have HNE := Lib.hid hne
  have HL := Lib.hid (show b3 < n ∧ s3 ≤ s + 3 by omega)
  clear hm hr h1 h2 h3 l1 l2 l3 h hs hne hn ha hb hc
  go_enter Try.func174, Try.ntmps174
  go_wp2_with fail
  refine (HC1.out _ HR.out HB.out).mono ?_
  rintro e W1 ⟨rfl, hb1, hs1⟩
  have HR1 := Lib.hid (HR.out.sk hs1 HNE.out)
  have HB1 := Lib.hid hb1
  have HS1 := Lib.hid hs1
  clear hb1 hs1 HR HB HC1
  unfold two
  go_wp2_with fail
  refine (HC2.out _ HR1.out HB1.out).mono ?_
  rintro e W2 ⟨rfl, hb1, hs1⟩
  have HR2 := Lib.hid (HR1.out.sk hs1 HNE.out)
  have HB2 := Lib.hid hb1
  have HS2 := Lib.hid (HS1.out.trans hs1)
  clear hb1 hs1 HR1 HB1 HC2
  unfold two
  go_wp2_with fail
  refine (HC3.out _ HR2.out HB2.out).mono ?_
  rintro e W3 ⟨rfl, hb1, hs1⟩
  have HX := Lib.hid (And.intro hb1 (HS2.out.trans hs1))
  clear hb1 hs1
  unfold two
  go_wp2_with fail
  go_ret
  exact ⟨⟨rfl, HX.out.1, HX.out.2⟩, HL.out⟩
set_option maxRecDepth 100000 in
set_option maxHeartbeats 4000000 in
theorem medianAdj32 (g n cap : Nat) (d : Array Int) (sp : Array Value) (a sb s x z : Nat) (w : World) (h : SRow w g d sp) (hn : d.size = n) (hmx : n ≤ 1000000000) (hne : g ≠ sb) (hs : SBox w sb s) (ha0 : 0 < a) (ha : a + 1 < n) (hsm : s ≤ 50) (hr : Sort.medianAdjacent ltI d a s = (x, z)) : Calls Try.prog 173 #[.slice (some ⟨g, 0, none⟩) n cap, .int .i64 (a : Int), .pointer (some ⟨sb, 0, none⟩)] w (fun e W => O2 sb z (inte x) w e W ∧ x < n ∧ z ≤ s + 3) := by
  obtain ⟨p, hp⟩ : ∃ p, a = p + 1 := ⟨a - 1, by omega⟩
  obtain ⟨q, hq⟩ : ∃ q, q = a + 1 := ⟨_, rfl⟩
  have hr' : Sort.median ltI d p a q s = (x, z) := by rw [← hr, hq, hp]; rfl
  have HC := Lib.hid (median32 g n cap d sp p a q sb s x z w h hn hmx hne hs (by omega) (by omega) (by omega) hsm hr')
  have e1 : (a : Int) - 1 = (p : Int) := by omega
  have e2 : (a : Int) + 1 = (q : Int) := by omega
  have hw1 : IntKind.i64.wrap (p : Int) = (p : Int) := by rw [IntKind.wrap_i64]; omega
  have hw2 : IntKind.i64.wrap (q : Int) = (q : Int) := by rw [IntKind.wrap_i64]; omega
  clear h hn hs hr hr' hp hq hne ha0 ha
  go_enter Try.func173, Try.ntmps173
  go_wp2_with fail
  refine HC.out.mono ?_
  rintro e W1 ⟨⟨rfl, hb1, hs1⟩, hl⟩
  have HX := Lib.hid (And.intro hb1 hs1)
  have HL := Lib.hid hl
  clear hb1 hs1 hl
  unfold inte
  go_wp2_with fail
  go_ret
  exact ⟨⟨rfl, HX.out.1, HX.out.2⟩, HL.out⟩
def hintN : Sort.Hint → Nat
  | .unknown => 0
  | .increasing => 1
  | .decreasing => 2
/-- What choosePivot comes to. -/
structure CPOk (g : Nat) (d : Array Int) (sp : Array Value) (x : Nat) (h : Sort.Hint) (w : World) (e : Ending) (W : World) : Prop where
  ret : e = .returned (two x (hintN h))
  row : SRow W g d sp
  bel : Below w.heap.size w W
theorem adj_ex (d : Array Int) (a s : Nat) : ∃ x z, Sort.medianAdjacent ltI d a s = (x, z) := ⟨_, _, rfl⟩
theorem med_ex (d : Array Int) (a b c s : Nat) : ∃ x z, Sort.median ltI d a b c s = (x, z) := ⟨_, _, rfl⟩
theorem med_lt {n a b c s x z : Nat} {d : Array Int} (ha : a < n) (hb : b < n) (hc : c < n) (h : Sort.median ltI d a b c s = (x, z)) : x < n ∧ z ≤ s + 3 := by
  obtain ⟨a1, b1, s1, h1⟩ := order_ex d a b s
  obtain ⟨b2, c2, s2, h2⟩ := order_ex d b1 c s1
  obtain ⟨a3, b3, s3, h3⟩ := order_ex d a1 b2 s2
  have l1 := order_lt ha hb h1
  have l2 := order_lt l1.2.1 hc h2
  have l3 := order_lt l1.1 l2.1 h3
  unfold Sort.median at h
  simp only [h1, h2, h3, Prod.mk.injEq] at h
  omega
set_option maxRecDepth 100000 in
set_option maxHeartbeats 4000000 in
theorem pivot32 (g n cap : Nat) (d : Array Int) (sp : Array Value) (a b x : Nat) (h : Sort.Hint) (w : World) (hr : SRow w g d sp) (hn : d.size = n) (hmx : n ≤ 1000000000) (hab : a + 12 < b) (hb : b ≤ n) (hc : Sort.choosePivot ltI d a b = (x, h)) : Calls Try.prog 144 #[.slice (some ⟨g, 0, none⟩) n cap, .int .i64 (a : Int), .int .i64 (b : Int)] w (CPOk g d sp x h w) := by
  obtain ⟨l, hl⟩ : ∃ l, l = b - a := ⟨_, rfl⟩
  obtain ⟨u, hu⟩ : ∃ u, u = l / 4 := ⟨_, rfl⟩
  obtain ⟨i, hi⟩ : ∃ i, i = a + u := ⟨_, rfl⟩
  obtain ⟨u2, hu2⟩ : ∃ j, j = u * 2 := ⟨_, rfl⟩
  obtain ⟨u3, hu3⟩ : ∃ j, j = u * 3 := ⟨_, rfl⟩
  obtain ⟨j, hj⟩ : ∃ j, j = a + u2 := ⟨_, rfl⟩
  obtain ⟨k, hk⟩ : ∃ j, j = a + u3 := ⟨_, rfl⟩
  have e1 : (b : Int) - (a : Int) = (l : Int) := by omega
  have e2 : (l : Int).tdiv 4 = (u : Int) := by rw [hu]; exact (Int.ofNat_tdiv l 4).symm
  have e3 : (u : Int) * 2 = (u2 : Int) := by omega
  have e4 : (u : Int) * 3 = (u3 : Int) := by omega
  have e5 : (a : Int) + (u : Int) = (i : Int) := by omega
  have e6 : (a : Int) + (u2 : Int) = (j : Int) := by omega
  have e7 : (a : Int) + (u3 : Int) = (k : Int) := by omega
  have hw1 : IntKind.i64.wrap (l : Int) = (l : Int) := by rw [IntKind.wrap_i64]; omega
  have hw2 : IntKind.i64.wrap (u : Int) = (u : Int) := by rw [IntKind.wrap_i64]; omega
  have hw3 : IntKind.i64.wrap (u2 : Int) = (u2 : Int) := by rw [IntKind.wrap_i64]; omega
  have hw4 : IntKind.i64.wrap (u3 : Int) = (u3 : Int) := by rw [IntKind.wrap_i64]; omega
  have hw5 : IntKind.i64.wrap (i : Int) = (i : Int) := by rw [IntKind.wrap_i64]; omega
  have hw6 : IntKind.i64.wrap (j : Int) = (j : Int) := by rw [IntKind.wrap_i64]; omega
  have hw7 : IntKind.i64.wrap (k : Int) = (k : Int) := by rw [IntKind.wrap_i64]; omega
  have d8 : decide ((8 : Int) ≤ (l : Int)) = true := by rw [decide_eq_true_iff]; omega
  have d8' : decide (8 ≤ l) = true := by rw [decide_eq_true_iff]; omega
  have HLT := Lib.hid (show 0 < i ∧ i + 1 < n ∧ 0 < j ∧ j + 1 < n ∧ 0 < k ∧ k + 1 < n by omega)
  have HN := Lib.hid hn
  have HR0 := Lib.hid (hr.bel ((Below.refl w.heap.size w).alloc (Nat.le_refl _) (.cells #[.int .i64 0] 3)))
  have HB0 := Lib.hid (show SBox (w.alloc (.cells #[.int .i64 0] 3)) w.heap.size 0 from heap_alloc_new w _)
  have HS0 := Lib.hid ((Below.refl w.heap.size w).alloc (Nat.le_refl _) (.cells #[.int .i64 0] 3))
  have HNE := Lib.hid (show g ≠ w.heap.size from Nat.ne_of_lt hr.lt)
  have HWB := Lib.hid (Nat.le_refl w.heap.size)
  by_cases h50 : 50 ≤ l
  · obtain ⟨x1, z1, h1⟩ := adj_ex d i 0
    obtain ⟨x2, z2, h2⟩ := adj_ex d j z1
    obtain ⟨x3, z3, h3⟩ := adj_ex d k z2
    obtain ⟨x4, z, h4⟩ := med_ex d x1 x2 x3 z3
    have l1 := med_lt (n := n) (by omega) (by omega) (by omega) h1
    have l2 := med_lt (n := n) (by omega) (by omega) (by omega) h2
    have l3 := med_lt (n := n) (by omega) (by omega) (by omega) h3
    have l4 := med_lt l1.1 l2.1 l3.1 h4
    have HPIV : x4 = x ∧ (if z = 0 then Sort.Hint.increasing else if z = 12 then .decreasing else .unknown) = h := by
      unfold Sort.choosePivot at hc
      have g1 : a + (b - a) / 4 * 1 = i := by omega
      have g2 : a + (b - a) / 4 * 2 = j := by omega
      have g3 : a + (b - a) / 4 * 3 = k := by omega
      simp only [g1, g2, g3] at hc
      rw [if_pos (by omega), if_pos (by omega)] at hc
      simp only [h1, h2, h3, h4, Prod.mk.injEq] at hc
      exact hc
    have HC1 := Lib.hid (fun W (hW : SRow W g d sp) (hb : SBox W w.heap.size 0) => medianAdj32 g n cap d sp i w.heap.size 0 x1 z1 W hW hn hmx HNE.out hb (by omega) (by omega) (by omega) h1)
    have HC2 := Lib.hid (fun W (hW : SRow W g d sp) (hb : SBox W w.heap.size z1) => medianAdj32 g n cap d sp j w.heap.size z1 x2 z2 W hW hn hmx HNE.out hb (by omega) (by omega) (by omega) h2)
    have HC3 := Lib.hid (fun W (hW : SRow W g d sp) (hb : SBox W w.heap.size z2) => medianAdj32 g n cap d sp k w.heap.size z2 x3 z3 W hW hn hmx HNE.out hb (by omega) (by omega) (by omega) h3)
    have HC4 := Lib.hid (fun W (hW : SRow W g d sp) (hb : SBox W w.heap.size z3) => median32 g n cap d sp x1 x2 x3 w.heap.size z3 x4 z W hW hn hmx HNE.out hb l1.1 l2.1 l3.1 (by omega) h4)
    have d50 : decide ((50 : Int) ≤ (l : Int)) = true := by rw [decide_eq_true_iff]; omega
    have d50' : decide (50 ≤ l) = true := by rw [decide_eq_true_iff]; omega
    clear h1 h2 h3 h4 l1 l2 l3 l4 hc hl hu hi hu2 hu3 hj hk hab hb h50 hr hn
    go_enter Try.func144, Try.ntmps144
    go_wp2_with fail
    refine (HC1.out _ HR0.out HB0.out).mono ?_
    rintro e W1 ⟨⟨rfl, hb1, hs1⟩, hl⟩
    have HR1 := Lib.hid (HR0.out.sk hs1 HNE.out)
    have HB1 := Lib.hid hb1
    have HS1 := Lib.hid (HS0.out.trans (hs1.below HS0.out.size HWB.out))
    clear hb1 hs1 hl HR0 HB0 HS0 HC1
    unfold inte
    go_wp2_with fail
    refine (HC2.out _ HR1.out HB1.out).mono ?_
    rintro e W2 ⟨⟨rfl, hb1, hs1⟩, hl⟩
    have HR2 := Lib.hid (HR1.out.sk hs1 HNE.out)
    have HB2 := Lib.hid hb1
    have HS2 := Lib.hid (HS1.out.trans (hs1.below HS1.out.size HWB.out))
    clear hb1 hs1 hl HR1 HB1 HS1 HC2
    unfold inte
    go_wp2_with fail
    refine (HC3.out _ HR2.out HB2.out).mono ?_
    rintro e W3 ⟨⟨rfl, hb1, hs1⟩, hl⟩
    have HR3 := Lib.hid (HR2.out.sk hs1 HNE.out)
    have HB3 := Lib.hid hb1
    have HS3 := Lib.hid (HS2.out.trans (hs1.below HS2.out.size HWB.out))
    clear hb1 hs1 hl HR2 HB2 HS2 HC3
    unfold inte
    go_wp2_with fail
    refine (HC4.out _ HR3.out HB3.out).mono ?_
    rintro e W4 ⟨⟨rfl, hb1, hs1⟩, hl⟩
    have HR9 := Lib.hid (HR3.out.sk hs1 HNE.out)
    have HB9 := Lib.hid hb1
    have HS9 := Lib.hid (HS3.out.trans (hs1.below HS3.out.size HWB.out))
    clear hb1 hs1 hl HR3 HB3 HS3 HC4
    unfold inte
    obtain ⟨rfl, hpv⟩ := HPIV
    have HH := Lib.hid (And.intro trivial hpv)
    clear hpv
    by_cases z0 : z = 0
    · have hx : h = Sort.Hint.increasing := by rw [← HH.out.2, if_pos z0]
      subst hx
      have e9 : ((z : Int) == 0) = true := by rw [beq_iff_eq]; omega
      clear z0
      have c1 := HB9.out.cell
      go_wp2
      go_ret2
      exact ⟨rfl, HR9.out, HS9.out⟩
    by_cases z12 : z = 12
    · have hx : h = Sort.Hint.decreasing := by rw [← HH.out.2, if_neg z0, if_pos z12]
      subst hx
      have e9 : ((z : Int) == 0) = false := by rw [beq_eq_false_iff_ne]; omega
      have e8 : ((z : Int) == 12) = true := by rw [beq_iff_eq]; omega
      clear z0 z12
      have c1 := HB9.out.cell
      go_wp2
      go_ret2
      exact ⟨rfl, HR9.out, HS9.out⟩
    · have hx : h = Sort.Hint.unknown := by rw [← HH.out.2, if_neg z0, if_neg z12]
      subst hx
      have e9 : ((z : Int) == 0) = false := by rw [beq_eq_false_iff_ne]; omega
      have e8 : ((z : Int) == 12) = false := by rw [beq_eq_false_iff_ne]; omega
      clear z0 z12
      have c1 := HB9.out.cell
      go_wp2
      go_ret2
      exact ⟨rfl, HR9.out, HS9.out⟩
  · obtain ⟨x4, z, h4⟩ := med_ex d i j k 0
    have HPIV : x4 = x ∧ (if z = 0 then Sort.Hint.increasing else if z = 12 then .decreasing else .unknown) = h := by
      unfold Sort.choosePivot at hc
      have g1 : a + (b - a) / 4 * 1 = i := by omega
      have g2 : a + (b - a) / 4 * 2 = j := by omega
      have g3 : a + (b - a) / 4 * 3 = k := by omega
      simp only [g1, g2, g3] at hc
      rw [if_pos (by omega), if_neg (by omega)] at hc
      simp only [h4, Prod.mk.injEq] at hc
      exact hc
    have HC4 := Lib.hid (fun W (hW : SRow W g d sp) (hb : SBox W w.heap.size 0) => median32 g n cap d sp i j k w.heap.size 0 x4 z W hW hn hmx HNE.out hb (by omega) (by omega) (by omega) (by omega) h4)
    have d50 : decide ((50 : Int) ≤ (l : Int)) = false := by rw [decide_eq_false_iff_not]; omega
    have d50' : decide (50 ≤ l) = false := by rw [decide_eq_false_iff_not]; omega
    clear h4 hc hl hu hi hu2 hu3 hj hk hab hb h50 hr hn
    go_enter Try.func144, Try.ntmps144
    go_wp2_with fail
    refine (HC4.out _ HR0.out HB0.out).mono ?_
    rintro e W4 ⟨⟨rfl, hb1, hs1⟩, hl⟩
    have HR9 := Lib.hid (HR0.out.sk hs1 HNE.out)
    have HB9 := Lib.hid hb1
    have HS9 := Lib.hid (HS0.out.trans (hs1.below HS0.out.size HWB.out))
    clear hb1 hs1 hl HR0 HB0 HS0 HC4
    unfold inte
    obtain ⟨rfl, hpv⟩ := HPIV
    have HH := Lib.hid (And.intro trivial hpv)
    clear hpv
    by_cases z0 : z = 0
    · have hx : h = Sort.Hint.increasing := by rw [← HH.out.2, if_pos z0]
      subst hx
      have e9 : ((z : Int) == 0) = true := by rw [beq_iff_eq]; omega
      clear z0
      have c1 := HB9.out.cell
      go_wp2
      go_ret2
      exact ⟨rfl, HR9.out, HS9.out⟩
    by_cases z12 : z = 12
    · have hx : h = Sort.Hint.decreasing := by rw [← HH.out.2, if_neg z0, if_pos z12]
      subst hx
      have e9 : ((z : Int) == 0) = false := by rw [beq_eq_false_iff_ne]; omega
      have e8 : ((z : Int) == 12) = true := by rw [beq_iff_eq]; omega
      clear z0 z12
      have c1 := HB9.out.cell
      go_wp2
      go_ret2
      exact ⟨rfl, HR9.out, HS9.out⟩
    · have hx : h = Sort.Hint.unknown := by rw [← HH.out.2, if_neg z0, if_neg z12]
      subst hx
      have e9 : ((z : Int) == 0) = false := by rw [beq_eq_false_iff_ne]; omega
      have e8 : ((z : Int) == 12) = false := by rw [beq_eq_false_iff_ne]; omega
      clear z0 z12
      have c1 := HB9.out.cell
      go_wp2
      go_ret2
      exact ⟨rfl, HR9.out, HS9.out⟩
end Go.Proofs.Ytnpalplnpfgibaa
