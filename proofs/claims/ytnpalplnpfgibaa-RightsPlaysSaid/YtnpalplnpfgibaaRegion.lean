/- A region that draws its order of evaluation, walked once in the order of the text, whatever its operations make or call: each operation leaves a value of which a closed fact is known; facts stay true under what the other operations do ('R'); what is written in turn is told by 'J', by what has come up. No program in sight. -/
import Derived.Deep.Quiet
import Derived.Calls
import Derived.Orders
import Derived.Tactics
import Derived.Below
namespace Go.Proofs.Ytnpalplnpfgibaa.Reg
open Go
abbrev Env := Nat → Value
def setE (e : Env) (k : Nat) (v : Value) : Env := fun j => if j = k then v else e j
def upd (L : Nat → Bool) (k : Nat) : Nat → Bool := fun j => j == k || L j
section
variable (P : Program) (ops : Array Oper) (R : World → World → Prop) (J : Env → (Nat → Bool) → World → Prop) (w0 : World)
/-- What is asked of an operation that is carried out: K of its value and of the world behind it. -/
def gives (o : Oper) (a : Act) (w : World) (K : Value → World → Prop) : Prop :=
  match (execOp a.eval o).run P w with
  | .ok (.value v) w' => K v w'
  | .ok .skip w' => K undef w'
  | .ok (.enter f args) w' => Calls P f args w' (fun e w'' => ∃ v, e = .returned v ∧ K v w'')
  | _ => False
/-- It yields v, the world as it was. -/
def still (o : Oper) (a : Act) (w : World) (v : Value) : Prop := gives P o a w (fun u w' => u = v ∧ w' = w) ∧ ∀ f args w', (execOp a.eval o).run P w ≠ .ok (.enter f args) w'
def isDep (o : Oper) (j : Nat) : Bool := o.after.any fun e => Region.binds .any e && e.on == j
/-- Number k waits for number j, by a chain of edges. -/
def depT (ops : Array Oper) : Nat → Nat → Nat → Bool
  | 0, _, _ => false
  | f + 1, k, j => match ops[k]? with
    | none => false
    | some o => o.after.any fun e => Region.binds .any e && (e.on == j || depT ops f e.on j)
/-- Number k may come up now: it has not; what it waits for has; what waits for it has not. -/
def Now (ops : Array Oper) (k : Nat) (L : Nat → Bool) : Prop := L k = false ∧ (∀ j, depT ops ops.size k j = true → L j = true) ∧ ∀ j, depT ops ops.size j k = true → L j = false
def factsAt (o : Oper) : List (Nat × (Env → World → Prop)) → Env → World → Prop
  | [], _, _ => True
  | (j, f) :: fs, e, w => (isDep o j = true → f e w) ∧ factsAt o fs e w
def factsAll : List (Nat × (Env → World → Prop)) → Env → World → Prop
  | [], _, _ => True
  | (_, f) :: fs, e, w => f e w ∧ factsAll fs e w
def OkStep (k : Nat) (o : Oper) (A : Env → Act) (F : Env → World → Prop) (val : Env → Value) (Φ : Value → World → Prop) : Prop :=
  (∀ v w w', Φ v w → R w w' → Φ v w') ∧
  (((∀ e, (Region.wanted o (yielded ops (A e).tmps) = true ∧ ∀ w, R w0 w → F e w → still P o (A e) w (val e)) ∨ (Region.wanted o (yielded ops (A e).tmps) = false ∧ val e = undef))
      ∧ (∀ v w, Φ v w) ∧ (∀ e L w, J e L w → J e (upd L k) w))
   ∨ (((∀ e, val e = e k) ∨ ∃ c, (∀ e, val e = c) ∧ ∀ v w, Φ v w → v = c)
      ∧ ∀ e w L, Now ops k L → R w0 w → J e L w → F e w → Region.wanted o (yielded ops (A e).tmps) = true ∧ gives P o (A e) w (fun v w' => R w w' ∧ J (setE e k v) (upd L k) w' ∧ Φ v w')))
/-- The walk, operation by operation. -/
def Steps (Q : Exit → Act → World → Prop) : List Oper → Nat → (Env → Act) → List (Nat × (Env → World → Prop)) → Prop
  | [], k, A, fs => ∀ e w, R w0 w → J e (fun j => decide (j < k)) w → factsAll fs e w → Q .normal (A e) w
  | o :: rest, k, A, fs => ∃ (val : Env → Value) (Φ : Value → World → Prop), OkStep P ops R J w0 k o A (factsAt o fs) val Φ ∧
      Steps Q rest (k + 1) (fun e => (A e).put o.dst (val e)) ((k, fun e w => Φ (val e) w) :: fs)
/-- Each operation waits for operations ahead of it alone; what it looks at is written by one for which it waits, or by one that waits for it; no slot is written twice. -/
def regB (ops : List Oper) : Bool :=
  Region.noSelect ops.toArray &&
  (List.range ops.length).all fun k => match ops[k]? with
    | none => true
    | some o =>
      (o.after.all fun e => !Region.binds .any e || decide (e.on < k)) &&
      (List.range ops.length).all fun j => j == k || match ops[j]? with
        | none => true
        | some oj => match oj.dst with
          | none => true
          | some d => o.dst != some d && (!(o.looksAt ops.toArray).contains d || (decide (j < k) && isDep o j) || (decide (k < j) && isDep oj k))
end
section
variable {P : Program} {R : World → World → Prop} {J : Env → (Nat → Bool) → World → Prop} {w0 : World} {Q : Exit → Act → World → Prop}
def actF (A : Env → Act) (l : List Oper) (vals : Nat → Env → Value) (k : Nat) : Nat → Env → Act
  | 0 => A
  | j + 1 => fun e => (actF A l vals k j e).put ((l[j]?).bind (·.dst)) (vals (k + j) e)
def factsF (fs : List (Nat × (Env → World → Prop))) (vals : Nat → Env → Value) (Φs : Nat → Value → World → Prop) (k : Nat) : Nat → List (Nat × (Env → World → Prop))
  | 0 => fs
  | j + 1 => (k + j, fun e w => Φs (k + j) (vals (k + j) e) w) :: factsF fs vals Φs k j
theorem actF_cons (A : Env → Act) (o : Oper) (l : List Oper) (vals vals' : Nat → Env → Value) (k : Nat) (h : ∀ i, k < i → vals i = vals' i) (j : Nat) :
    actF A (o :: l) vals k (j + 1) = actF (fun e => (A e).put o.dst (vals k e)) l vals' (k + 1) j := by
  induction j with
  | zero => funext e; simp [actF]
  | succ j ih =>
    funext e
    show (actF A (o :: l) vals k (j + 1) e).put _ _ = _
    rw [ih]
    simp only [actF, List.getElem?_cons_succ]
    rw [h (k + (j + 1)) (by omega), show k + 1 + j = k + (j + 1) by omega]
theorem factsF_cons (fs : List (Nat × (Env → World → Prop))) (vals vals' : Nat → Env → Value) (Φs Φs' : Nat → Value → World → Prop) (k : Nat) (h : ∀ i, k < i → vals i = vals' i) (h' : ∀ i, k < i → Φs i = Φs' i) (j : Nat) :
    factsF fs vals Φs k (j + 1) = factsF ((k, fun e w => Φs k (vals k e) w) :: fs) vals' Φs' (k + 1) j := by
  induction j with
  | zero => rfl
  | succ j ih =>
    show _ :: factsF fs vals Φs k (j + 1) = _
    rw [ih]
    simp only [factsF]
    rw [h (k + (j + 1)) (by omega), h' (k + (j + 1)) (by omega), show k + 1 + j = k + (j + 1) by omega]
theorem Steps.out (ops : Array Oper) : ∀ (l : List Oper) (k : Nat) (A : Env → Act) (fs : List (Nat × (Env → World → Prop))), Steps P ops R J w0 Q l k A fs →
    ∃ (vals : Nat → Env → Value) (Φs : Nat → Value → World → Prop), (∀ j o, l[j]? = some o → OkStep P ops R J w0 (k + j) o (actF A l vals k j) (factsAt o (factsF fs vals Φs k j)) (vals (k + j)) (Φs (k + j))) ∧
      ∀ e w, R w0 w → J e (fun j => decide (j < k + l.length)) w → factsAll (factsF fs vals Φs k l.length) e w → Q .normal (actF A l vals k l.length e) w
  | [], k, A, fs, h => ⟨fun _ _ => undef, fun _ _ _ => True, fun j o hj => by simp at hj, fun e w h1 h2 h3 => h e w h1 (by simpa using h2) h3⟩
  | o :: l, k, A, fs, ⟨val, Φ, h1, h2⟩ => by
    obtain ⟨vals', Φs', h3, h4⟩ := Steps.out ops l (k + 1) _ _ h2
    let vals : Nat → Env → Value := fun i => if i = k then val else vals' i
    let Φs : Nat → Value → World → Prop := fun i => if i = k then Φ else Φs' i
    have hv : ∀ i, k < i → vals i = vals' i := fun i hi => by show (if i = k then val else vals' i) = _; rw [if_neg (by omega)]
    have hp : ∀ i, k < i → Φs i = Φs' i := fun i hi => by show (if i = k then Φ else Φs' i) = _; rw [if_neg (by omega)]
    have hvk : vals k = val := by show (if k = k then val else vals' k) = _; rw [if_pos rfl]
    have hpk : Φs k = Φ := by show (if k = k then Φ else Φs' k) = _; rw [if_pos rfl]
    refine ⟨vals, Φs, ?_, ?_⟩
    · intro j oj hj
      cases j with
      | zero =>
        simp only [List.getElem?_cons_zero, Option.some.injEq] at hj
        subst hj
        simp only [Nat.add_zero, actF, factsF]
        rw [hvk, hpk]
        exact h1
      | succ j =>
        rw [List.getElem?_cons_succ] at hj
        have := h3 j oj hj
        rw [actF_cons A o l vals vals' k hv j, factsF_cons fs vals vals' Φs Φs' k hv hp j, hvk, hpk, show k + (j + 1) = k + 1 + j by omega, hv (k + 1 + j) (by omega), hp (k + 1 + j) (by omega)]
        exact this
    · intro e w ha hb hc
      rw [List.length_cons, actF_cons A o l vals vals' k hv l.length, hvk]
      rw [List.length_cons, factsF_cons fs vals vals' Φs Φs' k hv hp l.length, hvk, hpk] at hc
      refine h4 e w ha ?_ hc
      rw [List.length_cons] at hb
      rw [show k + 1 + l.length = k + (l.length + 1) by omega]
      exact hb

/-! ### Soundness -/
/-- The act when, of the first n operations, those of M have put their values. -/
def actL (a : Act) (l : List Oper) (vals : Nat → Env → Value) (M : Nat → Bool) (e : Env) : Nat → Act
  | 0 => a
  | j + 1 => if M j = true then (actL a l vals M e j).put ((l[j]?).bind (·.dst)) (vals j e) else actL a l vals M e j
theorem actF_actL (a : Act) (l : List Oper) (vals : Nat → Env → Value) (M : Nat → Bool) (e : Env) : ∀ k, (∀ j, j < k → M j = true) → actF (fun _ => a) l vals 0 k e = actL a l vals M e k
  | 0, _ => rfl
  | k + 1, h => by
    have ih := actF_actL a l vals M e k (fun j hj => h j (by omega))
    simp only [actF, actL]
    rw [if_pos (h k (by omega)), ih, Nat.zero_add]
theorem put_size (a : Act) (d : Option Tmp) (v : Value) : (a.put d v).tmps.size = a.tmps.size := by
  cases d <;> simp [Act.put]
theorem actL_size (a : Act) (l : List Oper) (vals : Nat → Env → Value) (M : Nat → Bool) (e : Env) : ∀ k, (actL a l vals M e k).tmps.size = a.tmps.size
  | 0 => rfl
  | k + 1 => by
    simp only [actL]
    split
    · rw [put_size, actL_size a l vals M e k]
    · exact actL_size a l vals M e k
theorem put_at_ne (a : Act) (d : Option Tmp) (v : Value) (t : Tmp) (h : d ≠ some t) : (a.put d v).tmps.getD t undef = a.tmps.getD t undef := by
  cases d with
  | none => rfl
  | some d =>
    have hne : d ≠ t := fun e => h (by rw [e])
    simp [Act.put, Array.getElem?_setIfInBounds_ne hne]
theorem put_at (a : Act) (v : Value) (t : Tmp) : (a.put (some t) v).tmps.getD t undef = if t < a.tmps.size then v else undef := by
  by_cases h : t < a.tmps.size
  · simp [Act.put, h]
  · simp [Act.put, h]
/-- A slot that none of M writes. -/
theorem actL_none (a : Act) (l : List Oper) (vals : Nat → Env → Value) (M : Nat → Bool) (e : Env) (t : Tmp) : ∀ k, (∀ j, j < k → M j = true → (l[j]?).bind (·.dst) ≠ some t) → (actL a l vals M e k).tmps.getD t undef = a.tmps.getD t undef
  | 0, _ => rfl
  | k + 1, h => by
    have ih := actL_none a l vals M e t k (fun j hj => h j (by omega))
    simp only [actL]
    split
    · rename_i hm
      rw [put_at_ne _ _ _ _ (h k (by omega) hm), ih]
    · exact ih
/-- A slot that one of M writes, and no other. -/
theorem actL_one (a : Act) (l : List Oper) (vals : Nat → Env → Value) (M : Nat → Bool) (e : Env) (t : Tmp) (i : Nat) (hi : (l[i]?).bind (·.dst) = some t) (hM : M i = true) : ∀ k, i < k →
    (∀ j, j ≠ i → (l[j]?).bind (·.dst) ≠ some t) → (actL a l vals M e k).tmps.getD t undef = if t < a.tmps.size then vals i e else undef
  | 0, h, _ => by omega
  | k + 1, h, hn => by
    simp only [actL]
    by_cases hk : i = k
    · subst hk
      rw [if_pos hM, hi, put_at, actL_size]
    · have ih := actL_one a l vals M e t i hi hM k (by omega) hn
      split
      · rw [put_at_ne _ _ _ _ (hn k (by omega)), ih]
      · exact ih
/-- One more. -/
theorem actL_more (a : Act) (l : List Oper) (vals : Nat → Env → Value) (M : Nat → Bool) (e : Env) (i : Nat) (hM : M i = false) (hd : ∀ j, j ≠ i → ∀ t, (l[i]?).bind (·.dst) = some t → (l[j]?).bind (·.dst) ≠ some t) :
    ∀ k, (k ≤ i → actL a l vals (upd M i) e k = actL a l vals M e k) ∧ (i < k → actL a l vals (upd M i) e k = (actL a l vals M e k).put ((l[i]?).bind (·.dst)) (vals i e))
  | 0 => ⟨fun _ => rfl, fun h => by omega⟩
  | k + 1 => by
    obtain ⟨h1, h2⟩ := actL_more a l vals M e i hM hd k
    constructor
    · intro h
      have hu : upd M i k = M k := by simp [upd]; omega
      simp only [actL]
      rw [hu, h1 (by omega)]
    · intro h
      by_cases hk : k = i
      · subst hk
        simp only [actL]
        rw [if_pos (by simp [upd]), if_neg (by simp [hM]), h1 (Nat.le_refl _)]
      · have hu : upd M i k = M k := by simp [upd]; omega
        simp only [actL]
        rw [hu, h2 (by omega)]
        split
        · rw [Act.put_comm]
          intro d hd1 hd2
          exact hd k hk d hd1 hd2
        · rfl
theorem yielded_congr (ops : Array Oper) (t1 t2 : Array Value) (g : Nat) (hs : t1.size = t2.size) (h : ∀ t, (ops[g]?).bind (·.dst) = some t → t1.getD t undef = t2.getD t undef) : yielded ops t1 g = yielded ops t2 g := by
  unfold yielded
  cases ht : (ops[g]?).bind (·.dst) with
  | none => rfl
  | some t =>
    have h1 := h t ht
    simp only [Option.bind_some]
    by_cases hlt : t < t1.size
    · have h2 : t < t2.size := hs ▸ hlt
      rw [Array.getElem?_eq_getElem hlt, Array.getElem?_eq_getElem h2]
      simp [hlt, h2] at h1
      rw [h1]
    · have h2 : ¬ t < t2.size := hs ▸ hlt
      rw [Array.getElem?_eq_none (Nat.le_of_not_lt hlt), Array.getElem?_eq_none (Nat.le_of_not_lt h2)]
theorem gives_mono {o : Oper} {a : Act} {w : World} {K K' : Value → World → Prop} (h : ∀ v w', K v w' → K' v w') (hg : gives P o a w K) : gives P o a w K' := by
  unfold gives at *
  generalize (execOp a.eval o).run P w = r at *
  cases r with
  | ok n w' =>
    cases n
    case value v => exact h _ _ hg
    case skip => exact h _ _ hg
    case enter f args => exact Calls.mono hg fun e w'' ⟨v, he, hk⟩ => ⟨v, he, h _ _ hk⟩
    all_goals exact hg.elim
  | halt x w' => exact hg.elim
theorem wp_of_gives {o : Oper} {a : Act} {w : World} {K : Value → World → Prop} {K' : Act → World → Prop} (h : ∀ v w', K v w' → K' (a.put o.dst v) w') (hg : gives P o a w K) : o.wp P a w K' Q := by
  unfold gives at hg
  unfold Oper.wp
  generalize (execOp a.eval o).run P w = r at *
  cases r with
  | ok n w' =>
    cases n
    case value v => exact h _ _ hg
    case skip => exact h _ _ hg
    case enter f args =>
      simp only [Oper.upon]
      exact Calls.mono hg fun e w'' ⟨v, he, hk⟩ => by subst he; exact h _ _ hk
    all_goals exact hg.elim
  | halt x w' => exact hg.elim
theorem gives_det {o : Oper} {a : Act} {w : World} {v : Value} {K : Value → World → Prop} (hs : still P o a w v) (hg : gives P o a w K) : K v w := by
  obtain ⟨h1, h2⟩ := hs
  unfold gives at hg h1
  generalize (execOp a.eval o).run P w = r at *
  cases r with
  | ok n w' =>
    cases n
    case value u => obtain ⟨rfl, rfl⟩ := h1; exact hg
    case skip => obtain ⟨rfl, rfl⟩ := h1; exact hg
    case enter f args => exact absurd rfl (h2 f args w')
    all_goals exact hg.elim
  | halt x w' => exact hg.elim
theorem gives_congr {o : Oper} {a a' : Act} {w : World} {K : Value → World → Prop} (h : execOp a.eval o = execOp a'.eval o) (hg : gives P o a w K) : gives P o a' w K := by
  unfold gives at *
  rwa [← h]
theorem still_congr {o : Oper} {a a' : Act} {w : World} {v : Value} (h : execOp a.eval o = execOp a'.eval o) (hg : still P o a w v) : still P o a' w v := by
  unfold still gives at *
  rwa [← h]
theorem regB_spec {l : List Oper} (h : regB l = true) : Region.noSelect l.toArray = true ∧ ∀ k o, l[k]? = some o →
    (∀ e ∈ o.after, Region.binds .any e = true → e.on < k) ∧ ∀ j oj d, j ≠ k → l[j]? = some oj → oj.dst = some d →
      o.dst ≠ some d ∧ (d ∈ o.looksAt l.toArray → (j < k ∧ isDep o j = true) ∨ (k < j ∧ isDep oj k = true)) := by
  unfold regB at h
  simp only [Bool.and_eq_true] at h
  refine ⟨h.1, fun k o hk => ?_⟩
  have hlt : k < l.length := (List.getElem?_eq_some_iff.1 hk).1
  have h1 := List.all_eq_true.1 h.2 k (List.mem_range.2 hlt)
  simp only [hk, Bool.and_eq_true] at h1
  refine ⟨fun e he hb => ?_, fun j oj d hjk hj hd => ?_⟩
  · have := Array.all_eq_true_iff_forall_mem.1 h1.1 e he
    simpa [hb] using this
  · have hlj : j < l.length := (List.getElem?_eq_some_iff.1 hj).1
    have h2 := List.all_eq_true.1 h1.2 j (List.mem_range.2 hlj)
    have hjk' : (j == k) = false := by simpa using hjk
    simp only [hj, hd, hjk', Bool.false_or, Bool.and_eq_true, bne_iff_ne, ne_eq, Bool.or_eq_true, Bool.not_eq_true', List.contains_eq_mem, decide_eq_false_iff_not, decide_eq_true_eq] at h2
    refine ⟨h2.1, fun hm => ?_⟩
    rcases h2.2 with (h3 | h3) | h3
    · exact absurd hm h3
    · exact .inl h3
    · exact .inr h3
theorem isDep_listed {o : Oper} {j : Nat} {L : Nat → Bool} (h : isDep o j = true) (hall : ∀ e ∈ o.after, Region.binds .any e = true → L e.on = true) : L j = true := by
  unfold isDep at h
  obtain ⟨e, he, h1⟩ := Array.any_eq_true'.1 h
  simp only [Bool.and_eq_true, beq_iff_eq] at h1
  rw [← h1.2]
  exact hall e he h1.1

def toL (listed : Array Bool) : Nat → Bool := fun j => listed.getD j false
theorem toL_set (listed : Array Bool) (k : Nat) (hk : k < listed.size) : toL (listed.setIfInBounds k true) = upd (toL listed) k := by
  funext j
  unfold toL upd
  by_cases h : j = k
  · subst h; simp [hk]
  · have hb : (j == k) = false := by simpa using h
    rw [hb, Bool.false_or, getD_set_ne false (fun e => h e.symm)]
/-- how many have not come up -/
def unl (n : Nat) (L : Nat → Bool) : Nat := ((List.range n).filter fun j => !L j).length
theorem unl_upd (n : Nat) (L : Nat → Bool) (k : Nat) (hk : k < n) (h : L k = false) : unl n (upd L k) < unl n L := by
  induction n with
  | zero => omega
  | succ n ih =>
    unfold unl at *
    rw [List.range_succ, List.filter_append, List.filter_append, List.length_append, List.length_append]
    by_cases hkn : k = n
    · subst hkn
      have h1 : ((List.range k).filter fun j => !upd L k j).length = ((List.range k).filter fun j => !L j).length := by
        congr 1
        apply List.filter_congr
        intro x hx
        have := List.mem_range.1 hx
        have hb : (x == k) = false := by simp; omega
        simp [upd, hb]
      rw [h1]
      simp [upd, h]
    · have h2 := ih (by omega)
      have hb : (n == k) = false := by simp; omega
      have h3 : upd L k n = L n := by simp [upd, hb]
      simp only [List.filter_cons, List.filter_nil, h3]
      omega
theorem factsAt_F {o : Oper} {vals : Nat → Env → Value} {Φs : Nat → Value → World → Prop} {e : Env} {w : World} : ∀ k, (∀ j, j < k → isDep o j = true → Φs j (vals j e) w) → factsAt o (factsF [] vals Φs 0 k) e w
  | 0, _ => trivial
  | k + 1, h => by
    simp only [factsF, factsAt, Nat.zero_add]
    exact ⟨fun hd => h k (by omega) hd, factsAt_F k (fun j hj => h j (by omega))⟩
theorem factsAll_F {vals : Nat → Env → Value} {Φs : Nat → Value → World → Prop} {e : Env} {w : World} : ∀ k, (∀ j, j < k → Φs j (vals j e) w) → factsAll (factsF [] vals Φs 0 k) e w
  | 0, _ => trivial
  | k + 1, h => by
    simp only [factsF, factsAll, Nat.zero_add]
    exact ⟨h k (by omega), factsAll_F k (fun j hj => h j (by omega))⟩
theorem unl_zero (n : Nat) (L : Nat → Bool) (h : unl n L = 0) (j : Nat) (hj : j < n) : L j = true := by
  unfold unl at h
  have h1 := List.length_eq_zero_iff.1 h
  cases hL : L j with
  | true => rfl
  | false =>
    have : j ∈ (List.range n).filter fun j => !L j := List.mem_filter.2 ⟨List.mem_range.2 hj, by simp [hL]⟩
    rw [h1] at this; cases this
theorem depT_listed {l : List Oper} {L : Nat → Bool} (hcl : ∀ j o, l[j]? = some o → L j = true → ∀ e ∈ o.after, Region.binds .any e = true → L e.on = true) :
    ∀ (f k j : Nat) (o : Oper), l[k]? = some o → (∀ e ∈ o.after, Region.binds .any e = true → L e.on = true) → depT l.toArray f k j = true → L j = true
  | 0, _, _, _, _, _, h => by simp [depT] at h
  | f + 1, k, j, o, ho, hall, h => by
    unfold depT at h
    have ho' : l.toArray[k]? = some o := by simpa using ho
    rw [ho'] at h
    obtain ⟨e, he, h1⟩ := Array.any_eq_true'.1 h
    simp only [Bool.and_eq_true, Bool.or_eq_true, beq_iff_eq] at h1
    have hle := hall e he h1.1
    rcases h1.2 with h2 | h2
    · rw [← h2]; exact hle
    · cases hoe : l[e.on]? with
      | none =>
        cases f with
        | zero => simp [depT] at h2
        | succ f => unfold depT at h2; have : l.toArray[e.on]? = none := by simpa using hoe
                    rw [this] at h2; cases h2
      | some oe => exact depT_listed hcl f e.on j oe hoe (fun e' he' hb' => hcl e.on oe hoe hle e' he' hb') h2
theorem depT_unlisted {l : List Oper} {L : Nat → Bool} (hcl : ∀ j o, l[j]? = some o → L j = true → ∀ e ∈ o.after, Region.binds .any e = true → L e.on = true) {f j k : Nat} (hd : depT l.toArray f j k = true) (hk : L k = false) : L j = false := by
  cases hj : L j with
  | false => rfl
  | true =>
    cases hoj : l[j]? with
    | none =>
      cases f with
      | zero => simp [depT] at hd
      | succ f => unfold depT at hd; have : l.toArray[j]? = none := by simpa using hoj
                  rw [this] at hd; cases hd
    | some oj =>
      have := depT_listed hcl f j k oj hoj (fun e he hb => hcl j oj hoj hj e he hb) hd
      rw [hk] at this; cases this
theorem region_run {l : List Oper} {a : Act} {vals : Nat → Env → Value} {Φs : Nat → Value → World → Prop} (hB : regB l = true) (hRt : ∀ a b c, R a b → R b c → R a c)
    (h3 : ∀ j o, l[j]? = some o → OkStep P l.toArray R J w0 j o (actF (fun _ => a) l vals 0 j) (factsAt o (factsF [] vals Φs 0 j)) (vals j) (Φs j))
    (h4 : ∀ e w, R w0 w → J e (fun j => decide (j < l.length)) w → (∀ j, j < l.length → Φs j (vals j e) w) → Q .normal (actL a l vals (fun j => decide (j < l.length)) e l.length) w) :
    ∀ (fuel : Nat) (listed : Array Bool) (w : World) (σ : Env), unl l.length (toL listed) ≤ fuel → listed.size = l.length →
      (∀ j o, l[j]? = some o → toL listed j = true → ∀ e ∈ o.after, Region.binds .any e = true → toL listed e.on = true) →
      (∀ e : Env, (∀ j, toL listed j = true → e j = σ j) → (∀ j, toL listed j = true → Φs j (vals j e) w) ∧ actL a l vals (toL listed) e l.length = actL a l vals (toL listed) σ l.length) →
      R w0 w → J σ (toL listed) w → wpAny P .any l.toArray Q fuel listed (actL a l vals (toL listed) σ l.length) w := by
  obtain ⟨hns, hsp⟩ := regB_spec hB
  -- what is looked at is, at run time, what the text's walk has
  have look : ∀ (listed : Array Bool) (k : Nat) (o : Oper) (e : Env), l[k]? = some o → toL listed k = false →
      (∀ j o, l[j]? = some o → toL listed j = true → ∀ e ∈ o.after, Region.binds .any e = true → toL listed e.on = true) →
      (∀ e ∈ o.after, Region.binds .any e = true → toL listed e.on = true) → ∀ t ∈ o.looksAt l.toArray,
      (actL a l vals (toL listed) e l.length).tmps.getD t undef = (actF (fun _ => a) l vals 0 k e).tmps.getD t undef := by
    intro listed k o e hk hun hcl hall t ht
    have hkl : k < l.length := (List.getElem?_eq_some_iff.1 hk).1
    rw [actF_actL a l vals (fun _ => true) e k (fun _ _ => rfl)]
    by_cases hw : ∃ j oj, j ≠ k ∧ l[j]? = some oj ∧ oj.dst = some t
    · obtain ⟨j, oj, hjk, hj, hd⟩ := hw
      have hjl : j < l.length := (List.getElem?_eq_some_iff.1 hj).1
      have hbj : (l[j]?).bind (·.dst) = some t := by rw [hj]; exact hd
      have huniq : ∀ i, i ≠ j → (l[i]?).bind (·.dst) ≠ some t := by
        intro i hij hit
        cases hi : l[i]? with
        | none => rw [hi] at hit; cases hit
        | some oi =>
          rw [hi] at hit
          exact ((hsp j oj hj).2 i oi t hij hi hit).1 hd
      rcases ((hsp k o hk).2 j oj t hjk hj hd).2 ht with ⟨hlt, hdep⟩ | ⟨hlt, hdep⟩
      · have hlj := isDep_listed (L := toL listed) hdep hall
        rw [actL_one a l vals (toL listed) e t j hbj hlj l.length hjl huniq, actL_one a l vals (fun _ => true) e t j hbj rfl k hlt huniq]
      · have hlj : toL listed j = false := by
          cases hlj : toL listed j with
          | false => rfl
          | true =>
            have := isDep_listed (L := toL listed) hdep (fun e he hb => hcl j oj hj hlj e he hb)
            rw [hun] at this; cases this
        rw [actL_none, actL_none]
        · intro i hi _ hit
          by_cases hij : i = j
          · omega
          · exact huniq i hij hit
        · intro i _ hil hit
          by_cases hij : i = j
          · subst hij; rw [hlj] at hil; cases hil
          · exact huniq i hij hit
    · rw [actL_none, actL_none]
      · intro i hi _ hit
        apply hw
        cases hoi : l[i]? with
        | none => rw [hoi] at hit; cases hit
        | some oi => rw [hoi] at hit; exact ⟨i, oi, by omega, hoi, hit⟩
      · intro i _ hil hit
        apply hw
        cases hoi : l[i]? with
        | none => rw [hoi] at hit; cases hit
        | some oi =>
          rw [hoi] at hit
          exact ⟨i, oi, fun e => (by rw [e, hun] at hil; cases hil), hoi, hit⟩
  -- where none may come up all have
  have alldone : ∀ (listed : Array Bool), listed.size = l.length → Region.ready .any l.toArray listed = [] → toL listed = fun j => decide (j < l.length) := by
    intro listed hsz hr
    have key : ∀ n j, j < n → j < l.length → toL listed j = true := by
      intro n
      induction n with
      | zero => intro j hj; omega
      | succ n ih =>
        intro j hj hjl
        cases hL : toL listed j with
        | true => rfl
        | false =>
          have hmem : j ∈ Region.ready .any l.toArray listed := by
            refine mem_ready.2 ⟨?_, l[j], by simp [hjl], fun e he hb => ?_⟩
            · have hjs : j < listed.size := by rw [hsz]; exact hjl
              unfold toL at hL
              simp [hjs] at hL ⊢
              exact hL
            · have := (hsp j l[j] (by simp [hjl])).1 e he hb
              exact ih e.on (by omega) (by omega)
          rw [hr] at hmem; cases hmem
    funext j
    by_cases hj : j < l.length
    · rw [key (j + 1) j (by omega) hj]; simp [hj]
    · have : ¬ j < listed.size := by rw [hsz]; exact hj
      unfold toL
      simp [hj, this]
  have finish : ∀ (listed : Array Bool) (w : World) (σ : Env), listed.size = l.length → Region.ready .any l.toArray listed = [] →
      (∀ e : Env, (∀ j, toL listed j = true → e j = σ j) → (∀ j, toL listed j = true → Φs j (vals j e) w) ∧ actL a l vals (toL listed) e l.length = actL a l vals (toL listed) σ l.length) →
      R w0 w → J σ (toL listed) w → Q .normal (actL a l vals (toL listed) σ l.length) w := by
    intro listed w σ hsz hr hc hR hJ
    have hall := alldone listed hsz hr
    have h1 := (hc σ (fun _ _ => rfl)).1
    rw [hall] at h1 hJ ⊢
    exact h4 σ w hR hJ (fun j hj => h1 j (by simpa using hj))
  intro fuel
  induction fuel with
  | zero =>
    intro listed w σ hu hsz hcl hc hR hJ
    have hr : Region.ready .any l.toArray listed = [] := by
      rw [List.eq_nil_iff_forall_not_mem]
      intro j hj
      obtain ⟨h1, o, ho, _⟩ := mem_ready.1 hj
      have hjl : j < l.length := by have := (Array.getElem?_eq_some_iff.1 ho).1; simpa using this
      have h2 := unl_zero l.length (toL listed) (by omega) j hjl
      unfold toL at h2
      have hjs : j < listed.size := by rw [hsz]; exact hjl
      simp [hjs] at h1 h2
      rw [h1] at h2; cases h2
    exact ⟨hr, finish listed w σ hsz hr hc hR hJ⟩
  | succ fuel ih =>
    intro listed w σ hu hsz hcl hc hR hJ
    refine ⟨fun hr => finish listed w σ hsz hr hc hR hJ, fun i hi => ?_⟩
    obtain ⟨h1, o, ho', hall⟩ := mem_ready.1 hi
    have ho : l[i]? = some o := by simpa using ho'
    have hil : i < l.length := (List.getElem?_eq_some_iff.1 ho).1
    have his : i < listed.size := by rw [hsz]; exact hil
    have hun : toL listed i = false := by unfold toL; simp [his] at h1 ⊢; exact h1
    have hallL : ∀ e ∈ o.after, Region.binds .any e = true → toL listed e.on = true := hall
    have hset := toL_set listed i his
    have hdst : ∀ j, j ≠ i → ∀ t, (l[i]?).bind (·.dst) = some t → (l[j]?).bind (·.dst) ≠ some t := by
      intro j hji t hit hjt
      rw [ho] at hit
      cases hj : l[j]? with
      | none => rw [hj] at hjt; cases hjt
      | some oj => rw [hj] at hjt; exact ((hsp i o ho).2 j oj t hji hj hjt).1 hit
    have more := fun e => (actL_more a l vals (toL listed) e i hun hdst l.length).2 hil
    have hbi : (l[i]?).bind (·.dst) = o.dst := by rw [ho]; rfl
    have hu' : unl l.length (toL (listed.setIfInBounds i true)) ≤ fuel := by
      rw [hset]; have := unl_upd l.length (toL listed) i hil hun; omega
    have hsz' : (listed.setIfInBounds i true).size = l.length := by simpa using hsz
    have hcl' : ∀ j oj, l[j]? = some oj → toL (listed.setIfInBounds i true) j = true → ∀ e ∈ oj.after, Region.binds .any e = true → toL (listed.setIfInBounds i true) e.on = true := by
      rw [hset]
      intro j oj hj hlj e he hb
      unfold upd at hlj ⊢
      by_cases hji : j = i
      · subst hji
        have : oj = o := Option.some.inj (hj.symm.trans ho)
        subst this
        rw [hallL e he hb]; simp
      · have hb2 : (j == i) = false := by simpa using hji
        rw [hb2, Bool.false_or] at hlj
        rw [hcl j oj hj hlj e he hb]; simp
    -- at run time as in the text's walk, for every e that fits
    have hev : ∀ e : Env, (∀ j, toL listed j = true → e j = σ j) → execOp (actF (fun _ => a) l vals 0 i e).eval o = execOp (actL a l vals (toL listed) σ l.length).eval o ∧
        Region.wanted o (yielded l.toArray (actF (fun _ => a) l vals 0 i e).tmps) = Region.wanted o (yielded l.toArray (actL a l vals (toL listed) σ l.length).tmps) := by
      intro e he
      have hl := look listed i o e ho hun hcl hallL
      rw [(hc e he).2] at hl
      refine ⟨execOp_congr o (fun cs b => Region.noSelect_spec hns i o cs b (by simpa using ho)) fun x hx => ?_, ?_⟩
      · cases x with
        | tmp t => exact (hl t (List.mem_append_left _ (List.mem_filterMap.2 ⟨.tmp t, by simpa using hx, rfl⟩))).symm
        | _ => rfl
      · unfold Region.wanted
        cases hg : o.guard with
        | none => rfl
        | some gw =>
          obtain ⟨g, want⟩ := gw
          simp only []
          rw [yielded_congr l.toArray _ (actL a l vals (toL listed) σ l.length).tmps g]
          · rw [actL_size, actF_actL a l vals (fun _ => true) e i (fun _ _ => rfl), actL_size]
          · intro t ht
            exact (hl t (List.mem_append_right _ (by simp only [hg]; rw [ht]; simp))).symm
    have hfacts : ∀ e : Env, (∀ j, toL listed j = true → e j = σ j) → factsAt o (factsF [] vals Φs 0 i) e w := fun e he =>
      factsAt_F i fun j _ hd => (hc e he).1 j (isDep_listed (L := toL listed) hd hallL)
    obtain ⟨hst, hq | hf⟩ := h3 i o ho
    · -- quiet
      obtain ⟨hq, hΦ, hJq⟩ := hq
      have hval : ∀ e : Env, (∀ j, toL listed j = true → e j = σ j) → vals i e = vals i σ := by
        intro e he
        obtain ⟨e1, e2⟩ := hev e he
        obtain ⟨s1, s2⟩ := hev σ (fun _ _ => rfl)
        rcases hq e with ⟨hw, hs⟩ | ⟨hw, hv⟩
        · rcases hq σ with ⟨hw', hs'⟩ | ⟨hw', hv'⟩
          · have g1 := still_congr e1 (hs w hR (hfacts e he))
            have g2 := still_congr s1 (hs' w hR (hfacts σ (fun _ _ => rfl)))
            exact ((gives_det g1 g2.1).1)
          · rw [e2, ← s2, hw'] at hw; cases hw
        · rcases hq σ with ⟨hw', hs'⟩ | ⟨hw', hv'⟩
          · rw [e2, ← s2, hw'] at hw; cases hw
          · rw [hv, hv']
      have next : wpAny P .any l.toArray Q fuel (listed.setIfInBounds i true) ((actL a l vals (toL listed) σ l.length).put o.dst (vals i σ)) w := by
        have := ih (listed.setIfInBounds i true) w σ hu' hsz' hcl' ?_ hR (by rw [hset]; exact hJq _ _ _ hJ)
        · rw [hset, more σ, hbi] at this; exact this
        · intro e he
          have he' : ∀ j, toL listed j = true → e j = σ j := fun j hj => he j (by rw [hset]; simp [upd, hj])
          refine ⟨fun j hj => ?_, ?_⟩
          · by_cases hji : j = i
            · subst hji; exact hΦ _ _
            · rw [hset] at hj
              have hb2 : (j == i) = false := by simpa using hji
              simp only [upd, hb2, Bool.false_or] at hj
              exact (hc e he').1 j hj
          · rw [hset, more e, more σ, hval e he', (hc e he').2]
      unfold wpOp
      rw [ho']
      simp only []
      obtain ⟨s1, s2⟩ := hev σ (fun _ _ => rfl)
      rcases hq σ with ⟨hw, hs⟩ | ⟨hw, hv⟩
      · rw [← s2, if_pos hw]
        refine .inl (wp_of_gives ?_ (still_congr s1 (hs w hR (hfacts σ (fun _ _ => rfl)))).1)
        rintro v w' ⟨rfl, rfl⟩
        exact next
      · rw [← s2, if_neg (by rw [hw]; exact Bool.false_ne_true), ← hv]
        exact next
    · obtain ⟨hk, hg⟩ := hf
      obtain ⟨hw, hg⟩ := hg σ w (toL listed) ⟨hun, fun j hd => depT_listed hcl _ i j o ho hallL hd, fun j hd => depT_unlisted hcl hd hun⟩ hR hJ (hfacts σ (fun _ _ => rfl))
      obtain ⟨s1, s2⟩ := hev σ (fun _ _ => rfl)
      unfold wpOp
      rw [ho']
      simp only []
      rw [← s2, if_pos hw]
      refine .inl (wp_of_gives ?_ (gives_congr s1 hg))
      rintro v w' ⟨hRw, hJw, hΦv⟩
      let σ' : Env := setE σ i v
      have hσ' : ∀ j, toL listed j = true → σ' j = σ j := by
        intro j hj
        have hji : j ≠ i := fun e => by rw [e, hun] at hj; cases hj
        show (if j = i then v else σ j) = _
        rw [if_neg hji]
      have hvi : ∀ e : Env, e i = v → vals i e = v := by
        intro e he
        rcases hk with hk | ⟨c, hk, hcv⟩
        · rw [hk, he]
        · rw [hk, hcv v w' hΦv]
      have hσi : σ' i = v := by show (if i = i then v else σ i) = _; rw [if_pos rfl]
      have := ih (listed.setIfInBounds i true) w' σ' hu' hsz' hcl' ?_ (hRt _ _ _ hR hRw) (by rw [hset]; exact hJw)
      · rw [hset, more σ', hbi, (hc σ' hσ').2, hvi σ' hσi] at this; exact this
      · intro e he
        have he' : ∀ j, toL listed j = true → e j = σ j := fun j hj => (he j (by rw [hset]; simp [upd, hj])).trans (hσ' j hj)
        have hei : e i = v := (he i (by rw [hset]; simp [upd])).trans hσi
        refine ⟨fun j hj => ?_, ?_⟩
        · by_cases hji : j = i
          · subst hji; rw [hvi e hei]; exact hΦv
          · rw [hset] at hj
            have hb2 : (j == i) = false := by simpa using hji
            simp only [upd, hb2, Bool.false_or] at hj
            have hjl : j < l.length := by
              rcases Nat.lt_or_ge j l.length with h | h
              · exact h
              · exfalso
                have : ¬ j < listed.size := by rw [hsz]; omega
                unfold toL at hj; simp [this] at hj
            exact (h3 j l[j] (by simp [hjl])).1 _ w w' ((hc e he').1 j hj) hRw
        · rw [hset, more e, more σ', hvi e hei, hvi σ' hσi, (hc e he').2, (hc σ' hσ').2]
/-- **The region's walk.** -/
theorem wp_region_facts {id : Nat} {l : List Oper} {a : Act} {w : World} (R : World → World → Prop) (J : Env → (Nat → Bool) → World → Prop) (hm : P.follows .mixedOrders = true) (hB : regB l = true)
    (hR0 : R w.drew w.drew) (hRt : ∀ a b c, R a b → R b c → R a c) (hJ0 : ∀ e, J e (fun _ => false) w.drew)
    (h : Steps P l.toArray R J w.drew Q l 0 (fun _ => a) []) : (Code.region id l.toArray true).wp P Q a w := by
  obtain ⟨vals, Φs, h3, h4⟩ := Steps.out l.toArray l 0 _ _ h
  refine wp_region_any hm ?_
  have hstart : ∀ e : Env, actL a l vals (fun _ => false) e l.length = a := by
    intro e
    have : ∀ k, actL a l vals (fun _ => false) e k = a := by
      intro k
      induction k with
      | zero => rfl
      | succ k ih => simp only [actL]; rw [if_neg (by simp), ih]
    exact this _
  have hL0 : toL (Array.replicate l.toArray.size false) = fun _ => false := by
    funext j
    unfold toL
    by_cases hj : j < l.length
    · simp [hj]
    · simp [hj]
  have := region_run (a := a) (vals := vals) (Φs := Φs) (l := l) (Q := Q) (J := J) (w0 := w.drew) hB hRt (fun j o hj => by simpa using h3 j o hj) (fun e w' hR hJ hall => by
    have h5 := h4 e w' hR (by simpa using hJ) (factsAll_F _ hall)
    rw [actF_actL a l vals (fun j => decide (j < l.length)) e l.length (fun j hj => by simpa using hj)] at h5
    exact h5) l.length (Array.replicate l.toArray.size false) w.drew (fun _ => undef)
    (by rw [hL0]; unfold unl; exact Nat.le_trans (List.length_filter_le _ _) (by simp)) (by simp)
    (fun j o hj hl => by rw [hL0] at hl; cases hl) (fun e he => ⟨fun j hj => (by rw [hL0] at hj; cases hj), (by rw [hL0, hstart, hstart])⟩) hR0 (by rw [hL0]; exact hJ0 _)
  rw [hL0, hstart] at this
  simpa using this
end
theorem noEnter_map {α : Type} {P : Program} (s : Sem α) (g : α → Next) (hg : ∀ a f args, g a ≠ .enter f args) (w : World) (f : FuncId) (args : Array Value) (w' : World) :
    (do let x ← s; pure (g x) : Sem Next).run P w ≠ .ok (.enter f args) w' := by
  rw [Sem.run_bind]
  cases s.run P w with
  | ok a w1 => simp [Result.andThen, hg]
  | halt h w1 => simp [Result.andThen]
def plainB (o : Oper) : Bool := match o.op with
  | .move _ | .assign _ | .pick .. | .alloc _ | .box .. | .build .. | .buildSlice .. | .load .. | .store .. | .binOp .. | .unOp .. | .convert .. | .makeInterface .. | .makeFunc .. | .makeMap .. | .makeSlice .. | .slice .. | .fieldAddr .. | .field .. | .indexAddr .. | .index .. | .lookup .. | .mapUpdate .. | .typeAssert .. | .extract .. => true
  | .call { callee := .builtin b, .. } => match b with | .append | .cap | .len | .max | .min | .real | .imag | .complex | .copy | .delete => true | _ => false
  | _ => false
theorem plain_noEnter {P : Program} {o : Oper} (h : plainB o = true) (ρ : Operand → Value) (w : World) (f : FuncId) (args : Array Value) (w' : World) : (execOp ρ o).run P w ≠ .ok (.enter f args) w' := by
  obtain ⟨dst, op, type, pos, after, guard⟩ := o
  cases op
  case call c =>
    obtain ⟨callee, as9, ts⟩ := c
    cases callee with
    | builtin b => 
      cases b <;> simp only [plainB] at h <;> first | (cases h; done) | (simp only [execOp, resolve, pure_bind, invoke, builtin]; exact noEnter_map _ _ (by intro a f args; simp) _ _ _ _)
    | _ => simp only [plainB] at h; cases h
  all_goals simp only [plainB] at h
  all_goals first | (cases h; done) | (simp only [execOp]; exact noEnter_map _ _ (by intro a f args; simp) _ _ _ _) | (simp [execOp]; done)

section
variable {P : Program} {ops : Array Oper} {R : World → World → Prop} {J : Env → (Nat → Bool) → World → Prop} {w0 : World} {Q : Exit → Act → World → Prop}
theorem steps_weaken : ∀ (l : List Oper) (k : Nat) (A : Env → Act) (fs fs' : List (Nat × (Env → World → Prop))), (∀ o e w, factsAt o fs' e w → factsAt o fs e w) → (∀ e w, factsAll fs' e w → factsAll fs e w) →
    Steps P ops R J w0 Q l k A fs → Steps P ops R J w0 Q l k A fs'
  | [], _, _, _, _, _, h2, h => fun e w hR hJ hf => h e w hR hJ (h2 e w hf)
  | o :: l, k, A, fs, fs', h1, h2, ⟨val, Φ, ⟨hst, hok⟩, hs⟩ => by
    refine ⟨val, Φ, ⟨hst, ?_⟩, steps_weaken l (k + 1) _ ((k, fun e w => Φ (val e) w) :: fs) _ (fun o e w hf => ⟨hf.1, h1 o e w hf.2⟩) (fun e w hf => ⟨hf.1, h2 e w hf.2⟩) hs⟩
    rcases hok with ⟨ha, hb⟩ | ⟨ha, hb⟩
    · refine .inl ⟨fun e => ?_, hb⟩
      rcases ha e with ⟨hw, hq⟩ | hq
      · exact .inl ⟨hw, fun w hR hF => hq w hR (h1 o e w hF)⟩
      · exact .inr hq
    · exact .inr ⟨ha, fun e w L hN hR hJ hF => hb e w L hN hR hJ (h1 o e w hF)⟩
/-- A run of operations that leave the world alone: walked at once, as a quiet region is. -/
theorem steps_seg {rest : List Oper} {A' : Env → Act} {fs : List (Nat × (Env → World → Prop))} : ∀ (seg : List Oper) (k : Nat) (A : Env → Act), (∀ j, k ≤ j → j < k + seg.length → ∀ e L w, J e L w → J e (upd L j) w) → seg.all plainB = true →
    (∀ e, wpQuiet P ops (fun w => R w0 w) (fun a' => a' = A' e) seg (A e)) → Steps P ops R J w0 Q rest (k + seg.length) A' fs → Steps P ops R J w0 Q (seg ++ rest) k A fs
  | [], k, A, _, _, h, hs => by
    have : A = A' := funext h
    subst this
    exact hs
  | o :: seg, k, A, hJ, hp, h, hs => by
    simp only [List.all_cons, Bool.and_eq_true] at hp
    have hv : ∀ e, ∃ v, ((Region.wanted o (yielded ops (A e).tmps) = true ∧ ∀ w, R w0 w → still P o (A e) w v) ∨ (Region.wanted o (yielded ops (A e).tmps) = false ∧ v = undef)) ∧
        wpQuiet P ops (fun w => R w0 w) (fun a' => a' = A' e) seg ((A e).put o.dst v) := by
      intro e
      have h1 := h e
      unfold wpQuiet at h1
      by_cases hw : Region.wanted o (yielded ops (A e).tmps) = true
      · rw [if_pos hw] at h1
        obtain ⟨v, hq, hn⟩ := h1
        refine ⟨v, .inl ⟨hw, fun w hR => ?_⟩, hn⟩
        have h2 := hq w hR
        have h3 := plain_noEnter (P := P) hp.1 (A e).eval w
        refine ⟨?_, fun f args w' => h3 f args w'⟩
        unfold Oper.quietAt at h2
        unfold gives
        generalize (execOp (A e).eval o).run P w = r at *
        cases r with
        | ok n w' =>
          cases n
          case value u => exact ⟨h2.2, h2.1⟩
          case skip => exact ⟨h2.2.symm, h2.1⟩
          case enter f args => exact absurd rfl (h3 f args w')
          all_goals exact h2.elim
        | halt x w' => exact h2.elim
      · rw [if_neg hw] at h1
        exact ⟨undef, .inr ⟨by simpa using hw, rfl⟩, h1⟩
    let val : Env → Value := fun e => Classical.choose (hv e)
    have hval : ∀ e, _ := fun e => Classical.choose_spec (hv e)
    refine ⟨val, fun _ _ => True, ⟨fun _ _ _ _ _ => trivial, .inl ⟨fun e => ?_, fun _ _ => trivial, fun e L w => hJ k (Nat.le_refl _) (by simp) e L w⟩⟩, ?_⟩
    · rcases (hval e).1 with ⟨h1, h2⟩ | h1
      · exact .inl ⟨h1, fun w hR _ => h2 w hR⟩
      · exact .inr h1
    · refine steps_weaken _ _ _ fs _ (fun o e w hf => hf.2) (fun e w hf => hf.2) ?_
      refine steps_seg seg (k + 1) _ (fun j h1 h2 => hJ j (by omega) (by rw [List.length_cons]; omega)) hp.2 (fun e => (hval e).2) ?_
      rw [List.length_cons] at hs
      rw [show k + 1 + seg.length = k + (seg.length + 1) by omega]
      exact hs
/-- An operation of which a closed fact is known. -/
theorem steps_fact {o : Oper} {rest : List Oper} {k : Nat} {A : Env → Act} {fs : List (Nat × (Env → World → Prop))} (Φ : Value → World → Prop) (hst : ∀ v w w', Φ v w → R w w' → Φ v w')
    (h : ∀ e w L, Now ops k L → R w0 w → J e L w → factsAt o fs e w → Region.wanted o (yielded ops (A e).tmps) = true ∧ gives P o (A e) w (fun v w' => R w w' ∧ J (setE e k v) (upd L k) w' ∧ Φ v w'))
    (hs : Steps P ops R J w0 Q rest (k + 1) (fun e => (A e).put o.dst (e k)) ((k, fun e w => Φ (e k) w) :: fs)) : Steps P ops R J w0 Q (o :: rest) k A fs :=
  ⟨fun e => e k, Φ, ⟨hst, .inr ⟨.inl (fun _ => rfl), h⟩⟩, hs⟩
/-- An operation with a known value. -/
theorem steps_const {o : Oper} {rest : List Oper} {k : Nat} {A : Env → Act} {fs : List (Nat × (Env → World → Prop))} (c : Value)
    (h : ∀ e w L, Now ops k L → R w0 w → J e L w → factsAt o fs e w → Region.wanted o (yielded ops (A e).tmps) = true ∧ gives P o (A e) w (fun v w' => R w w' ∧ J (setE e k v) (upd L k) w' ∧ v = c))
    (hs : Steps P ops R J w0 Q rest (k + 1) (fun e => (A e).put o.dst c) fs) : Steps P ops R J w0 Q (o :: rest) k A fs :=
  ⟨fun _ => c, fun v _ => v = c, ⟨fun _ _ _ h _ => h, .inr ⟨.inr ⟨c, fun _ => rfl, fun _ _ h => h⟩, h⟩⟩, steps_weaken _ _ _ fs _ (fun _ _ _ hf => hf.2) (fun _ _ hf => hf.2) hs⟩
end
theorem factsAt_here {o : Oper} {j : Nat} {f : Env → World → Prop} {fs : List (Nat × (Env → World → Prop))} {e : Env} {w : World} (h : factsAt o ((j, f) :: fs) e w) (hd : isDep o j = true) : f e w := h.1 hd
theorem factsAt_there {o : Oper} {p : Nat × (Env → World → Prop)} {fs : List (Nat × (Env → World → Prop))} {e : Env} {w : World} (h : factsAt o (p :: fs) e w) : factsAt o fs e w := h.2
/-! ### Nothing is written in turn: 'J' says nothing -/
def noJ : Env → (Nat → Bool) → World → Prop := fun _ _ _ => True
/-- Of what was there nothing turns. -/
def bel (w w' : World) : Prop := RowKit.Below w.heap.size w w'
theorem bel_refl (w : World) : bel w w := RowKit.Below.refl _ _
theorem bel_trans (a b c : World) (h : bel a b) (k : bel b c) : bel a c := RowKit.Below.trans h (RowKit.Below.mono k h.size)
section
variable {P : Program} {ops : Array Oper} {R : World → World → Prop} {w0 : World} {Q : Exit → Act → World → Prop}
theorem wp_region0 {id : Nat} {l : List Oper} {a : Act} {w : World} (hm : P.follows .mixedOrders = true) (hB : regB l = true)
    (h : Steps P l.toArray bel noJ w.drew Q l 0 (fun _ => a) []) : (Code.region id l.toArray true).wp P Q a w :=
  wp_region_facts bel noJ hm hB (bel_refl _) bel_trans (fun _ => trivial) h
theorem seg0 {fs : List (Nat × (Env → World → Prop))} (n : Nat) {l : List Oper} {k : Nat} {A : Env → Act} (hp : (l.take n).all plainB = true) (hn : (l.take n).length = n)
    (h : ∃ A', (∀ e, wpQuiet P ops (fun w => R w0 w) (fun a' => a' = A' e) (l.take n) (A e)) ∧ Steps P ops R noJ w0 Q (l.drop n) (k + n) A' fs) : Steps P ops R noJ w0 Q l k A fs := by
  obtain ⟨A', h, hs⟩ := h
  have := steps_seg (P := P) (ops := ops) (R := R) (J := noJ) (w0 := w0) (Q := Q) (rest := l.drop n) (A' := A') (fs := fs) (l.take n) k A (fun _ _ _ _ _ _ _ => trivial) hp h (by rw [hn]; exact hs)
  rw [List.take_append_drop] at this
  exact this
theorem fact0 {o : Oper} {rest : List Oper} {k : Nat} {A : Env → Act} {fs : List (Nat × (Env → World → Prop))} (Φ : Value → World → Prop) (hst : ∀ v w w', Φ v w → R w w' → Φ v w')
    (h : ∀ e w, R w0 w → factsAt o fs e w → Region.wanted o (yielded ops (A e).tmps) = true ∧ gives P o (A e) w (fun v w' => R w w' ∧ Φ v w'))
    (hs : Steps P ops R noJ w0 Q rest (k + 1) (fun e => (A e).put o.dst (e k)) ((k, fun e w => Φ (e k) w) :: fs)) : Steps P ops R noJ w0 Q (o :: rest) k A fs :=
  steps_fact Φ hst (fun e w _ _ hR _ hf => ⟨(h e w hR hf).1, gives_mono (fun _ _ h => ⟨h.1, trivial, h.2⟩) (h e w hR hf).2⟩) hs
theorem const0 {o : Oper} {rest : List Oper} {k : Nat} {A : Env → Act} {fs : List (Nat × (Env → World → Prop))} (c : Value)
    (h : ∀ e w, R w0 w → factsAt o fs e w → Region.wanted o (yielded ops (A e).tmps) = true ∧ gives P o (A e) w (fun v w' => R w w' ∧ v = c))
    (hs : Steps P ops R noJ w0 Q rest (k + 1) (fun e => (A e).put o.dst c) fs) : Steps P ops R noJ w0 Q (o :: rest) k A fs :=
  steps_const c (fun e w _ _ hR _ hf => ⟨(h e w hR hf).1, gives_mono (fun _ _ h => ⟨h.1, trivial, h.2⟩) (h e w hR hf).2⟩) hs
/-! ### Facts that live till an operation consumes them -/
/-- Below block B nothing turns. -/
def belB (B : Nat) (w w' : World) : Prop := RowKit.Below B w w'
/-- (j, d, Φ): from number j's coming up till number d's, Φ holds of j's value. -/
def liveJ : List (Nat × Nat × (Value → World → Prop)) → Env → (Nat → Bool) → World → Prop
  | [], _, _, _ => True
  | (j, d, Φ) :: r, e, L, w => (L j = true → L d = false → Φ (e j) w) ∧ liveJ r e L w
def newJ : List (Nat × Nat × (Value → World → Prop)) → Nat → Value → World → Prop
  | [], _, _, _ => True
  | (j, _, Φ) :: r, k, v, w => (j = k → Φ v w) ∧ newJ r k v w
def liveOut : List (Nat × Nat × (Value → World → Prop)) → Nat → Nat → Bool
  | [], _, _ => true
  | (j, _, _) :: r, k, n => (decide (j < k) || decide (k + n ≤ j)) && liveOut r k n
def liveB (ops : Array Oper) : List (Nat × Nat × (Value → World → Prop)) → Nat → Bool
  | [], _ => true
  | (j, d, _) :: r, k => (j == k || d == k || depT ops ops.size k d || depT ops ops.size j k) && liveB ops r k
theorem liveJ_quiet : ∀ (live : List (Nat × Nat × (Value → World → Prop))) (k n : Nat), liveOut live k n = true → ∀ i, k ≤ i → i < k + n → ∀ e L w, liveJ live e L w → liveJ live e (upd L i) w
  | [], _, _, _, _, _, _, _, _, _, _ => trivial
  | (j, d, Φ) :: r, k, n, h, i, h1, h2, e, L, w, hl => by
    simp only [liveOut, Bool.and_eq_true, Bool.or_eq_true, decide_eq_true_eq] at h
    refine ⟨fun hj hd => hl.1 ?_ ?_, liveJ_quiet r k n h.2 i h1 h2 e L w hl.2⟩
    · have : (j == i) = false := by simp; omega
      simpa [upd, this] using hj
    · simp only [upd, Bool.or_eq_false_iff] at hd; exact hd.2
theorem liveJ_step {ops : Array Oper} : ∀ (live : List (Nat × Nat × (Value → World → Prop))) (k : Nat) (e : Env) (L : Nat → Bool) (v : Value) (w' : World), Now ops k L → liveB ops live k = true → newJ live k v w' → liveJ live (setE e k v) (upd L k) w'
  | [], _, _, _, _, _, _, _, _ => trivial
  | (j, d, Φ) :: r, k, e, L, v, w', hn, hb, hnew => by
    simp only [liveB, Bool.and_eq_true, Bool.or_eq_true, beq_iff_eq] at hb
    refine ⟨fun hj hd => ?_, liveJ_step r k e L v w' hn hb.2 hnew.2⟩
    simp only [upd, Bool.or_eq_false_iff, beq_eq_false_iff_ne] at hd
    rcases hb.1 with ((h | h) | h) | h
    · subst h; simp only [setE, if_pos]; exact hnew.1 rfl
    · exact absurd h hd.1
    · rw [hn.2.1 d h] at hd; cases hd.2
    · by_cases hjk : j = k
      · subst hjk; simp only [setE, if_pos]; exact hnew.1 rfl
      · have : (j == k) = false := by simpa using hjk
        simp only [upd, this, Bool.false_or] at hj
        rw [hn.2.2 j h] at hj; cases hj
theorem liveJ_get : ∀ {live : List (Nat × Nat × (Value → World → Prop))} {e : Env} {L : Nat → Bool} {w : World} {j d : Nat} {Φ : Value → World → Prop}, liveJ live e L w → (j, d, Φ) ∈ live → L j = true → L d = false → Φ (e j) w
  | [], _, _, _, _, _, _, _, hm, _, _ => by cases hm
  | p :: r, e, L, w, j, d, Φ, hl, hm, hj, hd => by
    rcases List.mem_cons.1 hm with rfl | hm
    · exact hl.1 hj hd
    · exact liveJ_get (live := r) hl.2 hm hj hd
theorem liveJ_start : ∀ (live : List (Nat × Nat × (Value → World → Prop))) (e : Env) (w : World), liveJ live e (fun _ => false) w
  | [], _, _ => trivial
  | _ :: r, e, w => ⟨fun h => (by cases h), liveJ_start r e w⟩
theorem wp_regionL {id : Nat} {l : List Oper} {a : Act} {w : World} (live : List (Nat × Nat × (Value → World → Prop))) (hm : P.follows .mixedOrders = true) (hB : regB l = true)
    (h : Steps P l.toArray (belB w.heap.size) (liveJ live) w.drew Q l 0 (fun _ => a) []) : (Code.region id l.toArray true).wp P Q a w :=
  wp_region_facts (belB w.heap.size) (liveJ live) hm hB (RowKit.Below.refl _ _) (fun _ _ _ h k => RowKit.Below.trans h k) (fun e => liveJ_start live e _) h
theorem segL {live : List (Nat × Nat × (Value → World → Prop))} {fs : List (Nat × (Env → World → Prop))} (n : Nat) {l : List Oper} {k : Nat} {A : Env → Act} (hp : (l.take n).all plainB = true) (hn : (l.take n).length = n) (hlv : liveOut live k n = true)
    (h : ∃ A', (∀ e, wpQuiet P ops (fun w => R w0 w) (fun a' => a' = A' e) (l.take n) (A e)) ∧ Steps P ops R (liveJ live) w0 Q (l.drop n) (k + n) A' fs) : Steps P ops R (liveJ live) w0 Q l k A fs := by
  obtain ⟨A', h, hs⟩ := h
  have := steps_seg (P := P) (ops := ops) (R := R) (J := liveJ live) (w0 := w0) (Q := Q) (rest := l.drop n) (A' := A') (fs := fs) (l.take n) k A (by rw [hn]; exact liveJ_quiet live k n hlv) hp h (by rw [hn]; exact hs)
  rw [List.take_append_drop] at this
  exact this
/-- An operation whose value is told by a living fact alone. -/
theorem factL {live : List (Nat × Nat × (Value → World → Prop))} {o : Oper} {rest : List Oper} {k : Nat} {A : Env → Act} {fs : List (Nat × (Env → World → Prop))} (hb : liveB ops live k = true)
    (h : ∀ e w L, Now ops k L → R w0 w → liveJ live e L w → factsAt o fs e w → Region.wanted o (yielded ops (A e).tmps) = true ∧ gives P o (A e) w (fun v w' => R w w' ∧ newJ live k v w'))
    (hs : Steps P ops R (liveJ live) w0 Q rest (k + 1) (fun e => (A e).put o.dst (e k)) fs) : Steps P ops R (liveJ live) w0 Q (o :: rest) k A fs :=
  steps_fact (fun _ _ => True) (fun _ _ _ _ _ => trivial) (fun e w L hN hR hJ hf => ⟨(h e w L hN hR hJ hf).1, gives_mono (fun v w' hh => ⟨hh.1, liveJ_step live k e L v w' hN hb hh.2, trivial⟩) (h e w L hN hR hJ hf).2⟩)
    (steps_weaken _ _ _ fs _ (fun _ _ _ hf => hf.2) (fun _ _ hf => hf.2) hs)
theorem constL {live : List (Nat × Nat × (Value → World → Prop))} {o : Oper} {rest : List Oper} {k : Nat} {A : Env → Act} {fs : List (Nat × (Env → World → Prop))} (c : Value) (hb : liveB ops live k = true)
    (h : ∀ e w L, Now ops k L → R w0 w → liveJ live e L w → factsAt o fs e w → Region.wanted o (yielded ops (A e).tmps) = true ∧ gives P o (A e) w (fun v w' => R w w' ∧ newJ live k v w' ∧ v = c))
    (hs : Steps P ops R (liveJ live) w0 Q rest (k + 1) (fun e => (A e).put o.dst c) fs) : Steps P ops R (liveJ live) w0 Q (o :: rest) k A fs :=
  steps_const c (fun e w L hN hR hJ hf => ⟨(h e w L hN hR hJ hf).1, gives_mono (fun v w' hh => ⟨hh.1, liveJ_step live k e L v w' hN hb hh.2.1, hh.2.2⟩) (h e w L hN hR hJ hf).2⟩) hs
theorem liveJ_still : ∀ (live : List (Nat × Nat × (Value → World → Prop))) (k : Nat) (e : Env) (L : Nat → Bool) (v : Value) (w : World), liveOut live k 1 = true → liveJ live e L w → liveJ live (setE e k v) (upd L k) w
  | [], _, _, _, _, _, _, _ => trivial
  | (j, d, Φ) :: r, k, e, L, v, w, h, hl => by
    simp only [liveOut, Bool.and_eq_true, Bool.or_eq_true, decide_eq_true_eq] at h
    have hjk : j ≠ k := by omega
    refine ⟨fun hj hd => ?_, liveJ_still r k e L v w h.2 hl.2⟩
    have hb : (j == k) = false := by simpa using hjk
    simp only [upd, hb, Bool.false_or] at hj
    simp only [upd, Bool.or_eq_false_iff] at hd
    simp only [setE, if_neg hjk]
    exact hl.1 hj hd.2
/-- An operation that leaves the world as it was: it may come up at any time. -/
theorem constS {live : List (Nat × Nat × (Value → World → Prop))} {o : Oper} {rest : List Oper} {k : Nat} {A : Env → Act} {fs : List (Nat × (Env → World → Prop))} (c : Value) (hrefl : ∀ w, R w w) (hb : liveOut live k 1 = true)
    (h : ∀ e w L, Now ops k L → R w0 w → liveJ live e L w → factsAt o fs e w → Region.wanted o (yielded ops (A e).tmps) = true ∧ gives P o (A e) w (fun v w' => w' = w ∧ v = c))
    (hs : Steps P ops R (liveJ live) w0 Q rest (k + 1) (fun e => (A e).put o.dst c) fs) : Steps P ops R (liveJ live) w0 Q (o :: rest) k A fs :=
  steps_const c (fun e w L hN hR hJ hf => ⟨(h e w L hN hR hJ hf).1, gives_mono (fun v w' hh => by
    obtain ⟨rfl, hc⟩ := hh
    exact ⟨hrefl _, liveJ_still live k e L v _ hb hJ, hc⟩) (h e w L hN hR hJ hf).2⟩) hs
end
end Go.Proofs.Ytnpalplnpfgibaa.Reg
