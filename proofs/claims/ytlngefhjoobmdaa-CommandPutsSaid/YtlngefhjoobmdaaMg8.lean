/- Texts laid together: RegStr RefBHead CmdLaw. -/
import Derived.Test.YtlngefhjoobmdaaMg1
import Derived.Test.YtlngefhjoobmdaaMg4
import Derived.Test.YtlngefhjoobmdaaMg6
import Derived.BigQuiet
import Derived.Test.YtlngefhjoobmdaaMg7
namespace Go.Proofs.Ytlngefhjoobmdaa
open Go.RowKit
theorem gives_append {o : Oper} {a : Act} {w : World} (s x : Operand) (ho : o.op = .call { callee := .builtin .append, args := #[s, x], argTypes := #[22, 22] }) (B : Nat) (v : Value) (l : List UInt8) (hs : a.eval s = v) (hown : OwnB B w v l)
    (y : Value) (news : List UInt8) (hx : a.eval x = y) (hsrc : SrcB 22 y w news) (hB : B ≤ w.heap.size) (hsz : l.length + news.length ≤ 140737488355328) :
    Reg.gives Try.prog o a w (fun v' w' => OwnB B w' v' (l ++ news) ∧ Grew w w' v v') := by
  obtain ⟨v', w', hr, h2, h3⟩ := run_append_bytes w B 22 o.type v l hown y news hsrc hB hsz
  unfold Reg.gives execOp
  simp only [ho, resolve, invoke, builtin, Sem.run_bind, Sem.run_pure, Result.andThen_ok, List.map_toArray, List.map_cons, List.map_nil, hs, hx, hr]
  exact ⟨h2, h3⟩
/-- A value that is a slice of the bytes l. -/
def Bytes (w : World) (v : Value) (l : List UInt8) : Prop := ∃ a cap, v = .slice a l.length cap ∧ IsBytes w a l
theorem Bytes.bel {w w' : World} {v : Value} {l : List UInt8} (h : Bytes w v l) (hb : Below w.heap.size w w') : Bytes w' v l := by
  obtain ⟨a, cap, hv, hi⟩ := h
  exact ⟨a, cap, hv, hi.bel hb⟩
theorem OwnB.bytes {B : Nat} {w : World} {v : Value} {l : List UInt8} (h : OwnB B w v l) : Bytes w v l := by
  obtain ⟨a, cap, hv, hb, _⟩ := h.out
  exact ⟨a, cap, hv, hb⟩
theorem gives_string {o : Oper} {a : Act} {w : World} (x : Operand) (ho : o.op = .convert 22 9 x) {v : Value} {l : List UInt8} (hx : a.eval x = v) (h : Bytes w v l) :
    Reg.gives Try.prog o a w (fun v' w' => v' = .string ⟨l.toArray⟩ ∧ w' = w) := by
  obtain ⟨ad, cap, rfl, hb⟩ := h
  have hr := run_string_bytes w ad cap l hb
  unfold Reg.gives execOp
  simp only [ho, hx, Sem.run_bind, hr, Result.andThen_ok, Sem.run_pure]
  exact ⟨trivial, trivial⟩
theorem gives_empty {o : Oper} {a : Act} {w : World} (ho : o.op = .buildSlice 22 0 #[]) :
    Reg.gives Try.prog o a w (fun v' w' => v' = .slice (some ⟨w.heap.size, 0, none⟩) 0 0 ∧ w' = w.alloc (.cells #[] 5)) := by
  unfold Reg.gives
  rw [show execOp a.eval o = execOp a.eval { o with op := .buildSlice 22 0 #[] } by rw [← ho]]
  go_simp
end Go.Proofs.Ytlngefhjoobmdaa
namespace Go.Proofs.Ytlngefhjoobmdaa
open Go.RowKit
theorem u8_u64N (x : Int) : (x % 256 : Int) = ((UInt8.ofNat (u64N x)).toNat : Int) := by
  have h := wrap_u64N x
  rw [IntKind.wrap_u64] at h
  rw [UInt8.toNat_ofNat']
  omega
theorem u8_nat (n : Nat) : ((n : Int) % 256 : Int) = ((UInt8.ofNat n).toNat : Int) := by
  rw [UInt8.toNat_ofNat']
  omega
theorem putL_one (n : Nat) : putL n 1 = [UInt8.ofNat n] := by simp [putL]
theorem OwnB.one (B : Nat) (w : World) (x : Int) (b : UInt8) (h : x = (b.toNat : Int)) (hB : B ≤ w.heap.size) : OwnB B (w.alloc (.cells #[.int .u8 x] 5)) (.slice (some ⟨w.heap.size, 0, none⟩) 1 1) [b] := by
  subst h
  exact ⟨by simp, .inr ⟨w.heap.size, 1, _, rfl, hB, heap_alloc_new w _, Nat.le_refl _, by unfold maxLen; omega, by simp, by simp [u8V]⟩⟩
theorem srcB_two (w : World) (x y : Int) (b c : UInt8) (h : x = b.toNat) (k : y = c.toNat) (g : Nat) (hg : w.heap[g]? = some (.cells #[.int .u8 x, .int .u8 y] 5 (0, 0))) : SrcB 22 (.slice (some ⟨g, 0, none⟩) 2 2) w [b, c] := by
  subst h
  subst k
  have hb : IsBytes w (some ⟨g, 0, none⟩) [b, c] := by
    intro i hi
    refine ⟨g, 0, rfl, (Array.getElem?_eq_some_iff.1 hg).1, ?_⟩
    rw [cell_of_row w g _ _ _ _ hg]
    rcases i with _ | _ | i
    · rfl
    · rfl
    · simp at hi; omega
  exact SrcB.ofBytes 2 hb
/-- What stands ahead of the ops in a request's bytes, as the document has them. -/
def headR (q : CReq) : List UInt8 := putL (u64N q.tag) 1 ++ ((if q.tag ≤ 5 then putL q.admin 8 else tokL q.tb q.tg q.ts q.tc) ++ ((if q.tag ≤ 3 then putL (u64N q.bucket) 1 else []) ++
  (if q.tag = 1 ∨ q.tag = 3 then putL (u64N q.qk) 8 ++ (putL (u64N q.qb) 8 ++ putL (u64N q.qg) 8) else if q.tag = 9 then putL q.ops.length 1 else tailQ q)))
def bytesR (q : CReq) : List UInt8 := headR q ++ opsL q.tag q.ops
end Go.Proofs.Ytlngefhjoobmdaa
namespace Go.Proofs.Ytlngefhjoobmdaa
open Go.RowKit
theorem opN_bad (t : Nat) (s : RS) (bad : Bool) (h : (opN t s bad).2.2 = false) : bad = false := by
  unfold opN at h
  by_cases h9 : t = 9
  · simp only [if_pos h9] at h
    cases bad
    · rfl
    · exfalso
      revert h
      split <;> (try split) <;> simp
  · simp only [if_neg h9] at h
    cases bad
    · rfl
    · exfalso
      revert h
      split <;> (try split) <;> simp
theorem batchN_bad0 : ∀ (n : Nat) (s : RS) (bad : Bool), (batchN n s bad).2.2 = false → bad = false
  | 0, s, bad, h => h
  | n + 1, s, bad, h => by
    unfold batchN at h
    split at h
    · exact h
    · rename_i hb
      simpa using hb
/-- The form of what is parsed. -/
def CReq.form (q : CReq) : Prop := 1 ≤ q.tag ∧ q.tag ≤ 13 ∧ (q.ops = [] ∨ (6 ≤ q.tag ∧ q.tag ≤ 9))
theorem tenP_form (t : Nat) (q : CReq) (s : RS) (bad : Bool) (ht : q.tag = (t : Int)) (ho : q.ops = []) (h : (tenP t q s bad).2.2 = false) : bad = false ∧ (tenP t q s bad).1.tag = (t : Int) ∧ ((tenP t q s bad).1.ops = [] ∨ (6 ≤ t ∧ t ≤ 9)) := by
  unfold tenP at h ⊢
  split
  · rename_i h1
    rw [if_pos h1] at h
    exact ⟨opN_bad _ _ _ h, ht, .inr (by omega)⟩
  rename_i h1
  rw [if_neg h1] at h
  split
  · rename_i h2
    rw [if_pos h2] at h
    have := batchN_bad0 _ _ _ h
    simp only [Bool.or_eq_false_iff] at this
    exact ⟨this.1, ht, .inr (by omega)⟩
  rename_i h2
  rw [if_neg h2] at h
  split
  · rename_i h3
    rw [if_pos h3] at h
    simp only [Bool.or_eq_false_iff] at h
    exact ⟨h.1.1.1, ht, .inl ho⟩
  rename_i h3
  rw [if_neg h3] at h
  split
  · rename_i h4
    rw [if_pos h4] at h
    simp only [Bool.or_eq_false_iff] at h
    exact ⟨h.1, ht, .inl ho⟩
  rename_i h4
  rw [if_neg h4] at h
  split
  · rename_i h5
    rw [if_pos h5] at h
    exact ⟨h, ht, .inl ho⟩
  · rename_i h5
    rw [if_neg h5] at h
    exact ⟨h, ht, .inl ho⟩
theorem tag_ok {t : Nat} (h : (!(decide (1 ≤ t) && decide (t ≤ 13))) = false) : 1 ≤ t ∧ t ≤ 13 := by
  simpa using h
theorem bodyP_form (t : Nat) (s : RS) (h : (bodyP t s).2.2 = false) : (bodyP t s).1.form := by
  unfold bodyP at h ⊢
  split
  · rename_i h1
    rw [if_pos h1] at h
    obtain ⟨h2, h3, h4⟩ := tenP_form _ _ _ _ rfl rfl h
    have := tag_ok h2
    unfold CReq.form
    rw [h3]
    refine ⟨by omega, by omega, ?_⟩
    rcases h4 with h4 | h4
    · exact .inl h4
    · exact .inr (by omega)
  rename_i h1
  rw [if_neg h1] at h
  split
  · rename_i h2
    rw [if_pos h2] at h
    split
    · rename_i h3
      rw [if_pos h3] at h
      simp only [Bool.or_eq_false_iff] at h
      have := tag_ok h.1.1
      exact ⟨by show (1 : Int) ≤ (t : Int); omega, by show (t : Int) ≤ 13; omega, .inl rfl⟩
    · rename_i h3
      rw [if_neg h3] at h
      simp only [Bool.or_eq_false_iff] at h
      have := tag_ok h.1
      exact ⟨by show (1 : Int) ≤ (t : Int); omega, by show (t : Int) ≤ 13; omega, .inl rfl⟩
  · rename_i h2
    rw [if_neg h2] at h
    have := tag_ok h
    exact ⟨by show (1 : Int) ≤ (t : Int); omega, by show (t : Int) ≤ 13; omega, .inl rfl⟩
theorem parseP_form {b : List UInt8} {q : CReq} (h : parseP b = some q) : q.form := by
  unfold parseP endP at h
  split at h
  · cases h
  · rename_i hb
    cases h
    refine bodyP_form _ _ ?_
    simp only [Bool.or_eq_true, not_or, Bool.not_eq_true] at hb
    exact hb.1.1
/-- Of such a request both write the same bytes. -/
theorem reqL_bytesR {q : CReq} (h : q.form) : reqL q = bytesR q := by
  obtain ⟨h1, h2, h3⟩ := h
  unfold reqL bytesR headR lowQ headQ
  rcases h3 with h3 | ⟨h3, h4⟩
  · have ho : opsL q.tag q.ops = [] := by rw [h3]; rfl
    have hl : q.ops.length = 0 := by rw [h3]; rfl
    by_cases h5 : q.tag ≤ 5
    · rw [if_pos h5, if_pos h5, ho]
      by_cases h4 : q.tag < 4
      · rw [if_pos h4, if_pos (show q.tag ≤ 3 by omega)]
        by_cases h13 : q.tag = 1 ∨ q.tag = 3
        · rw [if_pos h13, if_pos h13]; simp
        · rw [if_neg h13, if_neg h13, if_neg (show ¬ q.tag = 9 by omega)]
          unfold tailQ
          rw [if_neg (show ¬ q.tag = 10 by omega), if_neg (show ¬ q.tag = 12 by omega), if_neg (show ¬ q.tag = 13 by omega)]
          simp
      · rw [if_neg h4, if_neg (show ¬ q.tag ≤ 3 by omega), if_neg (show ¬ (q.tag = 1 ∨ q.tag = 3) by omega), if_neg (show ¬ (q.tag = 1 ∨ q.tag = 3) by omega), if_neg (show ¬ q.tag = 9 by omega)]
        unfold tailQ
        rw [if_neg (show ¬ q.tag = 10 by omega), if_neg (show ¬ q.tag = 12 by omega), if_neg (show ¬ q.tag = 13 by omega)]
        simp
    · rw [if_neg h5, if_neg h5, ho, if_neg (show ¬ q.tag ≤ 3 by omega), if_neg (show ¬ (q.tag = 1 ∨ q.tag = 3) by omega)]
      by_cases h9 : q.tag = 9
      · rw [if_pos h9, if_pos h9]
        unfold tailQ
        rw [if_neg (show ¬ q.tag = 10 by omega), if_neg (show ¬ q.tag = 12 by omega), if_neg (show ¬ q.tag = 13 by omega)]
        simp
      · rw [if_neg h9, if_neg h9]; simp
  · rw [if_neg (show ¬ q.tag ≤ 5 by omega), if_neg (show ¬ q.tag ≤ 5 by omega), if_neg (show ¬ q.tag ≤ 3 by omega), if_neg (show ¬ (q.tag = 1 ∨ q.tag = 3) by omega)]
    have ht : tailQ q = [] := by
      unfold tailQ
      rw [if_neg (show ¬ q.tag = 10 by omega), if_neg (show ¬ q.tag = 12 by omega), if_neg (show ¬ q.tag = 13 by omega)]
    rw [ht]
    by_cases h9 : q.tag = 9
    · rw [if_pos h9]; simp
    · rw [if_neg h9]; simp
/-- What the document writes of a request, if it may be written. -/
def writtenQ (q : CReq) : Option (List UInt8) := if q.tag < 1 ∨ 13 < q.tag ∨ 16 < q.ops.length then none else if parseP (bytesR q) = some q then some (bytesR q) else none
theorem putQ_written (q : CReq) : putQ q = writtenQ q := by
  unfold putQ writtenQ
  by_cases h16 : 16 < q.ops.length
  · rw [if_pos h16, if_pos (.inr (.inr h16))]
  rw [if_neg h16]
  by_cases hp : parseP (reqL q) = some q
  · have hf := parseP_form hp
    rw [if_pos hp, if_neg (by have := hf.1; have := hf.2.1; omega), ← reqL_bytesR hf, if_pos hp]
  · rw [if_neg hp]
    split
    · rfl
    · rw [if_neg]
      intro hq
      rw [← reqL_bytesR (parseP_form hq)] at hq
      exact hp hq
end Go.Proofs.Ytlngefhjoobmdaa
