/- Operations of a drawn region, over this seat's program: append, conversion, a literal. -/
import Derived.Test.YtkfpolhglndbkaaBytes
import Derived.Test.YtkfpolhglndbkaaRegion
import Derived.Test.YtkfpolhglndbkaaPackRef
import Derived.Test.YtkfpolhglndbkaaPackUp
namespace Go.Proofs.Ytkfpolhglndbkaa
open Go.RowKit
theorem gives_append {o : Oper} {a : Act} {w : World} (s x : Operand) (ho : o.op = .call { callee := .builtin .append, args := #[s, x], argTypes := #[27, 27] }) (B : Nat) (v : Value) (l : List UInt8) (hs : a.eval s = v) (hown : OwnB B w v l)
    (y : Value) (news : List UInt8) (hx : a.eval x = y) (hsrc : SrcB 27 y w news) (hB : B ≤ w.heap.size) (hsz : l.length + news.length ≤ 140737488355328) :
    Reg.gives Try.prog o a w (fun v' w' => OwnB B w' v' (l ++ news) ∧ Grew w w' v v') := by
  obtain ⟨v', w', hr, h2, h3⟩ := run_append_bytes w B 27 o.type v l hown y news hsrc hB hsz
  unfold Reg.gives execOp
  simp only [ho, resolve, invoke, builtin, Sem.run_bind, Sem.run_pure, Result.andThen_ok, List.map_toArray, List.map_cons, List.map_nil, hs, hx, hr]
  exact ⟨h2, h3⟩
/-- A value that is a slice of the bytes l. -/
def Bytes (w : World) (v : Value) (l : List UInt8) : Prop := ∃ a cap, v = .slice a l.length cap ∧ IsBytes w a l
theorem OwnB.bytes {B : Nat} {w : World} {v : Value} {l : List UInt8} (h : OwnB B w v l) : Bytes w v l := by
  obtain ⟨a, cap, hv, hb, _⟩ := h.out
  exact ⟨a, cap, hv, hb⟩
theorem gives_string {o : Oper} {a : Act} {w : World} (x : Operand) (ho : o.op = .convert 27 9 x) {v : Value} {l : List UInt8} (hx : a.eval x = v) (h : Bytes w v l) :
    Reg.gives Try.prog o a w (fun v' w' => v' = .string ⟨l.toArray⟩ ∧ w' = w) := by
  obtain ⟨ad, cap, rfl, hb⟩ := h
  have hr := run_string_bytes w ad cap l hb
  unfold Reg.gives execOp
  simp only [ho, hx, Sem.run_bind, hr, Result.andThen_ok, Sem.run_pure]
  exact ⟨trivial, trivial⟩
theorem gives_empty {o : Oper} {a : Act} {w : World} (ho : o.op = .buildSlice 27 0 #[]) :
    Reg.gives Try.prog o a w (fun v' w' => v' = .slice (some ⟨w.heap.size, 0, none⟩) 0 0 ∧ w' = w.alloc (.cells #[] 5)) := by
  unfold Reg.gives
  rw [show execOp a.eval o = execOp a.eval { o with op := .buildSlice 27 0 #[] } by rw [← ho]]
  go_simp
def putsLive (B0 : Nat) (l : List UInt8) (n k : Nat) (s : ByteArray) : List (Nat × Nat × (Value → World → Prop)) :=
  [(4, 6, fun v w => OwnB B0 w v []), (6, 9, fun v w => OwnB B0 w v l), (9, 10, fun v w => OwnB B0 w v (l ++ putL n k)),
   (16, 18, fun v w => OwnB B0 w v []), (18, 20, fun v w => OwnB B0 w v l), (20, 21, fun v w => OwnB B0 w v (l ++ textL s.data.toList))]
theorem packPutN (B : Nat) (v : Value) (l : List UInt8) (n k : Nat) (w : World) (hv : OwnB B w v l) (hB : B ≤ w.heap.size) (hl : l.length ≤ 100000000000) (hn : n < 18446744073709551616) (hk8 : k ≤ 8) :
    Calls Try.prog 35 #[v, .int .u64 n, .int .i64 k] w (Puts B w v (l ++ putL n k)) := by
  by_cases hk : k = 0
  · subst hk
    refine (packPut_none v n 0 w (.inl (by omega))).mono ?_
    rintro e w' ⟨rfl, rfl⟩
    exact ⟨v, rfl, by rw [putL_zero, List.append_nil]; exact hv, Grew.refl _ _⟩
  · exact packPut B v l n k w hv hB hl hn (by omega) hk8
end Go.Proofs.Ytkfpolhglndbkaa
