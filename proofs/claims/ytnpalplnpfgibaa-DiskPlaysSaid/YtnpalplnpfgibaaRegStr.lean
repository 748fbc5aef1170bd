/- Operations of a drawn region, over this seat's program: append, conversion, a literal. -/
import Derived.Test.YtnpalplnpfgibaaBytes
import Derived.Test.YtnpalplnpfgibaaRegion
namespace Go.Proofs.Ytnpalplnpfgibaa
open Go.RowKit
theorem gives_append {o : Oper} {a : Act} {w : World} (s x : Operand) (ho : o.op = .call { callee := .builtin .append, args := #[s, x], argTypes := #[45, 45] }) (B : Nat) (v : Value) (l : List UInt8) (hs : a.eval s = v) (hown : OwnB B w v l)
    (y : Value) (news : List UInt8) (hx : a.eval x = y) (hsrc : SrcB 45 y w news) (hB : B ≤ w.heap.size) (hsz : l.length + news.length ≤ 140737488355328) :
    Reg.gives Try.prog o a w (fun v' w' => OwnB B w' v' (l ++ news) ∧ Grew w w' v v') := by
  obtain ⟨v', w', hr, h2, h3⟩ := run_append_bytes w B 45 o.type v l hown y news hsrc hB hsz
  unfold Reg.gives execOp
  simp only [ho, resolve, invoke, builtin, Sem.run_bind, Sem.run_pure, Result.andThen_ok, List.map_toArray, List.map_cons, List.map_nil, hs, hx, hr]
  exact ⟨h2, h3⟩
/-- A value that is a slice of the bytes l. -/
def Bytes (w : World) (v : Value) (l : List UInt8) : Prop := ∃ a cap, v = .slice a l.length cap ∧ IsBytes w a l
theorem Bytes.bel {w w' : World} {v : Value} {l : List UInt8} (h : Bytes w v l) (hb : Below w.heap.size w w') : Bytes w' v l := by
  obtain ⟨a, cap, hv, hi⟩ := h
  exact ⟨a, cap, hv, hi.bel hb⟩
theorem OwnB.bytes {B : Nat} {w : World} {v : Value} {l : List UInt8} (h : OwnB B w v l) : Bytes w v l := by
  obtain ⟨a, cap, hv, hb, _⟩ := h.out
  exact ⟨a, cap, hv, hb⟩
theorem gives_string {o : Oper} {a : Act} {w : World} (x : Operand) (ho : o.op = .convert 45 9 x) {v : Value} {l : List UInt8} (hx : a.eval x = v) (h : Bytes w v l) :
    Reg.gives Try.prog o a w (fun v' w' => v' = .string ⟨l.toArray⟩ ∧ w' = w) := by
  obtain ⟨ad, cap, rfl, hb⟩ := h
  have hr := run_string_bytes w ad cap l hb
  unfold Reg.gives execOp
  simp only [ho, hx, Sem.run_bind, hr, Result.andThen_ok, Sem.run_pure]
  exact ⟨trivial, trivial⟩
theorem gives_empty {o : Oper} {a : Act} {w : World} (ho : o.op = .buildSlice 45 0 #[]) :
    Reg.gives Try.prog o a w (fun v' w' => v' = .slice (some ⟨w.heap.size, 0, none⟩) 0 0 ∧ w' = w.alloc (.cells #[] 5)) := by
  unfold Reg.gives
  rw [show execOp a.eval o = execOp a.eval { o with op := .buildSlice 45 0 #[] } by rw [← ho]]
  go_simp
end Go.Proofs.Ytnpalplnpfgibaa
