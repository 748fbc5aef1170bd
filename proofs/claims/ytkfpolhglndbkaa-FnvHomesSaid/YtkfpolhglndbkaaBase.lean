/- Words that all rows of this family share: what a law's walk has to show, what it is told of a slice of integers. -/
import Derived.Calls
import Derived.Below
import GoSem.Claims
namespace Go.Proofs.Ytkfpolhglndbkaa
open Go.RowKit

/-- The law's call returns true, and of what was there before nothing has turned. -/
def LawOk (P : Program) (f : FuncId) (args : Array Value) (w : World) : Prop :=
  Calls P f args w fun e w' => e = .returned (.bool true) ∧ Below w.heap.size w w'

/-- A slice of integers that came in: it is nil, or it leads to a row of 'cap' cells, the numbers 'zs' (the first 'len' are its elements), each fitting its kind. -/
def IsRow (k : IntKind) (w : World) (a : Option Addr) (len cap : Nat) (zs : List Int) : Prop :=
  (a = none ∧ len = 0 ∧ cap = 0 ∧ zs = []) ∨
  ∃ x, a = some x ∧ len ≤ cap ∧ cap ≤ maxLen ∧ zs.length = cap ∧ (∀ i, i < zs.length → w.cell? (x.add i) = some (.int k (zs.getD i 0))) ∧ ∀ n ∈ zs, (Lit.int k n).wf = true
theorem below_next {w w1 w2 : World} (h : Below w.heap.size w w1) (k : Below w1.heap.size w1 w2) : Below w.heap.size w w2 :=
  h.trans (k.mono h.size)
theorem u8_of_wf {n : Int} (h : (Lit.int .u8 n).wf = true) : ∃ b : UInt8, n = b.toNat := by
  simp [Lit.wf, IntKind.min, IntKind.max, IntKind.bits, IntKind.signed] at h
  exact ⟨UInt8.ofNat n.toNat, by simp; omega⟩
end Go.Proofs.Ytkfpolhglndbkaa
