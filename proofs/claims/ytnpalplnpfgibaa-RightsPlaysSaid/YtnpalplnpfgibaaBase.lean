/- Words that all rows of this family share: what a law's walk has to show, what it is told of a slice of integers. -/
import Derived.Calls
import Derived.Below
import Derived.Laws.Rows
import GoSem.Claims
namespace Go.Proofs.Ytnpalplnpfgibaa
open Go.RowKit

/-- The law's call returns true, and of what was there before nothing has turned. -/
def LawOk (P : Program) (f : FuncId) (args : Array Value) (w : World) : Prop :=
  Calls P f args w fun e w' => e = .returned (.bool true) ∧ Below w.heap.size w w'

/-- A slice of integers that came in: it is nil, or it leads to a row of 'cap' cells, the numbers 'zs' (the first 'len' are its elements), each fitting its kind. -/
def IsRow (k : IntKind) (w : World) (a : Option Addr) (len cap : Nat) (zs : List Int) : Prop :=
  (a = none ∧ len = 0 ∧ cap = 0 ∧ zs = []) ∨
  ∃ x, a = some x ∧ len ≤ cap ∧ cap ≤ maxLen ∧ zs.length = cap ∧ (∀ i, i < zs.length → w.cell? (x.add i) = some (.int k (zs.getD i 0))) ∧ ∀ n ∈ zs, (Lit.int k n).wf = true
/-- The bytes of a slice, as they lie. -/
def IsBytes (w : World) (a : Option Addr) (l : List UInt8) : Prop :=
  ∀ i (h : i < l.length), ∃ b off, a = some ⟨b, off, none⟩ ∧ b < w.heap.size ∧ w.cell? ⟨b, off + i, none⟩ = some (.int .u8 (l[i].toNat : Int))
theorem IsBytes.below {B : Nat} {w w' : World} {a : Option Addr} {l : List UInt8} (h : IsBytes w a l) (hb : Below B w w') (hB : w.heap.size ≤ B) : IsBytes w' a l := by
  intro i hi
  obtain ⟨b, off, h1, h2, h3⟩ := h i hi
  exact ⟨b, off, h1, Nat.lt_of_lt_of_le h2 hb.size, by rw [← h3]; exact hb.cell (p := ⟨b, off + i, none⟩) (show b < B by omega)⟩
theorem IsBytes.bel {w w' : World} {a : Option Addr} {l : List UInt8} (h : IsBytes w a l) (hb : Below w.heap.size w w') : IsBytes w' a l := h.below hb (Nat.le_refl _)
theorem IsBytes.drew {w : World} {a : Option Addr} {l : List UInt8} (h : IsBytes w a l) : IsBytes w.drew a l := h
theorem IsBytes.nil (w : World) (a : Option Addr) : IsBytes w a [] := fun i h => by simp at h
theorem IsBytes.alloc {w : World} {a : Option Addr} {l : List UInt8} (h : IsBytes w a l) (o : Obj) : IsBytes (w.alloc o) a l := h.bel ((Below.refl _ _).alloc (Nat.le_refl _) _)
theorem heap_lt_of_cell {w : World} {a : Addr} {v : Value} (h : w.cell? a = some v) : a.block < w.heap.size := by
  by_cases hlt : a.block < w.heap.size
  · exact hlt
  · have hn : w.heap[a.block]? = none := by simp; omega
    simp [World.cell?, hn] at h
theorem u8_list_of_wf : ∀ (zs : List Int), (∀ n ∈ zs, (Lit.int .u8 n).wf = true) → ∃ l : List UInt8, zs = l.map fun b => (b.toNat : Int)
  | [], _ => ⟨[], rfl⟩
  | z :: zs, h => by
    have hw := h z (by simp)
    simp [Lit.wf, IntKind.min, IntKind.max, IntKind.bits, IntKind.signed] at hw
    obtain ⟨l, hl⟩ := u8_list_of_wf zs (fun n hn => h n (by simp [hn]))
    exact ⟨UInt8.ofNat z.toNat :: l, by rw [hl]; simp; omega⟩
/-- The bytes of a slice that came in. -/
theorem IsRow.bytes {w : World} {a : Option Addr} {len cap : Nat} {zs : List Int} (h : IsRow .u8 w a len cap zs) : ∃ l : List UInt8, l.length = len ∧ len ≤ cap ∧ cap ≤ maxLen ∧ IsBytes w a l := by
  rcases h with ⟨rfl, rfl, rfl, rfl⟩ | ⟨x, rfl, h1, h2, h3, h4, h5⟩
  · exact ⟨[], rfl, Nat.le_refl _, Nat.zero_le _, IsBytes.nil _ _⟩
  · obtain ⟨l, rfl⟩ := u8_list_of_wf zs h5
    have h3' : l.length = cap := by simpa using h3
    refine ⟨l.take len, by simp; omega, h1, h2, fun i hi => ?_⟩
    have hi' : i < len := by simp at hi; omega
    obtain ⟨b, off, sp⟩ := x
    have h0 := World.cell?_spot (h4 0 (by simp; omega))
    simp [Addr.add] at h0
    subst h0
    have hc := h4 i (by simp; omega)
    have hadd : (⟨b, off, none⟩ : Addr).add i = ⟨b, off + i, none⟩ := by unfold Addr.add; split <;> simp_all
    rw [hadd] at hc
    have hlt : i < l.length := by omega
    refine ⟨b, off, rfl, heap_lt_of_cell hc, ?_⟩
    rw [hc]
    simp [List.getD, List.getElem?_eq_getElem hlt]
theorem u64_of_wf {n : Int} (h : (Lit.int .u64 n).wf = true) : ∃ m : Nat, n = m ∧ m < 18446744073709551616 := by
  simp [Lit.wf, IntKind.min, IntKind.max, IntKind.bits, IntKind.signed] at h
  exact ⟨n.toNat, by omega, by omega⟩
theorem u32_of_wf {n : Int} (h : (Lit.int .u32 n).wf = true) : ∃ m : Nat, n = m ∧ m < 4294967296 := by
  simp [Lit.wf, IntKind.min, IntKind.max, IntKind.bits, IntKind.signed] at h
  exact ⟨n.toNat, by omega, by omega⟩
theorem i64_of_wf {n : Int} (h : (Lit.int .i64 n).wf = true) : -9223372036854775808 ≤ n ∧ n ≤ 9223372036854775807 := by
  simp [Lit.wf, IntKind.min, IntKind.max, IntKind.bits, IntKind.signed] at h
  exact ⟨by omega, by omega⟩
theorem below_next {w w1 w2 : World} (h : Below w.heap.size w w1) (k : Below w1.heap.size w1 w2) : Below w.heap.size w w2 :=
  h.trans (k.mono h.size)
theorem u8_of_wf {n : Int} (h : (Lit.int .u8 n).wf = true) : ∃ b : UInt8, n = b.toNat := by
  simp [Lit.wf, IntKind.min, IntKind.max, IntKind.bits, IntKind.signed] at h
  exact ⟨UInt8.ofNat n.toNat, by simp; omega⟩
/-! Single operations of a region, each by its run. -/
theorem wpList_load_by {P : Program} {ops : Array Oper} {rest : List Oper} {o : Oper} {a : Act} {w w' : World} {Q : Exit → Act → World → Prop} (hgd : o.guard = none) (ty : TypeId) (x : Operand) (ho : o.op = .load ty x)
    (p v : Value) (hx : a.eval x = p) (hr : (Instr.loadAt ty p).run P w = .ok v w') (h : wpList P ops Q rest (a.put o.dst v) w') : wpList P ops Q (o :: rest) a w :=
  wpList_plain hgd fun _ hK => by
    unfold Oper.wp execOp
    simp only [ho, hx, Sem.run_bind, hr, Result.andThen_ok, Sem.run_pure, Oper.upon_value]
    exact hK _ _ h
theorem wpList_store_by {P : Program} {ops : Array Oper} {rest : List Oper} {o : Oper} {a : Act} {w w' : World} {Q : Exit → Act → World → Prop} (hgd : o.guard = none) (ty : TypeId) (x y : Operand) (ho : o.op = .store ty x y)
    (p v : Value) (hx : a.eval x = p) (hy : a.eval y = v) (hr : (Instr.storeAt ty p v).run P w = .ok () w') (h : wpList P ops Q rest (a.put o.dst undef) w') : wpList P ops Q (o :: rest) a w :=
  wpList_plain hgd fun _ hK => by
    unfold Oper.wp execOp
    simp only [ho, hx, hy, Sem.run_bind, hr, Result.andThen_ok, Sem.run_pure, Oper.upon_skip]
    exact hK _ _ h
/-- The goal's operation is a store (a load, an append): tried 'with_reducible' it fails at once where it is another. -/
theorem atStore {P : Program} {ops : Array Oper} {rest : List Oper} {a : Act} {w : World} {Q : Exit → Act → World → Prop} {dst : Option Tmp} {ty : TypeId} {x y : Operand} {t : TypeId} {pos : String} {after : Array Edge} {g : Option (Nat × Bool)}
    (h : wpList P ops Q ({ dst := dst, op := .store ty x y, type := t, pos := pos, after := after, guard := g } :: rest) a w) : wpList P ops Q ({ dst := dst, op := .store ty x y, type := t, pos := pos, after := after, guard := g } :: rest) a w := h
theorem atLoad {P : Program} {ops : Array Oper} {rest : List Oper} {a : Act} {w : World} {Q : Exit → Act → World → Prop} {dst : Option Tmp} {ty : TypeId} {x : Operand} {t : TypeId} {pos : String} {after : Array Edge} {g : Option (Nat × Bool)}
    (h : wpList P ops Q ({ dst := dst, op := .load ty x, type := t, pos := pos, after := after, guard := g } :: rest) a w) : wpList P ops Q ({ dst := dst, op := .load ty x, type := t, pos := pos, after := after, guard := g } :: rest) a w := h
end Go.Proofs.Ytnpalplnpfgibaa
