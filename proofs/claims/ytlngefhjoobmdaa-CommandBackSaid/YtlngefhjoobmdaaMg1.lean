/- Texts laid together: Base PackPure Bytes Reader RefReader RowOf Region OwnOf Err. -/
import Derived.Calls
import Derived.Below
import Derived.Laws.Rows
import GoSem.Claims
import Derived.Laws.BitsAllLaws
import Derived.RowKit
import Derived.Test.YtlngefhjoobmdaaProg
import Derived.WalkKit
import Derived.Deep.AppendSrc
import Derived.Laws.AppendOwn
import Derived.Laws.IdiomStrings
import Derived.Lib.ConvBytes
import Derived.Lib.Hide
import Derived.Outline
import Derived.WalkSpells
import Derived.WalkLawsBesides
import Derived.BigQuiet
import Derived.Test.YtlngefhjoobmdaaRows
import Derived.OpenShut
import Derived.ChangeOld
import Derived.Deep.Quiet
import Derived.Orders
import Derived.Tactics
namespace Go.Proofs.Ytlngefhjoobmdaa
open Go.RowKit

/-- The law's call returns true, and of what was there before nothing has turned. -/
def LawOk (P : Program) (f : FuncId) (args : Array Value) (w : World) : Prop :=
  Calls P f args w fun e w' => e = .returned (.bool true) ∧ Below w.heap.size w w'

/-- A slice of integers that came in: it is nil, or it leads to a row of 'cap' cells, the numbers 'zs' (the first 'len' are its elements), each fitting its kind. -/
def IsRow (k : IntKind) (w : World) (a : Option Addr) (len cap : Nat) (zs : List Int) : Prop :=
  (a = none ∧ len = 0 ∧ cap = 0 ∧ zs = []) ∨
  ∃ x, a = some x ∧ len ≤ cap ∧ cap ≤ maxLen ∧ zs.length = cap ∧ (∀ i, i < zs.length → w.cell? (x.add i) = some (.int k (zs.getD i 0))) ∧ ∀ n ∈ zs, (Lit.int k n).wf = true
/-- The bytes of a slice, as they lie. -/
def IsBytes (w : World) (a : Option Addr) (l : List UInt8) : Prop :=
  ∀ i (h : i < l.length), ∃ b off, a = some ⟨b, off, none⟩ ∧ b < w.heap.size ∧ w.cell? ⟨b, off + i, none⟩ = some (.int .u8 (l[i].toNat : Int))
theorem IsBytes.below {B : Nat} {w w' : World} {a : Option Addr} {l : List UInt8} (h : IsBytes w a l) (hb : Below B w w') (hB : w.heap.size ≤ B) : IsBytes w' a l := by
  intro i hi
  obtain ⟨b, off, h1, h2, h3⟩ := h i hi
  exact ⟨b, off, h1, Nat.lt_of_lt_of_le h2 hb.size, by rw [← h3]; exact hb.cell (p := ⟨b, off + i, none⟩) (show b < B by omega)⟩
theorem IsBytes.bel {w w' : World} {a : Option Addr} {l : List UInt8} (h : IsBytes w a l) (hb : Below w.heap.size w w') : IsBytes w' a l := h.below hb (Nat.le_refl _)
theorem IsBytes.drew {w : World} {a : Option Addr} {l : List UInt8} (h : IsBytes w a l) : IsBytes w.drew a l := h
theorem IsBytes.nil (w : World) (a : Option Addr) : IsBytes w a [] := fun i h => by simp at h
theorem IsBytes.alloc {w : World} {a : Option Addr} {l : List UInt8} (h : IsBytes w a l) (o : Obj) : IsBytes (w.alloc o) a l := h.bel ((Below.refl _ _).alloc (Nat.le_refl _) _)
theorem heap_lt_of_cell {w : World} {a : Addr} {v : Value} (h : w.cell? a = some v) : a.block < w.heap.size := by
  by_cases hlt : a.block < w.heap.size
  · exact hlt
  · have hn : w.heap[a.block]? = none := by simp; omega
    simp [World.cell?, hn] at h
theorem u8_list_of_wf : ∀ (zs : List Int), (∀ n ∈ zs, (Lit.int .u8 n).wf = true) → ∃ l : List UInt8, zs = l.map fun b => (b.toNat : Int)
  | [], _ => ⟨[], rfl⟩
  | z :: zs, h => by
    have hw := h z (by simp)
    simp [Lit.wf, IntKind.min, IntKind.max, IntKind.bits, IntKind.signed] at hw
    obtain ⟨l, hl⟩ := u8_list_of_wf zs (fun n hn => h n (by simp [hn]))
    exact ⟨UInt8.ofNat z.toNat :: l, by rw [hl]; simp; omega⟩
/-- The bytes of a slice that came in. -/
theorem IsRow.bytes {w : World} {a : Option Addr} {len cap : Nat} {zs : List Int} (h : IsRow .u8 w a len cap zs) : ∃ l : List UInt8, l.length = len ∧ len ≤ cap ∧ cap ≤ maxLen ∧ IsBytes w a l := by
  rcases h with ⟨rfl, rfl, rfl, rfl⟩ | ⟨x, rfl, h1, h2, h3, h4, h5⟩
  · exact ⟨[], rfl, Nat.le_refl _, Nat.zero_le _, IsBytes.nil _ _⟩
  · obtain ⟨l, rfl⟩ := u8_list_of_wf zs h5
    have h3' : l.length = cap := by simpa using h3
    refine ⟨l.take len, by simp; omega, h1, h2, fun i hi => ?_⟩
    have hi' : i < len := by simp at hi; omega
    obtain ⟨b, off, sp⟩ := x
    have h0 := World.cell?_spot (h4 0 (by simp; omega))
    simp [Addr.add] at h0
    subst h0
    have hc := h4 i (by simp; omega)
    have hadd : (⟨b, off, none⟩ : Addr).add i = ⟨b, off + i, none⟩ := by unfold Addr.add; split <;> simp_all
    rw [hadd] at hc
    have hlt : i < l.length := by omega
    refine ⟨b, off, rfl, heap_lt_of_cell hc, ?_⟩
    rw [hc]
    simp [List.getD, List.getElem?_eq_getElem hlt]
theorem u64_of_wf {n : Int} (h : (Lit.int .u64 n).wf = true) : ∃ m : Nat, n = m ∧ m < 18446744073709551616 := by
  simp [Lit.wf, IntKind.min, IntKind.max, IntKind.bits, IntKind.signed] at h
  exact ⟨n.toNat, by omega, by omega⟩
theorem u32_of_wf {n : Int} (h : (Lit.int .u32 n).wf = true) : ∃ m : Nat, n = m ∧ m < 4294967296 := by
  simp [Lit.wf, IntKind.min, IntKind.max, IntKind.bits, IntKind.signed] at h
  exact ⟨n.toNat, by omega, by omega⟩
theorem i64_of_wf {n : Int} (h : (Lit.int .i64 n).wf = true) : -9223372036854775808 ≤ n ∧ n ≤ 9223372036854775807 := by
  simp [Lit.wf, IntKind.min, IntKind.max, IntKind.bits, IntKind.signed] at h
  exact ⟨by omega, by omega⟩
theorem below_next {w w1 w2 : World} (h : Below w.heap.size w w1) (k : Below w1.heap.size w1 w2) : Below w.heap.size w w2 :=
  h.trans (k.mono h.size)
theorem u8_of_wf {n : Int} (h : (Lit.int .u8 n).wf = true) : ∃ b : UInt8, n = b.toNat := by
  simp [Lit.wf, IntKind.min, IntKind.max, IntKind.bits, IntKind.signed] at h
  exact ⟨UInt8.ofNat n.toNat, by simp; omega⟩
/-! Single operations of a region, each by its run. -/
theorem wpList_load_by {P : Program} {ops : Array Oper} {rest : List Oper} {o : Oper} {a : Act} {w w' : World} {Q : Exit → Act → World → Prop} (hgd : o.guard = none) (ty : TypeId) (x : Operand) (ho : o.op = .load ty x)
    (p v : Value) (hx : a.eval x = p) (hr : (Instr.loadAt ty p).run P w = .ok v w') (h : wpList P ops Q rest (a.put o.dst v) w') : wpList P ops Q (o :: rest) a w :=
  wpList_plain hgd fun _ hK => by
    unfold Oper.wp execOp
    simp only [ho, hx, Sem.run_bind, hr, Result.andThen_ok, Sem.run_pure, Oper.upon_value]
    exact hK _ _ h
theorem wpList_store_by {P : Program} {ops : Array Oper} {rest : List Oper} {o : Oper} {a : Act} {w w' : World} {Q : Exit → Act → World → Prop} (hgd : o.guard = none) (ty : TypeId) (x y : Operand) (ho : o.op = .store ty x y)
    (p v : Value) (hx : a.eval x = p) (hy : a.eval y = v) (hr : (Instr.storeAt ty p v).run P w = .ok () w') (h : wpList P ops Q rest (a.put o.dst undef) w') : wpList P ops Q (o :: rest) a w :=
  wpList_plain hgd fun _ hK => by
    unfold Oper.wp execOp
    simp only [ho, hx, hy, Sem.run_bind, hr, Result.andThen_ok, Sem.run_pure, Oper.upon_skip]
    exact hK _ _ h
/-- The goal's operation is a store (a load, an append): tried 'with_reducible' it fails at once where it is another. -/
theorem atStore {P : Program} {ops : Array Oper} {rest : List Oper} {a : Act} {w : World} {Q : Exit → Act → World → Prop} {dst : Option Tmp} {ty : TypeId} {x y : Operand} {t : TypeId} {pos : String} {after : Array Edge} {g : Option (Nat × Bool)}
    (h : wpList P ops Q ({ dst := dst, op := .store ty x y, type := t, pos := pos, after := after, guard := g } :: rest) a w) : wpList P ops Q ({ dst := dst, op := .store ty x y, type := t, pos := pos, after := after, guard := g } :: rest) a w := h
theorem atLoad {P : Program} {ops : Array Oper} {rest : List Oper} {a : Act} {w : World} {Q : Exit → Act → World → Prop} {dst : Option Tmp} {ty : TypeId} {x : Operand} {t : TypeId} {pos : String} {after : Array Edge} {g : Option (Nat × Bool)}
    (h : wpList P ops Q ({ dst := dst, op := .load ty x, type := t, pos := pos, after := after, guard := g } :: rest) a w) : wpList P ops Q ({ dst := dst, op := .load ty x, type := t, pos := pos, after := after, guard := g } :: rest) a w := h
end Go.Proofs.Ytlngefhjoobmdaa
namespace Go.Proofs.Ytlngefhjoobmdaa
open Go.RowKit

/-- The k least bytes of a number. -/
def putL (n : Nat) (k : Nat) : List UInt8 := (List.range k).map fun i => UInt8.ofNat (n / 256 ^ i)
theorem putL_succ (n k : Nat) : putL n (k + 1) = putL n k ++ [UInt8.ofNat (n / 256 ^ k)] := by
  simp [putL, List.range_succ]
@[simp] theorem putL_length (n k : Nat) : (putL n k).length = k := by simp [putL]
theorem putL_zero (n : Nat) : putL n 0 = [] := rfl
/-- A text behind its length. -/
def textL (s : List UInt8) : List UInt8 := putL (min s.length 65535) 2 ++ s.take 65535
/-- The number that bytes are, least first. -/
def numL : List UInt8 → Nat
  | [] => 0
  | b :: l => b.toNat + 256 * numL l
theorem numL_lt : ∀ l : List UInt8, numL l < 256 ^ l.length
  | [] => by simp [numL]
  | b :: l => by
    have := numL_lt l
    have hb := b.toNat_lt
    simp only [numL, List.length_cons, Nat.pow_succ]
    omega
theorem numL_snoc : ∀ (l : List UInt8) (b : UInt8), numL (l ++ [b]) = numL l + 256 ^ l.length * b.toNat
  | [], b => by simp [numL]
  | a :: l, b => by
    simp only [List.cons_append, numL, numL_snoc l b, List.length_cons, Nat.pow_succ]
    rw [Nat.mul_add, ← Nat.mul_assoc, Nat.mul_comm 256 (256 ^ l.length), Nat.add_assoc]
theorem numL_putL (n : Nat) : ∀ k, numL (putL n k) = n % 256 ^ k
  | 0 => by simp [putL, numL, Nat.mod_one]
  | k + 1 => by
    rw [putL_succ, numL_snoc, numL_putL n k, putL_length]
    have h : (UInt8.ofNat (n / 256 ^ k)).toNat = n / 256 ^ k % 256 := by simp
    rw [h, Nat.pow_succ, Nat.mod_mul]
theorem or_shift (m y j : Nat) (hj : j < 8) (hm : m < 256 ^ j) (hy : y < 256) : bits .or .u64 (m : Int) (IntKind.u64.wrap ((y : Int) * 2 ^ (8 * j))) = ((m + 256 ^ j * y : Nat) : Int) := by
  have hp : 256 ^ j = 2 ^ (8 * j) := by rw [Nat.pow_mul]
  have h1 : 256 ^ j ≤ 256 ^ 7 := Nat.pow_le_pow_right (by omega) (by omega)
  have h2 : 256 ^ j * y ≤ 256 ^ 7 * 255 := Nat.mul_le_mul h1 (by omega)
  have e : (y : Int) * 2 ^ (8 * j) = ((256 ^ j * y : Nat) : Int) := by rw [hp, Nat.mul_comm (2 ^ (8 * j)) y]; simp
  rw [e, IntKind.wrap_u64, Int.emod_eq_of_lt (by omega) (by omega)]
  rw [u64_or_nat m (256 ^ j * y) (by omega) (by omega), hp, Nat.or_comm, ← Nat.two_pow_add_eq_or_of_lt (by rw [← hp]; exact hm), Nat.add_comm]
end Go.Proofs.Ytlngefhjoobmdaa
namespace Go.Proofs.Ytlngefhjoobmdaa
open Go.RowKit

/-- A value has grown: of the blocks that were there its own alone may be written; its block is that, or a new one. -/
def Grew (w w' : World) (v v' : Value) : Prop := w.grownBy w' v.ownBlock ∧ ∀ k, v'.ownBlock = some k → v.ownBlock = some k ∨ w.heap.size ≤ k
theorem Grew.refl (w : World) (v : Value) : Grew w w v v := ⟨⟨rfl, rfl, rfl, Nat.le_refl _, fun _ _ _ => rfl⟩, fun _ h => .inl h⟩
theorem Grew.trans {w w1 w2 : World} {v v1 v2 : Value} (h : Grew w w1 v v1) (k : Grew w1 w2 v1 v2) : Grew w w2 v v2 := by
  refine ⟨⟨k.1.os.trans h.1.os, k.1.tape.trans h.1.tape, k.1.output.trans h.1.output, Nat.le_trans h.1.size k.1.size, fun i hi hne => ?_⟩, fun i hi => ?_⟩
  · rw [k.1.block i (Nat.lt_of_lt_of_le hi h.1.size) (fun e => ?_), h.1.block i hi hne]
    rcases h.2 i e.symm with h1 | h1
    · exact hne h1.symm
    · omega
  · rcases k.2 i hi with h1 | h1
    · exact h.2 i h1
    · exact .inr (Nat.le_trans h.1.size h1)
/-- What turns no block that was there. -/
theorem Grew.of_below {w w' : World} (v : Value) (h : Below w.heap.size w w') : Grew w w' v v := ⟨⟨h.os, h.tape, h.output, h.size, fun k hk _ => h.block k hk⟩, fun _ h => .inl h⟩
theorem Grew.below {B : Nat} {w w' : World} {v v' : Value} (h : Grew w w' v v') (hB : B ≤ w.heap.size) (hb : ∀ k, v.ownBlock = some k → B ≤ k) : Below B w w' :=
  (Below.refl B w).grown h.1 hB hb
/-- append, onto a row that the call owns, of whatever source. -/
theorem run_append_own_src {P : Program} (w : World) (base : Nat) (t tx ty e : TypeId) (i : TypeInfo) (z : Value) (ht : P.underlying t = some (.slice e)) (hi : P.info? e = some i) (hz : i.zero = some z)
    (hzs : z.cells.size = i.size) (v : Value) (n : Nat) (xs : List Value) (hown : w.ownsRow base e i.size v n xs) (x : Value) (m : Nat) (news : List Value) (hs : Src P i.size tx x m news w)
    (h63 : n + m ≤ maxLen) (hbytes : (n + m) * i.bytes ≤ 140737488355328) (hbase : base ≤ w.heap.size) :
    ∃ v' w', (Builtin.append_ #[t, tx] ty #[v, x]).run P w = .ok v' w' ∧ w'.ownsRow base e i.size v' (n + m) (xs ++ news) ∧ Grew w w' v v' := by
  have hsmall : n + m ≤ 9223372036854775807 := by simp only [maxLen] at h63; omega
  have hlen : (xs ++ news).length = (n + m) * i.size := by rw [List.length_append, hown.1, hs.newsLen, Nat.add_mul]
  have grow : ∀ (old : Nat) (b : Option Addr), old < n + m → n ≤ old → (Builtin.firstCells i.size n (.slice b n old)).run P w.drew = .ok xs.toArray w.drew →
      ∃ v' w', (Builtin.append_ #[t, tx] ty #[.slice b n old, x]).run P w = .ok v' w' ∧ w'.ownsRow base e i.size v' (n + m) (xs ++ news) ∧ Grew w w' (.slice b n old) v' := by
    intro old b ho hno hold
    have hge := grownCap_ge w (n + m) old e
    have hcm := grownCap_le_maxLen w (n + m) old e h63
    refine ⟨_, _, run_append_grow_src w t tx ty e i z ht hi hz b n old xs hold x m news hs ho (by omega) (growslice_fits (by omega) hbytes), ⟨hlen, .inr ⟨w.heap.size, _, _, rfl, hbase, heap_alloc_new w.drew _, hge, hcm, ?_, ?_⟩⟩, ⟨⟨rfl, rfl, rfl, by simp, fun k hk _ => Below.heap_alloc w.drew _ k hk⟩, fun k hk => .inr (by simp [Value.ownBlock] at hk; omega)⟩⟩
    · simp only [Array.size_append, List.size_toArray, size_zeroCells, hzs, hlen]
      rw [← Nat.add_mul]; congr 1; omega
    · simp only [Array.toList_append]
      rw [← hlen]
      exact List.take_left
  rcases hown.2 with ⟨rfl, rfl⟩ | ⟨g, cap, cur, rfl, hbg, hg, hnc, hcm, hcs, htake⟩
  · have hx : xs = [] := List.eq_nil_of_length_eq_zero (by simpa using hown.1)
    subst hx
    by_cases hm : m = 0
    · subst hm
      have hn : news = [] := List.eq_nil_of_length_eq_zero (by simpa using hs.newsLen)
      subst hn
      refine ⟨.slice none 0 0, w, ?_, World.ownsRow_nil w base e i.size, ⟨⟨rfl, rfl, rfl, Nat.le_refl _, fun _ _ _ => rfl⟩, fun k hk => .inl hk⟩⟩
      rcases hs.kind with ⟨e', hk⟩ | hk <;> simp [Builtin.append_, run_underlying ht, run_underlying hk, sizeOf, typeInfo, hi, hs.len, hs.cells]
    · exact grow 0 none (by omega) (Nat.le_refl _) (run_firstCells_none w.drew i.size 0 0 0)
  · by_cases hroom : n + m ≤ cap
    · have hfit : n * i.size + news.length ≤ cur.size := by rw [hs.newsLen, hcs, ← Nat.add_mul]; exact Nat.mul_le_mul_right _ hroom
      have hst := run_storeCells_at P g (n * i.size) e news 0 cur w hg (by simpa using hfit) hs.one
      simp only [Nat.add_zero] at hst
      have hr : (Builtin.append_ #[t, tx] ty #[.slice (some ⟨g, 0, none⟩) n cap, x]).run P w = .ok (.slice (some ⟨g, 0, none⟩) (n + m) cap) (w.setRow g (cur.toList.take (n * i.size) ++ news ++ cur.toList.drop (n * i.size + news.length)).toArray) := by
        rcases hs.kind with ⟨e', hk⟩ | hk <;> simp [Builtin.append_, run_underlying ht, run_underlying hk, sizeOf, typeInfo, hi, hs.len, hroom, hs.cells, Addr.add_lit, hst]
      refine ⟨_, _, hr, ⟨hlen, .inr ⟨g, cap, _, rfl, hbg, setRow_heap w g cur _ e _ hg, hroom, hcm, ?_, ?_⟩⟩, ⟨⟨rfl, rfl, rfl, by simp, fun k _ hk => setRow_other w g k _ (fun e => hk (by simp [Value.ownBlock, e]))⟩, fun k hk => .inl hk⟩⟩
      · simp only [List.size_toArray, List.length_append, List.length_take, List.length_drop, Array.length_toList]
        omega
      · rw [htake, ← hlen]
        exact List.take_left
    · have holds : ∀ j u, xs[j]? = some u → w.cell? ((⟨g, 0, none⟩ : Addr).add j) = some u := hown.cells (g := g) rfl
      exact grow cap _ (by omega) hnc (run_firstCells_some w.drew i.size n _ n cap xs hown.1 (by simpa using holds))

def u8V (b : UInt8) : Value := .int .u8 (b.toNat : Int)
/-- v is a slice of bytes that the call owns (its block is B or a later one); it reads l. -/
def OwnB (B : Nat) (w : World) (v : Value) (l : List UInt8) : Prop := w.ownsRow B 5 1 v l.length (l.map u8V)
theorem OwnB.out {B : Nat} {w : World} {v : Value} {l : List UInt8} (h : OwnB B w v l) : ∃ a cap, v = .slice a l.length cap ∧ IsBytes w a l ∧ l.length ≤ cap ∧ cap ≤ maxLen := by
  rcases h.2 with ⟨rfl, h0⟩ | ⟨g, cap, cur, rfl, hbg, hg, hnc, hcm, hcs, htake⟩
  · have : l = [] := List.eq_nil_of_length_eq_zero h0
    subst this
    exact ⟨none, 0, rfl, IsBytes.nil _ _, Nat.le_refl _, Nat.zero_le _⟩
  · refine ⟨_, cap, rfl, fun i hi => ⟨g, 0, rfl, (Array.getElem?_eq_some_iff.1 hg).1, ?_⟩, hnc, hcm⟩
    rw [cell_of_row w g (0 + i) cur _ _ hg, Nat.zero_add]
    have h1 : (cur.toList.take (l.length * 1))[i]? = some (u8V l[i]) := by rw [htake]; simp [hi]
    rw [List.getElem?_take_of_lt (by omega)] at h1
    simpa [u8V] using h1
theorem OwnB.nil (B : Nat) (w : World) : OwnB B w (.slice none 0 0) [] := World.ownsRow_nil w B _ 1
/-- '[]byte{}'. -/
theorem OwnB.empty (B : Nat) (w : World) (hB : B ≤ w.heap.size) : OwnB B (w.alloc (.cells #[] 5)) (.slice (some ⟨w.heap.size, 0, none⟩) 0 0) [] :=
  ⟨rfl, .inr ⟨w.heap.size, 0, #[], rfl, hB, heap_alloc_new w _, Nat.le_refl _, Nat.zero_le _, rfl, rfl⟩⟩
theorem OwnB.block {B : Nat} {w : World} {v : Value} {l : List UInt8} (h : OwnB B w v l) : ∀ k, v.ownBlock = some k → B ≤ k ∧ k < w.heap.size := by
  intro k hk
  rcases h.2 with ⟨rfl, h0⟩ | ⟨g, cap, cur, rfl, hbg, hg, _⟩
  · simp [Value.ownBlock] at hk
  · simp [Value.ownBlock] at hk
    subst hk
    exact ⟨hbg, (Array.getElem?_eq_some_iff.1 hg).1⟩
/-- What a call owns stays, where no block that was there is written. -/
theorem OwnB.bel {B : Nat} {w w' : World} {v : Value} {l : List UInt8} (h : OwnB B w v l) (hb : Below w.heap.size w w') : OwnB B w' v l := by
  refine ⟨h.1, ?_⟩
  rcases h.2 with h2 | ⟨g, cap, cur, hv, hbg, hg, hr⟩
  · exact .inl h2
  · exact .inr ⟨g, cap, cur, hv, hbg, by rw [hb.block g (Array.getElem?_eq_some_iff.1 hg).1]; exact hg, hr⟩
/-- A store into it. -/
theorem OwnB.get {B : Nat} {w : World} {v : Value} {l : List UInt8} (h : OwnB B w v l) (hne : 0 < l.length) : ∃ g cap, v = .slice (some ⟨g, 0, none⟩) l.length cap ∧ B ≤ g ∧ g < w.heap.size ∧ l.length ≤ cap ∧ cap ≤ maxLen ∧
    (∀ i (hi : i < l.length), w.cell? ⟨g, i, none⟩ = some (.int .u8 (l[i].toNat : Int))) ∧ (∀ i, w.frozen? ⟨g, i, none⟩ = false) ∧ (∀ i (y : UInt8), i < l.length → OwnB B (w.setCell ⟨g, i, none⟩ (.int .u8 (y.toNat : Int))) v (l.set i y)) := by
  obtain ⟨a, cap', hv, hb, _⟩ := h.out
  rcases h.2 with ⟨rfl, h0⟩ | ⟨g, cap, cur, rfl, hbg, hg, hnc, hcm, hcs, htake⟩
  · omega
  · refine ⟨g, cap, rfl, hbg, (Array.getElem?_eq_some_iff.1 hg).1, hnc, hcm, fun i hi => ?_, fun i => frozen_of_row w g i cur _ hg, fun i y hi => ⟨by simp, .inr ⟨g, cap, cur.setIfInBounds i (.int .u8 (y.toNat : Int)), by simp, hbg, heap_setCell_same w g i cur _ _ hg, by simpa using hnc, hcm, by simpa using hcs, ?_⟩⟩⟩
    · obtain ⟨b, off, h1, _, h3⟩ := hb i hi
      simp only [Value.slice.injEq] at hv
      rw [h1] at hv
      simp at hv
      obtain ⟨⟨rfl, rfl⟩, _⟩ := hv
      simpa using h3
    · apply List.ext_getElem?
      intro k
      have hk := congrArg (·[k]?) htake
      simp only [List.getElem?_take, List.getElem?_map, List.length_set, Nat.mul_one, Array.toList_setIfInBounds, List.getElem?_set] at hk ⊢
      by_cases hkl : k < l.length
      · rw [if_pos hkl] at hk ⊢
        by_cases hik : i = k
        · subst hik
          have hcu : i < cur.size := by rw [hcs]; omega
          simp [hcu, hi, u8V]
        · rw [if_neg hik, if_neg hik]; exact hk
      · rw [if_neg hkl] at hk ⊢
        have : ¬ (i = k) := by omega
        rw [if_neg this]
        rw [hk]
theorem below_of_grown {B : Nat} {w w' : World} {v v' : Value} {l : List UInt8} (h : OwnB B w v l) (hB : B ≤ w.heap.size) (hg : Grew w w' v v') : Below B w w' :=
  hg.below hB (fun k hk => (h.block k hk).1)
/-- The bytes of another row, behind a growth. -/
theorem IsBytes.grew {w w' : World} {v v' : Value} {a : Option Addr} {l : List UInt8} (h : IsBytes w a l) (hg : Grew w w' v v') (hne : ∀ b off, a = some ⟨b, off, none⟩ → v.ownBlock ≠ some b) : IsBytes w' a l := by
  intro i hi
  obtain ⟨b, off, h1, h2, h3⟩ := h i hi
  refine ⟨b, off, h1, Nat.lt_of_lt_of_le h2 hg.1.size, ?_⟩
  rw [← h3]
  exact World.cell?_of_block (w := w) (hg.1.block b h2 (fun e => hne b off h1 e.symm))
theorem info_u8 : (Try.prog.info? 5).map (fun i => (i.zero, i.size, i.bytes)) = some (some (.int .u8 0), 1, 1) := by kernel_rfl
/-- What a source of bytes yields. -/
def SrcB (tx : TypeId) (x : Value) (w : World) (l : List UInt8) : Prop := Src Try.prog 1 tx x l.length (l.map u8V) w
theorem SrcB.ofBytes {w : World} {a : Option Addr} {l : List UInt8} (cap : Nat) (h : IsBytes w a l) : SrcB 22 (.slice a l.length cap) w l := by
  cases a with
  | none =>
    have : l = [] := by
      cases l with
      | nil => rfl
      | cons x l => obtain ⟨b, off, h1, _⟩ := h 0 (by simp); cases h1
    subst this
    exact Src.ofNil w (size := 1) Try.underlying22 cap
  | some a =>
    cases l with
    | nil => exact Src.ofSlice w Try.underlying22 a 0 cap [] rfl (fun j u hj => by simp at hj) (fun u hu => by cases hu)
    | cons x l =>
      obtain ⟨b, off, h1, _⟩ := h 0 (by simp)
      cases h1
      refine Src.ofSlice w Try.underlying22 ⟨b, off, none⟩ _ cap _ (by simp) (fun j u hj => ?_) (fun u hu => ?_)
      · have hlt : j < (x :: l).length := by
          have := (List.getElem?_eq_some_iff.1 hj).1; simpa using this
        obtain ⟨b', off', h2, _, h3⟩ := h j hlt
        cases h2
        have hadd : (⟨b, off, none⟩ : Addr).add j = ⟨b, off + j, none⟩ := by unfold Addr.add; split <;> simp_all
        rw [hadd, h3]
        rw [List.getElem?_map, List.getElem?_eq_getElem hlt] at hj
        simp [u8V] at hj ⊢
        exact hj
      · obtain ⟨y, _, rfl⟩ := List.mem_map.1 hu; rfl
theorem SrcB.ofString (w : World) (s : ByteArray) : SrcB 9 (.string s) w s.data.toList :=
  Src.ofString w (P := Try.prog) Try.underlying9 s
/-- append, onto bytes of one's own. -/
theorem run_append_bytes (w : World) (B : Nat) (tx ty : TypeId) (v : Value) (l : List UInt8) (h : OwnB B w v l) (x : Value) (news : List UInt8) (hs : SrcB tx x w news) (hB : B ≤ w.heap.size) (hsz : l.length + news.length ≤ 140737488355328) :
    ∃ v' w', (Builtin.append_ #[22, tx] ty #[v, x]).run Try.prog w = .ok v' w' ∧ OwnB B w' v' (l ++ news) ∧ Grew w w' v v' := by
  have hinf := info_u8
  cases hi : Try.prog.info? 5 with
  | none => rw [hi] at hinf; cases hinf
  | some i =>
    rw [hi] at hinf
    simp only [Option.map_some, Option.some.injEq, Prod.mk.injEq] at hinf
    obtain ⟨hz, h1, h2⟩ := hinf
    have hown : w.ownsRow B 5 i.size v l.length (l.map u8V) := by rw [h1]; exact h
    have hsrc : Src Try.prog i.size tx x news.length (news.map u8V) w := by rw [h1]; exact hs
    obtain ⟨v', w', hr, ho, hg⟩ := run_append_own_src w B 22 tx ty 5 i _ Try.underlying22 hi hz (by rw [h1]; rfl) v l.length _ hown x news.length _ hsrc (by unfold maxLen; omega) (by rw [h2]; omega) hB
    refine ⟨v', w', hr, ?_, hg⟩
    rw [h1, ← List.map_append, ← List.length_append] at ho
    exact ho
/-- .. as an operation of a region. -/
theorem wpList_append_bytes {ops : Array Oper} {rest : List Oper} {o : Oper} {a : Act} {w : World} {Q : Exit → Act → World → Prop} (hgd : o.guard = none) (s x : Operand) (tx : TypeId)
    (ho : o.op = .call { callee := .builtin .append, args := #[s, x], argTypes := #[22, tx] }) (B : Nat) (v : Value) (l : List UInt8) (hs : a.eval s = v) (hown : OwnB B w v l)
    (y : Value) (news : List UInt8) (hx : a.eval x = y) (hsrc : SrcB tx y w news) (hB : B ≤ w.heap.size) (hsz : l.length + news.length ≤ 140737488355328)
    (h : ∀ v' w', OwnB B w' v' (l ++ news) → Grew w w' v v' → wpList Try.prog ops Q rest (a.put o.dst v') w') : wpList Try.prog ops Q (o :: rest) a w :=
  wpList_plain hgd fun _ hK => by
    obtain ⟨v', w', hr, h2, h3⟩ := run_append_bytes w B tx o.type v l hown y news hsrc hB hsz
    unfold Oper.wp execOp
    simp only [ho, resolve, invoke, builtin, Sem.run_bind, Sem.run_pure, Result.andThen_ok, List.map_toArray, List.map_cons, List.map_nil, hs, hx, hr, Oper.upon_value]
    exact hK _ _ (h v' w' h2 h3)
/-- A literal's row. -/
theorem isBytes_new (w : World) (C : Array Value) (e : TypeId) (fr : Nat × Nat) (l : List UInt8) (hC : C = (l.map u8V).toArray) : IsBytes (w.alloc (.cells C e fr)) (some ⟨w.heap.size, 0, none⟩) l := by
  subst hC
  intro i hi
  refine ⟨w.heap.size, 0, rfl, by simp, ?_⟩
  rw [cell_of_row _ w.heap.size (0 + i) _ e fr (heap_alloc_new w _), Nat.zero_add]
  simp [u8V, hi]
theorem srcB_one (w : World) (x : Int) (b : UInt8) (h : x = b.toNat) : SrcB 22 (.slice (some ⟨w.heap.size, 0, none⟩) 1 1) (w.alloc (.cells #[.int .u8 x] 5)) [b] := by
  subst h
  exact SrcB.ofBytes (l := [b]) 1 (isBytes_new w _ _ _ [b] rfl)
theorem OwnB.alloc {B : Nat} {w : World} {v : Value} {l : List UInt8} (h : OwnB B w v l) (o : Obj) : OwnB B (w.alloc o) v l := h.bel ((Below.refl _ _).alloc (Nat.le_refl _) _)
theorem Grew.after_alloc {w w' : World} {v v' : Value} {o : Obj} (h : Grew (w.alloc o) w' v v') : Grew w w' v v' :=
  (Grew.of_below v ((Below.refl _ w).alloc (Nat.le_refl _) o)).trans h
/-- 'string(b)'. -/
theorem run_string_bytes (w : World) (a : Option Addr) (cap : Nat) (l : List UInt8) (h : IsBytes w a l) :
    (convert 22 9 (.slice a l.length cap)).run Try.prog w = .ok (.string ⟨l.toArray⟩) w := by
  cases l with
  | nil =>
    rw [run_convert_bytes_string w 22 9 5 a [].length cap Try.underlying22 Try.underlying5 Try.underlying9]
    cases a with
    | none => rfl
    | some a =>
      have := run_loadCells_list (P := Try.prog) w a [] (fun j v hj => by simp at hj)
      exact (run_bytesToString w a 0 cap [] (by simpa using this)).trans (by rfl)
  | cons x l =>
    obtain ⟨b, off, h1, _⟩ := h 0 (by simp)
    subst h1
    refine run_convert_bytes_back w 22 9 5 ⟨b, off, none⟩ cap (x :: l) Try.underlying22 Try.underlying5 Try.underlying9 (fun j hj => ?_)
    obtain ⟨b', off', h2, _, h3⟩ := h j hj
    cases h2
    have hadd : (⟨b, off, none⟩ : Addr).add j = ⟨b, off + j, none⟩ := by unfold Addr.add; split <;> simp_all
    rw [hadd, h3]
end Go.Proofs.Ytlngefhjoobmdaa
namespace Go.Proofs.Ytlngefhjoobmdaa
open Go.RowKit

/-- Block br is a reader: the bytes that are left, whether it is short. -/
def IsReader (w : World) (br : Nat) (l : List UInt8) (sh : Bool) : Prop :=
  ∃ a cap, w.heap[br]? = some (.cells #[.slice a l.length cap, .bool sh] 105 (0, 0)) ∧ IsBytes w a l ∧ l.length ≤ cap ∧ cap ≤ maxLen ∧ (∀ b off, a = some ⟨b, off, none⟩ → 0 < cap → b < br) ∧ (a = none → cap = 0) ∧ ∀ x, a = some x → 0 < cap → x.spot = none ∧ x.block < w.heap.size

/-- A slice that reads l, in a world. -/
def Reads (w : World) (v : Value) (l : List UInt8) : Prop := ∃ a cap, v = .slice a l.length cap ∧ IsBytes w a l ∧ l.length ≤ cap ∧ cap ≤ maxLen ∧ (a = none → cap = 0) ∧ ∀ x, a = some x → 0 < cap → x.spot = none ∧ x.block < w.heap.size

theorem packTake_short (br : Nat) (l : List UInt8) (sh : Bool) (n : Int) (w : World) (h : IsReader w br l sh) (hs : sh = true ∨ (l.length : Int) < n) :
    Calls Try.prog 48 #[.pointer (some ⟨br, 0, none⟩), .int .i64 n] w fun e w' => e = .returned (.slice none 0 0) ∧ w.setCell ⟨br, 1, none⟩ (.bool true) = w' := by
  obtain ⟨a, cap, hg, hb, h1, h2, h3, h4, h5⟩ := h
  have hc0 := cell_of_row w br 0 _ _ _ hg
  have hc1 := cell_of_row w br 1 _ _ _ hg
  have hf := frozen_of_row w br 1 _ _ hg
  have HG := Lib.hid hg
  clear hg hb
  simp at hc0 hc1
  unfold maxLen at h2
  cases sh with
  | true =>
    go_enter Try.func48, Try.ntmps48
    go_wp2
    go_ret
    exact ⟨rfl, rfl⟩
  | false =>
    have hs' : (l.length : Int) < n := by simpa using hs
    have hd : decide ((l.length : Int) < n) = true := decide_eq_true hs'
    go_enter Try.func48, Try.ntmps48
    go_wp2
    go_ret
    exact ⟨rfl, rfl⟩

theorem IsBytes.setCell {w : World} {a : Option Addr} {l : List UInt8} (h : IsBytes w a l) (p : Addr) (u : Value) (hne : ∀ b off, a = some ⟨b, off, none⟩ → 0 < l.length → b ≠ p.block) : IsBytes (w.setCell p u) a l := by
  intro i hi
  obtain ⟨b, off, h1, h2, h3⟩ := h i hi
  refine ⟨b, off, h1, by simpa [World.setCell] using h2, ?_⟩
  rw [← h3]
  exact World.cell?_of_block (w := w) (heap_setCell_other w p b u (hne b off h1 (by omega)))
theorem IsBytes.take {w : World} {a : Option Addr} {l : List UInt8} (h : IsBytes w a l) (n : Nat) : IsBytes w a (l.take n) := by
  intro i hi
  have hi' : i < l.length := by simp at hi; omega
  obtain ⟨b, off, h1, h2, h3⟩ := h i hi'
  exact ⟨b, off, h1, h2, by rw [h3]; simp⟩
theorem IsBytes.drop {w : World} {b off : Nat} {l : List UInt8} (h : IsBytes w (some ⟨b, off, none⟩) l) (n : Nat) : IsBytes w (some ⟨b, off + n, none⟩) (l.drop n) := by
  intro i hi
  have hi' : n + i < l.length := by simp at hi; omega
  obtain ⟨b', off', h1, h2, h3⟩ := h (n + i) hi'
  cases h1
  exact ⟨b, off + n, rfl, h2, by rw [Nat.add_assoc, h3]; simp⟩
theorem grownBy_setCell (w : World) (p : Addr) (u : Value) : w.grownBy (w.setCell p u) (some p.block) :=
  ⟨rfl, rfl, rfl, by simp [World.setCell], fun k _ hk => heap_setCell_other w p k u (fun e => hk (by rw [e]))⟩
/-- What a take that is not short leaves. -/
def TakeOk (br : Nat) (l : List UInt8) (n : Nat) (w : World) (e : Ending) (w' : World) : Prop := ∃ v, e = .returned v ∧ Reads w' v (l.take n) ∧ IsReader w' br (l.drop n) false ∧ w.grownBy w' (some br)
theorem takeOk_mk {br : Nat} {l : List UInt8} {n cap cap2 : Nat} {w : World} {a a2 : Option Addr} (hn : n ≤ l.length) (hg : w.heap[br]? = some (.cells #[.slice a l.length cap, .bool false] 105 (0, 0))) (hb : IsBytes w a l) (h1 : l.length ≤ cap) (h2 : cap ≤ maxLen)
    (h3 : ∀ b off, a = some ⟨b, off, none⟩ → 0 < cap → b < br) (h4 : a = none → cap = 0) (h5 : ∀ x, a = some x → 0 < cap → x.spot = none ∧ x.block < w.heap.size) (hb2 : IsBytes w a2 (l.drop n)) (h12 : l.length - n ≤ cap2) (h22 : cap2 ≤ maxLen) (h32 : ∀ b off, a2 = some ⟨b, off, none⟩ → 0 < cap2 → b < br) (h42 : a2 = none → cap2 = 0) (h52 : ∀ x, a2 = some x → 0 < cap2 → x.spot = none ∧ x.block < w.heap.size) (m : Nat) (hm : m = l.length - n) :
    TakeOk br l n w (.returned (.slice a n cap)) (w.setCell ⟨br, 0, none⟩ (.slice a2 m cap2)) := by
  subst hm
  refine ⟨_, rfl, ⟨a, cap, by simp; omega, (hb.setCell _ _ (fun b off e hl => Nat.ne_of_lt (h3 b off e (by omega)))).take n, by simp; omega, h2, h4, fun x hx hc => by simpa [World.setCell] using h5 x hx hc⟩, ⟨a2, cap2, ?_, hb2.setCell _ _ (fun b off e hl => Nat.ne_of_lt (h32 b off e (by simp at hl; omega))), by simpa using h12, h22, h32, h42, fun x hx hc => by simpa [World.setCell] using h52 x hx hc⟩, grownBy_setCell w _ _⟩
  rw [heap_setCell_same w br 0 _ _ _ hg]
  simp
set_option maxHeartbeats 1000000 in
theorem packTake_ok (br : Nat) (l : List UInt8) (n : Nat) (w : World) (h : IsReader w br l false) (hn : n ≤ l.length) :
    Calls Try.prog 48 #[.pointer (some ⟨br, 0, none⟩), .int .i64 n] w (TakeOk br l n w) := by
  obtain ⟨a, cap, hg, hb, h1, h2, h3, h4, h5⟩ := h
  have hc0 := cell_of_row w br 0 _ _ _ hg
  have hc1 := cell_of_row w br 1 _ _ _ hg
  have hf := frozen_of_row w br 0 _ _ hg
  have HG := Lib.hid hg
  have HB := Lib.hid hb
  have H2 := Lib.hid h2
  have H3 := Lib.hid h3
  clear hg hb h3
  simp at hc0 hc1
  unfold maxLen at h2
  have hd : decide ((l.length : Int) < (n : Int)) = false := by simp; omega
  have hd' : decide (l.length < n) = false := by simp; omega
  have H4 := Lib.hid h4
  have H5 := Lib.hid h5
  clear h4 h5
  by_cases hnc : n = cap
  · subst hnc
    have hl0 : l.length - n = 0 := by omega
    have HL0 := Lib.hid hl0
    clear hl0
    have hn0 : l.drop n = [] := List.drop_of_length_le (by omega)
    have HN0 := Lib.hid hn0
    clear hn0
    cases a with
    | none =>
      have hcap := H4.out rfl
      subst hcap
      go_enter Try.func48, Try.ntmps48
      go_wp2
      go_ret
      exact takeOk_mk hn HG.out HB.out h1 H2.out H3.out (fun _ => rfl) H5.out (by rw [HN0.out]; exact IsBytes.nil _ _) (by omega) (Nat.zero_le _) (fun _ _ e _ => by cases e) (fun _ => rfl) (fun x hx => by cases hx) _ (by omega)
    | some x =>
      go_enter Try.func48, Try.ntmps48
      go_wp2
      go_ret
      exact takeOk_mk hn HG.out HB.out h1 H2.out H3.out H4.out H5.out (by rw [HN0.out]; exact IsBytes.nil _ _) (by omega) (by unfold maxLen; omega) (fun _ _ _ h => by omega) (fun e => by cases e) (fun x _ h => by omega) _ (by omega)
  · have hlt : n < cap := by omega
    cases a with
    | none => have := H4.out rfl; omega
    | some x =>
      obtain ⟨b, off, sp⟩ := x
      have hsp := (H5.out _ rfl (by omega)).1
      simp at hsp
      subst hsp
      have HN : Hid (b < br) := H3.out b off rfl (by omega)
      have HS : Hid (b < w.heap.size) := (H5.out _ rfl (by omega)).2
      go_enter Try.func48, Try.ntmps48
      go_wp2
      go_ret
      refine takeOk_mk hn HG.out HB.out h1 H2.out H3.out H4.out H5.out (HB.out.drop n) ?_ ?_ ?_ ?_ ?_ _ ?_
      · omega
      · have := H2.out; omega
      · intro b' off' e _; cases e; exact HN.out
      · intro e; cases e
      · intro x hx _; cases hx; exact ⟨rfl, HS.out⟩
      · first | rfl | omega

theorem packNew (a : Option Addr) (n cap : Nat) (w : World) :
    Calls Try.prog 20 #[.slice a n cap] w fun e w' => e = .returned (.pointer (some ⟨w.heap.size, 0, none⟩)) ∧ w.alloc (.cells #[.slice a n cap, .bool false] 105) = w' := by
  go_enter Try.func20, Try.ntmps20
  go_wp2
  go_ret
  exact ⟨rfl, rfl⟩
theorem isReader_new {w : World} {a : Option Addr} {cap : Nat} {l : List UInt8} (h : Reads w (.slice a l.length cap) l) : IsReader (w.alloc (.cells #[.slice a l.length cap, .bool false] 105)) w.heap.size l false := by
  obtain ⟨a', cap', hv, hb, h1, h2, h3, h4⟩ := h
  simp only [Value.slice.injEq] at hv
  obtain ⟨rfl, _, rfl⟩ := hv
  refine ⟨a, cap, heap_alloc_new w _, hb.alloc _, h1, h2, fun b off e hc => ?_, h3, fun x hx hc => ⟨(h4 x hx hc).1, by have := (h4 x hx hc).2; simp; omega⟩⟩
  exact (h4 _ e hc).2

theorem IsReader.bel {w w' : World} {br : Nat} {l : List UInt8} {sh : Bool} (h : IsReader w br l sh) (hb : Below w.heap.size w w') : IsReader w' br l sh := by
  obtain ⟨a, cap, hg, h0, h1, h2, h3, h4, h5⟩ := h
  exact ⟨a, cap, by rw [hb.block br (Array.getElem?_eq_some_iff.1 hg).1]; exact hg, h0.bel hb, h1, h2, h3, h4, fun x hx hc => ⟨(h5 x hx hc).1, Nat.lt_of_lt_of_le (h5 x hx hc).2 hb.size⟩⟩
theorem IsReader.lt {w : World} {br : Nat} {l : List UInt8} {sh : Bool} (h : IsReader w br l sh) : br < w.heap.size := by
  obtain ⟨a, cap, hg, _⟩ := h
  exact (Array.getElem?_eq_some_iff.1 hg).1
theorem below_grownBy {B br : Nat} {w w' : World} (hg : w.grownBy w' (some br)) (hB : B ≤ w.heap.size) (hbr : B ≤ br) : Below B w w' :=
  (Below.refl B w).grown hg hB (fun k hk => by cases hk; exact hbr)
theorem OwnB.reads {B : Nat} {w : World} {v : Value} {l : List UInt8} (h : OwnB B w v l) : Reads w v l := by
  rcases h.2 with ⟨rfl, h0⟩ | ⟨g, cap, cur, rfl, hbg, hg, hnc, hcm, hcs, htake⟩
  · have : l = [] := List.eq_nil_of_length_eq_zero h0
    subst this
    exact ⟨none, 0, rfl, IsBytes.nil _ _, Nat.le_refl _, Nat.zero_le _, fun _ => rfl, fun x hx => by cases hx⟩
  · obtain ⟨a, cap', hv, hb, hc1, hc2⟩ := h.out
    simp only [Value.slice.injEq] at hv
    obtain ⟨rfl, _, rfl⟩ := hv
    exact ⟨_, cap, rfl, hb, hc1, hc2, fun e => (by cases e), fun x hx _ => by cases hx; exact ⟨rfl, (Array.getElem?_eq_some_iff.1 hg).1⟩⟩
/-- What a reader tells as a number, and what it is then. -/
def rdNum (k : Int) (l : List UInt8) (sh : Bool) : Nat × List UInt8 × Bool :=
  if k < 1 ∨ 8 < k then (0, l, sh) else if sh = true ∨ (l.length : Int) < k then (0, l, true) else (numL (l.take k.toNat), l.drop k.toNat, false)
def NumOk (br : Nat) (r : Nat × List UInt8 × Bool) (w : World) (e : Ending) (w' : World) : Prop := e = .returned (.int .u64 (r.1 : Int)) ∧ IsReader w' br r.2.1 r.2.2 ∧ w.grownBy w' (some br)
theorem grownBy_refl (w : World) (r : Option Nat) : w.grownBy w r := ⟨rfl, rfl, rfl, Nat.le_refl _, fun _ _ _ => rfl⟩
theorem isReader_short {w : World} {br : Nat} {l : List UInt8} {sh : Bool} (h : IsReader w br l sh) : IsReader (w.setCell ⟨br, 1, none⟩ (.bool true)) br l true := by
  obtain ⟨a, cap, hg, hb, h1, h2, h3, h4, h5⟩ := h
  refine ⟨a, cap, by rw [heap_setCell_same w br 1 _ _ _ hg]; simp, hb.setCell _ _ (fun b off e hl => Nat.ne_of_lt (h3 b off e (by omega))), h1, h2, h3, h4, fun x hx hc => by simpa [World.setCell] using h5 x hx hc⟩

set_option maxHeartbeats 1000000 in
theorem packNumber (br : Nat) (l : List UInt8) (sh : Bool) (k : Int) (w : World) (h : IsReader w br l sh) :
    Calls Try.prog 21 #[.pointer (some ⟨br, 0, none⟩), .int .i64 k] w (NumOk br (rdNum k l sh) w) := by
  have HR := Lib.hid h
  clear h
  by_cases hk1 : k < 1
  · have hz : rdNum k l sh = (0, l, sh) := by unfold rdNum; rw [if_pos (.inl hk1)]
    rw [hz]
    clear hz
    go_enter Try.func21, Try.ntmps21
    go_wp2
    go_ret
    exact ⟨rfl, HR.out, grownBy_refl _ _⟩
  by_cases hk8 : 8 < k
  · have hz : rdNum k l sh = (0, l, sh) := by unfold rdNum; rw [if_pos (.inr hk8)]
    rw [hz]
    clear hz
    go_enter Try.func21, Try.ntmps21
    go_wp2
    go_ret
    exact ⟨rfl, HR.out, grownBy_refl _ _⟩
  obtain ⟨n, rfl⟩ := Int.eq_ofNat_of_zero_le (show 0 ≤ k by omega)
  by_cases hs : sh = true ∨ (l.length : Int) < (n : Int)
  · have hz : rdNum n l sh = (0, l, true) := by unfold rdNum; rw [if_neg (by omega), if_pos hs]
    rw [hz]
    clear hz
    have HS := Lib.hid hs
    clear hs
    go_enter Try.func21, Try.ntmps21
    go_wp2_with fail
    refine (packTake_short br l sh n _ HR.out HS.out).mono ?_
    rintro e w1 ⟨rfl, rfl⟩
    go_wp2_with fail
    go_loop [5, 6, 7, 18] (fun x _ _ i => x = .int .u64 0 ∧ i = .int .i64 0) (fun _ _ _ _ => 0)
    case atStart => exact ⟨rfl, rfl⟩
    case round =>
      obtain ⟨rfl, rfl⟩ := hrel
      go_wp2
      go_ret
      exact ⟨rfl, isReader_short HR.out, grownBy_setCell _ _ _⟩
  · have hz : rdNum n l sh = (numL (l.take n), l.drop n, false) := by unfold rdNum; rw [if_neg (by omega), if_neg hs]; rfl
    rw [hz]
    clear hz
    have hsh : sh = false := by cases sh <;> simp_all
    subst hsh
    have hnl : n ≤ l.length := by simp at hs; omega
    clear hs
    go_enter Try.func21, Try.ntmps21
    go_wp2_with fail
    refine (packTake_ok br l n _ HR.out hnl).mono ?_
    rintro e w1 ⟨v, rfl, ⟨a, cap, rfl, hb, h1, h2, h3, h4⟩, hr, hg⟩
    have hlen : (l.take n).length = n := by simp; omega
    rw [hlen]
    have HB := Lib.hid hb
    have HR2 := Lib.hid hr
    have HG := Lib.hid hg
    have HL := Lib.hid hlen
    clear hb h1 h2 h3 h4 hr hg hlen
    generalize l.take n = t at *
    go_wp2_with fail
    go_loop [5, 6, 7, 18] (fun x _ _ i => ∃ j m : Nat, j ≤ n ∧ i = .int .i64 j ∧ x = .int .u64 m ∧ Hid (m = numL (t.take j))) (fun _ _ _ i => n - (intOf i).toNat)
    case atStart => exact ⟨0, 0, by omega, rfl, rfl, rfl⟩
    case round =>
      obtain ⟨j, m, hj, rfl, rfl, HM⟩ := hrel
      by_cases hlt : j < n
      · have hjl : j < t.length := by rw [HL.out]; exact hlt
        obtain ⟨b, off, rfl, _, hc⟩ := HB.out j hjl
        have hbt := (t[j]).toNat_lt
        have ht : t.take (j + 1) = t.take j ++ [t[j]] := by rw [List.take_succ_eq_append_getElem hjl]
        have hm256 : m < 256 ^ j := by rw [HM.out]; have := numL_lt (t.take j); simp at this; rw [show min j t.length = j by omega] at this; exact this
        have hnum : numL (t.take (j + 1)) = m + 256 ^ j * (t[j]).toNat := by rw [ht, numL_snoc, ← HM.out]; simp; rw [show min j t.length = j by omega]
        have HN := Lib.hid hnum
        clear ht hnum
        generalize t[j] = y at *
        have HO := Lib.hid (or_shift m y.toNat j (by omega) hm256 hbt)
        clear hm256
        go_wp2
        go_round
        case rel => exact ⟨j + 1, m + 256 ^ j * y.toNat, by omega, by go_num, by rw [HO.out], HN.out.symm⟩
        case measure => simp [intOf]; omega
      · obtain rfl : j = n := by omega
        have hE : m = numL t := by rw [HM.out, List.take_of_length_le (by rw [HL.out]; exact Nat.le_refl _)]
        have HE := Lib.hid hE
        clear hE
        go_wp2
        go_ret
        exact ⟨by rw [HE.out]; rfl, HR2.out, HG.out⟩

theorem rdNum_lt (k : Int) (l : List UInt8) (sh : Bool) : (rdNum k l sh).1 < 18446744073709551616 := by
  unfold rdNum
  split
  · simp
  · rename_i hk
    split
    · simp
    · have h1 := numL_lt (l.take k.toNat)
      have h2 : (l.take k.toNat).length ≤ 8 := by simp; omega
      have h3 := Nat.pow_le_pow_right (n := 256) (by omega) h2
      simp only
      omega
/-- What a reader tells as a text, and what it is then. -/
def rdText (l : List UInt8) (sh : Bool) : List UInt8 × List UInt8 × Bool :=
  let r := rdNum 2 l sh
  if r.2.2 = true ∨ r.2.1.length < r.1 then ([], r.2.1, true) else (r.2.1.take r.1, r.2.1.drop r.1, false)
def TextOk (br : Nat) (r : List UInt8 × List UInt8 × Bool) (w : World) (e : Ending) (w' : World) : Prop := e = .returned (.string ⟨r.1.toArray⟩) ∧ IsReader w' br r.2.1 r.2.2 ∧ w.grownBy w' (some br)
theorem grownBy_trans {w w1 w2 : World} {br : Nat} (h : w.grownBy w1 (some br)) (k : w1.grownBy w2 (some br)) : w.grownBy w2 (some br) :=
  ⟨k.os.trans h.os, k.tape.trans h.tape, k.output.trans h.output, Nat.le_trans h.size k.size, fun i hi hne => (k.block i (Nat.lt_of_lt_of_le hi h.size) hne).trans (h.block i hi hne)⟩

set_option maxRecDepth 100000 in
set_option maxHeartbeats 1000000 in
theorem packText (br : Nat) (l : List UInt8) (sh : Bool) (w : World) (h : IsReader w br l sh) :
    Calls Try.prog 46 #[.pointer (some ⟨br, 0, none⟩)] w (TextOk br (rdText l sh) w) := by
  have hlt := rdNum_lt 2 l sh
  have hlt2 : (rdNum 2 l sh).1 < 65536 := by
    unfold rdNum
    rw [if_neg (by omega)]
    split
    · simp
    · have h1 := numL_lt (l.take (2 : Int).toNat)
      have h2 : (l.take (2 : Int).toNat).length ≤ 2 := by simp; omega
      have h3 := Nat.pow_le_pow_right (n := 256) (by omega) h2
      simp only
      omega
  have HR : Hid (rdText l sh = (if (rdNum 2 l sh).2.2 = true ∨ (rdNum 2 l sh).2.1.length < (rdNum 2 l sh).1 then ([], (rdNum 2 l sh).2.1, true) else ((rdNum 2 l sh).2.1.take (rdNum 2 l sh).1, (rdNum 2 l sh).2.1.drop (rdNum 2 l sh).1, false))) := rfl
  have HC := fun w h => packNumber br l sh 2 w h
  have H := Lib.hid h
  clear h
  generalize rdNum 2 l sh = r at *
  obtain ⟨m, l', sh'⟩ := r
  simp only at HR hlt hlt2
  have HC' := Lib.hid HC
  clear HC
  by_cases hs : sh' = true ∨ l'.length < m
  · have hz : rdText l sh = ([], l', true) := by rw [HR.out, if_pos hs]
    rw [hz]
    clear hz HR
    have HS : Hid (sh' = true ∨ (l'.length : Int) < (m : Int)) := by rcases hs with h | h; exact .inl h; exact .inr (by omega)
    clear hs
    go_enter Try.func46, Try.ntmps46
    go_wp2_with fail
    refine (HC'.out _ H.out).mono ?_
    rintro e w1 ⟨rfl, hr, hg⟩
    have HR1 := Lib.hid hr
    have HG := Lib.hid hg
    clear hr hg
    simp only at HR1
    go_wp2_with fail
    refine (packTake_short br l' sh' m _ HR1.out HS.out).mono ?_
    rintro e w2 ⟨rfl, rfl⟩
    have kc := fun w => run_string_bytes w none 0 [] (IsBytes.nil _ _)
    simp only [List.length_nil] at kc
    go_wp2
    go_ret
    exact ⟨rfl, isReader_short HR1.out, grownBy_trans HG.out (grownBy_setCell _ _ _)⟩
  · have hz : rdText l sh = (l'.take m, l'.drop m, false) := by rw [HR.out, if_neg hs]
    rw [hz]
    clear hz HR
    have hsh : sh' = false := by cases sh' <;> simp_all
    subst hsh
    have hml : m ≤ l'.length := by simp at hs; omega
    clear hs
    go_enter Try.func46, Try.ntmps46
    go_wp2_with fail
    refine (HC'.out _ H.out).mono ?_
    rintro e w1 ⟨rfl, hr, hg⟩
    have HR1 := Lib.hid hr
    have HG := Lib.hid hg
    clear hr hg
    simp only at HR1
    go_wp2_with fail
    refine (packTake_ok br l' m _ HR1.out hml).mono ?_
    rintro e w2 ⟨v, rfl, ⟨a, cap, rfl, hb, h1, h2, h3, h4⟩, hr, hg⟩
    have HR2 := Lib.hid hr
    have HG2 := Lib.hid hg
    have kc := run_string_bytes w2 a cap _ hb
    have hlen : (l'.take m).length = m := by simp; omega
    rw [hlen] at kc ⊢
    clear hlen
    clear hb h1 h2 h3 h4 hr hg
    go_wp2
    go_ret
    exact ⟨rfl, HR2.out, grownBy_trans HG.out HG2.out⟩

def rdLeft (l : List UInt8) (sh : Bool) : Nat := if sh then 0 else l.length
theorem packLeft (br : Nat) (l : List UInt8) (sh : Bool) (w : World) (h : IsReader w br l sh) :
    Calls Try.prog 27 #[.pointer (some ⟨br, 0, none⟩)] w fun e w' => e = .returned (.int .i64 (rdLeft l sh : Int)) ∧ w = w' := by
  obtain ⟨a, cap, hg, hb, h1, h2, h3, h4, h5⟩ := h
  have hc0 := cell_of_row w br 0 _ _ _ hg
  have hc1 := cell_of_row w br 1 _ _ _ hg
  clear hg hb h3 h4 h5
  simp at hc0 hc1
  unfold maxLen at h2
  cases sh with
  | true =>
    go_enter Try.func27, Try.ntmps27
    go_wp2
    go_ret
    exact ⟨rfl, rfl⟩
  | false =>
    go_enter Try.func27, Try.ntmps27
    go_wp2
    go_ret
    exact ⟨rfl, rfl⟩
theorem packShort (br : Nat) (l : List UInt8) (sh : Bool) (w : World) (h : IsReader w br l sh) :
    Calls Try.prog 26 #[.pointer (some ⟨br, 0, none⟩)] w fun e w' => e = .returned (.bool sh) ∧ w = w' := by
  obtain ⟨a, cap, hg, hb, h1, h2, h3, h4, h5⟩ := h
  have hc1 := cell_of_row w br 1 _ _ _ hg
  clear hg hb h3 h4 h5
  simp at hc1
  go_enter Try.func26, Try.ntmps26
  go_wp2
  go_ret
  exact ⟨rfl, rfl⟩
end Go.Proofs.Ytlngefhjoobmdaa
namespace Go.Proofs.Ytlngefhjoobmdaa
open Go.RowKit

theorem grownBy_of_below {w w' : World} {r : Option Nat} (h : Below w.heap.size w w') : w.grownBy w' r := ⟨h.os, h.tape, h.output, h.size, fun k hk _ => h.block k hk⟩
/-- Block bm is the reference's reader over the bytes b, at a place; whether it is short. -/
def IsRef (w : World) (bm : Nat) (b : List UInt8) (at_ : Nat) (sh : Bool) : Prop :=
  ∃ a cap, w.heap[bm]? = some (.cells #[.slice a b.length cap, .int .i64 at_, .bool sh] 85 (0, 0)) ∧ IsBytes w a b ∧ b.length ≤ cap ∧ cap ≤ maxLen ∧ at_ ≤ b.length ∧ (∀ x off, a = some ⟨x, off, none⟩ → 0 < cap → x + 1 < bm) ∧ (a = none → cap = 0) ∧ ∀ x, a = some x → 0 < cap → x.spot = none ∧ x.block < w.heap.size

theorem IsRef.bel {w w' : World} {br : Nat} {l : List UInt8} {at_ : Nat} {sh : Bool} (h : IsRef w br l at_ sh) (hb : Below w.heap.size w w') : IsRef w' br l at_ sh := by
  obtain ⟨a, cap, hg, h0, h1, h2, h6, h3, h4, h5⟩ := h
  exact ⟨a, cap, by rw [hb.block br (Array.getElem?_eq_some_iff.1 hg).1]; exact hg, h0.bel hb, h1, h2, h6, h3, h4, fun x hx hc => ⟨(h5 x hx hc).1, Nat.lt_of_lt_of_le (h5 x hx hc).2 hb.size⟩⟩
/-- A field of it turns. -/
theorem IsRef.set {w : World} {bm : Nat} {b : List UInt8} {at_ : Nat} {sh : Bool} (h : IsRef w bm b at_ sh) (i : Nat) (u : Value) (at2 : Nat) (sh2 : Bool) (hat : at2 ≤ b.length)
    (hset : ∀ x : Value, (#[x, .int .i64 at_, .bool sh] : Array Value).setIfInBounds i u = #[x, .int .i64 at2, .bool sh2]) : IsRef (w.setCell ⟨bm, i, none⟩ u) bm b at2 sh2 := by
  obtain ⟨a, cap, hg, h0, h1, h2, h6, h3, h4, h5⟩ := h
  refine ⟨a, cap, by rw [heap_setCell_same w bm i _ _ _ hg, hset], h0.setCell _ _ (fun x off e hl => by have := h3 x off e (by omega); exact (show x ≠ bm by omega)), h1, h2, hat, h3, h4, fun x hx hc => by simpa [World.setCell] using h5 x hx hc⟩

def RefNumOk (bm : Nat) (b : List UInt8) (v : Nat) (at2 : Nat) (sh2 : Bool) (w : World) (e : Ending) (w' : World) : Prop := e = .returned (.int .u64 (v : Int)) ∧ IsRef w' bm b at2 sh2 ∧ w.grownBy w' (some bm)

set_option maxHeartbeats 1000000 in
theorem refNumber_zero (bm : Nat) (b : List UInt8) (at_ : Nat) (sh : Bool) (k : Int) (w : World) (h : IsRef w bm b at_ sh) (hk : k < 1 ∨ 8 < k ∨ sh = true) :
    Calls Try.prog 28 #[.pointer (some ⟨bm, 0, none⟩), .int .i64 k] w (RefNumOk bm b 0 at_ sh w) := by
  obtain ⟨a, cap, hg, _⟩ := id h
  have hc2 := cell_of_row w bm 2 _ _ _ hg
  have H := Lib.hid h
  clear hg h
  simp at hc2
  by_cases h1 : k < 1
  · go_enter Try.func28, Try.ntmps28
    go_wp2
    go_ret
    exact ⟨rfl, H.out, grownBy_refl _ _⟩
  by_cases h8 : 8 < k
  · go_enter Try.func28, Try.ntmps28
    go_wp2
    go_ret
    exact ⟨rfl, H.out, grownBy_refl _ _⟩
  · obtain rfl : sh = true := by rcases hk with h | h | h; omega; omega; exact h
    go_enter Try.func28, Try.ntmps28
    go_wp2
    go_ret
    exact ⟨rfl, H.out, grownBy_refl _ _⟩

set_option maxHeartbeats 1000000 in
theorem refNumber_short (bm : Nat) (b : List UInt8) (at_ : Nat) (k : Nat) (w : World) (h : IsRef w bm b at_ false) (hk1 : 1 ≤ k) (hk8 : k ≤ 8) (hs : b.length < at_ + k) (hbl : b.length ≤ 100000000000) :
    Calls Try.prog 28 #[.pointer (some ⟨bm, 0, none⟩), .int .i64 k] w (RefNumOk bm b 0 at_ true w) := by
  obtain ⟨a, cap, hg, _, _, _, hat, _⟩ := id h
  have hc0 := cell_of_row w bm 0 _ _ _ hg
  have hc1 := cell_of_row w bm 1 _ _ _ hg
  have hc2 := cell_of_row w bm 2 _ _ _ hg
  have hf := frozen_of_row w bm 2 _ _ hg
  have H := Lib.hid h
  clear hg h
  simp at hc0 hc1 hc2
  have hw : IntKind.i64.wrap ((at_ : Int) + (k : Int)) = (at_ : Int) + (k : Int) := by rw [IntKind.wrap_i64]; omega
  have d1 : decide ((b.length : Int) < (at_ : Int) + (k : Int)) = true := by simp; omega
  go_enter Try.func28, Try.ntmps28
  go_wp2
  go_quiet (fail)
  go_wp2
  go_ret
  have hd : Below w.heap.size w (w.drewN nq) := below_drewN (Below.refl _ _) nq
  exact ⟨rfl, (H.out.bel hd).set 2 _ at_ true hat (fun _ => rfl), grownBy_trans (grownBy_of_below hd) (grownBy_setCell _ _ _)⟩

set_option maxRecDepth 100000 in
set_option maxHeartbeats 2000000 in
theorem refNumber_ok (bm : Nat) (b : List UInt8) (at_ : Nat) (k : Nat) (w : World) (h : IsRef w bm b at_ false) (hk1 : 1 ≤ k) (hk8 : k ≤ 8) (hs : at_ + k ≤ b.length) (hbl : b.length ≤ 100000000000) :
    Calls Try.prog 28 #[.pointer (some ⟨bm, 0, none⟩), .int .i64 k] w (RefNumOk bm b (numL ((b.drop at_).take k)) (at_ + k) false w) := by
  obtain ⟨a, cap, hg, hb, _, hcm, hat, _⟩ := id h
  have hc0 := cell_of_row w bm 0 _ _ _ hg
  have hc1 := cell_of_row w bm 1 _ _ _ hg
  have hc2 := cell_of_row w bm 2 _ _ _ hg
  have hf := frozen_of_row w bm 1 _ _ hg
  have H := Lib.hid h
  have HB := Lib.hid hb
  clear hg h hb
  simp at hc0 hc1 hc2
  have hw : IntKind.i64.wrap ((at_ : Int) + (k : Int)) = (at_ : Int) + (k : Int) := by rw [IntKind.wrap_i64]; omega
  have d1 : decide ((b.length : Int) < (at_ : Int) + (k : Int)) = false := by simp; omega
  go_enter Try.func28, Try.ntmps28
  go_wp2
  go_quiet (fail)
  clear hw
  go_wp2
  generalize hlt : (b.drop at_).take k = t at *
  have htl : t.length = k := by rw [← hlt]; simp; omega
  have hti : ∀ i (hi : i < t.length), ∃ hi2 : at_ + i < b.length, t[i] = b[at_ + i] := by
    intro i hi
    subst hlt
    have hi' : i < k := by omega
    exact ⟨by omega, by simp⟩
  have HTL := Lib.hid htl
  have HTI := Lib.hid hti
  clear hlt htl hti
  go_loopw [5, 6] (fun x i wr => ∃ (j m nq : Nat), j ≤ k ∧ i = .int .i64 ((j : Int) - 1) ∧ x = .int .u64 m ∧ m < 18446744073709551616 ∧ Hid (m = numL (t.drop j)) ∧ wr = w.drewN nq) (fun _ i _ => (intOf i + 1).toNat)
  case atStart => exact ⟨k, 0, nq, Nat.le_refl _, rfl, rfl, by omega, by show 0 = _; rw [List.drop_of_length_le (by rw [HTL.out]; exact Nat.le_refl _)]; rfl, rfl⟩
  case round =>
    obtain ⟨j, m, nq2, hj, rfl, rfl, hm, HM, rfl⟩ := hrel
    cases j with
    | zero =>
      rw [show (((0 : Nat) : Int) - 1) = -1 from rfl]
      have hE : m = numL t := HM
      have HE := Lib.hid hE
      clear hE
      go_wp2
      go_ret
      have hd : Below w.heap.size w (w.drewN nq2) := below_drewN (Below.refl _ _) nq2
      exact ⟨by rw [HE.out]; rfl, (H.out.bel hd).set 1 _ (at_ + k) false hs (fun _ => by simp), grownBy_trans (grownBy_of_below hd) (grownBy_setCell _ _ _)⟩
    | succ j =>
      rw [show (((j + 1 : Nat) : Int) - 1) = (j : Int) by omega]
      have hjt : j < t.length := by rw [HTL.out]; omega
      obtain ⟨hjb, hte⟩ := HTI.out j hjt
      obtain ⟨x, off, rfl, _, hc⟩ := HB.out (at_ + j) hjb
      have hbt := (t[j]).toNat_lt
      have hnum : numL (t.drop j) = (t[j]).toNat + 256 * m := by rw [List.drop_eq_getElem_cons hjt]; simp only [numL]; rw [← HM.out]
      have hnlt : numL (t.drop j) < 18446744073709551616 := by
        have h1 := numL_lt (t.drop j)
        have h2 : (t.drop j).length ≤ 8 := by simp; have := HTL.out; omega
        have h3 := Nat.pow_le_pow_right (n := 256) (by omega) h2
        omega
      rw [← hte] at hc
      have HN := Lib.hid hnum
      clear hte
      generalize t[j] = y at *
      have hx1 : IntKind.u64.wrap (256 * (m : Int)) = 256 * (m : Int) := by rw [IntKind.wrap_u64]; omega
      have hx2 : IntKind.u64.wrap (256 * (m : Int) + (y.toNat : Int)) = 256 * (m : Int) + (y.toNat : Int) := by rw [IntKind.wrap_u64]; omega
      have hx3 : IntKind.i64.wrap ((at_ : Int) + (j : Int)) = (at_ : Int) + (j : Int) := by rw [IntKind.wrap_i64]; omega
      have hx4 : ((at_ : Int) + (j : Int)).toNat = at_ + j := by omega
      have hx5 : 0 ≤ (at_ : Int) + (j : Int) := by omega
      have hx6 : (at_ : Int) + (j : Int) < (b.length : Int) := by omega
      have hx7 : IntKind.u64.wrap (y.toNat : Int) = (y.toNat : Int) := by rw [IntKind.wrap_u64]; omega
      have HLT := Lib.hid hnlt
      clear hnum hnlt
      go_wp2
      go_quiet (fail)
      clear hx1 hx2 hx3 hx4 hx5 hx6 hx7
      go_wp2
      exact ⟨⟨j, y.toNat + 256 * m, _, by omega, rfl, by rw [show ((y.toNat + 256 * m : Nat) : Int) = 256 * (m : Int) + (y.toNat : Int) by omega], by have h1 := HLT.out; rw [HN.out] at h1; exact h1, HN.out.symm, rfl⟩, by simp [intOf]⟩

/-- What the reference's reader tells as a number, and where it is then. -/
def refNum (k : Int) (b : List UInt8) (at_ : Nat) (sh : Bool) : Nat × Nat × Bool :=
  if k < 1 ∨ 8 < k ∨ sh = true then (0, at_, sh) else if b.length < at_ + k.toNat then (0, at_, true) else (numL ((b.drop at_).take k.toNat), at_ + k.toNat, false)
theorem refNumber (bm : Nat) (b : List UInt8) (at_ : Nat) (sh : Bool) (k : Int) (w : World) (h : IsRef w bm b at_ sh) (hbl : b.length ≤ 100000000000) :
    Calls Try.prog 28 #[.pointer (some ⟨bm, 0, none⟩), .int .i64 k] w (RefNumOk bm b (refNum k b at_ sh).1 (refNum k b at_ sh).2.1 (refNum k b at_ sh).2.2 w) := by
  by_cases h1 : k < 1 ∨ 8 < k ∨ sh = true
  · have hz : refNum k b at_ sh = (0, at_, sh) := by unfold refNum; rw [if_pos h1]
    rw [hz]
    exact refNumber_zero bm b at_ sh k w h h1
  · obtain ⟨n, rfl⟩ := Int.eq_ofNat_of_zero_le (show 0 ≤ k by omega)
    have hsh : sh = false := by cases sh <;> simp_all
    subst hsh
    by_cases h2 : b.length < at_ + n
    · have hz : refNum n b at_ false = (0, at_, true) := by unfold refNum; rw [if_neg h1, Int.toNat_natCast, if_pos h2]
      rw [hz]
      exact refNumber_short bm b at_ n w h (by omega) (by omega) h2 hbl
    · have hz : refNum n b at_ false = (numL ((b.drop at_).take n), at_ + n, false) := by unfold refNum; rw [if_neg h1, Int.toNat_natCast, if_neg h2]
      rw [hz]
      exact refNumber_ok bm b at_ n w h (by omega) (by omega) (by omega) hbl
/-- The two readers tell the same. -/
theorem refNum_rdNum (k : Int) (b : List UInt8) (at_ : Nat) (sh : Bool) (hat : at_ ≤ b.length) :
    rdNum k (b.drop at_) sh = ((refNum k b at_ sh).1, b.drop (refNum k b at_ sh).2.1, (refNum k b at_ sh).2.2) ∧ (refNum k b at_ sh).2.1 ≤ b.length := by
  unfold rdNum refNum
  by_cases h1 : k < 1 ∨ 8 < k
  · rw [if_pos h1, if_pos (by rcases h1 with h | h; exact .inl h; exact .inr (.inl h))]
    exact ⟨rfl, hat⟩
  · rw [if_neg h1]
    by_cases hs : sh = true
    · rw [if_pos (.inl hs), if_pos (.inr (.inr hs)), hs]
      exact ⟨rfl, hat⟩
    · by_cases h2 : b.length < at_ + k.toNat
      · rw [if_pos (.inr (by rw [List.length_drop]; omega)), if_neg (fun h => by rcases h with h | h | h; exact h1 (.inl h); exact h1 (.inr h); exact hs h), if_pos h2]
        exact ⟨rfl, hat⟩
      · rw [if_neg (fun h => by rcases h with h | h; exact hs h; rw [List.length_drop] at h; omega), if_neg (fun h => by rcases h with h | h | h; exact h1 (.inl h); exact h1 (.inr h); exact hs h), if_neg h2]
        exact ⟨by simp [List.drop_drop], by simp; omega⟩

/-- What the reference's reader tells as a text, and where it is then. -/
def refTxt (b : List UInt8) (at_ : Nat) (sh : Bool) : List UInt8 × Nat × Bool :=
  let r := refNum 2 b at_ sh
  if r.2.2 = true then ([], r.2.1, true) else if b.length < r.2.1 + r.1 then ([], r.2.1, true) else ((b.drop r.2.1).take r.1, r.2.1 + r.1, false)
def RefTextOk (bm : Nat) (b : List UInt8) (v : List UInt8) (at2 : Nat) (sh2 : Bool) (w : World) (e : Ending) (w' : World) : Prop := e = .returned (.string ⟨v.toArray⟩) ∧ IsRef w' bm b at2 sh2 ∧ w.grownBy w' (some bm)
theorem refTxt_rdText (b : List UInt8) (at_ : Nat) (sh : Bool) (hat : at_ ≤ b.length) :
    rdText (b.drop at_) sh = ((refTxt b at_ sh).1, b.drop (refTxt b at_ sh).2.1, (refTxt b at_ sh).2.2) ∧ (refTxt b at_ sh).2.1 ≤ b.length := by
  obtain ⟨h1, h2⟩ := refNum_rdNum 2 b at_ sh hat
  unfold rdText refTxt
  rw [h1]
  generalize refNum 2 b at_ sh = r at *
  obtain ⟨m, at2, sh2⟩ := r
  simp only at h2 ⊢
  by_cases hs : sh2 = true
  · rw [if_pos (.inl hs), if_pos hs]
    exact ⟨rfl, h2⟩
  · rw [if_neg hs]
    by_cases h3 : b.length < at2 + m
    · rw [if_pos (.inr (by rw [List.length_drop]; omega)), if_pos h3]
      exact ⟨rfl, h2⟩
    · rw [if_neg (fun h => by rcases h with h | h; exact hs h; rw [List.length_drop] at h; omega), if_neg h3]
      exact ⟨by simp [List.drop_drop], by simp; omega⟩
theorem refNum2_lt (b : List UInt8) (at_ : Nat) (sh : Bool) : (refNum 2 b at_ sh).1 < 65536 := by
  unfold refNum
  split
  · simp
  · split
    · simp
    · have h1 := numL_lt ((b.drop at_).take (2 : Int).toNat)
      have h2 : ((b.drop at_).take (2 : Int).toNat).length ≤ 2 := by simp; omega
      have h3 := Nat.pow_le_pow_right (n := 256) (by omega) h2
      simp only
      omega

set_option maxRecDepth 100000 in
set_option maxHeartbeats 2000000 in
theorem refReadText (bm : Nat) (b : List UInt8) (at_ : Nat) (sh : Bool) (w : World) (h : IsRef w bm b at_ sh) (hbl : b.length ≤ 100000000000) :
    Calls Try.prog 53 #[.pointer (some ⟨bm, 0, none⟩)] w (RefTextOk bm b (refTxt b at_ sh).1 (refTxt b at_ sh).2.1 (refTxt b at_ sh).2.2 w) := by
  have hlt := refNum2_lt b at_ sh
  have HR : Hid (refTxt b at_ sh = (if (refNum 2 b at_ sh).2.2 = true then ([], (refNum 2 b at_ sh).2.1, true) else if b.length < (refNum 2 b at_ sh).2.1 + (refNum 2 b at_ sh).1 then ([], (refNum 2 b at_ sh).2.1, true) else ((b.drop (refNum 2 b at_ sh).2.1).take (refNum 2 b at_ sh).1, (refNum 2 b at_ sh).2.1 + (refNum 2 b at_ sh).1, false))) := rfl
  have HC := Lib.hid (fun w h => refNumber bm b at_ sh 2 w h hbl)
  have H := Lib.hid h
  clear h
  generalize refNum 2 b at_ sh = r at *
  obtain ⟨m, at2, sh2⟩ := r
  simp only at HR hlt HC
  by_cases hs : sh2 = true
  · have hz : refTxt b at_ sh = ([], at2, true) := by rw [HR.out, if_pos hs]
    rw [hz]
    subst hs
    clear hz HR
    go_enter Try.func53, Try.ntmps53
    go_wp2_with fail
    refine (HC.out _ H.out).mono ?_
    rintro e w1 ⟨rfl, hr, hg⟩
    obtain ⟨a, cap, hgr, _⟩ := id hr
    have hc2 := cell_of_row w1 bm 2 _ _ _ hgr
    simp at hc2
    have HR1 := Lib.hid hr
    have HG := Lib.hid hg
    clear hr hg hgr
    go_wp2
    go_ret
    exact ⟨rfl, HR1.out, HG.out⟩
  have hsf : sh2 = false := by cases sh2 <;> simp_all
  subst hsf
  by_cases h3 : b.length < at2 + m
  · have hz : refTxt b at_ sh = ([], at2, true) := by rw [HR.out, if_neg hs, if_pos h3]
    rw [hz]
    clear hz HR hs
    go_enter Try.func53, Try.ntmps53
    go_wp2_with fail
    refine (HC.out _ H.out).mono ?_
    rintro e w1 ⟨rfl, hr, hg⟩
    obtain ⟨a, cap, hgr, _, _, _, hat2, _⟩ := id hr
    have hc0 := cell_of_row w1 bm 0 _ _ _ hgr
    have hc1 := cell_of_row w1 bm 1 _ _ _ hgr
    have hc2 := cell_of_row w1 bm 2 _ _ _ hgr
    have hf := frozen_of_row w1 bm 2 _ _ hgr
    simp at hc0 hc1 hc2
    have HR1 := Lib.hid hr
    have HG := Lib.hid hg
    clear hr hg hgr
    have hw : IntKind.i64.wrap ((at2 : Int) + (m : Int)) = (at2 : Int) + (m : Int) := by rw [IntKind.wrap_i64]; omega
    have d1 : decide ((b.length : Int) < (at2 : Int) + (m : Int)) = true := by simp; omega
    go_wp2
    go_quiet (fail)
    clear hw
    go_wp2
    go_ret
    have hd : Below w1.heap.size w1 (w1.drewN nq) := below_drewN (Below.refl _ _) nq
    exact ⟨rfl, (HR1.out.bel hd).set 2 _ at2 true hat2 (fun _ => rfl), grownBy_trans HG.out (grownBy_trans (grownBy_of_below hd) (grownBy_setCell _ _ _))⟩
  · have hz : refTxt b at_ sh = ((b.drop at2).take m, at2 + m, false) := by rw [HR.out, if_neg hs, if_neg h3]
    rw [hz]
    clear hz HR hs
    go_enter Try.func53, Try.ntmps53
    go_wp2_with fail
    refine (HC.out _ H.out).mono ?_
    rintro e w1 ⟨rfl, hr, hg⟩
    obtain ⟨a, cap, hgr, hb, hbc, hcm, hat2, hne, hnn, hsp⟩ := id hr
    have hc0 := cell_of_row w1 bm 0 _ _ _ hgr
    have hc1 := cell_of_row w1 bm 1 _ _ _ hgr
    have hc2 := cell_of_row w1 bm 2 _ _ _ hgr
    have hf := frozen_of_row w1 bm 1 _ _ hgr
    simp at hc0 hc1 hc2
    have HR1 := Lib.hid hr
    have HG := Lib.hid hg
    clear hr hg hgr
    have hw : IntKind.i64.wrap ((at2 : Int) + (m : Int)) = (at2 : Int) + (m : Int) := by rw [IntKind.wrap_i64]; omega
    have d1 : decide ((b.length : Int) < (at2 : Int) + (m : Int)) = false := by simp; omega
    go_wp2
    go_quiet (fail)
    go_wp2
    have hd : Below w1.heap.size w1 (w1.drewN nq) := below_drewN (Below.refl _ _) nq
    have hr2 := (HR1.out.bel hd).set 1 (.int .i64 ((at2 + m : Nat) : Int)) (at2 + m) false (by omega) (fun _ => rfl)
    have hg2 := grownBy_trans HG.out (grownBy_trans (grownBy_of_below hd) (grownBy_setCell (w1.drewN nq) ⟨bm, 1, none⟩ (.int .i64 ((at2 + m : Nat) : Int))))
    rw [show ((at2 : Int) + (m : Int)) = ((at2 + m : Nat) : Int) by omega]
    clear hw
    have HR2 := Lib.hid hr2
    have HG2 := Lib.hid hg2
    clear hr2 hg2 hd hc0 hc1 hc2 hf hb hnn hsp hne hbc hcm
    generalize hW : (w1.drewN nq).setCell ⟨bm, 1, none⟩ (.int .i64 ((at2 + m : Nat) : Int)) = W2 at *
    have HW := Lib.hid hW
    clear hW
    obtain ⟨a2, cap2, hgr, hb, hbc, hcm, _, _, hnn, hsp⟩ := HR2.out
    have hc0 := cell_of_row W2 bm 0 _ _ _ hgr
    have hc1 := cell_of_row W2 bm 1 _ _ _ hgr
    clear hgr
    simp at hc0 hc1
    rw [show ((at2 : Int) + (m : Int)) = ((at2 + m : Nat) : Int) by omega] at hc1
    have hlen : ((b.drop at2).take m).length = m := by simp; omega
    unfold maxLen at hcm
    have hw : IntKind.i64.wrap (((at2 + m : Nat) : Int) - (m : Int)) = (at2 : Int) := by rw [IntKind.wrap_i64]; omega
    have HB : ∀ a3 : Option Addr, (∀ k, (h : k < m) → ∃ x off, a2 = some ⟨x, off, none⟩ ∧ a3 = some ⟨x, off + at2, none⟩) → ∀ q, IsBytes (W2.drewN q) a3 ((b.drop at2).take m) := by
      intro a3 h q
      refine IsBytes.bel (w := W2) ?_ (below_drewN (Below.refl _ _) q)
      intro k hk
      obtain ⟨x, off, e1, e2⟩ := h k (by rw [hlen] at hk; exact hk)
      obtain ⟨x', off', e3, hx, hc⟩ := hb (at2 + k) (by rw [hlen] at hk; omega)
      rw [e1] at e3
      simp only [Option.some.injEq, Addr.mk.injEq] at e3
      obtain ⟨rfl, rfl, _⟩ := e3
      refine ⟨x, off + at2, e2, hx, ?_⟩
      rw [Nat.add_assoc, hc]
      simp [List.getElem_take, List.getElem_drop]
    by_cases hnc : at2 = cap2
    · have hm0 : m = 0 := by omega
      have hv := fun q => run_string_bytes (W2.drewN q) a2 0 ((b.drop at2).take m) (HB a2 (fun k hk => by omega) q)
      rw [hlen] at hv
      subst hm0
      subst hnc
      clear HB hlen
      have hw0 : IntKind.i64.wrap (at2 : Int) = (at2 : Int) := by rw [IntKind.wrap_i64]; omega
      clear hw
      simp only [Nat.add_zero, List.take_zero] at *
      cases a2 with
      | none =>
        have := hnn rfl
        subst this
        clear d1 hat2 hlt h3 hbc hcm hnn hsp
        simp only [Int.natCast_zero] at *
        go_quiet (fail)
        have hd2 : Below W2.heap.size W2 (W2.drewN nq) := below_drewN (Below.refl _ _) nq
        go_wp2
        go_ret
        exact ⟨rfl, HR2.out.bel hd2, grownBy_trans HG2.out (grownBy_of_below hd2)⟩
      | some x =>
        clear hnn
        go_quiet (fail)
        have hd2 : Below W2.heap.size W2 (W2.drewN nq) := below_drewN (Below.refl _ _) nq
        go_wp2
        go_ret
        exact ⟨rfl, HR2.out.bel hd2, grownBy_trans HG2.out (grownBy_of_below hd2)⟩
    · cases a2 with
      | none => have := hnn rfl; omega
      | some x =>
        obtain ⟨x, off, sp⟩ := x
        have hsp' := (hsp _ rfl (by omega)).1
        simp at hsp'
        subst hsp'
        have hv := fun q => run_string_bytes (W2.drewN q) (some ⟨x, off + at2, none⟩) (cap2 - at2) ((b.drop at2).take m) (HB _ (fun k hk => ⟨x, off, rfl, rfl⟩) q)
        rw [hlen] at hv
        clear HB hlen
        have hw0 : IntKind.i64.wrap (at2 : Int) = (at2 : Int) := by rw [IntKind.wrap_i64]; omega
        clear hw
        go_quiet (fail)
        have hd2 : Below W2.heap.size W2 (W2.drewN nq) := below_drewN (Below.refl _ _) nq
        go_wp2
        go_ret
        exact ⟨rfl, HR2.out.bel hd2, grownBy_trans HG2.out (grownBy_of_below hd2)⟩

set_option maxRecDepth 100000 in
set_option maxHeartbeats 1000000 in
theorem refLeft (bm : Nat) (b : List UInt8) (at_ : Nat) (sh : Bool) (w : World) (h : IsRef w bm b at_ sh) (hbl : b.length ≤ 100000000000) :
    Calls Try.prog 34 #[.pointer (some ⟨bm, 0, none⟩)] w (fun e w' => e = .returned (.int .i64 (rdLeft (b.drop at_) sh : Nat)) ∧ ∃ q, w' = w.drewN q) := by
  obtain ⟨a, cap, hg, _, _, _, hat, _⟩ := id h
  have hc0 := cell_of_row w bm 0 _ _ _ hg
  have hc1 := cell_of_row w bm 1 _ _ _ hg
  have hc2 := cell_of_row w bm 2 _ _ _ hg
  clear hg h
  simp at hc0 hc1 hc2
  cases sh with
  | true =>
    go_enter Try.func34, Try.ntmps34
    go_wp2
    go_ret
    exact ⟨by simp [rdLeft], 0, rfl⟩
  | false =>
    have hw : IntKind.i64.wrap ((b.length : Int) - (at_ : Int)) = (b.length : Int) - (at_ : Int) := by rw [IntKind.wrap_i64]; omega
    go_enter Try.func34, Try.ntmps34
    go_wp2
    go_quiet (fail)
    clear hw
    go_wp2
    go_ret
    exact ⟨by simp [rdLeft]; omega, _, rfl⟩
end Go.Proofs.Ytlngefhjoobmdaa
namespace Go.Proofs.Ytlngefhjoobmdaa
open Go.RowKit Go.ChangeShapes Go.WideShapes
/-- Elements of sz cells each: element i lies at i * sz. -/
def IsRowOf {α : Type} (C : α → List Value) (W : α → Prop) (sz : Nat) (w : World) (a : Option Addr) (z : List α) : Prop :=
  ∀ i (h : i < z.length), ∃ b off, a = some ⟨b, off, none⟩ ∧ b < w.heap.size ∧ (∀ j, j < sz → w.cell? ⟨b, off + i * sz + j, none⟩ = (C z[i])[j]?) ∧ W z[i]
theorem IsRowOf.below {α : Type} {C : α → List Value} {W : α → Prop} {sz B : Nat} {w w' : World} {a : Option Addr} {z : List α} (h : IsRowOf C W sz w a z) (hb : Below B w w') (hB : w.heap.size ≤ B) : IsRowOf C W sz w' a z := by
  intro i hi
  obtain ⟨b, off, h1, h2, h3, h4⟩ := h i hi
  exact ⟨b, off, h1, Nat.lt_of_lt_of_le h2 hb.size, fun j hj => by rw [← h3 j hj]; exact hb.cell (p := ⟨b, off + i * sz + j, none⟩) (show b < B by omega), h4⟩
theorem IsRowOf.bel {α : Type} {C : α → List Value} {W : α → Prop} {sz : Nat} {w w' : World} {a : Option Addr} {z : List α} (h : IsRowOf C W sz w a z) (hb : Below w.heap.size w w') : IsRowOf C W sz w' a z := h.below hb (Nat.le_refl _)
section
variable {H : Type} {enc : TypeId × Value → H} {w : World} {base : Nat} {spare : Nat → Bool} {held : Bool}
theorem el_int {cs : List Value} {k : IntKind} {t : TypeId} {n o : Nat} {y : DataW H × List MemPlace} (ht : Try.prog.underlying t = some (.int k)) (h : DataW.trod enc Try.prog w base spare held n t ((cs.drop o).take 1) = some y) : ∃ x, cs[o]? = some (.int k x) ∧ (Lit.int k x).wf = true := by
  obtain ⟨x, h1, _, h2⟩ := DataW.trod_int ht h
  refine ⟨x, ?_, h2⟩
  have := congrArg (·[0]?) h1
  simp [List.getElem?_drop] at this
  exact this
theorem el_bool {cs : List Value} {t : TypeId} {n o : Nat} {y : DataW H × List MemPlace} (ht : Try.prog.underlying t = some .bool) (h : DataW.trod enc Try.prog w base spare held n t ((cs.drop o).take 1) = some y) : ∃ x, cs[o]? = some (.bool x) := by
  obtain ⟨x, h1, _⟩ := DataW.trod_bool ht h
  refine ⟨x, ?_⟩
  have := congrArg (·[0]?) h1
  simp [List.getElem?_drop] at this
  exact this
theorem el_str {cs : List Value} {t : TypeId} {n o : Nat} {y : DataW H × List MemPlace} (ht : Try.prog.underlying t = some .string) (h : DataW.trod enc Try.prog w base spare held n t ((cs.drop o).take 1) = some y) : ∃ x, cs[o]? = some (.string x) ∧ x.size ≤ maxLen := by
  obtain ⟨x, h1, _, h2⟩ := DataW.trod_string ht h
  refine ⟨x, ?_, h2⟩
  have := congrArg (·[0]?) h1
  simp [List.getElem?_drop] at this
  exact this
theorem add_none' (b off k : Nat) : (⟨b, off, none⟩ : Addr).add k = ⟨b, off + k, none⟩ := by unfold Addr.add; split <;> simp_all
theorem open_rowOf {α : Type} (q0 : α) (C : α → List Value) (W : α → Prop) (sz : Nat) (E T : TypeId) (hT : Try.prog.underlying T = some (.slice E)) (hsz : Try.prog.cellsOf E = sz) (hpos : 0 < sz) (hC : ∀ q, (C q).length = sz)
    (hel : ∀ (n : Nat) (cs : List Value) (y : DataW H × List MemPlace), DataW.trod enc Try.prog w base spare held n E cs = some y → ∃ q, (∀ j, j < sz → cs[j]? = (C q)[j]?) ∧ W q)
    {a : Option Addr} {len cap : Nat} {d : DataW H} {p : List MemPlace} (h : DataW.Trod enc Try.prog w base spare held T (.slice a len cap) d p) : ∃ z : List α, z.length = len ∧ IsRowOf C W sz w a z ∧ len ≤ maxLen := by
  obtain ⟨fuel, hf⟩ := h
  rcases DataW.trod_slice hT hf with ⟨hcs, _⟩ | ⟨x, l, c, elems, rest, n, _, hcs, _, hb, hl, hm, hlen, hel', _⟩
  · simp [Value.cells] at hcs
    obtain ⟨rfl, rfl, rfl⟩ := hcs
    exact ⟨[], rfl, fun i hi => by simp at hi, Nat.zero_le _⟩
  · simp [Value.cells] at hcs
    obtain ⟨rfl, rfl, rfl⟩ := hcs
    have hlm : len ≤ maxLen := by omega
    by_cases hz : len = 0
    · subst hz
      exact ⟨[], rfl, fun i hi => by simp at hi, Nat.zero_le _⟩
    obtain ⟨b, off, sp⟩ := x
    have hsp : sp = none := by
      have he := hel' 0 (by omega)
      rw [List.getElem?_eq_getElem (by omega), Option.bind_eq_some_iff, hsz] at he
      obtain ⟨cs, hcs, ht⟩ := he
      obtain ⟨_, _, hcell⟩ := World.cells?_some hcs
      obtain ⟨r, hr, _⟩ := hel _ _ _ ht
      have h1 := (hcell 0 hpos).trans (hr 0 hpos)
      rw [List.getElem?_eq_getElem (by rw [hC]; exact hpos)] at h1
      have h0 := World.cell?_spot h1
      simpa [Addr.add] using h0
    subst hsp
    have each' : ∀ i, ∃ r : α, i < len → ∃ b' off', some (⟨b, off, none⟩ : Addr) = some ⟨b', off', none⟩ ∧ b' < w.heap.size ∧ (∀ j, j < sz → w.cell? ⟨b', off' + i * sz + j, none⟩ = (C r)[j]?) ∧ W r := by
      intro i
      by_cases hi : i < len
      · have he := hel' i hi
        rw [List.getElem?_eq_getElem (by omega), Option.bind_eq_some_iff, hsz] at he
        obtain ⟨cs, hcs, ht⟩ := he
        obtain ⟨_, _, hcell⟩ := World.cells?_some hcs
        obtain ⟨r, hr, hwf⟩ := hel _ _ _ ht
        have hat : ∀ j, j < sz → w.cell? ⟨b, off + i * sz + j, none⟩ = (C r)[j]? := fun j hj => by
          have := (hcell j hj).trans (hr j hj)
          rw [add_none', add_none'] at this
          exact this
        have h1 := hat 0 hpos
        rw [List.getElem?_eq_getElem (by rw [hC]; exact hpos)] at h1
        exact ⟨r, fun _ => ⟨b, off, rfl, heap_lt_of_cell h1, hat, hwf⟩⟩
      · exact ⟨q0, fun h => absurd h hi⟩
    refine ⟨(List.range len).map fun i => Classical.choose (each' i), by simp, fun i hi => ?_, hlm⟩
    have hi' : i < len := by simpa using hi
    have := Classical.choose_spec (each' i) hi'
    simpa using this
end
end Go.Proofs.Ytlngefhjoobmdaa
namespace Go.Proofs.Ytlngefhjoobmdaa.Reg
open Go
abbrev Env := Nat → Value
def setE (e : Env) (k : Nat) (v : Value) : Env := fun j => if j = k then v else e j
def upd (L : Nat → Bool) (k : Nat) : Nat → Bool := fun j => j == k || L j
section
variable (P : Program) (ops : Array Oper) (R : World → World → Prop) (J : Env → (Nat → Bool) → World → Prop) (w0 : World)
/-- What is asked of an operation that is carried out: K of its value and of the world behind it. -/
def gives (o : Oper) (a : Act) (w : World) (K : Value → World → Prop) : Prop :=
  match (execOp a.eval o).run P w with
  | .ok (.value v) w' => K v w'
  | .ok .skip w' => K undef w'
  | .ok (.enter f args) w' => Calls P f args w' (fun e w'' => ∃ v, e = .returned v ∧ K v w'')
  | _ => False
/-- It yields v, the world as it was. -/
def still (o : Oper) (a : Act) (w : World) (v : Value) : Prop := gives P o a w (fun u w' => u = v ∧ w' = w) ∧ ∀ f args w', (execOp a.eval o).run P w ≠ .ok (.enter f args) w'
def isDep (o : Oper) (j : Nat) : Bool := o.after.any fun e => Region.binds .any e && e.on == j
/-- Number k waits for number j, by a chain of edges. -/
def depT (ops : Array Oper) : Nat → Nat → Nat → Bool
  | 0, _, _ => false
  | f + 1, k, j => match ops[k]? with
    | none => false
    | some o => o.after.any fun e => Region.binds .any e && (e.on == j || depT ops f e.on j)
/-- Number k may come up now: it has not; what it waits for has; what waits for it has not. -/
def Now (ops : Array Oper) (k : Nat) (L : Nat → Bool) : Prop := L k = false ∧ (∀ j, depT ops ops.size k j = true → L j = true) ∧ ∀ j, depT ops ops.size j k = true → L j = false
def factsAt (o : Oper) : List (Nat × (Env → World → Prop)) → Env → World → Prop
  | [], _, _ => True
  | (j, f) :: fs, e, w => (isDep o j = true → f e w) ∧ factsAt o fs e w
def factsAll : List (Nat × (Env → World → Prop)) → Env → World → Prop
  | [], _, _ => True
  | (_, f) :: fs, e, w => f e w ∧ factsAll fs e w
def OkStep (k : Nat) (o : Oper) (A : Env → Act) (F : Env → World → Prop) (val : Env → Value) (Φ : Value → World → Prop) : Prop :=
  (∀ v w w', Φ v w → R w w' → Φ v w') ∧
  (((∀ e, (Region.wanted o (yielded ops (A e).tmps) = true ∧ ∀ w, R w0 w → F e w → still P o (A e) w (val e)) ∨ (Region.wanted o (yielded ops (A e).tmps) = false ∧ val e = undef))
      ∧ (∀ v w, Φ v w) ∧ (∀ e L w, J e L w → J e (upd L k) w))
   ∨ (((∀ e, val e = e k) ∨ ∃ c, (∀ e, val e = c) ∧ ∀ v w, Φ v w → v = c)
      ∧ ∀ e w L, Now ops k L → R w0 w → J e L w → F e w → Region.wanted o (yielded ops (A e).tmps) = true ∧ gives P o (A e) w (fun v w' => R w w' ∧ J (setE e k v) (upd L k) w' ∧ Φ v w')))
/-- The walk, operation by operation. -/
def Steps (Q : Exit → Act → World → Prop) : List Oper → Nat → (Env → Act) → List (Nat × (Env → World → Prop)) → Prop
  | [], k, A, fs => ∀ e w, R w0 w → J e (fun j => decide (j < k)) w → factsAll fs e w → Q .normal (A e) w
  | o :: rest, k, A, fs => ∃ (val : Env → Value) (Φ : Value → World → Prop), OkStep P ops R J w0 k o A (factsAt o fs) val Φ ∧
      Steps Q rest (k + 1) (fun e => (A e).put o.dst (val e)) ((k, fun e w => Φ (val e) w) :: fs)
/-- Each operation waits for operations ahead of it alone; what it looks at is written by one for which it waits, or by one that waits for it; no slot is written twice. -/
def regB (ops : List Oper) : Bool :=
  Region.noSelect ops.toArray &&
  (List.range ops.length).all fun k => match ops[k]? with
    | none => true
    | some o =>
      (o.after.all fun e => !Region.binds .any e || decide (e.on < k)) &&
      (List.range ops.length).all fun j => j == k || match ops[j]? with
        | none => true
        | some oj => match oj.dst with
          | none => true
          | some d => o.dst != some d && (!(o.looksAt ops.toArray).contains d || (decide (j < k) && isDep o j) || (decide (k < j) && isDep oj k))
end
section
variable {P : Program} {R : World → World → Prop} {J : Env → (Nat → Bool) → World → Prop} {w0 : World} {Q : Exit → Act → World → Prop}
def actF (A : Env → Act) (l : List Oper) (vals : Nat → Env → Value) (k : Nat) : Nat → Env → Act
  | 0 => A
  | j + 1 => fun e => (actF A l vals k j e).put ((l[j]?).bind (·.dst)) (vals (k + j) e)
def factsF (fs : List (Nat × (Env → World → Prop))) (vals : Nat → Env → Value) (Φs : Nat → Value → World → Prop) (k : Nat) : Nat → List (Nat × (Env → World → Prop))
  | 0 => fs
  | j + 1 => (k + j, fun e w => Φs (k + j) (vals (k + j) e) w) :: factsF fs vals Φs k j
theorem actF_cons (A : Env → Act) (o : Oper) (l : List Oper) (vals vals' : Nat → Env → Value) (k : Nat) (h : ∀ i, k < i → vals i = vals' i) (j : Nat) :
    actF A (o :: l) vals k (j + 1) = actF (fun e => (A e).put o.dst (vals k e)) l vals' (k + 1) j := by
  induction j with
  | zero => funext e; simp [actF]
  | succ j ih =>
    funext e
    show (actF A (o :: l) vals k (j + 1) e).put _ _ = _
    rw [ih]
    simp only [actF, List.getElem?_cons_succ]
    rw [h (k + (j + 1)) (by omega), show k + 1 + j = k + (j + 1) by omega]
theorem factsF_cons (fs : List (Nat × (Env → World → Prop))) (vals vals' : Nat → Env → Value) (Φs Φs' : Nat → Value → World → Prop) (k : Nat) (h : ∀ i, k < i → vals i = vals' i) (h' : ∀ i, k < i → Φs i = Φs' i) (j : Nat) :
    factsF fs vals Φs k (j + 1) = factsF ((k, fun e w => Φs k (vals k e) w) :: fs) vals' Φs' (k + 1) j := by
  induction j with
  | zero => rfl
  | succ j ih =>
    show _ :: factsF fs vals Φs k (j + 1) = _
    rw [ih]
    simp only [factsF]
    rw [h (k + (j + 1)) (by omega), h' (k + (j + 1)) (by omega), show k + 1 + j = k + (j + 1) by omega]
theorem Steps.out (ops : Array Oper) : ∀ (l : List Oper) (k : Nat) (A : Env → Act) (fs : List (Nat × (Env → World → Prop))), Steps P ops R J w0 Q l k A fs →
    ∃ (vals : Nat → Env → Value) (Φs : Nat → Value → World → Prop), (∀ j o, l[j]? = some o → OkStep P ops R J w0 (k + j) o (actF A l vals k j) (factsAt o (factsF fs vals Φs k j)) (vals (k + j)) (Φs (k + j))) ∧
      ∀ e w, R w0 w → J e (fun j => decide (j < k + l.length)) w → factsAll (factsF fs vals Φs k l.length) e w → Q .normal (actF A l vals k l.length e) w
  | [], k, A, fs, h => ⟨fun _ _ => undef, fun _ _ _ => True, fun j o hj => by simp at hj, fun e w h1 h2 h3 => h e w h1 (by simpa using h2) h3⟩
  | o :: l, k, A, fs, ⟨val, Φ, h1, h2⟩ => by
    obtain ⟨vals', Φs', h3, h4⟩ := Steps.out ops l (k + 1) _ _ h2
    let vals : Nat → Env → Value := fun i => if i = k then val else vals' i
    let Φs : Nat → Value → World → Prop := fun i => if i = k then Φ else Φs' i
    have hv : ∀ i, k < i → vals i = vals' i := fun i hi => by show (if i = k then val else vals' i) = _; rw [if_neg (by omega)]
    have hp : ∀ i, k < i → Φs i = Φs' i := fun i hi => by show (if i = k then Φ else Φs' i) = _; rw [if_neg (by omega)]
    have hvk : vals k = val := by show (if k = k then val else vals' k) = _; rw [if_pos rfl]
    have hpk : Φs k = Φ := by show (if k = k then Φ else Φs' k) = _; rw [if_pos rfl]
    refine ⟨vals, Φs, ?_, ?_⟩
    · intro j oj hj
      cases j with
      | zero =>
        simp only [List.getElem?_cons_zero, Option.some.injEq] at hj
        subst hj
        simp only [Nat.add_zero, actF, factsF]
        rw [hvk, hpk]
        exact h1
      | succ j =>
        rw [List.getElem?_cons_succ] at hj
        have := h3 j oj hj
        rw [actF_cons A o l vals vals' k hv j, factsF_cons fs vals vals' Φs Φs' k hv hp j, hvk, hpk, show k + (j + 1) = k + 1 + j by omega, hv (k + 1 + j) (by omega), hp (k + 1 + j) (by omega)]
        exact this
    · intro e w ha hb hc
      rw [List.length_cons, actF_cons A o l vals vals' k hv l.length, hvk]
      rw [List.length_cons, factsF_cons fs vals vals' Φs Φs' k hv hp l.length, hvk, hpk] at hc
      refine h4 e w ha ?_ hc
      rw [List.length_cons] at hb
      rw [show k + 1 + l.length = k + (l.length + 1) by omega]
      exact hb

/-! ### Soundness -/
/-- The act when, of the first n operations, those of M have put their values. -/
def actL (a : Act) (l : List Oper) (vals : Nat → Env → Value) (M : Nat → Bool) (e : Env) : Nat → Act
  | 0 => a
  | j + 1 => if M j = true then (actL a l vals M e j).put ((l[j]?).bind (·.dst)) (vals j e) else actL a l vals M e j
theorem actF_actL (a : Act) (l : List Oper) (vals : Nat → Env → Value) (M : Nat → Bool) (e : Env) : ∀ k, (∀ j, j < k → M j = true) → actF (fun _ => a) l vals 0 k e = actL a l vals M e k
  | 0, _ => rfl
  | k + 1, h => by
    have ih := actF_actL a l vals M e k (fun j hj => h j (by omega))
    simp only [actF, actL]
    rw [if_pos (h k (by omega)), ih, Nat.zero_add]
theorem put_size (a : Act) (d : Option Tmp) (v : Value) : (a.put d v).tmps.size = a.tmps.size := by
  cases d <;> simp [Act.put]
theorem actL_size (a : Act) (l : List Oper) (vals : Nat → Env → Value) (M : Nat → Bool) (e : Env) : ∀ k, (actL a l vals M e k).tmps.size = a.tmps.size
  | 0 => rfl
  | k + 1 => by
    simp only [actL]
    split
    · rw [put_size, actL_size a l vals M e k]
    · exact actL_size a l vals M e k
theorem put_at_ne (a : Act) (d : Option Tmp) (v : Value) (t : Tmp) (h : d ≠ some t) : (a.put d v).tmps.getD t undef = a.tmps.getD t undef := by
  cases d with
  | none => rfl
  | some d =>
    have hne : d ≠ t := fun e => h (by rw [e])
    simp [Act.put, Array.getElem?_setIfInBounds_ne hne]
theorem put_at (a : Act) (v : Value) (t : Tmp) : (a.put (some t) v).tmps.getD t undef = if t < a.tmps.size then v else undef := by
  by_cases h : t < a.tmps.size
  · simp [Act.put, h]
  · simp [Act.put, h]
/-- A slot that none of M writes. -/
theorem actL_none (a : Act) (l : List Oper) (vals : Nat → Env → Value) (M : Nat → Bool) (e : Env) (t : Tmp) : ∀ k, (∀ j, j < k → M j = true → (l[j]?).bind (·.dst) ≠ some t) → (actL a l vals M e k).tmps.getD t undef = a.tmps.getD t undef
  | 0, _ => rfl
  | k + 1, h => by
    have ih := actL_none a l vals M e t k (fun j hj => h j (by omega))
    simp only [actL]
    split
    · rename_i hm
      rw [put_at_ne _ _ _ _ (h k (by omega) hm), ih]
    · exact ih
/-- A slot that one of M writes, and no other. -/
theorem actL_one (a : Act) (l : List Oper) (vals : Nat → Env → Value) (M : Nat → Bool) (e : Env) (t : Tmp) (i : Nat) (hi : (l[i]?).bind (·.dst) = some t) (hM : M i = true) : ∀ k, i < k →
    (∀ j, j ≠ i → (l[j]?).bind (·.dst) ≠ some t) → (actL a l vals M e k).tmps.getD t undef = if t < a.tmps.size then vals i e else undef
  | 0, h, _ => by omega
  | k + 1, h, hn => by
    simp only [actL]
    by_cases hk : i = k
    · subst hk
      rw [if_pos hM, hi, put_at, actL_size]
    · have ih := actL_one a l vals M e t i hi hM k (by omega) hn
      split
      · rw [put_at_ne _ _ _ _ (hn k (by omega)), ih]
      · exact ih
/-- One more. -/
theorem actL_more (a : Act) (l : List Oper) (vals : Nat → Env → Value) (M : Nat → Bool) (e : Env) (i : Nat) (hM : M i = false) (hd : ∀ j, j ≠ i → ∀ t, (l[i]?).bind (·.dst) = some t → (l[j]?).bind (·.dst) ≠ some t) :
    ∀ k, (k ≤ i → actL a l vals (upd M i) e k = actL a l vals M e k) ∧ (i < k → actL a l vals (upd M i) e k = (actL a l vals M e k).put ((l[i]?).bind (·.dst)) (vals i e))
  | 0 => ⟨fun _ => rfl, fun h => by omega⟩
  | k + 1 => by
    obtain ⟨h1, h2⟩ := actL_more a l vals M e i hM hd k
    constructor
    · intro h
      have hu : upd M i k = M k := by simp [upd]; omega
      simp only [actL]
      rw [hu, h1 (by omega)]
    · intro h
      by_cases hk : k = i
      · subst hk
        simp only [actL]
        rw [if_pos (by simp [upd]), if_neg (by simp [hM]), h1 (Nat.le_refl _)]
      · have hu : upd M i k = M k := by simp [upd]; omega
        simp only [actL]
        rw [hu, h2 (by omega)]
        split
        · rw [Act.put_comm]
          intro d hd1 hd2
          exact hd k hk d hd1 hd2
        · rfl
theorem yielded_congr (ops : Array Oper) (t1 t2 : Array Value) (g : Nat) (hs : t1.size = t2.size) (h : ∀ t, (ops[g]?).bind (·.dst) = some t → t1.getD t undef = t2.getD t undef) : yielded ops t1 g = yielded ops t2 g := by
  unfold yielded
  cases ht : (ops[g]?).bind (·.dst) with
  | none => rfl
  | some t =>
    have h1 := h t ht
    simp only [Option.bind_some]
    by_cases hlt : t < t1.size
    · have h2 : t < t2.size := hs ▸ hlt
      rw [Array.getElem?_eq_getElem hlt, Array.getElem?_eq_getElem h2]
      simp [hlt, h2] at h1
      rw [h1]
    · have h2 : ¬ t < t2.size := hs ▸ hlt
      rw [Array.getElem?_eq_none (Nat.le_of_not_lt hlt), Array.getElem?_eq_none (Nat.le_of_not_lt h2)]
theorem gives_mono {o : Oper} {a : Act} {w : World} {K K' : Value → World → Prop} (h : ∀ v w', K v w' → K' v w') (hg : gives P o a w K) : gives P o a w K' := by
  unfold gives at *
  generalize (execOp a.eval o).run P w = r at *
  cases r with
  | ok n w' =>
    cases n
    case value v => exact h _ _ hg
    case skip => exact h _ _ hg
    case enter f args => exact Calls.mono hg fun e w'' ⟨v, he, hk⟩ => ⟨v, he, h _ _ hk⟩
    all_goals exact hg.elim
  | halt x w' => exact hg.elim
theorem wp_of_gives {o : Oper} {a : Act} {w : World} {K : Value → World → Prop} {K' : Act → World → Prop} (h : ∀ v w', K v w' → K' (a.put o.dst v) w') (hg : gives P o a w K) : o.wp P a w K' Q := by
  unfold gives at hg
  unfold Oper.wp
  generalize (execOp a.eval o).run P w = r at *
  cases r with
  | ok n w' =>
    cases n
    case value v => exact h _ _ hg
    case skip => exact h _ _ hg
    case enter f args =>
      simp only [Oper.upon]
      exact Calls.mono hg fun e w'' ⟨v, he, hk⟩ => by subst he; exact h _ _ hk
    all_goals exact hg.elim
  | halt x w' => exact hg.elim
theorem gives_det {o : Oper} {a : Act} {w : World} {v : Value} {K : Value → World → Prop} (hs : still P o a w v) (hg : gives P o a w K) : K v w := by
  obtain ⟨h1, h2⟩ := hs
  unfold gives at hg h1
  generalize (execOp a.eval o).run P w = r at *
  cases r with
  | ok n w' =>
    cases n
    case value u => obtain ⟨rfl, rfl⟩ := h1; exact hg
    case skip => obtain ⟨rfl, rfl⟩ := h1; exact hg
    case enter f args => exact absurd rfl (h2 f args w')
    all_goals exact hg.elim
  | halt x w' => exact hg.elim
theorem gives_congr {o : Oper} {a a' : Act} {w : World} {K : Value → World → Prop} (h : execOp a.eval o = execOp a'.eval o) (hg : gives P o a w K) : gives P o a' w K := by
  unfold gives at *
  rwa [← h]
theorem still_congr {o : Oper} {a a' : Act} {w : World} {v : Value} (h : execOp a.eval o = execOp a'.eval o) (hg : still P o a w v) : still P o a' w v := by
  unfold still gives at *
  rwa [← h]
theorem regB_spec {l : List Oper} (h : regB l = true) : Region.noSelect l.toArray = true ∧ ∀ k o, l[k]? = some o →
    (∀ e ∈ o.after, Region.binds .any e = true → e.on < k) ∧ ∀ j oj d, j ≠ k → l[j]? = some oj → oj.dst = some d →
      o.dst ≠ some d ∧ (d ∈ o.looksAt l.toArray → (j < k ∧ isDep o j = true) ∨ (k < j ∧ isDep oj k = true)) := by
  unfold regB at h
  simp only [Bool.and_eq_true] at h
  refine ⟨h.1, fun k o hk => ?_⟩
  have hlt : k < l.length := (List.getElem?_eq_some_iff.1 hk).1
  have h1 := List.all_eq_true.1 h.2 k (List.mem_range.2 hlt)
  simp only [hk, Bool.and_eq_true] at h1
  refine ⟨fun e he hb => ?_, fun j oj d hjk hj hd => ?_⟩
  · have := Array.all_eq_true_iff_forall_mem.1 h1.1 e he
    simpa [hb] using this
  · have hlj : j < l.length := (List.getElem?_eq_some_iff.1 hj).1
    have h2 := List.all_eq_true.1 h1.2 j (List.mem_range.2 hlj)
    have hjk' : (j == k) = false := by simpa using hjk
    simp only [hj, hd, hjk', Bool.false_or, Bool.and_eq_true, bne_iff_ne, ne_eq, Bool.or_eq_true, Bool.not_eq_true', List.contains_eq_mem, decide_eq_false_iff_not, decide_eq_true_eq] at h2
    refine ⟨h2.1, fun hm => ?_⟩
    rcases h2.2 with (h3 | h3) | h3
    · exact absurd hm h3
    · exact .inl h3
    · exact .inr h3
theorem isDep_listed {o : Oper} {j : Nat} {L : Nat → Bool} (h : isDep o j = true) (hall : ∀ e ∈ o.after, Region.binds .any e = true → L e.on = true) : L j = true := by
  unfold isDep at h
  obtain ⟨e, he, h1⟩ := Array.any_eq_true'.1 h
  simp only [Bool.and_eq_true, beq_iff_eq] at h1
  rw [← h1.2]
  exact hall e he h1.1

def toL (listed : Array Bool) : Nat → Bool := fun j => listed.getD j false
theorem toL_set (listed : Array Bool) (k : Nat) (hk : k < listed.size) : toL (listed.setIfInBounds k true) = upd (toL listed) k := by
  funext j
  unfold toL upd
  by_cases h : j = k
  · subst h; simp [hk]
  · have hb : (j == k) = false := by simpa using h
    rw [hb, Bool.false_or, getD_set_ne false (fun e => h e.symm)]
/-- how many have not come up -/
def unl (n : Nat) (L : Nat → Bool) : Nat := ((List.range n).filter fun j => !L j).length
theorem unl_upd (n : Nat) (L : Nat → Bool) (k : Nat) (hk : k < n) (h : L k = false) : unl n (upd L k) < unl n L := by
  induction n with
  | zero => omega
  | succ n ih =>
    unfold unl at *
    rw [List.range_succ, List.filter_append, List.filter_append, List.length_append, List.length_append]
    by_cases hkn : k = n
    · subst hkn
      have h1 : ((List.range k).filter fun j => !upd L k j).length = ((List.range k).filter fun j => !L j).length := by
        congr 1
        apply List.filter_congr
        intro x hx
        have := List.mem_range.1 hx
        have hb : (x == k) = false := by simp; omega
        simp [upd, hb]
      rw [h1]
      simp [upd, h]
    · have h2 := ih (by omega)
      have hb : (n == k) = false := by simp; omega
      have h3 : upd L k n = L n := by simp [upd, hb]
      simp only [List.filter_cons, List.filter_nil, h3]
      omega
theorem factsAt_F {o : Oper} {vals : Nat → Env → Value} {Φs : Nat → Value → World → Prop} {e : Env} {w : World} : ∀ k, (∀ j, j < k → isDep o j = true → Φs j (vals j e) w) → factsAt o (factsF [] vals Φs 0 k) e w
  | 0, _ => trivial
  | k + 1, h => by
    simp only [factsF, factsAt, Nat.zero_add]
    exact ⟨fun hd => h k (by omega) hd, factsAt_F k (fun j hj => h j (by omega))⟩
theorem factsAll_F {vals : Nat → Env → Value} {Φs : Nat → Value → World → Prop} {e : Env} {w : World} : ∀ k, (∀ j, j < k → Φs j (vals j e) w) → factsAll (factsF [] vals Φs 0 k) e w
  | 0, _ => trivial
  | k + 1, h => by
    simp only [factsF, factsAll, Nat.zero_add]
    exact ⟨h k (by omega), factsAll_F k (fun j hj => h j (by omega))⟩
theorem unl_zero (n : Nat) (L : Nat → Bool) (h : unl n L = 0) (j : Nat) (hj : j < n) : L j = true := by
  unfold unl at h
  have h1 := List.length_eq_zero_iff.1 h
  cases hL : L j with
  | true => rfl
  | false =>
    have : j ∈ (List.range n).filter fun j => !L j := List.mem_filter.2 ⟨List.mem_range.2 hj, by simp [hL]⟩
    rw [h1] at this; cases this
theorem depT_listed {l : List Oper} {L : Nat → Bool} (hcl : ∀ j o, l[j]? = some o → L j = true → ∀ e ∈ o.after, Region.binds .any e = true → L e.on = true) :
    ∀ (f k j : Nat) (o : Oper), l[k]? = some o → (∀ e ∈ o.after, Region.binds .any e = true → L e.on = true) → depT l.toArray f k j = true → L j = true
  | 0, _, _, _, _, _, h => by simp [depT] at h
  | f + 1, k, j, o, ho, hall, h => by
    unfold depT at h
    have ho' : l.toArray[k]? = some o := by simpa using ho
    rw [ho'] at h
    obtain ⟨e, he, h1⟩ := Array.any_eq_true'.1 h
    simp only [Bool.and_eq_true, Bool.or_eq_true, beq_iff_eq] at h1
    have hle := hall e he h1.1
    rcases h1.2 with h2 | h2
    · rw [← h2]; exact hle
    · cases hoe : l[e.on]? with
      | none =>
        cases f with
        | zero => simp [depT] at h2
        | succ f => unfold depT at h2; have : l.toArray[e.on]? = none := by simpa using hoe
                    rw [this] at h2; cases h2
      | some oe => exact depT_listed hcl f e.on j oe hoe (fun e' he' hb' => hcl e.on oe hoe hle e' he' hb') h2
theorem depT_unlisted {l : List Oper} {L : Nat → Bool} (hcl : ∀ j o, l[j]? = some o → L j = true → ∀ e ∈ o.after, Region.binds .any e = true → L e.on = true) {f j k : Nat} (hd : depT l.toArray f j k = true) (hk : L k = false) : L j = false := by
  cases hj : L j with
  | false => rfl
  | true =>
    cases hoj : l[j]? with
    | none =>
      cases f with
      | zero => simp [depT] at hd
      | succ f => unfold depT at hd; have : l.toArray[j]? = none := by simpa using hoj
                  rw [this] at hd; cases hd
    | some oj =>
      have := depT_listed hcl f j k oj hoj (fun e he hb => hcl j oj hoj hj e he hb) hd
      rw [hk] at this; cases this
theorem region_run {l : List Oper} {a : Act} {vals : Nat → Env → Value} {Φs : Nat → Value → World → Prop} (hB : regB l = true) (hRt : ∀ a b c, R a b → R b c → R a c)
    (h3 : ∀ j o, l[j]? = some o → OkStep P l.toArray R J w0 j o (actF (fun _ => a) l vals 0 j) (factsAt o (factsF [] vals Φs 0 j)) (vals j) (Φs j))
    (h4 : ∀ e w, R w0 w → J e (fun j => decide (j < l.length)) w → (∀ j, j < l.length → Φs j (vals j e) w) → Q .normal (actL a l vals (fun j => decide (j < l.length)) e l.length) w) :
    ∀ (fuel : Nat) (listed : Array Bool) (w : World) (σ : Env), unl l.length (toL listed) ≤ fuel → listed.size = l.length →
      (∀ j o, l[j]? = some o → toL listed j = true → ∀ e ∈ o.after, Region.binds .any e = true → toL listed e.on = true) →
      (∀ e : Env, (∀ j, toL listed j = true → e j = σ j) → (∀ j, toL listed j = true → Φs j (vals j e) w) ∧ actL a l vals (toL listed) e l.length = actL a l vals (toL listed) σ l.length) →
      R w0 w → J σ (toL listed) w → wpAny P .any l.toArray Q fuel listed (actL a l vals (toL listed) σ l.length) w := by
  obtain ⟨hns, hsp⟩ := regB_spec hB
  -- what is looked at is, at run time, what the text's walk has
  have look : ∀ (listed : Array Bool) (k : Nat) (o : Oper) (e : Env), l[k]? = some o → toL listed k = false →
      (∀ j o, l[j]? = some o → toL listed j = true → ∀ e ∈ o.after, Region.binds .any e = true → toL listed e.on = true) →
      (∀ e ∈ o.after, Region.binds .any e = true → toL listed e.on = true) → ∀ t ∈ o.looksAt l.toArray,
      (actL a l vals (toL listed) e l.length).tmps.getD t undef = (actF (fun _ => a) l vals 0 k e).tmps.getD t undef := by
    intro listed k o e hk hun hcl hall t ht
    have hkl : k < l.length := (List.getElem?_eq_some_iff.1 hk).1
    rw [actF_actL a l vals (fun _ => true) e k (fun _ _ => rfl)]
    by_cases hw : ∃ j oj, j ≠ k ∧ l[j]? = some oj ∧ oj.dst = some t
    · obtain ⟨j, oj, hjk, hj, hd⟩ := hw
      have hjl : j < l.length := (List.getElem?_eq_some_iff.1 hj).1
      have hbj : (l[j]?).bind (·.dst) = some t := by rw [hj]; exact hd
      have huniq : ∀ i, i ≠ j → (l[i]?).bind (·.dst) ≠ some t := by
        intro i hij hit
        cases hi : l[i]? with
        | none => rw [hi] at hit; cases hit
        | some oi =>
          rw [hi] at hit
          exact ((hsp j oj hj).2 i oi t hij hi hit).1 hd
      rcases ((hsp k o hk).2 j oj t hjk hj hd).2 ht with ⟨hlt, hdep⟩ | ⟨hlt, hdep⟩
      · have hlj := isDep_listed (L := toL listed) hdep hall
        rw [actL_one a l vals (toL listed) e t j hbj hlj l.length hjl huniq, actL_one a l vals (fun _ => true) e t j hbj rfl k hlt huniq]
      · have hlj : toL listed j = false := by
          cases hlj : toL listed j with
          | false => rfl
          | true =>
            have := isDep_listed (L := toL listed) hdep (fun e he hb => hcl j oj hj hlj e he hb)
            rw [hun] at this; cases this
        rw [actL_none, actL_none]
        · intro i hi _ hit
          by_cases hij : i = j
          · omega
          · exact huniq i hij hit
        · intro i _ hil hit
          by_cases hij : i = j
          · subst hij; rw [hlj] at hil; cases hil
          · exact huniq i hij hit
    · rw [actL_none, actL_none]
      · intro i hi _ hit
        apply hw
        cases hoi : l[i]? with
        | none => rw [hoi] at hit; cases hit
        | some oi => rw [hoi] at hit; exact ⟨i, oi, by omega, hoi, hit⟩
      · intro i _ hil hit
        apply hw
        cases hoi : l[i]? with
        | none => rw [hoi] at hit; cases hit
        | some oi =>
          rw [hoi] at hit
          exact ⟨i, oi, fun e => (by rw [e, hun] at hil; cases hil), hoi, hit⟩
  -- where none may come up all have
  have alldone : ∀ (listed : Array Bool), listed.size = l.length → Region.ready .any l.toArray listed = [] → toL listed = fun j => decide (j < l.length) := by
    intro listed hsz hr
    have key : ∀ n j, j < n → j < l.length → toL listed j = true := by
      intro n
      induction n with
      | zero => intro j hj; omega
      | succ n ih =>
        intro j hj hjl
        cases hL : toL listed j with
        | true => rfl
        | false =>
          have hmem : j ∈ Region.ready .any l.toArray listed := by
            refine mem_ready.2 ⟨?_, l[j], by simp [hjl], fun e he hb => ?_⟩
            · have hjs : j < listed.size := by rw [hsz]; exact hjl
              unfold toL at hL
              simp [hjs] at hL ⊢
              exact hL
            · have := (hsp j l[j] (by simp [hjl])).1 e he hb
              exact ih e.on (by omega) (by omega)
          rw [hr] at hmem; cases hmem
    funext j
    by_cases hj : j < l.length
    · rw [key (j + 1) j (by omega) hj]; simp [hj]
    · have : ¬ j < listed.size := by rw [hsz]; exact hj
      unfold toL
      simp [hj, this]
  have finish : ∀ (listed : Array Bool) (w : World) (σ : Env), listed.size = l.length → Region.ready .any l.toArray listed = [] →
      (∀ e : Env, (∀ j, toL listed j = true → e j = σ j) → (∀ j, toL listed j = true → Φs j (vals j e) w) ∧ actL a l vals (toL listed) e l.length = actL a l vals (toL listed) σ l.length) →
      R w0 w → J σ (toL listed) w → Q .normal (actL a l vals (toL listed) σ l.length) w := by
    intro listed w σ hsz hr hc hR hJ
    have hall := alldone listed hsz hr
    have h1 := (hc σ (fun _ _ => rfl)).1
    rw [hall] at h1 hJ ⊢
    exact h4 σ w hR hJ (fun j hj => h1 j (by simpa using hj))
  intro fuel
  induction fuel with
  | zero =>
    intro listed w σ hu hsz hcl hc hR hJ
    have hr : Region.ready .any l.toArray listed = [] := by
      rw [List.eq_nil_iff_forall_not_mem]
      intro j hj
      obtain ⟨h1, o, ho, _⟩ := mem_ready.1 hj
      have hjl : j < l.length := by have := (Array.getElem?_eq_some_iff.1 ho).1; simpa using this
      have h2 := unl_zero l.length (toL listed) (by omega) j hjl
      unfold toL at h2
      have hjs : j < listed.size := by rw [hsz]; exact hjl
      simp [hjs] at h1 h2
      rw [h1] at h2; cases h2
    exact ⟨hr, finish listed w σ hsz hr hc hR hJ⟩
  | succ fuel ih =>
    intro listed w σ hu hsz hcl hc hR hJ
    refine ⟨fun hr => finish listed w σ hsz hr hc hR hJ, fun i hi => ?_⟩
    obtain ⟨h1, o, ho', hall⟩ := mem_ready.1 hi
    have ho : l[i]? = some o := by simpa using ho'
    have hil : i < l.length := (List.getElem?_eq_some_iff.1 ho).1
    have his : i < listed.size := by rw [hsz]; exact hil
    have hun : toL listed i = false := by unfold toL; simp [his] at h1 ⊢; exact h1
    have hallL : ∀ e ∈ o.after, Region.binds .any e = true → toL listed e.on = true := hall
    have hset := toL_set listed i his
    have hdst : ∀ j, j ≠ i → ∀ t, (l[i]?).bind (·.dst) = some t → (l[j]?).bind (·.dst) ≠ some t := by
      intro j hji t hit hjt
      rw [ho] at hit
      cases hj : l[j]? with
      | none => rw [hj] at hjt; cases hjt
      | some oj => rw [hj] at hjt; exact ((hsp i o ho).2 j oj t hji hj hjt).1 hit
    have more := fun e => (actL_more a l vals (toL listed) e i hun hdst l.length).2 hil
    have hbi : (l[i]?).bind (·.dst) = o.dst := by rw [ho]; rfl
    have hu' : unl l.length (toL (listed.setIfInBounds i true)) ≤ fuel := by
      rw [hset]; have := unl_upd l.length (toL listed) i hil hun; omega
    have hsz' : (listed.setIfInBounds i true).size = l.length := by simpa using hsz
    have hcl' : ∀ j oj, l[j]? = some oj → toL (listed.setIfInBounds i true) j = true → ∀ e ∈ oj.after, Region.binds .any e = true → toL (listed.setIfInBounds i true) e.on = true := by
      rw [hset]
      intro j oj hj hlj e he hb
      unfold upd at hlj ⊢
      by_cases hji : j = i
      · subst hji
        have : oj = o := Option.some.inj (hj.symm.trans ho)
        subst this
        rw [hallL e he hb]; simp
      · have hb2 : (j == i) = false := by simpa using hji
        rw [hb2, Bool.false_or] at hlj
        rw [hcl j oj hj hlj e he hb]; simp
    -- at run time as in the text's walk, for every e that fits
    have hev : ∀ e : Env, (∀ j, toL listed j = true → e j = σ j) → execOp (actF (fun _ => a) l vals 0 i e).eval o = execOp (actL a l vals (toL listed) σ l.length).eval o ∧
        Region.wanted o (yielded l.toArray (actF (fun _ => a) l vals 0 i e).tmps) = Region.wanted o (yielded l.toArray (actL a l vals (toL listed) σ l.length).tmps) := by
      intro e he
      have hl := look listed i o e ho hun hcl hallL
      rw [(hc e he).2] at hl
      refine ⟨execOp_congr o (fun cs b => Region.noSelect_spec hns i o cs b (by simpa using ho)) fun x hx => ?_, ?_⟩
      · cases x with
        | tmp t => exact (hl t (List.mem_append_left _ (List.mem_filterMap.2 ⟨.tmp t, by simpa using hx, rfl⟩))).symm
        | _ => rfl
      · unfold Region.wanted
        cases hg : o.guard with
        | none => rfl
        | some gw =>
          obtain ⟨g, want⟩ := gw
          simp only []
          rw [yielded_congr l.toArray _ (actL a l vals (toL listed) σ l.length).tmps g]
          · rw [actL_size, actF_actL a l vals (fun _ => true) e i (fun _ _ => rfl), actL_size]
          · intro t ht
            exact (hl t (List.mem_append_right _ (by simp only [hg]; rw [ht]; simp))).symm
    have hfacts : ∀ e : Env, (∀ j, toL listed j = true → e j = σ j) → factsAt o (factsF [] vals Φs 0 i) e w := fun e he =>
      factsAt_F i fun j _ hd => (hc e he).1 j (isDep_listed (L := toL listed) hd hallL)
    obtain ⟨hst, hq | hf⟩ := h3 i o ho
    · -- quiet
      obtain ⟨hq, hΦ, hJq⟩ := hq
      have hval : ∀ e : Env, (∀ j, toL listed j = true → e j = σ j) → vals i e = vals i σ := by
        intro e he
        obtain ⟨e1, e2⟩ := hev e he
        obtain ⟨s1, s2⟩ := hev σ (fun _ _ => rfl)
        rcases hq e with ⟨hw, hs⟩ | ⟨hw, hv⟩
        · rcases hq σ with ⟨hw', hs'⟩ | ⟨hw', hv'⟩
          · have g1 := still_congr e1 (hs w hR (hfacts e he))
            have g2 := still_congr s1 (hs' w hR (hfacts σ (fun _ _ => rfl)))
            exact ((gives_det g1 g2.1).1)
          · rw [e2, ← s2, hw'] at hw; cases hw
        · rcases hq σ with ⟨hw', hs'⟩ | ⟨hw', hv'⟩
          · rw [e2, ← s2, hw'] at hw; cases hw
          · rw [hv, hv']
      have next : wpAny P .any l.toArray Q fuel (listed.setIfInBounds i true) ((actL a l vals (toL listed) σ l.length).put o.dst (vals i σ)) w := by
        have := ih (listed.setIfInBounds i true) w σ hu' hsz' hcl' ?_ hR (by rw [hset]; exact hJq _ _ _ hJ)
        · rw [hset, more σ, hbi] at this; exact this
        · intro e he
          have he' : ∀ j, toL listed j = true → e j = σ j := fun j hj => he j (by rw [hset]; simp [upd, hj])
          refine ⟨fun j hj => ?_, ?_⟩
          · by_cases hji : j = i
            · subst hji; exact hΦ _ _
            · rw [hset] at hj
              have hb2 : (j == i) = false := by simpa using hji
              simp only [upd, hb2, Bool.false_or] at hj
              exact (hc e he').1 j hj
          · rw [hset, more e, more σ, hval e he', (hc e he').2]
      unfold wpOp
      rw [ho']
      simp only []
      obtain ⟨s1, s2⟩ := hev σ (fun _ _ => rfl)
      rcases hq σ with ⟨hw, hs⟩ | ⟨hw, hv⟩
      · rw [← s2, if_pos hw]
        refine .inl (wp_of_gives ?_ (still_congr s1 (hs w hR (hfacts σ (fun _ _ => rfl)))).1)
        rintro v w' ⟨rfl, rfl⟩
        exact next
      · rw [← s2, if_neg (by rw [hw]; exact Bool.false_ne_true), ← hv]
        exact next
    · obtain ⟨hk, hg⟩ := hf
      obtain ⟨hw, hg⟩ := hg σ w (toL listed) ⟨hun, fun j hd => depT_listed hcl _ i j o ho hallL hd, fun j hd => depT_unlisted hcl hd hun⟩ hR hJ (hfacts σ (fun _ _ => rfl))
      obtain ⟨s1, s2⟩ := hev σ (fun _ _ => rfl)
      unfold wpOp
      rw [ho']
      simp only []
      rw [← s2, if_pos hw]
      refine .inl (wp_of_gives ?_ (gives_congr s1 hg))
      rintro v w' ⟨hRw, hJw, hΦv⟩
      let σ' : Env := setE σ i v
      have hσ' : ∀ j, toL listed j = true → σ' j = σ j := by
        intro j hj
        have hji : j ≠ i := fun e => by rw [e, hun] at hj; cases hj
        show (if j = i then v else σ j) = _
        rw [if_neg hji]
      have hvi : ∀ e : Env, e i = v → vals i e = v := by
        intro e he
        rcases hk with hk | ⟨c, hk, hcv⟩
        · rw [hk, he]
        · rw [hk, hcv v w' hΦv]
      have hσi : σ' i = v := by show (if i = i then v else σ i) = _; rw [if_pos rfl]
      have := ih (listed.setIfInBounds i true) w' σ' hu' hsz' hcl' ?_ (hRt _ _ _ hR hRw) (by rw [hset]; exact hJw)
      · rw [hset, more σ', hbi, (hc σ' hσ').2, hvi σ' hσi] at this; exact this
      · intro e he
        have he' : ∀ j, toL listed j = true → e j = σ j := fun j hj => (he j (by rw [hset]; simp [upd, hj])).trans (hσ' j hj)
        have hei : e i = v := (he i (by rw [hset]; simp [upd])).trans hσi
        refine ⟨fun j hj => ?_, ?_⟩
        · by_cases hji : j = i
          · subst hji; rw [hvi e hei]; exact hΦv
          · rw [hset] at hj
            have hb2 : (j == i) = false := by simpa using hji
            simp only [upd, hb2, Bool.false_or] at hj
            have hjl : j < l.length := by
              rcases Nat.lt_or_ge j l.length with h | h
              · exact h
              · exfalso
                have : ¬ j < listed.size := by rw [hsz]; omega
                unfold toL at hj; simp [this] at hj
            exact (h3 j l[j] (by simp [hjl])).1 _ w w' ((hc e he').1 j hj) hRw
        · rw [hset, more e, more σ', hvi e hei, hvi σ' hσi, (hc e he').2, (hc σ' hσ').2]
/-- **The region's walk.** -/
theorem wp_region_facts {id : Nat} {l : List Oper} {a : Act} {w : World} (R : World → World → Prop) (J : Env → (Nat → Bool) → World → Prop) (hm : P.follows .mixedOrders = true) (hB : regB l = true)
    (hR0 : R w.drew w.drew) (hRt : ∀ a b c, R a b → R b c → R a c) (hJ0 : ∀ e, J e (fun _ => false) w.drew)
    (h : Steps P l.toArray R J w.drew Q l 0 (fun _ => a) []) : (Code.region id l.toArray true).wp P Q a w := by
  obtain ⟨vals, Φs, h3, h4⟩ := Steps.out l.toArray l 0 _ _ h
  refine wp_region_any hm ?_
  have hstart : ∀ e : Env, actL a l vals (fun _ => false) e l.length = a := by
    intro e
    have : ∀ k, actL a l vals (fun _ => false) e k = a := by
      intro k
      induction k with
      | zero => rfl
      | succ k ih => simp only [actL]; rw [if_neg (by simp), ih]
    exact this _
  have hL0 : toL (Array.replicate l.toArray.size false) = fun _ => false := by
    funext j
    unfold toL
    by_cases hj : j < l.length
    · simp [hj]
    · simp [hj]
  have := region_run (a := a) (vals := vals) (Φs := Φs) (l := l) (Q := Q) (J := J) (w0 := w.drew) hB hRt (fun j o hj => by simpa using h3 j o hj) (fun e w' hR hJ hall => by
    have h5 := h4 e w' hR (by simpa using hJ) (factsAll_F _ hall)
    rw [actF_actL a l vals (fun j => decide (j < l.length)) e l.length (fun j hj => by simpa using hj)] at h5
    exact h5) l.length (Array.replicate l.toArray.size false) w.drew (fun _ => undef)
    (by rw [hL0]; unfold unl; exact Nat.le_trans (List.length_filter_le _ _) (by simp)) (by simp)
    (fun j o hj hl => by rw [hL0] at hl; cases hl) (fun e he => ⟨fun j hj => (by rw [hL0] at hj; cases hj), (by rw [hL0, hstart, hstart])⟩) hR0 (by rw [hL0]; exact hJ0 _)
  rw [hL0, hstart] at this
  simpa using this
end
theorem noEnter_map {α : Type} {P : Program} (s : Sem α) (g : α → Next) (hg : ∀ a f args, g a ≠ .enter f args) (w : World) (f : FuncId) (args : Array Value) (w' : World) :
    (do let x ← s; pure (g x) : Sem Next).run P w ≠ .ok (.enter f args) w' := by
  rw [Sem.run_bind]
  cases s.run P w with
  | ok a w1 => simp [Result.andThen, hg]
  | halt h w1 => simp [Result.andThen]
def plainB (o : Oper) : Bool := match o.op with
  | .move _ | .assign _ | .pick .. | .alloc _ | .box .. | .build .. | .buildSlice .. | .load .. | .store .. | .binOp .. | .unOp .. | .convert .. | .makeInterface .. | .makeFunc .. | .makeMap .. | .makeSlice .. | .slice .. | .fieldAddr .. | .field .. | .indexAddr .. | .index .. | .lookup .. | .mapUpdate .. | .typeAssert .. | .extract .. => true
  | .call { callee := .builtin b, .. } => match b with | .append | .cap | .len | .max | .min | .real | .imag | .complex | .copy | .delete => true | _ => false
  | _ => false
theorem plain_noEnter {P : Program} {o : Oper} (h : plainB o = true) (ρ : Operand → Value) (w : World) (f : FuncId) (args : Array Value) (w' : World) : (execOp ρ o).run P w ≠ .ok (.enter f args) w' := by
  obtain ⟨dst, op, type, pos, after, guard⟩ := o
  cases op
  case call c =>
    obtain ⟨callee, as9, ts⟩ := c
    cases callee with
    | builtin b => 
      cases b <;> simp only [plainB] at h <;> first | (cases h; done) | (simp only [execOp, resolve, pure_bind, invoke, builtin]; exact noEnter_map _ _ (by intro a f args; simp) _ _ _ _)
    | _ => simp only [plainB] at h; cases h
  all_goals simp only [plainB] at h
  all_goals first | (cases h; done) | (simp only [execOp]; exact noEnter_map _ _ (by intro a f args; simp) _ _ _ _) | (simp [execOp]; done)

section
variable {P : Program} {ops : Array Oper} {R : World → World → Prop} {J : Env → (Nat → Bool) → World → Prop} {w0 : World} {Q : Exit → Act → World → Prop}
theorem steps_weaken : ∀ (l : List Oper) (k : Nat) (A : Env → Act) (fs fs' : List (Nat × (Env → World → Prop))), (∀ o e w, factsAt o fs' e w → factsAt o fs e w) → (∀ e w, factsAll fs' e w → factsAll fs e w) →
    Steps P ops R J w0 Q l k A fs → Steps P ops R J w0 Q l k A fs'
  | [], _, _, _, _, _, h2, h => fun e w hR hJ hf => h e w hR hJ (h2 e w hf)
  | o :: l, k, A, fs, fs', h1, h2, ⟨val, Φ, ⟨hst, hok⟩, hs⟩ => by
    refine ⟨val, Φ, ⟨hst, ?_⟩, steps_weaken l (k + 1) _ ((k, fun e w => Φ (val e) w) :: fs) _ (fun o e w hf => ⟨hf.1, h1 o e w hf.2⟩) (fun e w hf => ⟨hf.1, h2 e w hf.2⟩) hs⟩
    rcases hok with ⟨ha, hb⟩ | ⟨ha, hb⟩
    · refine .inl ⟨fun e => ?_, hb⟩
      rcases ha e with ⟨hw, hq⟩ | hq
      · exact .inl ⟨hw, fun w hR hF => hq w hR (h1 o e w hF)⟩
      · exact .inr hq
    · exact .inr ⟨ha, fun e w L hN hR hJ hF => hb e w L hN hR hJ (h1 o e w hF)⟩
/-- A run of operations that leave the world alone: walked at once, as a quiet region is. -/
theorem steps_seg {rest : List Oper} {A' : Env → Act} {fs : List (Nat × (Env → World → Prop))} : ∀ (seg : List Oper) (k : Nat) (A : Env → Act), (∀ j, k ≤ j → j < k + seg.length → ∀ e L w, J e L w → J e (upd L j) w) → seg.all plainB = true →
    (∀ e, wpQuiet P ops (fun w => R w0 w) (fun a' => a' = A' e) seg (A e)) → Steps P ops R J w0 Q rest (k + seg.length) A' fs → Steps P ops R J w0 Q (seg ++ rest) k A fs
  | [], k, A, _, _, h, hs => by
    have : A = A' := funext h
    subst this
    exact hs
  | o :: seg, k, A, hJ, hp, h, hs => by
    simp only [List.all_cons, Bool.and_eq_true] at hp
    have hv : ∀ e, ∃ v, ((Region.wanted o (yielded ops (A e).tmps) = true ∧ ∀ w, R w0 w → still P o (A e) w v) ∨ (Region.wanted o (yielded ops (A e).tmps) = false ∧ v = undef)) ∧
        wpQuiet P ops (fun w => R w0 w) (fun a' => a' = A' e) seg ((A e).put o.dst v) := by
      intro e
      have h1 := h e
      unfold wpQuiet at h1
      by_cases hw : Region.wanted o (yielded ops (A e).tmps) = true
      · rw [if_pos hw] at h1
        obtain ⟨v, hq, hn⟩ := h1
        refine ⟨v, .inl ⟨hw, fun w hR => ?_⟩, hn⟩
        have h2 := hq w hR
        have h3 := plain_noEnter (P := P) hp.1 (A e).eval w
        refine ⟨?_, fun f args w' => h3 f args w'⟩
        unfold Oper.quietAt at h2
        unfold gives
        generalize (execOp (A e).eval o).run P w = r at *
        cases r with
        | ok n w' =>
          cases n
          case value u => exact ⟨h2.2, h2.1⟩
          case skip => exact ⟨h2.2.symm, h2.1⟩
          case enter f args => exact absurd rfl (h3 f args w')
          all_goals exact h2.elim
        | halt x w' => exact h2.elim
      · rw [if_neg hw] at h1
        exact ⟨undef, .inr ⟨by simpa using hw, rfl⟩, h1⟩
    let val : Env → Value := fun e => Classical.choose (hv e)
    have hval : ∀ e, _ := fun e => Classical.choose_spec (hv e)
    refine ⟨val, fun _ _ => True, ⟨fun _ _ _ _ _ => trivial, .inl ⟨fun e => ?_, fun _ _ => trivial, fun e L w => hJ k (Nat.le_refl _) (by simp) e L w⟩⟩, ?_⟩
    · rcases (hval e).1 with ⟨h1, h2⟩ | h1
      · exact .inl ⟨h1, fun w hR _ => h2 w hR⟩
      · exact .inr h1
    · refine steps_weaken _ _ _ fs _ (fun o e w hf => hf.2) (fun e w hf => hf.2) ?_
      refine steps_seg seg (k + 1) _ (fun j h1 h2 => hJ j (by omega) (by rw [List.length_cons]; omega)) hp.2 (fun e => (hval e).2) ?_
      rw [List.length_cons] at hs
      rw [show k + 1 + seg.length = k + (seg.length + 1) by omega]
      exact hs
/-- An operation of which a closed fact is known. -/
theorem steps_fact {o : Oper} {rest : List Oper} {k : Nat} {A : Env → Act} {fs : List (Nat × (Env → World → Prop))} (Φ : Value → World → Prop) (hst : ∀ v w w', Φ v w → R w w' → Φ v w')
    (h : ∀ e w L, Now ops k L → R w0 w → J e L w → factsAt o fs e w → Region.wanted o (yielded ops (A e).tmps) = true ∧ gives P o (A e) w (fun v w' => R w w' ∧ J (setE e k v) (upd L k) w' ∧ Φ v w'))
    (hs : Steps P ops R J w0 Q rest (k + 1) (fun e => (A e).put o.dst (e k)) ((k, fun e w => Φ (e k) w) :: fs)) : Steps P ops R J w0 Q (o :: rest) k A fs :=
  ⟨fun e => e k, Φ, ⟨hst, .inr ⟨.inl (fun _ => rfl), h⟩⟩, hs⟩
/-- An operation with a known value. -/
theorem steps_const {o : Oper} {rest : List Oper} {k : Nat} {A : Env → Act} {fs : List (Nat × (Env → World → Prop))} (c : Value)
    (h : ∀ e w L, Now ops k L → R w0 w → J e L w → factsAt o fs e w → Region.wanted o (yielded ops (A e).tmps) = true ∧ gives P o (A e) w (fun v w' => R w w' ∧ J (setE e k v) (upd L k) w' ∧ v = c))
    (hs : Steps P ops R J w0 Q rest (k + 1) (fun e => (A e).put o.dst c) fs) : Steps P ops R J w0 Q (o :: rest) k A fs :=
  ⟨fun _ => c, fun v _ => v = c, ⟨fun _ _ _ h _ => h, .inr ⟨.inr ⟨c, fun _ => rfl, fun _ _ h => h⟩, h⟩⟩, steps_weaken _ _ _ fs _ (fun _ _ _ hf => hf.2) (fun _ _ hf => hf.2) hs⟩
end
theorem factsAt_here {o : Oper} {j : Nat} {f : Env → World → Prop} {fs : List (Nat × (Env → World → Prop))} {e : Env} {w : World} (h : factsAt o ((j, f) :: fs) e w) (hd : isDep o j = true) : f e w := h.1 hd
theorem factsAt_there {o : Oper} {p : Nat × (Env → World → Prop)} {fs : List (Nat × (Env → World → Prop))} {e : Env} {w : World} (h : factsAt o (p :: fs) e w) : factsAt o fs e w := h.2
/-! ### Nothing is written in turn: 'J' says nothing -/
def noJ : Env → (Nat → Bool) → World → Prop := fun _ _ _ => True
/-- Of what was there nothing turns. -/
def bel (w w' : World) : Prop := RowKit.Below w.heap.size w w'
theorem bel_refl (w : World) : bel w w := RowKit.Below.refl _ _
theorem bel_trans (a b c : World) (h : bel a b) (k : bel b c) : bel a c := RowKit.Below.trans h (RowKit.Below.mono k h.size)
section
variable {P : Program} {ops : Array Oper} {R : World → World → Prop} {w0 : World} {Q : Exit → Act → World → Prop}
theorem wp_region0 {id : Nat} {l : List Oper} {a : Act} {w : World} (hm : P.follows .mixedOrders = true) (hB : regB l = true)
    (h : Steps P l.toArray bel noJ w.drew Q l 0 (fun _ => a) []) : (Code.region id l.toArray true).wp P Q a w :=
  wp_region_facts bel noJ hm hB (bel_refl _) bel_trans (fun _ => trivial) h
theorem seg0 {fs : List (Nat × (Env → World → Prop))} (n : Nat) {l : List Oper} {k : Nat} {A : Env → Act} (hp : (l.take n).all plainB = true) (hn : (l.take n).length = n)
    (h : ∃ A', (∀ e, wpQuiet P ops (fun w => R w0 w) (fun a' => a' = A' e) (l.take n) (A e)) ∧ Steps P ops R noJ w0 Q (l.drop n) (k + n) A' fs) : Steps P ops R noJ w0 Q l k A fs := by
  obtain ⟨A', h, hs⟩ := h
  have := steps_seg (P := P) (ops := ops) (R := R) (J := noJ) (w0 := w0) (Q := Q) (rest := l.drop n) (A' := A') (fs := fs) (l.take n) k A (fun _ _ _ _ _ _ _ => trivial) hp h (by rw [hn]; exact hs)
  rw [List.take_append_drop] at this
  exact this
theorem fact0 {o : Oper} {rest : List Oper} {k : Nat} {A : Env → Act} {fs : List (Nat × (Env → World → Prop))} (Φ : Value → World → Prop) (hst : ∀ v w w', Φ v w → R w w' → Φ v w')
    (h : ∀ e w, R w0 w → factsAt o fs e w → Region.wanted o (yielded ops (A e).tmps) = true ∧ gives P o (A e) w (fun v w' => R w w' ∧ Φ v w'))
    (hs : Steps P ops R noJ w0 Q rest (k + 1) (fun e => (A e).put o.dst (e k)) ((k, fun e w => Φ (e k) w) :: fs)) : Steps P ops R noJ w0 Q (o :: rest) k A fs :=
  steps_fact Φ hst (fun e w _ _ hR _ hf => ⟨(h e w hR hf).1, gives_mono (fun _ _ h => ⟨h.1, trivial, h.2⟩) (h e w hR hf).2⟩) hs
theorem const0 {o : Oper} {rest : List Oper} {k : Nat} {A : Env → Act} {fs : List (Nat × (Env → World → Prop))} (c : Value)
    (h : ∀ e w, R w0 w → factsAt o fs e w → Region.wanted o (yielded ops (A e).tmps) = true ∧ gives P o (A e) w (fun v w' => R w w' ∧ v = c))
    (hs : Steps P ops R noJ w0 Q rest (k + 1) (fun e => (A e).put o.dst c) fs) : Steps P ops R noJ w0 Q (o :: rest) k A fs :=
  steps_const c (fun e w _ _ hR _ hf => ⟨(h e w hR hf).1, gives_mono (fun _ _ h => ⟨h.1, trivial, h.2⟩) (h e w hR hf).2⟩) hs
/-! ### Facts that live till an operation consumes them -/
/-- Below block B nothing turns. -/
def belB (B : Nat) (w w' : World) : Prop := RowKit.Below B w w'
/-- (j, d, Φ): from number j's coming up till number d's, Φ holds of j's value. -/
def liveJ : List (Nat × Nat × (Value → World → Prop)) → Env → (Nat → Bool) → World → Prop
  | [], _, _, _ => True
  | (j, d, Φ) :: r, e, L, w => (L j = true → L d = false → Φ (e j) w) ∧ liveJ r e L w
def newJ : List (Nat × Nat × (Value → World → Prop)) → Nat → Value → World → Prop
  | [], _, _, _ => True
  | (j, _, Φ) :: r, k, v, w => (j = k → Φ v w) ∧ newJ r k v w
def liveOut : List (Nat × Nat × (Value → World → Prop)) → Nat → Nat → Bool
  | [], _, _ => true
  | (j, _, _) :: r, k, n => (decide (j < k) || decide (k + n ≤ j)) && liveOut r k n
def liveB (ops : Array Oper) : List (Nat × Nat × (Value → World → Prop)) → Nat → Bool
  | [], _ => true
  | (j, d, _) :: r, k => (j == k || d == k || depT ops ops.size k d || depT ops ops.size j k) && liveB ops r k
theorem liveJ_quiet : ∀ (live : List (Nat × Nat × (Value → World → Prop))) (k n : Nat), liveOut live k n = true → ∀ i, k ≤ i → i < k + n → ∀ e L w, liveJ live e L w → liveJ live e (upd L i) w
  | [], _, _, _, _, _, _, _, _, _, _ => trivial
  | (j, d, Φ) :: r, k, n, h, i, h1, h2, e, L, w, hl => by
    simp only [liveOut, Bool.and_eq_true, Bool.or_eq_true, decide_eq_true_eq] at h
    refine ⟨fun hj hd => hl.1 ?_ ?_, liveJ_quiet r k n h.2 i h1 h2 e L w hl.2⟩
    · have : (j == i) = false := by simp; omega
      simpa [upd, this] using hj
    · simp only [upd, Bool.or_eq_false_iff] at hd; exact hd.2
theorem liveJ_step {ops : Array Oper} : ∀ (live : List (Nat × Nat × (Value → World → Prop))) (k : Nat) (e : Env) (L : Nat → Bool) (v : Value) (w' : World), Now ops k L → liveB ops live k = true → newJ live k v w' → liveJ live (setE e k v) (upd L k) w'
  | [], _, _, _, _, _, _, _, _ => trivial
  | (j, d, Φ) :: r, k, e, L, v, w', hn, hb, hnew => by
    simp only [liveB, Bool.and_eq_true, Bool.or_eq_true, beq_iff_eq] at hb
    refine ⟨fun hj hd => ?_, liveJ_step r k e L v w' hn hb.2 hnew.2⟩
    simp only [upd, Bool.or_eq_false_iff, beq_eq_false_iff_ne] at hd
    rcases hb.1 with ((h | h) | h) | h
    · subst h; simp only [setE, if_pos]; exact hnew.1 rfl
    · exact absurd h hd.1
    · rw [hn.2.1 d h] at hd; cases hd.2
    · by_cases hjk : j = k
      · subst hjk; simp only [setE, if_pos]; exact hnew.1 rfl
      · have : (j == k) = false := by simpa using hjk
        simp only [upd, this, Bool.false_or] at hj
        rw [hn.2.2 j h] at hj; cases hj
theorem liveJ_get : ∀ {live : List (Nat × Nat × (Value → World → Prop))} {e : Env} {L : Nat → Bool} {w : World} {j d : Nat} {Φ : Value → World → Prop}, liveJ live e L w → (j, d, Φ) ∈ live → L j = true → L d = false → Φ (e j) w
  | [], _, _, _, _, _, _, _, hm, _, _ => by cases hm
  | p :: r, e, L, w, j, d, Φ, hl, hm, hj, hd => by
    rcases List.mem_cons.1 hm with rfl | hm
    · exact hl.1 hj hd
    · exact liveJ_get (live := r) hl.2 hm hj hd
theorem liveJ_start : ∀ (live : List (Nat × Nat × (Value → World → Prop))) (e : Env) (w : World), liveJ live e (fun _ => false) w
  | [], _, _ => trivial
  | _ :: r, e, w => ⟨fun h => (by cases h), liveJ_start r e w⟩
theorem wp_regionL {id : Nat} {l : List Oper} {a : Act} {w : World} (live : List (Nat × Nat × (Value → World → Prop))) (hm : P.follows .mixedOrders = true) (hB : regB l = true)
    (h : Steps P l.toArray (belB w.heap.size) (liveJ live) w.drew Q l 0 (fun _ => a) []) : (Code.region id l.toArray true).wp P Q a w :=
  wp_region_facts (belB w.heap.size) (liveJ live) hm hB (RowKit.Below.refl _ _) (fun _ _ _ h k => RowKit.Below.trans h k) (fun e => liveJ_start live e _) h
theorem segL {live : List (Nat × Nat × (Value → World → Prop))} {fs : List (Nat × (Env → World → Prop))} (n : Nat) {l : List Oper} {k : Nat} {A : Env → Act} (hp : (l.take n).all plainB = true) (hn : (l.take n).length = n) (hlv : liveOut live k n = true)
    (h : ∃ A', (∀ e, wpQuiet P ops (fun w => R w0 w) (fun a' => a' = A' e) (l.take n) (A e)) ∧ Steps P ops R (liveJ live) w0 Q (l.drop n) (k + n) A' fs) : Steps P ops R (liveJ live) w0 Q l k A fs := by
  obtain ⟨A', h, hs⟩ := h
  have := steps_seg (P := P) (ops := ops) (R := R) (J := liveJ live) (w0 := w0) (Q := Q) (rest := l.drop n) (A' := A') (fs := fs) (l.take n) k A (by rw [hn]; exact liveJ_quiet live k n hlv) hp h (by rw [hn]; exact hs)
  rw [List.take_append_drop] at this
  exact this
/-- An operation whose value is told by a living fact alone. -/
theorem factL {live : List (Nat × Nat × (Value → World → Prop))} {o : Oper} {rest : List Oper} {k : Nat} {A : Env → Act} {fs : List (Nat × (Env → World → Prop))} (hb : liveB ops live k = true)
    (h : ∀ e w L, Now ops k L → R w0 w → liveJ live e L w → factsAt o fs e w → Region.wanted o (yielded ops (A e).tmps) = true ∧ gives P o (A e) w (fun v w' => R w w' ∧ newJ live k v w'))
    (hs : Steps P ops R (liveJ live) w0 Q rest (k + 1) (fun e => (A e).put o.dst (e k)) fs) : Steps P ops R (liveJ live) w0 Q (o :: rest) k A fs :=
  steps_fact (fun _ _ => True) (fun _ _ _ _ _ => trivial) (fun e w L hN hR hJ hf => ⟨(h e w L hN hR hJ hf).1, gives_mono (fun v w' hh => ⟨hh.1, liveJ_step live k e L v w' hN hb hh.2, trivial⟩) (h e w L hN hR hJ hf).2⟩)
    (steps_weaken _ _ _ fs _ (fun _ _ _ hf => hf.2) (fun _ _ hf => hf.2) hs)
theorem constL {live : List (Nat × Nat × (Value → World → Prop))} {o : Oper} {rest : List Oper} {k : Nat} {A : Env → Act} {fs : List (Nat × (Env → World → Prop))} (c : Value) (hb : liveB ops live k = true)
    (h : ∀ e w L, Now ops k L → R w0 w → liveJ live e L w → factsAt o fs e w → Region.wanted o (yielded ops (A e).tmps) = true ∧ gives P o (A e) w (fun v w' => R w w' ∧ newJ live k v w' ∧ v = c))
    (hs : Steps P ops R (liveJ live) w0 Q rest (k + 1) (fun e => (A e).put o.dst c) fs) : Steps P ops R (liveJ live) w0 Q (o :: rest) k A fs :=
  steps_const c (fun e w L hN hR hJ hf => ⟨(h e w L hN hR hJ hf).1, gives_mono (fun v w' hh => ⟨hh.1, liveJ_step live k e L v w' hN hb hh.2.1, hh.2.2⟩) (h e w L hN hR hJ hf).2⟩) hs
theorem liveJ_still : ∀ (live : List (Nat × Nat × (Value → World → Prop))) (k : Nat) (e : Env) (L : Nat → Bool) (v : Value) (w : World), liveOut live k 1 = true → liveJ live e L w → liveJ live (setE e k v) (upd L k) w
  | [], _, _, _, _, _, _, _ => trivial
  | (j, d, Φ) :: r, k, e, L, v, w, h, hl => by
    simp only [liveOut, Bool.and_eq_true, Bool.or_eq_true, decide_eq_true_eq] at h
    have hjk : j ≠ k := by omega
    refine ⟨fun hj hd => ?_, liveJ_still r k e L v w h.2 hl.2⟩
    have hb : (j == k) = false := by simpa using hjk
    simp only [upd, hb, Bool.false_or] at hj
    simp only [upd, Bool.or_eq_false_iff] at hd
    simp only [setE, if_neg hjk]
    exact hl.1 hj hd.2
/-- An operation that leaves the world as it was: it may come up at any time. -/
theorem constS {live : List (Nat × Nat × (Value → World → Prop))} {o : Oper} {rest : List Oper} {k : Nat} {A : Env → Act} {fs : List (Nat × (Env → World → Prop))} (c : Value) (hrefl : ∀ w, R w w) (hb : liveOut live k 1 = true)
    (h : ∀ e w L, Now ops k L → R w0 w → liveJ live e L w → factsAt o fs e w → Region.wanted o (yielded ops (A e).tmps) = true ∧ gives P o (A e) w (fun v w' => w' = w ∧ v = c))
    (hs : Steps P ops R (liveJ live) w0 Q rest (k + 1) (fun e => (A e).put o.dst c) fs) : Steps P ops R (liveJ live) w0 Q (o :: rest) k A fs :=
  steps_const c (fun e w L hN hR hJ hf => ⟨(h e w L hN hR hJ hf).1, gives_mono (fun v w' hh => by
    obtain ⟨rfl, hc⟩ := hh
    exact ⟨hrefl _, liveJ_still live k e L v _ hb hJ, hc⟩) (h e w L hN hR hJ hf).2⟩) hs
end
end Go.Proofs.Ytlngefhjoobmdaa.Reg
namespace Go.Proofs.Ytlngefhjoobmdaa
open Go.RowKit
section
variable {α : Type} {C : α → List Value} {W : α → Prop} {sz : Nat} {E S : TypeId}
theorem ofC_len (hC : ∀ q, (C q).length = sz) (l : List α) : (l.flatMap C).length = l.length * sz := by
  induction l with
  | nil => simp
  | cons r l ih => rw [List.flatMap_cons, List.length_append, hC, ih, List.length_cons, Nat.add_mul]; omega
theorem ofC_at (hC : ∀ q, (C q).length = sz) : ∀ (l : List α) (i : Nat) (h : i < l.length) (j : Nat), j < sz → (l.flatMap C)[i * sz + j]? = (C l[i])[j]?
  | [], i, h, _, _ => by simp at h
  | r :: l, 0, _, j, hj => by
    rw [List.flatMap_cons, List.getElem?_append_left (by rw [hC]; omega)]
    simp
  | r :: l, i + 1, h, j, hj => by
    have ih := ofC_at hC l i (by simpa using h) j hj
    rw [List.flatMap_cons, List.getElem?_append_right (by rw [hC, Nat.add_mul]; omega), hC, List.getElem_cons_succ, ← ih]
    congr 1
    rw [Nat.add_mul]
    omega
/-- v is a slice of such elements that the call owns (its block is B or a later one). -/
def OwnOf (E : TypeId) (C : α → List Value) (sz B : Nat) (w : World) (v : Value) (l : List α) : Prop := w.ownsRow B E sz v l.length (l.flatMap C)
theorem OwnOf.nil (B : Nat) (w : World) : OwnOf E C sz B w (.slice none 0 0) [] := World.ownsRow_nil w B _ sz
theorem OwnOf.empty (B : Nat) (w : World) (hB : B ≤ w.heap.size) : OwnOf E C sz B (w.alloc (.cells #[] E)) (.slice (some ⟨w.heap.size, 0, none⟩) 0 0) [] :=
  ⟨by simp, .inr ⟨w.heap.size, 0, #[], rfl, hB, heap_alloc_new w _, Nat.le_refl _, Nat.zero_le _, by simp, by simp⟩⟩
theorem OwnOf.emptyAt (B : Nat) (w : World) (g : Nat) (hg : g = w.heap.size) (hB : B ≤ w.heap.size) : OwnOf E C sz B (w.alloc (.cells #[] E)) (.slice (some ⟨g, 0, none⟩) 0 0) [] := by
  subst hg
  exact OwnOf.empty B w hB
theorem OwnOf.block {B : Nat} {w : World} {v : Value} {l : List α} (h : OwnOf E C sz B w v l) : ∀ k, v.ownBlock = some k → B ≤ k ∧ k < w.heap.size := World.ownsRow.lt h
theorem OwnOf.kept {B : Nat} {w w' : World} {v : Value} {l : List α} (h : OwnOf E C sz B w v l) (hk : ∀ k, v.ownBlock = some k → w'.heap[k]? = w.heap[k]?) : OwnOf E C sz B w' v l := by
  refine ⟨h.1, ?_⟩
  rcases h.2 with h2 | ⟨g, cap, cur, hv, hbg, hg, hr⟩
  · exact .inl h2
  · exact .inr ⟨g, cap, cur, hv, hbg, by rw [hk g (by rw [hv]; rfl)]; exact hg, hr⟩
theorem OwnOf.bel {B : Nat} {w w' : World} {v : Value} {l : List α} (h : OwnOf E C sz B w v l) (hb : Below w.heap.size w w') : OwnOf E C sz B w' v l :=
  h.kept fun k hk => hb.block k (h.block k hk).2
theorem OwnOf.mono {B B' : Nat} {w : World} {v : Value} {l : List α} (h : OwnOf E C sz B w v l) (hB : B' ≤ B) : OwnOf E C sz B' w v l := by
  refine ⟨h.1, ?_⟩
  rcases h.2 with h2 | ⟨g, cap, cur, hv, hbg, hg, hr⟩
  · exact .inl h2
  · exact .inr ⟨g, cap, cur, hv, Nat.le_trans hB hbg, hg, hr⟩
theorem OwnOf.keep {B : Nat} {w w' : World} {v : Value} {l : List α} {r : Option Nat} (h : OwnOf E C sz B w v l) (hg : w.grownBy w' r) (hne : ∀ k, v.ownBlock = some k → some k ≠ r) : OwnOf E C sz B w' v l :=
  h.kept fun k hk => hg.block k (h.block k hk).2 (hne k hk)
theorem OwnOf.slice {B : Nat} {w : World} {v : Value} {l : List α} (h : OwnOf E C sz B w v l) : ∃ a cap, v = .slice a l.length cap := by
  rcases h.2 with ⟨rfl, h0⟩ | ⟨g, cap, cur, rfl, _⟩
  · exact ⟨none, 0, by rw [h0]⟩
  · exact ⟨_, cap, rfl⟩
/-- It reads as a slice of them. -/
theorem OwnOf.rowOf {B : Nat} {w : World} {v : Value} {l : List α} (hC : ∀ q, (C q).length = sz) (hW : ∀ q ∈ l, W q) (h : OwnOf E C sz B w v l) : ∃ a cap, v = .slice a l.length cap ∧ IsRowOf C W sz w a l ∧ l.length ≤ cap ∧ cap ≤ maxLen ∧ (∀ b off, a = some ⟨b, off, none⟩ → v.ownBlock = some b) := by
  rcases h.2 with ⟨rfl, h0⟩ | ⟨g, cap, cur, rfl, hbg, hg, hnc, hcm, hcs, htake⟩
  · have : l = [] := List.eq_nil_of_length_eq_zero h0
    subst this
    exact ⟨none, 0, rfl, fun i hi => by simp at hi, Nat.le_refl _, Nat.zero_le _, fun _ _ e => by cases e⟩
  · refine ⟨_, cap, rfl, fun i hi => ⟨g, 0, rfl, (Array.getElem?_eq_some_iff.1 hg).1, fun j hj => ?_, hW _ (List.getElem_mem hi)⟩, hnc, hcm, fun b off e => by cases e; rfl⟩
    have hb : i * sz + j < l.length * sz := Nat.lt_of_lt_of_le (show i * sz + j < (i + 1) * sz by rw [Nat.add_mul]; omega) (Nat.mul_le_mul_right _ hi)
    rw [Nat.zero_add, cell_of_row w g (i * sz + j) cur _ _ hg, ← ofC_at hC l i hi j hj, ← htake]
    rw [List.getElem?_take_of_lt hb, Array.getElem?_toList]
/-- What a slice of them yields. -/
theorem src_rowOf {w : World} {a : Option Addr} {l : List α} (hS : Try.prog.underlying S = some (.slice E)) (hC : ∀ q, (C q).length = sz) (h1 : ∀ q, ∀ u ∈ C q, u.oneCell' = true) (hp : 0 < sz) (cap : Nat) (h : IsRowOf C W sz w a l) : Src Try.prog sz S (.slice a l.length cap) l.length (l.flatMap C) w := by
  cases a with
  | none =>
    have : l = [] := by
      cases l with
      | nil => rfl
      | cons x l => obtain ⟨b, off, h1, _⟩ := h 0 (by simp); cases h1
    subst this
    exact Src.ofNil w (size := sz) hS cap
  | some a =>
    cases l with
    | nil => exact Src.ofSlice w hS a 0 cap [] (by simp) (fun j u hj => by simp at hj) (fun u hu => by cases hu)
    | cons x l =>
      obtain ⟨b, off, h2, _⟩ := h 0 (by simp)
      cases h2
      refine Src.ofSlice w hS ⟨b, off, none⟩ _ cap _ (by rw [ofC_len hC]) (fun k u hk => ?_) (fun u hu => ?_)
      · have hlt : k < (x :: l).length * sz := by
          have := (List.getElem?_eq_some_iff.1 hk).1; rwa [ofC_len hC] at this
        have hi : k / sz < (x :: l).length := (Nat.div_lt_iff_lt_mul hp).2 hlt
        have hj : k % sz < sz := Nat.mod_lt _ hp
        have hkk : k / sz * sz + k % sz = k := by rw [Nat.mul_comm]; exact Nat.div_add_mod _ _
        obtain ⟨b', off', h2, _, h3, _⟩ := h (k / sz) hi
        cases h2
        have h4 := h3 (k % sz) hj
        rw [Nat.add_assoc, hkk, ← ofC_at hC (x :: l) (k / sz) hi (k % sz) hj, hkk, hk] at h4
        rw [add_none']
        exact h4
      · obtain ⟨q, _, hq⟩ := List.mem_flatMap.1 hu
        exact h1 q u hq
theorem rowOf_new {w : World} {g : Nat} {cs : List Value} {t : TypeId} {fr : Nat × Nat} (q : α) (hq : W q) (hcs : cs = C q) (hg : w.heap[g]? = some (.cells cs.toArray t fr)) : IsRowOf C W sz w (some ⟨g, 0, none⟩) [q] := by
  intro i hi
  obtain rfl : i = 0 := by simp at hi; omega
  refine ⟨g, 0, rfl, (Array.getElem?_eq_some_iff.1 hg).1, fun j hj => ?_, hq⟩
  rw [cell_of_row w g _ _ _ _ hg, hcs]
  simp
/-- append, onto a row that the call owns. -/
theorem run_append_of {z : Value} {bytes : Nat} (hS : Try.prog.underlying S = some (.slice E)) (hinf : (Try.prog.info? E).map (fun i => (i.zero, i.size, i.bytes)) = some (some z, sz, bytes)) (hz : z.cells.size = sz)
    (w : World) (B : Nat) (ty : TypeId) (v : Value) (l : List α) (h : OwnOf E C sz B w v l) (x : Value) (news : List α) (hs : Src Try.prog sz S x news.length (news.flatMap C) w) (hB : B ≤ w.heap.size) (hsz : l.length + news.length ≤ 1000000000) (hby : bytes ≤ 1000) :
    ∃ v' w', (Builtin.append_ #[S, S] ty #[v, x]).run Try.prog w = .ok v' w' ∧ OwnOf E C sz B w' v' (l ++ news) ∧ Grew w w' v v' := by
  cases hi : Try.prog.info? E with
  | none => rw [hi] at hinf; cases hinf
  | some i =>
    rw [hi] at hinf
    simp only [Option.map_some, Option.some.injEq, Prod.mk.injEq] at hinf
    obtain ⟨hz0, h1, h2⟩ := hinf
    have hown : w.ownsRow B E i.size v l.length (l.flatMap C) := by rw [h1]; exact h
    have hsrc : Src Try.prog i.size S x news.length (news.flatMap C) w := by rw [h1]; exact hs
    obtain ⟨v', w', hr, ho, hg⟩ := run_append_own_src w B S S ty E i _ hS hi hz0 (by rw [h1]; exact hz) v l.length _ hown x news.length _ hsrc (by unfold maxLen; omega) (by
      rw [h2]
      have := Nat.mul_le_mul hsz hby
      omega) hB
    refine ⟨v', w', hr, ?_, hg⟩
    unfold OwnOf
    rw [List.flatMap_append, List.length_append]
    rw [h1] at ho
    exact ho
theorem wpList_append_of {z : Value} {bytes : Nat} (hS : Try.prog.underlying S = some (.slice E)) (hinf : (Try.prog.info? E).map (fun i => (i.zero, i.size, i.bytes)) = some (some z, sz, bytes)) (hz : z.cells.size = sz) (hby : bytes ≤ 1000)
    {ops : Array Oper} {rest : List Oper} {o : Oper} {a : Act} {w : World} {Q : Exit → Act → World → Prop} (hgd : o.guard = none) (s x : Operand)
    (ho : o.op = .call { callee := .builtin .append, args := #[s, x], argTypes := #[S, S] }) (B : Nat) (v : Value) (l : List α) (hs : a.eval s = v) (hown : OwnOf E C sz B w v l)
    (y : Value) (news : List α) (hx : a.eval x = y) (hsrc : Src Try.prog sz S y news.length (news.flatMap C) w) (hB : B ≤ w.heap.size) (hsz : l.length + news.length ≤ 1000000000)
    (h : ∀ v' w', OwnOf E C sz B w' v' (l ++ news) → Grew w w' v v' → wpList Try.prog ops Q rest (a.put o.dst v') w') : wpList Try.prog ops Q (o :: rest) a w :=
  wpList_plain hgd fun _ hK => by
    obtain ⟨v', w', hr, h2, h3⟩ := run_append_of hS hinf hz w B o.type v l hown y news hsrc hB hsz hby
    unfold Oper.wp execOp
    simp only [ho, resolve, invoke, builtin, Sem.run_bind, Sem.run_pure, Result.andThen_ok, List.map_toArray, List.map_cons, List.map_nil, hs, hx, hr, Oper.upon_value]
    exact hK _ _ (h v' w' h2 h3)
theorem gives_append_of {z : Value} {bytes : Nat} (hS : Try.prog.underlying S = some (.slice E)) (hinf : (Try.prog.info? E).map (fun i => (i.zero, i.size, i.bytes)) = some (some z, sz, bytes)) (hz : z.cells.size = sz) (hby : bytes ≤ 1000)
    {o : Oper} {a : Act} {w : World} (s x : Operand) (ho : o.op = .call { callee := .builtin .append, args := #[s, x], argTypes := #[S, S] }) (B : Nat) (v : Value) (l : List α) (hs : a.eval s = v) (hown : OwnOf E C sz B w v l)
    (y : Value) (news : List α) (hx : a.eval x = y) (hsrc : Src Try.prog sz S y news.length (news.flatMap C) w) (hB : B ≤ w.heap.size) (hsz : l.length + news.length ≤ 1000000000) :
    Reg.gives Try.prog o a w (fun v' w' => OwnOf E C sz B w' v' (l ++ news) ∧ Grew w w' v v') := by
  obtain ⟨v', w', hr, h2, h3⟩ := run_append_of hS hinf hz w B o.type v l hown y news hsrc hB hsz hby
  unfold Reg.gives execOp
  simp only [ho, resolve, invoke, builtin, Sem.run_bind, Sem.run_pure, Result.andThen_ok, List.map_toArray, List.map_cons, List.map_nil, hs, hx, hr]
  exact ⟨h2, h3⟩
theorem Grew.bel {B : Nat} {w w' : World} {v v' : Value} {l : List α} (h : OwnOf E C sz B w v l) (hB : B ≤ w.heap.size) (hg : Grew w w' v v') : Below B w w' := hg.below hB (fun k hk => (h.block k hk).1)
/-- A part of a slice. -/
theorem IsRowOf.part {w : World} {b off : Nat} {l : List α} (h : IsRowOf C W sz w (some ⟨b, off, none⟩) l) (i n : Nat) (hn : i + n ≤ l.length) : IsRowOf C W sz w (some ⟨b, off + i * sz, none⟩) ((l.drop i).take n) := by
  intro j hj
  have hj' : j < n := by rw [List.length_take, List.length_drop] at hj; omega
  obtain ⟨b', off', h1, h2, h3, h4⟩ := h (i + j) (by omega)
  cases h1
  refine ⟨b, off + i * sz, rfl, h2, fun k hk => ?_, ?_⟩
  · have := h3 k hk
    rw [show off + i * sz + j * sz + k = off + (i + j) * sz + k by rw [Nat.add_mul]; omega, this]
    simp
  · simpa using h4
theorem IsRowOf.nil {w : World} {a : Option Addr} : IsRowOf C W sz w a [] := fun i hi => by simp at hi
theorem IsRowOf.takeN {w : World} {a : Option Addr} {l : List α} (h : IsRowOf C W sz w a l) (n : Nat) : IsRowOf C W sz w a (l.take n) := by
  intro i hi
  have hi' : i < l.length := by rw [List.length_take] at hi; omega
  have := h i hi'
  simpa using this
theorem IsRowOf.dropN {w : World} {b off : Nat} {l : List α} (h : IsRowOf C W sz w (some ⟨b, off, none⟩) l) (n : Nat) : IsRowOf C W sz w (some ⟨b, off + n * sz, none⟩) (l.drop n) := by
  by_cases hn : n ≤ l.length
  · have h1 := h.part n (l.length - n) (by omega)
    rwa [List.take_of_length_le (by simp)] at h1
  · rw [List.drop_eq_nil_of_le (by omega)]
    exact fun i hi => by simp at hi
theorem IsRowOf.ofNil {w : World} {a : Option Addr} {l : List α} (h : l.length = 0) : IsRowOf C W sz w a l := fun i hi => by omega
end
end Go.Proofs.Ytlngefhjoobmdaa
namespace Go.Proofs.Ytlngefhjoobmdaa
open Go.RowKit
/-- The error of number c. -/
def errV (c : Nat) : Value := if c = 0 then .nilIface else .iface 57 (.int .i64 (c : Int))
theorem code_eqlIn (w : World) (d : Nat) (c k : Int) : (Op.equalIn (d + 2) 34 (.iface 57 (.int .i64 c)) (.iface 57 (.int .i64 k))).run Try.prog w = .ok (c == k) w := by
  have hu : Try.prog.underlying 57 = some (.int .i64) := Try.underlying57
  have hcmp : Try.t57.comparable = true := by kernel_rfl
  simp [Op.equalIn, run_underlying Try.underlying34, run_underlying hu, hcmp]
theorem code_equal (w : World) (c k : Int) : (Op.equal 34 (.iface 57 (.int .i64 c)) (.iface 57 (.int .i64 k))).run Try.prog w = .ok (c == k) w := code_eqlIn w 9998 c k
theorem code_eql (w : World) (c k : Int) : (binOp .eql 34 (.iface 57 (.int .i64 c)) (.iface 57 (.int .i64 k))).run Try.prog w = .ok (.bool (c == k)) w := by
  simp [binOp, code_equal]
theorem code_neq (w : World) (c k : Int) : (binOp .neq 34 (.iface 57 (.int .i64 c)) (.iface 57 (.int .i64 k))).run Try.prog w = .ok (.bool (!(c == k))) w := by
  simp [binOp, code_equal]
theorem code_nilIn (w : World) (d : Nat) (c : Int) : (Op.equalIn (d + 1) 34 (.iface 57 (.int .i64 c)) .nilIface).run Try.prog w = .ok false w := by
  simp [Op.equalIn, run_underlying Try.underlying34]
theorem code_nil (w : World) (c : Int) : (Op.equal 34 (.iface 57 (.int .i64 c)) .nilIface).run Try.prog w = .ok false w := code_nilIn w 9999 c
theorem code_eql_nil (w : World) (c : Int) : (binOp .eql 34 (.iface 57 (.int .i64 c)) .nilIface).run Try.prog w = .ok (.bool false) w := by
  simp [binOp, code_nil]
theorem code_neq_nil (w : World) (c : Int) : (binOp .neq 34 (.iface 57 (.int .i64 c)) .nilIface).run Try.prog w = .ok (.bool true) w := by
  simp [binOp, code_nil]
theorem nil_code_In (w : World) (d : Nat) (c : Int) : (Op.equalIn (d + 1) 34 .nilIface (.iface 57 (.int .i64 c))).run Try.prog w = .ok false w := by
  simp [Op.equalIn, run_underlying Try.underlying34]
theorem nil_code (w : World) (c : Int) : (Op.equal 34 .nilIface (.iface 57 (.int .i64 c))).run Try.prog w = .ok false w := nil_code_In w 9999 c
theorem nil_eql_code (w : World) (c : Int) : (binOp .eql 34 .nilIface (.iface 57 (.int .i64 c))).run Try.prog w = .ok (.bool false) w := by
  simp [binOp, nil_code]
theorem nil_neq_code (w : World) (c : Int) : (binOp .neq 34 .nilIface (.iface 57 (.int .i64 c))).run Try.prog w = .ok (.bool true) w := by
  simp [binOp, nil_code]
theorem nil_nilIn (w : World) (d : Nat) : (Op.equalIn (d + 1) 34 .nilIface .nilIface).run Try.prog w = .ok true w := by
  simp [Op.equalIn, run_underlying Try.underlying34]
theorem nil_nil (w : World) : (Op.equal 34 .nilIface .nilIface).run Try.prog w = .ok true w := nil_nilIn w 9999
theorem code_nil_nil (w : World) : (binOp .eql 34 .nilIface .nilIface).run Try.prog w = .ok (.bool true) w := by
  simp [binOp, nil_nil]
theorem code_nil_neq_nil (w : World) : (binOp .neq 34 .nilIface .nilIface).run Try.prog w = .ok (.bool false) w := by
  simp [binOp, nil_nil]
end Go.Proofs.Ytlngefhjoobmdaa
