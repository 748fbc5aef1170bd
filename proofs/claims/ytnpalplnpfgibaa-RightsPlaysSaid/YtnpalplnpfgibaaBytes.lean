/- Rows of bytes that a call owns: append from whatever source; conversions. Over this seat's program. -/
import Derived.Test.YtnpalplnpfgibaaProg
import Derived.Test.YtnpalplnpfgibaaBase
import Derived.WalkKit
import Derived.Deep.AppendSrc
import Derived.Laws.AppendOwn
import Derived.Laws.IdiomStrings
import Derived.Lib.ConvBytes
import Derived.Lib.Hide
namespace Go.Proofs.Ytnpalplnpfgibaa
open Go.RowKit

/-- A value has grown: of the blocks that were there its own alone may be written; its block is that, or a new one. -/
def Grew (w w' : World) (v v' : Value) : Prop := w.grownBy w' v.ownBlock ∧ ∀ k, v'.ownBlock = some k → v.ownBlock = some k ∨ w.heap.size ≤ k
theorem Grew.refl (w : World) (v : Value) : Grew w w v v := ⟨⟨rfl, rfl, rfl, Nat.le_refl _, fun _ _ _ => rfl⟩, fun _ h => .inl h⟩
theorem Grew.trans {w w1 w2 : World} {v v1 v2 : Value} (h : Grew w w1 v v1) (k : Grew w1 w2 v1 v2) : Grew w w2 v v2 := by
  refine ⟨⟨k.1.os.trans h.1.os, k.1.tape.trans h.1.tape, k.1.output.trans h.1.output, Nat.le_trans h.1.size k.1.size, fun i hi hne => ?_⟩, fun i hi => ?_⟩
  · rw [k.1.block i (Nat.lt_of_lt_of_le hi h.1.size) (fun e => ?_), h.1.block i hi hne]
    rcases h.2 i e.symm with h1 | h1
    · exact hne h1.symm
    · omega
  · rcases k.2 i hi with h1 | h1
    · exact h.2 i h1
    · exact .inr (Nat.le_trans h.1.size h1)
/-- What turns no block that was there. -/
theorem Grew.of_below {w w' : World} (v : Value) (h : Below w.heap.size w w') : Grew w w' v v := ⟨⟨h.os, h.tape, h.output, h.size, fun k hk _ => h.block k hk⟩, fun _ h => .inl h⟩
theorem Grew.below {B : Nat} {w w' : World} {v v' : Value} (h : Grew w w' v v') (hB : B ≤ w.heap.size) (hb : ∀ k, v.ownBlock = some k → B ≤ k) : Below B w w' :=
  (Below.refl B w).grown h.1 hB hb
/-- append, onto a row that the call owns, of whatever source. -/
theorem run_append_own_src {P : Program} (w : World) (base : Nat) (t tx ty e : TypeId) (i : TypeInfo) (z : Value) (ht : P.underlying t = some (.slice e)) (hi : P.info? e = some i) (hz : i.zero = some z)
    (hzs : z.cells.size = i.size) (v : Value) (n : Nat) (xs : List Value) (hown : w.ownsRow base e i.size v n xs) (x : Value) (m : Nat) (news : List Value) (hs : Src P i.size tx x m news w)
    (h63 : n + m ≤ maxLen) (hbytes : (n + m) * i.bytes ≤ 140737488355328) (hbase : base ≤ w.heap.size) :
    ∃ v' w', (Builtin.append_ #[t, tx] ty #[v, x]).run P w = .ok v' w' ∧ w'.ownsRow base e i.size v' (n + m) (xs ++ news) ∧ Grew w w' v v' := by
  have hsmall : n + m ≤ 9223372036854775807 := by simp only [maxLen] at h63; omega
  have hlen : (xs ++ news).length = (n + m) * i.size := by rw [List.length_append, hown.1, hs.newsLen, Nat.add_mul]
  have grow : ∀ (old : Nat) (b : Option Addr), old < n + m → n ≤ old → (Builtin.firstCells i.size n (.slice b n old)).run P w.drew = .ok xs.toArray w.drew →
      ∃ v' w', (Builtin.append_ #[t, tx] ty #[.slice b n old, x]).run P w = .ok v' w' ∧ w'.ownsRow base e i.size v' (n + m) (xs ++ news) ∧ Grew w w' (.slice b n old) v' := by
    intro old b ho hno hold
    have hge := grownCap_ge w (n + m) old e
    have hcm := grownCap_le_maxLen w (n + m) old e h63
    refine ⟨_, _, run_append_grow_src w t tx ty e i z ht hi hz b n old xs hold x m news hs ho (by omega) (growslice_fits (by omega) hbytes), ⟨hlen, .inr ⟨w.heap.size, _, _, rfl, hbase, heap_alloc_new w.drew _, hge, hcm, ?_, ?_⟩⟩, ⟨⟨rfl, rfl, rfl, by simp, fun k hk _ => Below.heap_alloc w.drew _ k hk⟩, fun k hk => .inr (by simp [Value.ownBlock] at hk; omega)⟩⟩
    · simp only [Array.size_append, List.size_toArray, size_zeroCells, hzs, hlen]
      rw [← Nat.add_mul]; congr 1; omega
    · simp only [Array.toList_append]
      rw [← hlen]
      exact List.take_left
  rcases hown.2 with ⟨rfl, rfl⟩ | ⟨g, cap, cur, rfl, hbg, hg, hnc, hcm, hcs, htake⟩
  · have hx : xs = [] := List.eq_nil_of_length_eq_zero (by simpa using hown.1)
    subst hx
    by_cases hm : m = 0
    · subst hm
      have hn : news = [] := List.eq_nil_of_length_eq_zero (by simpa using hs.newsLen)
      subst hn
      refine ⟨.slice none 0 0, w, ?_, World.ownsRow_nil w base e i.size, ⟨⟨rfl, rfl, rfl, Nat.le_refl _, fun _ _ _ => rfl⟩, fun k hk => .inl hk⟩⟩
      rcases hs.kind with ⟨e', hk⟩ | hk <;> simp [Builtin.append_, run_underlying ht, run_underlying hk, sizeOf, typeInfo, hi, hs.len, hs.cells]
    · exact grow 0 none (by omega) (Nat.le_refl _) (run_firstCells_none w.drew i.size 0 0 0)
  · by_cases hroom : n + m ≤ cap
    · have hfit : n * i.size + news.length ≤ cur.size := by rw [hs.newsLen, hcs, ← Nat.add_mul]; exact Nat.mul_le_mul_right _ hroom
      have hst := run_storeCells_at P g (n * i.size) e news 0 cur w hg (by simpa using hfit) hs.one
      simp only [Nat.add_zero] at hst
      have hr : (Builtin.append_ #[t, tx] ty #[.slice (some ⟨g, 0, none⟩) n cap, x]).run P w = .ok (.slice (some ⟨g, 0, none⟩) (n + m) cap) (w.setRow g (cur.toList.take (n * i.size) ++ news ++ cur.toList.drop (n * i.size + news.length)).toArray) := by
        rcases hs.kind with ⟨e', hk⟩ | hk <;> simp [Builtin.append_, run_underlying ht, run_underlying hk, sizeOf, typeInfo, hi, hs.len, hroom, hs.cells, Addr.add_lit, hst]
      refine ⟨_, _, hr, ⟨hlen, .inr ⟨g, cap, _, rfl, hbg, setRow_heap w g cur _ e _ hg, hroom, hcm, ?_, ?_⟩⟩, ⟨⟨rfl, rfl, rfl, by simp, fun k _ hk => setRow_other w g k _ (fun e => hk (by simp [Value.ownBlock, e]))⟩, fun k hk => .inl hk⟩⟩
      · simp only [List.size_toArray, List.length_append, List.length_take, List.length_drop, Array.length_toList]
        omega
      · rw [htake, ← hlen]
        exact List.take_left
    · have holds : ∀ j u, xs[j]? = some u → w.cell? ((⟨g, 0, none⟩ : Addr).add j) = some u := hown.cells (g := g) rfl
      exact grow cap _ (by omega) hnc (run_firstCells_some w.drew i.size n _ n cap xs hown.1 (by simpa using holds))

def u8V (b : UInt8) : Value := .int .u8 (b.toNat : Int)
/-- v is a slice of bytes that the call owns (its block is B or a later one); it reads l. -/
def OwnB (B : Nat) (w : World) (v : Value) (l : List UInt8) : Prop := w.ownsRow B 5 1 v l.length (l.map u8V)
theorem OwnB.out {B : Nat} {w : World} {v : Value} {l : List UInt8} (h : OwnB B w v l) : ∃ a cap, v = .slice a l.length cap ∧ IsBytes w a l ∧ l.length ≤ cap ∧ cap ≤ maxLen := by
  rcases h.2 with ⟨rfl, h0⟩ | ⟨g, cap, cur, rfl, hbg, hg, hnc, hcm, hcs, htake⟩
  · have : l = [] := List.eq_nil_of_length_eq_zero h0
    subst this
    exact ⟨none, 0, rfl, IsBytes.nil _ _, Nat.le_refl _, Nat.zero_le _⟩
  · refine ⟨_, cap, rfl, fun i hi => ⟨g, 0, rfl, (Array.getElem?_eq_some_iff.1 hg).1, ?_⟩, hnc, hcm⟩
    rw [cell_of_row w g (0 + i) cur _ _ hg, Nat.zero_add]
    have h1 : (cur.toList.take (l.length * 1))[i]? = some (u8V l[i]) := by rw [htake]; simp [hi]
    rw [List.getElem?_take_of_lt (by omega)] at h1
    simpa [u8V] using h1
theorem OwnB.nil (B : Nat) (w : World) : OwnB B w (.slice none 0 0) [] := World.ownsRow_nil w B _ 1
/-- '[]byte{}'. -/
theorem OwnB.empty (B : Nat) (w : World) (hB : B ≤ w.heap.size) : OwnB B (w.alloc (.cells #[] 5)) (.slice (some ⟨w.heap.size, 0, none⟩) 0 0) [] :=
  ⟨rfl, .inr ⟨w.heap.size, 0, #[], rfl, hB, heap_alloc_new w _, Nat.le_refl _, Nat.zero_le _, rfl, rfl⟩⟩
theorem OwnB.block {B : Nat} {w : World} {v : Value} {l : List UInt8} (h : OwnB B w v l) : ∀ k, v.ownBlock = some k → B ≤ k ∧ k < w.heap.size := by
  intro k hk
  rcases h.2 with ⟨rfl, h0⟩ | ⟨g, cap, cur, rfl, hbg, hg, _⟩
  · simp [Value.ownBlock] at hk
  · simp [Value.ownBlock] at hk
    subst hk
    exact ⟨hbg, (Array.getElem?_eq_some_iff.1 hg).1⟩
/-- What a call owns stays, where no block that was there is written. -/
theorem OwnB.bel {B : Nat} {w w' : World} {v : Value} {l : List UInt8} (h : OwnB B w v l) (hb : Below w.heap.size w w') : OwnB B w' v l := by
  refine ⟨h.1, ?_⟩
  rcases h.2 with h2 | ⟨g, cap, cur, hv, hbg, hg, hr⟩
  · exact .inl h2
  · exact .inr ⟨g, cap, cur, hv, hbg, by rw [hb.block g (Array.getElem?_eq_some_iff.1 hg).1]; exact hg, hr⟩
/-- A store into it. -/
theorem OwnB.get {B : Nat} {w : World} {v : Value} {l : List UInt8} (h : OwnB B w v l) (hne : 0 < l.length) : ∃ g cap, v = .slice (some ⟨g, 0, none⟩) l.length cap ∧ B ≤ g ∧ g < w.heap.size ∧ l.length ≤ cap ∧ cap ≤ maxLen ∧
    (∀ i (hi : i < l.length), w.cell? ⟨g, i, none⟩ = some (.int .u8 (l[i].toNat : Int))) ∧ (∀ i, w.frozen? ⟨g, i, none⟩ = false) ∧ (∀ i (y : UInt8), i < l.length → OwnB B (w.setCell ⟨g, i, none⟩ (.int .u8 (y.toNat : Int))) v (l.set i y)) := by
  obtain ⟨a, cap', hv, hb, _⟩ := h.out
  rcases h.2 with ⟨rfl, h0⟩ | ⟨g, cap, cur, rfl, hbg, hg, hnc, hcm, hcs, htake⟩
  · omega
  · refine ⟨g, cap, rfl, hbg, (Array.getElem?_eq_some_iff.1 hg).1, hnc, hcm, fun i hi => ?_, fun i => frozen_of_row w g i cur _ hg, fun i y hi => ⟨by simp, .inr ⟨g, cap, cur.setIfInBounds i (.int .u8 (y.toNat : Int)), by simp, hbg, heap_setCell_same w g i cur _ _ hg, by simpa using hnc, hcm, by simpa using hcs, ?_⟩⟩⟩
    · obtain ⟨b, off, h1, _, h3⟩ := hb i hi
      simp only [Value.slice.injEq] at hv
      rw [h1] at hv
      simp at hv
      obtain ⟨⟨rfl, rfl⟩, _⟩ := hv
      simpa using h3
    · apply List.ext_getElem?
      intro k
      have hk := congrArg (·[k]?) htake
      simp only [List.getElem?_take, List.getElem?_map, List.length_set, Nat.mul_one, Array.toList_setIfInBounds, List.getElem?_set] at hk ⊢
      by_cases hkl : k < l.length
      · rw [if_pos hkl] at hk ⊢
        by_cases hik : i = k
        · subst hik
          have hcu : i < cur.size := by rw [hcs]; omega
          simp [hcu, hi, u8V]
        · rw [if_neg hik, if_neg hik]; exact hk
      · rw [if_neg hkl] at hk ⊢
        have : ¬ (i = k) := by omega
        rw [if_neg this]
        rw [hk]
theorem below_of_grown {B : Nat} {w w' : World} {v v' : Value} {l : List UInt8} (h : OwnB B w v l) (hB : B ≤ w.heap.size) (hg : Grew w w' v v') : Below B w w' :=
  hg.below hB (fun k hk => (h.block k hk).1)
/-- The bytes of another row, behind a growth. -/
theorem IsBytes.grew {w w' : World} {v v' : Value} {a : Option Addr} {l : List UInt8} (h : IsBytes w a l) (hg : Grew w w' v v') (hne : ∀ b off, a = some ⟨b, off, none⟩ → v.ownBlock ≠ some b) : IsBytes w' a l := by
  intro i hi
  obtain ⟨b, off, h1, h2, h3⟩ := h i hi
  refine ⟨b, off, h1, Nat.lt_of_lt_of_le h2 hg.1.size, ?_⟩
  rw [← h3]
  exact World.cell?_of_block (w := w) (hg.1.block b h2 (fun e => hne b off h1 e.symm))
theorem info_u8 : (Try.prog.info? 5).map (fun i => (i.zero, i.size, i.bytes)) = some (some (.int .u8 0), 1, 1) := by kernel_rfl
/-- What a source of bytes yields. -/
def SrcB (tx : TypeId) (x : Value) (w : World) (l : List UInt8) : Prop := Src Try.prog 1 tx x l.length (l.map u8V) w
theorem SrcB.ofBytes {w : World} {a : Option Addr} {l : List UInt8} (cap : Nat) (h : IsBytes w a l) : SrcB 45 (.slice a l.length cap) w l := by
  cases a with
  | none =>
    have : l = [] := by
      cases l with
      | nil => rfl
      | cons x l => obtain ⟨b, off, h1, _⟩ := h 0 (by simp); cases h1
    subst this
    exact Src.ofNil w (size := 1) Try.underlying45 cap
  | some a =>
    cases l with
    | nil => exact Src.ofSlice w Try.underlying45 a 0 cap [] rfl (fun j u hj => by simp at hj) (fun u hu => by cases hu)
    | cons x l =>
      obtain ⟨b, off, h1, _⟩ := h 0 (by simp)
      cases h1
      refine Src.ofSlice w Try.underlying45 ⟨b, off, none⟩ _ cap _ (by simp) (fun j u hj => ?_) (fun u hu => ?_)
      · have hlt : j < (x :: l).length := by
          have := (List.getElem?_eq_some_iff.1 hj).1; simpa using this
        obtain ⟨b', off', h2, _, h3⟩ := h j hlt
        cases h2
        have hadd : (⟨b, off, none⟩ : Addr).add j = ⟨b, off + j, none⟩ := by unfold Addr.add; split <;> simp_all
        rw [hadd, h3]
        rw [List.getElem?_map, List.getElem?_eq_getElem hlt] at hj
        simp [u8V] at hj ⊢
        exact hj
      · obtain ⟨y, _, rfl⟩ := List.mem_map.1 hu; rfl
theorem SrcB.ofString (w : World) (s : ByteArray) : SrcB 9 (.string s) w s.data.toList :=
  Src.ofString w (P := Try.prog) Try.underlying9 s
/-- append, onto bytes of one's own. -/
theorem run_append_bytes (w : World) (B : Nat) (tx ty : TypeId) (v : Value) (l : List UInt8) (h : OwnB B w v l) (x : Value) (news : List UInt8) (hs : SrcB tx x w news) (hB : B ≤ w.heap.size) (hsz : l.length + news.length ≤ 140737488355328) :
    ∃ v' w', (Builtin.append_ #[45, tx] ty #[v, x]).run Try.prog w = .ok v' w' ∧ OwnB B w' v' (l ++ news) ∧ Grew w w' v v' := by
  have hinf := info_u8
  cases hi : Try.prog.info? 5 with
  | none => rw [hi] at hinf; cases hinf
  | some i =>
    rw [hi] at hinf
    simp only [Option.map_some, Option.some.injEq, Prod.mk.injEq] at hinf
    obtain ⟨hz, h1, h2⟩ := hinf
    have hown : w.ownsRow B 5 i.size v l.length (l.map u8V) := by rw [h1]; exact h
    have hsrc : Src Try.prog i.size tx x news.length (news.map u8V) w := by rw [h1]; exact hs
    obtain ⟨v', w', hr, ho, hg⟩ := run_append_own_src w B 45 tx ty 5 i _ Try.underlying45 hi hz (by rw [h1]; rfl) v l.length _ hown x news.length _ hsrc (by unfold maxLen; omega) (by rw [h2]; omega) hB
    refine ⟨v', w', hr, ?_, hg⟩
    rw [h1, ← List.map_append, ← List.length_append] at ho
    exact ho
/-- .. as an operation of a region. -/
theorem wpList_append_bytes {ops : Array Oper} {rest : List Oper} {o : Oper} {a : Act} {w : World} {Q : Exit → Act → World → Prop} (hgd : o.guard = none) (s x : Operand) (tx : TypeId)
    (ho : o.op = .call { callee := .builtin .append, args := #[s, x], argTypes := #[45, tx] }) (B : Nat) (v : Value) (l : List UInt8) (hs : a.eval s = v) (hown : OwnB B w v l)
    (y : Value) (news : List UInt8) (hx : a.eval x = y) (hsrc : SrcB tx y w news) (hB : B ≤ w.heap.size) (hsz : l.length + news.length ≤ 140737488355328)
    (h : ∀ v' w', OwnB B w' v' (l ++ news) → Grew w w' v v' → wpList Try.prog ops Q rest (a.put o.dst v') w') : wpList Try.prog ops Q (o :: rest) a w :=
  wpList_plain hgd fun _ hK => by
    obtain ⟨v', w', hr, h2, h3⟩ := run_append_bytes w B tx o.type v l hown y news hsrc hB hsz
    unfold Oper.wp execOp
    simp only [ho, resolve, invoke, builtin, Sem.run_bind, Sem.run_pure, Result.andThen_ok, List.map_toArray, List.map_cons, List.map_nil, hs, hx, hr, Oper.upon_value]
    exact hK _ _ (h v' w' h2 h3)
/-- A literal's row. -/
theorem isBytes_new (w : World) (C : Array Value) (e : TypeId) (fr : Nat × Nat) (l : List UInt8) (hC : C = (l.map u8V).toArray) : IsBytes (w.alloc (.cells C e fr)) (some ⟨w.heap.size, 0, none⟩) l := by
  subst hC
  intro i hi
  refine ⟨w.heap.size, 0, rfl, by simp, ?_⟩
  rw [cell_of_row _ w.heap.size (0 + i) _ e fr (heap_alloc_new w _), Nat.zero_add]
  simp [u8V, hi]
theorem srcB_one (w : World) (x : Int) (b : UInt8) (h : x = b.toNat) : SrcB 45 (.slice (some ⟨w.heap.size, 0, none⟩) 1 1) (w.alloc (.cells #[.int .u8 x] 5)) [b] := by
  subst h
  exact SrcB.ofBytes (l := [b]) 1 (isBytes_new w _ _ _ [b] rfl)
theorem OwnB.alloc {B : Nat} {w : World} {v : Value} {l : List UInt8} (h : OwnB B w v l) (o : Obj) : OwnB B (w.alloc o) v l := h.bel ((Below.refl _ _).alloc (Nat.le_refl _) _)
theorem Grew.after_alloc {w w' : World} {v v' : Value} {o : Obj} (h : Grew (w.alloc o) w' v v') : Grew w w' v v' :=
  (Grew.of_below v ((Below.refl _ w).alloc (Nat.le_refl _) o)).trans h
/-- 'string(b)'. -/
theorem run_string_bytes (w : World) (a : Option Addr) (cap : Nat) (l : List UInt8) (h : IsBytes w a l) :
    (convert 45 9 (.slice a l.length cap)).run Try.prog w = .ok (.string ⟨l.toArray⟩) w := by
  cases l with
  | nil =>
    rw [run_convert_bytes_string w 45 9 5 a [].length cap Try.underlying45 Try.underlying5 Try.underlying9]
    cases a with
    | none => rfl
    | some a =>
      have := run_loadCells_list (P := Try.prog) w a [] (fun j v hj => by simp at hj)
      exact (run_bytesToString w a 0 cap [] (by simpa using this)).trans (by rfl)
  | cons x l =>
    obtain ⟨b, off, h1, _⟩ := h 0 (by simp)
    subst h1
    refine run_convert_bytes_back w 45 9 5 ⟨b, off, none⟩ cap (x :: l) Try.underlying45 Try.underlying5 Try.underlying9 (fun j hj => ?_)
    obtain ⟨b', off', h2, _, h3⟩ := h j hj
    cases h2
    have hadd : (⟨b, off, none⟩ : Addr).add j = ⟨b, off + j, none⟩ := by unfold Addr.add; split <;> simp_all
    rw [hadd, h3]
end Go.Proofs.Ytnpalplnpfgibaa
