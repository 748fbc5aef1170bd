/- append onto a literal '[]T{}': nothing that lay turns. -/
import Derived.Test.YtnpalplnpfgibaaOwnOf
namespace Go.Proofs.Ytnpalplnpfgibaa
open Go.RowKit
theorem run_append_new {P : Program} (w : World) (t tx ty e : TypeId) (i : TypeInfo) (z : Value) (ht : P.underlying t = some (.slice e)) (hi : P.info? e = some i) (hz : i.zero = some z)
    (hzs : z.cells.size = i.size) (g : Nat) (hg : w.heap[g]? = some (.cells #[] e (0, 0))) (x : Value) (m : Nat) (news : List Value) (hs : Src P i.size tx x m news w)
    (h63 : m ≤ maxLen) (hbytes : m * i.bytes ≤ 140737488355328) :
    ∃ v' w', (Builtin.append_ #[t, tx] ty #[.slice (some ⟨g, 0, none⟩) 0 0, x]).run P w = .ok v' w' ∧ w'.ownsRow g e i.size v' m news ∧ Below w.heap.size w w' ∧ (∀ k, v'.ownBlock = some k → k = g ∨ w.heap.size ≤ k) := by
  have hsmall : m ≤ 9223372036854775807 := by simp only [maxLen] at h63; omega
  have hgl : g < w.heap.size := (Array.getElem?_eq_some_iff.1 hg).1
  by_cases hm : m = 0
  · subst hm
    have hn : news = [] := List.eq_nil_of_length_eq_zero (by simpa using hs.newsLen)
    subst hn
    have hst := run_storeCells_at P g 0 e [] 0 #[] w hg (by simp) hs.one
    simp only [Nat.add_zero] at hst
    have hr : (Builtin.append_ #[t, tx] ty #[.slice (some ⟨g, 0, none⟩) 0 0, x]).run P w = .ok (.slice (some ⟨g, 0, none⟩) 0 0) (w.setRow g ((#[] : Array Value).toList.take 0 ++ [] ++ (#[] : Array Value).toList.drop 0).toArray) := by
      rcases hs.kind with ⟨e', hk⟩ | hk <;> simp [Builtin.append_, run_underlying ht, run_underlying hk, sizeOf, typeInfo, hi, hs.len, hs.cells, Addr.add_lit] <;> (simp at hst; rw [hst]; rfl)
    have hg' := setRow_heap w g #[] ((#[] : Array Value).toList.take 0 ++ [] ++ (#[] : Array Value).toList.drop 0).toArray e _ hg
    refine ⟨_, _, hr, ⟨by simp, .inr ⟨g, 0, _, rfl, Nat.le_refl _, hg', Nat.le_refl _, Nat.zero_le _, by simp, by simp⟩⟩, ⟨rfl, rfl, rfl, by simp, fun k hk => ?_⟩, fun k hk => .inl (by simp [Value.ownBlock] at hk; omega)⟩
    by_cases e1 : k = g
    · subst e1
      rw [hg', hg]
      rfl
    · exact setRow_other w g k _ e1
  · have hge := grownCap_ge w (0 + m) 0 e
    have hcm := grownCap_le_maxLen w (0 + m) 0 e (by omega)
    have hlen : news.length = m * i.size := hs.newsLen
    refine ⟨_, _, run_append_grow_src w t tx ty e i z ht hi hz (some ⟨g, 0, none⟩) 0 0 [] (run_firstCells_some w.drew i.size 0 _ 0 0 [] (by simp) (fun j u h => by simp at h)) x m news hs (by omega) (by omega) (growslice_fits (by omega) (by rw [Nat.zero_add]; exact hbytes)), ⟨hlen, .inr ⟨w.heap.size, _, _, by rw [Nat.zero_add], by omega, heap_alloc_new w.drew _, by omega, hcm, ?_, ?_⟩⟩, ⟨rfl, rfl, rfl, by simp, fun k hk => Below.heap_alloc w.drew _ k hk⟩, fun k hk => .inr (by simp [Value.ownBlock] at hk; omega)⟩
    · simp only [Array.size_append, List.size_toArray, size_zeroCells, hzs, List.nil_append, hlen]
      rw [← Nat.add_mul]; congr 1; omega
    · simp only [Array.toList_append, List.nil_append]
      rw [← hlen]
      exact List.take_left
theorem gives_append_new {o : Oper} {a : Act} {w : World} (s x : Operand) (ho : o.op = .call { callee := .builtin .append, args := #[s, x], argTypes := #[45, 45] }) (g : Nat) (hs : a.eval s = .slice (some ⟨g, 0, none⟩) 0 0) (hg : w.heap[g]? = some (.cells #[] 5 (0, 0)))
    (y : Value) (news : List UInt8) (hx : a.eval x = y) (hsrc : SrcB 45 y w news) (hsz : news.length ≤ 100000000000) :
    Reg.gives Try.prog o a w (fun v' w' => OwnB g w' v' news ∧ Below w.heap.size w w' ∧ (∀ k, v'.ownBlock = some k → k = g ∨ w.heap.size ≤ k)) := by
  obtain ⟨i, z, hi, hz0, hz, h1, h2⟩ : ∃ i z, Try.prog.info? 5 = some i ∧ i.zero = some z ∧ z.cells.size = i.size ∧ i.size = 1 ∧ i.bytes = 1 := by
    have hinf : (Try.prog.info? 5).map (fun i => (i.zero, i.size, i.bytes)) = some (some (.int .u8 0), 1, 1) := by kernel_rfl
    cases hi : Try.prog.info? 5 with
    | none => rw [hi] at hinf; cases hinf
    | some i =>
      rw [hi] at hinf
      simp only [Option.map_some, Option.some.injEq, Prod.mk.injEq] at hinf
      exact ⟨i, _, rfl, hinf.1, by rw [hinf.2.1]; rfl, hinf.2.1, hinf.2.2⟩
  obtain ⟨v', w', hr, h3, h4, h5⟩ := run_append_new w 45 45 o.type 5 i z Try.underlying45 hi hz0 hz g hg y news.length (news.map u8V) (by rw [h1]; exact hsrc) (by unfold maxLen; omega) (by rw [h2]; omega)
  rw [h1] at h3
  unfold Reg.gives execOp
  simp only [ho, resolve, invoke, builtin, Sem.run_bind, Sem.run_pure, Result.andThen_ok, List.map_toArray, List.map_cons, List.map_nil, hs, hx, hr]
  exact ⟨h3, h4, h5⟩
end Go.Proofs.Ytnpalplnpfgibaa
