/- The head of layer 2's statements. -/
import Derived.Test.YtkfpolhglndbkaaPack
import Derived.Test.YtkfpolhglndbkaaReader
namespace Go.Proofs.Ytkfpolhglndbkaa
open Go.RowKit

set_option maxRecDepth 100000 in
set_option maxHeartbeats 1000000 in
theorem packUp (w : World) : LawOk Try.prog 34 #[] w := by
  have e1 : putL 258 2 = [2, 1] := by decide +kernel
  have e2 : rdNum 2 [2, 1] false = (258, [], false) := by decide +kernel
  have e3 : rdNum 1 [] false = (0, [], true) := by decide +kernel
  have H1 := Lib.hid e1; have H2 := Lib.hid e2; have H3 := Lib.hid e3
  clear e1 e2 e3
  unfold LawOk
  go_enter Try.func34, Try.ntmps34
  go_wp2_with fail
  refine (packNew _ _ _ _).mono ?_
  rintro e w1 ⟨rfl, rfl⟩
  have hrd : Reads (w.alloc (.cells #[.int .u8 2, .int .u8 1] 5)) (.slice (some ⟨w.heap.size, 0, none⟩) [(2 : UInt8), 1].length 2) [2, 1] :=
    ⟨_, 2, rfl, isBytes_new _ _ _ _ _ rfl, by decide, by decide, fun e => (by cases e), fun x hx _ => by cases hx; exact ⟨rfl, by simp⟩⟩
  have hr := isReader_new hrd
  have HR := Lib.hid hr
  clear hr hrd
  simp only [List.length_cons, List.length_nil, World.size_alloc, Nat.zero_add, Nat.reduceAdd] at HR
  have hb0 := ((Below.refl w.heap.size w).alloc (Nat.le_refl _) (.cells #[.int .u8 2, .int .u8 1] 5)).alloc (by simp) (.cells #[.slice (some ⟨w.heap.size, 0, none⟩) 2 2, .bool false] 102)
  go_wp2_with fail
  generalize World.alloc (World.alloc w _) _ = W0 at HR hb0 ⊢
  refine (packPut W0.heap.size (.slice none 0 0) [] 258 2 _ (OwnB.nil _ _) (Nat.le_refl _) (by simp) (by omega) (by omega) (by omega)).mono ?_
  rintro e w2 ⟨v, rfl, ho, hg⟩
  rw [List.nil_append, H1.out] at ho
  obtain ⟨a, cap, rfl, hba, _, _⟩ := ho.out
  have kc := run_string_bytes w2 a cap _ hba
  simp only [List.length_cons, List.length_nil, Nat.zero_add, Nat.reduceAdd] at kc ⊢
  have hb2 : Below W0.heap.size W0 w2 := hg.below (Nat.le_refl _) (fun k hk => by simp [Value.ownBlock] at hk)
  have HR2 := Lib.hid (HR.out.bel hb2)
  clear ho hg hba
  go_wp2_with fail
  refine (packNumber (w.heap.size + 1) [2, 1] false 2 _ HR2.out).mono ?_
  rw [H2.out]
  rintro e w3 ⟨rfl, hr, hg⟩
  have hb3 := below_grownBy hg (Nat.le_trans hb0.size hb2.size) (Nat.le_succ _)
  have HR3 := Lib.hid hr
  clear hr hg kc
  simp only at HR3
  go_wp2_with fail
  refine (packShort (w.heap.size + 1) [] false _ HR3.out).mono ?_
  rintro e w4 ⟨rfl, rfl⟩
  go_wp2_with fail
  refine (packNumber (w.heap.size + 1) [] false 1 _ HR3.out).mono ?_
  rw [H3.out]
  rintro e w4 ⟨rfl, hr, hg⟩
  have hb4 := below_grownBy hg (Nat.le_trans (Nat.le_trans hb0.size hb2.size) hb3.size) (Nat.le_succ _)
  have HR4 := Lib.hid hr
  clear hr hg
  simp only at HR4
  go_wp2_with fail
  refine (packShort (w.heap.size + 1) [] true _ HR4.out).mono ?_
  rintro e w5 ⟨rfl, rfl⟩
  go_wp2_with fail
  go_ret
  exact ⟨rfl, hb0.trans ((hb2.mono hb0.size).trans (hb3.trans hb4))⟩
end Go.Proofs.Ytkfpolhglndbkaa
