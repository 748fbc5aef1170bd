/- The walks of FnvHashes, and of the head of layer 3's statements. -/
import Derived.Test.YtkfpolhglndbkaaFnv
import Derived.Test.YtkfpolhglndbkaaBase
namespace Go.Proofs.Ytkfpolhglndbkaa
open Go.RowKit

theorem fnvUp (w : World) : LawOk Try.prog 15 #[] w := by
  have e1 : hashL (⟨#[]⟩ : ByteArray).data.toList = 14695981039346656037 := hashL_nil
  have e2 : homeV (⟨#[]⟩ : ByteArray).data.toList 3 = 0 := by decide +kernel
  have e3 : homeV (⟨#[]⟩ : ByteArray).data.toList 8 = 5 := by decide +kernel
  have H1 := Lib.hid e1; have H2 := Lib.hid e2; have H3 := Lib.hid e3
  clear e1 e2 e3
  have hz : (⟨#[]⟩ : ByteArray).size ≤ maxLen := by decide
  unfold LawOk
  go_enter Try.func15, Try.ntmps15
  go_wp2_with fail
  refine (fnvHash _ _ hz).mono ?_
  rintro e w1 ⟨rfl, hb1⟩
  rw [H1.out]
  go_wp2_with fail
  refine (fnvHome _ _ _ hz).mono ?_
  rintro e w2 ⟨rfl, hb2⟩
  rw [H2.out]
  go_wp2_with fail
  refine (fnvHome _ _ _ hz).mono ?_
  rintro e w3 ⟨rfl, hb3⟩
  rw [H3.out]
  go_wp2_with fail
  go_ret
  exact ⟨rfl, below_next (below_next hb1 hb2) hb3⟩

theorem FnvHashes_walk (a0 : ByteArray) (a1 : Int) (w : World) (w0 : a0.size ≤ maxLen) (w1 : (Lit.int .i64 a1).wf = true) :
    LawOk Try.prog 3 #[.string a0, .int .i64 a1] w := by
  unfold LawOk
  by_cases hlen : 3000 < a0.size
  · go_enter Try.func3, Try.ntmps3
    go_wp2_with fail
    refine (fnvUp _).mono ?_
    rintro e W1 ⟨rfl, hb1⟩
    go_wp2_with fail
    go_ret
    exact ⟨rfl, hb1⟩
  · go_enter Try.func3, Try.ntmps3
    go_wp2_with fail
    refine (fnvUp _).mono ?_
    rintro e W1 ⟨rfl, hb1⟩
    go_wp2_with fail
    refine (fnvHash _ _ w0).mono ?_
    rintro e W2 ⟨rfl, hb2⟩
    go_wp2_with fail
    refine (refHash _ _ w0).mono ?_
    rintro e W3 ⟨rfl, rfl⟩
    go_wp2_with fail
    refine (fnvHome _ _ _ w0).mono ?_
    rintro e W4 ⟨rfl, hb4⟩
    go_wp2_with fail
    refine (refHome _ _ _ w0 w1).mono ?_
    rintro e W5 ⟨rfl, rfl⟩
    go_wp2_with fail
    go_ret
    exact ⟨by simp, below_next (below_next hb1 hb2) hb4⟩
end Go.Proofs.Ytkfpolhglndbkaa
