/- The walk of DiskKeeps. -/
import Derived.Test.YtnpalplnpfgibaaDiskKeepsA
import Derived.Test.YtnpalplnpfgibaaDiskKeepsB
import Derived.Test.YtnpalplnpfgibaaDiskKeepsC
namespace Go.Proofs.Ytnpalplnpfgibaa
open Go.RowKit
theorem DiskKeeps_walk (a0 : Int) (a1 : Option Addr) (len1 cap1 : Nat) (z1 : List Int) (a2 : Option Addr) (len2 cap2 : Nat) (z2 : List Int) (a3 : Int) (a4 : Option Addr) (len4 cap4 : Nat) (z4 : In_DiskKeeps_4.T) (w : World) (w0 : (Lit.int .i64 a0).wf = true) (w1 : IsRow .u8 w a1 len1 cap1 z1) (w2 : IsRow .u8 w a2 len2 cap2 z2) (w3 : (Lit.int .i64 a3).wf = true) (w4 : In_DiskKeeps_4 w a4 len4 cap4 z4) :
    LawOk Try.prog 5 #[.int .i64 a0, .slice a1 len1 cap1, .slice a2 len2 cap2, .int .i64 a3, .slice a4 len4 cap4] w := by
  obtain ⟨la, rfl, _, _, h1⟩ := w1.bytes
  obtain ⟨lb, rfl, hcc, _, h2⟩ := w2.bytes
  obtain ⟨rfl, hz, _⟩ := w4
  have hc1 := (i64_of_wf w0).2
  have hk1 := (i64_of_wf w3).2
  by_cases b1 : 1000 < la.length
  · exact keepsHead1 _ _ _ _ _ _ _ _ _ _ _ w b1
  · by_cases b2 : 1000 < lb.length
    · exact keepsHead2 _ _ _ _ _ _ _ _ _ _ _ w b1 b2
    · by_cases b3 : 100 < z4.length
      · exact keepsHead3 _ _ _ _ _ _ _ _ _ _ _ w b1 b2 b3
      · by_cases b4 : a0 < 0
        · exact keepsHead4 _ _ _ _ _ _ _ _ _ _ _ w b1 b2 b3 b4
        · by_cases b5 : a0 < la.length
          · exact keepsFull1 _ _ _ _ _ _ _ _ _ _ _ w (by omega) (by omega) (by omega) (by omega) hc1 h1 h2 hcc b5
          · by_cases b6 : a0 - la.length < lb.length
            · exact keepsFull2 _ _ _ _ _ _ _ _ _ _ _ w (by omega) (by omega) (by omega) (by omega) hc1 h1 h2 hcc b5 b6
            · by_cases b7 : a3 ≤ 0
              · exact keepsOkA _ _ _ _ _ _ _ _ _ _ _ w (by omega) (by omega) (by omega) hz (by omega) hc1 h1 h2 hcc b5 b6 hk1 b7
              · by_cases b8 : (lb.length : Int) < a3
                · exact keepsOkC _ _ _ _ _ _ _ _ _ _ _ w (by omega) (by omega) (by omega) hz (by omega) hc1 h1 h2 hcc b5 b6 hk1 ⟨by omega, b8⟩
                · obtain ⟨k, rfl⟩ : ∃ k : Nat, a3 = (k : Int) := ⟨a3.toNat, by omega⟩
                  exact keepsOkB _ _ _ _ _ _ _ _ _ _ _ w (by omega) (by omega) (by omega) hz (by omega) hc1 h1 h2 hcc b5 b6 hk1 k rfl ⟨by omega, by omega⟩
end Go.Proofs.Ytnpalplnpfgibaa
