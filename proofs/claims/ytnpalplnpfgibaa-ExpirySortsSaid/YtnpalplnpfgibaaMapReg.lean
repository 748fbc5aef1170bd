/- Maps in a drawn region: a read, a store. -/
import Derived.Test.YtnpalplnpfgibaaOne
import Derived.Test.YtnpalplnpfgibaaProg
import Derived.Maps.OwnOps
namespace Go.Proofs.Ytnpalplnpfgibaa
open Go.RowKit
theorem gives_lookup_int {H : Type} {o : Oper} {a : Act} {w : World} (m x : Operand) (t : TypeId) (ho : o.op = .lookup t m x false) (k e : TypeId) (q : IntKind) (K : Maps.Keyed Try.prog k) (ht : Try.prog.underlying t = some (.map k e)) (he : Try.prog.underlying e = some (.int q)) (hz : (zeroValue e).run Try.prog w = .ok (.int q 0) w) (b n : Nat) (D : DataW H)
    (hm : a.eval m = .map (some b)) (hown : w.ownsMap Try.prog k (plainElem Try.prog e) b n D) (key : Value) (kl : Lit) (hx : a.eval x = key) (hkey : keyOf Try.prog k key = some kl) (c : Int) (hc : D.atKey kl (.lit (.int q 0)) = .lit (.int q c)) :
    Reg.gives Try.prog o a w (fun v' w' => w' = w ∧ v' = .int q c) := by
  obtain ⟨c', hrun, hat, hwc⟩ := hown.lookup_int K ht he hz hkey
  rw [hat] at hc
  cases hc
  unfold Reg.gives execOp
  simp only [ho, hm, hx, Sem.run_bind, hrun, Result.andThen_ok, Sem.run_pure]
  exact ⟨trivial, trivial⟩
theorem gives_mapUpdate {H : Type} {o : Oper} {a : Act} {w : World} (m x v : Operand) (t : TypeId) (ho : o.op = .mapUpdate t m x v) (k e : TypeId) (K : Maps.Keyed Try.prog k) (ht : Try.prog.underlying t = some (.map k e)) (R : Value → Option (DataW H × List MemPlace)) (b n : Nat) (D : DataW H)
    (hm : a.eval m = .map (some b)) (hown : w.ownsMap Try.prog k R b n D) (hn : n < maxLen) (key val : Value) (kl : Lit) (hx : a.eval x = key) (hv : a.eval v = val) (hkey : keyOf Try.prog k key = some kl) (d : DataW H) (ps : List MemPlace) (hval : R val = some (d, ps)) :
    Reg.gives Try.prog o a w (fun _ w' => w'.ownsMap Try.prog k R b (n + 1) (D.put kl d) ∧ w.grownBy w' (some b)) := by
  obtain ⟨w', hrun, r1, r2⟩ := hown.update K ht hn hkey hval
  unfold Reg.gives execOp
  simp only [ho, hm, hx, hv, Sem.run_bind, hrun, Result.andThen_ok, Sem.run_pure]
  exact ⟨r1, r2⟩
end Go.Proofs.Ytnpalplnpfgibaa
