/- The contract of record.bare. -/
import Derived.Test.YtiihemmonncioaaRecV
import Derived.BigRegion
import Derived.BigQuiet
import Derived.Handy
import Derived.Handy
namespace Go.Proofs.Ytiihemmonncioaa
open Go.RowKit
def Rec.zero : Rec := ⟨0, 0, 0, 0, 0, 0, 0, 0, 0, 0, ByteArray.empty, ByteArray.empty, 0, 0⟩
/-- Just the fields that the kind names. -/
def Rec.bare (r : Rec) : Rec :=
  if r.kind = 1 then { Rec.zero with kind := r.kind, bucket := r.bucket, gen := r.gen, qk := r.qk, qb := r.qb, qg := r.qg, seq := r.seq, serial := r.serial }
  else if r.kind = 3 then { Rec.zero with kind := r.kind, bucket := r.bucket, gen := r.gen, key := r.key, val := r.val, version := r.version, expiry := r.expiry }
  else if r.kind = 4 then { Rec.zero with kind := r.kind, bucket := r.bucket, gen := r.gen, key := r.key, version := r.version }
  else if r.kind = 5 then { Rec.zero with kind := r.kind, bucket := r.bucket, gen := r.gen, serial := r.serial, rights := r.rights, secret := r.secret }
  else if r.kind = 6 then { Rec.zero with kind := r.kind, bucket := r.bucket, gen := r.gen, serial := r.serial }
  else { Rec.zero with kind := r.kind, bucket := r.bucket, gen := r.gen }
def BareOk (r : Rec) (w : World) (e : Ending) (w' : World) : Prop := e = .returned r.bare.v ∧ Below w.heap.size w w'
set_option maxRecDepth 100000 in
set_option maxHeartbeats 2000000 in
theorem recBare1 (r : Rec) (w : World) (h : r.kind = 1) : Calls Try.prog 46 #[r.v] w (BareOk r w) := by
  have HB := Lib.hid h
  unfold Rec.v Rec.cells
  rw [h]
  go_enter Try.func46, Try.ntmps46
  go_wp2
  go_region
  go_wp2
  go_returns
  refine ⟨?_, by go_grown⟩
  unfold Rec.bare
  rw [if_pos HB.out]
  unfold Rec.v Rec.cells Rec.zero
  simp only
  rw [HB.out]
  rfl
set_option maxRecDepth 100000 in
set_option maxHeartbeats 2000000 in
theorem recBare3 (r : Rec) (w : World) (h : r.kind = 3) : Calls Try.prog 46 #[r.v] w (BareOk r w) := by
  have HB := Lib.hid h
  unfold Rec.v Rec.cells
  rw [h]
  go_enter Try.func46, Try.ntmps46
  go_wp2
  go_region
  go_wp2
  go_returns
  refine ⟨?_, by go_grown⟩
  unfold Rec.bare
  rw [if_neg (by rw [HB.out]; decide), if_pos HB.out]
  unfold Rec.v Rec.cells Rec.zero
  simp only
  rw [HB.out]
  rfl
set_option maxRecDepth 100000 in
set_option maxHeartbeats 2000000 in
theorem recBare4 (r : Rec) (w : World) (h : r.kind = 4) : Calls Try.prog 46 #[r.v] w (BareOk r w) := by
  have HB := Lib.hid h
  unfold Rec.v Rec.cells
  rw [h]
  go_enter Try.func46, Try.ntmps46
  go_wp2
  go_region
  go_wp2
  go_returns
  refine ⟨?_, by go_grown⟩
  unfold Rec.bare
  rw [if_neg (by rw [HB.out]; decide), if_neg (by rw [HB.out]; decide), if_pos HB.out]
  unfold Rec.v Rec.cells Rec.zero
  simp only
  rw [HB.out]
  rfl
set_option maxRecDepth 100000 in
set_option maxHeartbeats 2000000 in
theorem recBare5 (r : Rec) (w : World) (h : r.kind = 5) : Calls Try.prog 46 #[r.v] w (BareOk r w) := by
  have HB := Lib.hid h
  unfold Rec.v Rec.cells
  rw [h]
  go_enter Try.func46, Try.ntmps46
  go_wp2
  go_region
  go_wp2
  go_returns
  refine ⟨?_, by go_grown⟩
  unfold Rec.bare
  rw [if_neg (by rw [HB.out]; decide), if_neg (by rw [HB.out]; decide), if_neg (by rw [HB.out]; decide), if_pos HB.out]
  unfold Rec.v Rec.cells Rec.zero
  simp only
  rw [HB.out]
  rfl
set_option maxRecDepth 100000 in
set_option maxHeartbeats 2000000 in
theorem recBare6 (r : Rec) (w : World) (h : r.kind = 6) : Calls Try.prog 46 #[r.v] w (BareOk r w) := by
  have HB := Lib.hid h
  unfold Rec.v Rec.cells
  rw [h]
  go_enter Try.func46, Try.ntmps46
  go_wp2
  go_returns
  refine ⟨?_, by go_grown⟩
  unfold Rec.bare
  rw [if_neg (by rw [HB.out]; decide), if_neg (by rw [HB.out]; decide), if_neg (by rw [HB.out]; decide), if_neg (by rw [HB.out]; decide), if_pos HB.out]
  unfold Rec.v Rec.cells Rec.zero
  simp only
  rw [HB.out]
  rfl
set_option maxRecDepth 100000 in
set_option maxHeartbeats 2000000 in
theorem recBare0 (r : Rec) (w : World) (h1 : r.kind ≠ 1) (h3 : r.kind ≠ 3) (h4 : r.kind ≠ 4) (h5 : r.kind ≠ 5) (h6 : r.kind ≠ 6) : Calls Try.prog 46 #[r.v] w (BareOk r w) := by
  have HB := Lib.hid (And.intro h1 (And.intro h3 (And.intro h4 (And.intro h5 h6))))
  have e1 : (r.kind == 1) = false := by simpa using h1
  have e3 : (r.kind == 3) = false := by simpa using h3
  have e4 : (r.kind == 4) = false := by simpa using h4
  have e5 : (r.kind == 5) = false := by simpa using h5
  have e6 : (r.kind == 6) = false := by simpa using h6
  clear h1 h3 h4 h5 h6
  unfold Rec.v Rec.cells
  go_enter Try.func46, Try.ntmps46
  go_wp2
  go_returns
  refine ⟨?_, by go_grown⟩
  unfold Rec.bare
  rw [if_neg HB.out.1, if_neg HB.out.2.1, if_neg HB.out.2.2.1, if_neg HB.out.2.2.2.1, if_neg HB.out.2.2.2.2]
  rfl
theorem recBare (r : Rec) (w : World) : Calls Try.prog 46 #[r.v] w (BareOk r w) := by
  by_cases h1 : r.kind = 1
  · exact recBare1 r w h1
  by_cases h3 : r.kind = 3
  · exact recBare3 r w h3
  by_cases h4 : r.kind = 4
  · exact recBare4 r w h4
  by_cases h5 : r.kind = 5
  · exact recBare5 r w h5
  by_cases h6 : r.kind = 6
  · exact recBare6 r w h6
  exact recBare0 r w h1 h3 h4 h5 h6
end Go.Proofs.Ytiihemmonncioaa
