/- A record as a value: its fourteen cells; two of them compared. -/
import Derived.Test.YtnpalplnpfgibaaBytes
import Derived.Laws.StructEq
namespace Go.Proofs.Ytnpalplnpfgibaa
open Go.RowKit
/-- A record. -/
structure Rec where
  kind : Int
  bucket : Int
  gen : Nat
  qk : Int
  qb : Int
  qg : Int
  seq : Nat
  serial : Nat
  rights : Int
  secret : Nat
  key : ByteArray
  val : ByteArray
  version : Nat
  expiry : Nat
deriving DecidableEq
def Rec.cells (r : Rec) : Array Value := #[.int .i64 r.kind, .int .i64 r.bucket, .int .u32 r.gen, .int .i64 r.qk, .int .i64 r.qb, .int .i64 r.qg, .int .u64 r.seq, .int .u32 r.serial, .int .i64 r.rights, .int .u64 r.secret, .string r.key, .string r.val, .int .u64 r.version, .int .u64 r.expiry]
def Rec.v (r : Rec) : Value := .agg r.cells
theorem bytes_eq_of_list {a b : ByteArray} (h : a.toList = b.toList) : a = b := by
  rw [ByteArray.toList_eq, ByteArray.toList_eq] at h
  obtain ⟨⟨a⟩⟩ := a
  obtain ⟨⟨b⟩⟩ := b
  exact congrArg (fun l => ByteArray.mk ⟨l⟩) h
theorem Rec.ext' {r s : Rec} (h1 : r.kind = s.kind) (h2 : r.bucket = s.bucket) (h3 : (r.gen : Int) = s.gen) (h4 : r.qk = s.qk) (h5 : r.qb = s.qb) (h6 : r.qg = s.qg) (h7 : (r.seq : Int) = s.seq) (h8 : (r.serial : Int) = s.serial)
    (h9 : r.rights = s.rights) (h10 : (r.secret : Int) = s.secret) (h11 : r.key.toList = s.key.toList) (h12 : r.val.toList = s.val.toList) (h13 : (r.version : Int) = s.version) (h14 : (r.expiry : Int) = s.expiry) : r = s := by
  have h11 := bytes_eq_of_list h11
  have h12 := bytes_eq_of_list h12
  obtain ⟨⟩ := r
  obtain ⟨⟩ := s
  simp only [Rec.mk.injEq] at *
  refine ⟨h1, h2, by omega, h4, h5, h6, by omega, by omega, h9, by omega, h11, h12, by omega, by omega⟩
theorem rec_equal (w : World) (r s : Rec) : (Op.equalIn 10000 78 r.v s.v).run Try.prog w = .ok (decide (r = s)) w := by
  by_cases h : r = s
  · subst h
    unfold Rec.v Rec.cells
    go_simp
  · rw [decide_eq_false h]
    unfold Rec.v Rec.cells
    go_simp
    intros
    intro hlast
    exact (h (Rec.ext' (by assumption) (by assumption) (by assumption) (by assumption) (by assumption) (by assumption) (by assumption) (by assumption) (by assumption) (by assumption) (by assumption) (by assumption) (by assumption) (by assumption))).elim
theorem rec_neq (w : World) (r s : Rec) : (binOp .neq 78 r.v s.v).run Try.prog w = .ok (.bool (!decide (r = s))) w := by
  have := rec_equal w r s
  unfold Rec.v at *
  rw [run_neq_struct, this]
  rfl
theorem rec_eql (w : World) (r s : Rec) : (binOp .eql 78 r.v s.v).run Try.prog w = .ok (.bool (decide (r = s))) w := by
  have := rec_equal w r s
  unfold Rec.v at *
  rw [run_eql_struct, this]
  rfl
end Go.Proofs.Ytnpalplnpfgibaa
