/- Texts laid together: CmdPure CmdEq Pack PackRef RecPut0 CmdBytes CmdChain CmdPutOp CmdSt CmdTen CmdReg CmdBat. -/
import Derived.Test.YtlngefhjoobmdaaZCmdOp
import Derived.Laws.StructEq
import Derived.Test.YtlngefhjoobmdaaMg1
import Derived.Outline
import Derived.WalkMore
import Derived.ScopeJumps
import Derived.WalkSpells
import Derived.WalkLawsBesides
import Derived.BigQuiet
import Derived.LoopTactic
namespace Go.Proofs.Ytlngefhjoobmdaa
open Go.RowKit
deriving instance DecidableEq for COp
structure CReq where
  tag : Int
  admin : Nat
  bucket : Int
  qk : Int
  qb : Int
  qg : Int
  tb : Int
  tg : Nat
  ts : Nat
  tc : Nat
  ops : List COp
  after : ByteArray
  first : Bool
  count : Int
  rights : Int
  serial : Nat
deriving DecidableEq
def CReq.zero : CReq := ⟨0, 0, 0, 0, 0, 0, 0, 0, 0, 0, [], ByteArray.empty, false, 0, 0, 0⟩
def CReq.cells (q : CReq) (v : Value) : Array Value := #[.int .i64 q.tag, .int .u64 (q.admin : Int), .int .i64 q.bucket, .int .i64 q.qk, .int .i64 q.qb, .int .i64 q.qg, .int .i64 q.tb, .int .u32 (q.tg : Int), .int .u32 (q.ts : Int), .int .u64 (q.tc : Int), v, .string q.after, .bool q.first, .int .i64 q.count, .int .i64 q.rights, .int .u32 (q.serial : Int)]
/-- So many ops, while none is amiss. -/
def batchN : Nat → RS → Bool → List COp × RS × Bool
  | 0, s, bad => ([], s, bad)
  | n + 1, s, bad => if bad = true then ([], s, bad) else ((opN 9 s bad).1 :: (batchN n (opN 9 s bad).2.1 (opN 9 s bad).2.2).1, (batchN n (opN 9 s bad).2.1 (opN 9 s bad).2.2).2)
/-- What a tenant's request asks for. -/
def tenP (t : Nat) (q : CReq) (s : RS) (bad : Bool) : CReq × RS × Bool :=
  if t = 6 ∨ t = 7 ∨ t = 8 then ({ q with ops := [(opN t s bad).1] }, (opN t s bad).2.1, (opN t s bad).2.2)
  else if t = 9 then ({ q with ops := (batchN (rN 1 s) (rN' 1 s) (bad || !(decide (1 ≤ rN 1 s) && decide (rN 1 s ≤ 16)))).1 }, (batchN (rN 1 s) (rN' 1 s) (bad || !(decide (1 ≤ rN 1 s) && decide (rN 1 s ≤ 16)))).2)
  else if t = 10 then ({ q with after := rT s, first := decide (rN 1 (rT' s) = 1), count := (rN 1 (rN' 1 (rT' s)) : Int) }, rN' 1 (rN' 1 (rT' s)), bad || !okT 0 64 (rT s) || !decide (rN 1 (rT' s) ≤ 1) || !decide (rN 1 (rN' 1 (rT' s)) ≤ 50))
  else if t = 12 then ({ q with rights := (rN 1 s : Int) }, rN' 1 s, bad || !(decide (1 ≤ rN 1 s) && decide (rN 1 s ≤ 7)))
  else if t = 13 then ({ q with serial := rN 4 s }, rN' 4 s, bad)
  else (q, s, bad)
def CReq.withTok (q : CReq) (s : RS) : CReq := { q with tb := (rN 1 s : Int), tg := rN 4 (rN' 1 s), ts := rN 4 (rN' 4 (rN' 1 s)), tc := rN 8 (rN' 4 (rN' 4 (rN' 1 s))) }
def bodyP (t : Nat) (s : RS) : CReq × RS × Bool :=
  if 5 < t then tenP t (({ CReq.zero with tag := (t : Int) } : CReq).withTok s) (tok' s) (!(decide (1 ≤ t) && decide (t ≤ 13)))
  else if t < 4 then
    if t = 1 ∨ t = 3 then
      ({ CReq.zero with tag := (t : Int), admin := rN 8 s, bucket := (rN 1 (rN' 8 s) : Int), qk := quoK (rN' 1 (rN' 8 s)), qb := quoB (rN' 1 (rN' 8 s)), qg := quoG (rN' 1 (rN' 8 s)) }, quo' (rN' 1 (rN' 8 s)), !(decide (1 ≤ t) && decide (t ≤ 13)) || !decide (rN 1 (rN' 8 s) < 64) || !quoOk (rN' 1 (rN' 8 s)))
    else ({ CReq.zero with tag := (t : Int), admin := rN 8 s, bucket := (rN 1 (rN' 8 s) : Int) }, rN' 1 (rN' 8 s), !(decide (1 ≤ t) && decide (t ≤ 13)) || !decide (rN 1 (rN' 8 s) < 64))
  else ({ CReq.zero with tag := (t : Int), admin := rN 8 s }, rN' 8 s, !(decide (1 ≤ t) && decide (t ≤ 13)))
def endP (r : CReq × RS × Bool) : Option CReq := if (r.2.2 || r.2.1.2 || decide (0 < rdLeft r.2.1.1 r.2.1.2)) = true then none else some r.1
/-- What bytes are parsed as. -/
def parseP (b : List UInt8) : Option CReq := endP (bodyP (rN 1 (b, false)) (rN' 1 (b, false)))
def reqOf : Option CReq → CReq
  | none => CReq.zero
  | some q => q
end Go.Proofs.Ytlngefhjoobmdaa
namespace Go.Proofs.Ytlngefhjoobmdaa
open Go.RowKit
theorem bytes_of_toList {a b : ByteArray} (h : a.toList = b.toList) : a = b := by
  rw [ByteArray.toList_eq, ByteArray.toList_eq] at h
  obtain ⟨⟨a⟩⟩ := a
  obtain ⟨⟨b⟩⟩ := b
  exact congrArg (fun l => ByteArray.mk ⟨l⟩) h
def quoA (k b g : Int) : Array Value := #[.int .i64 k, .int .i64 b, .int .i64 g]
def tokA (b : Int) (g s c : Nat) : Array Value := #[.int .i64 b, .int .u32 (g : Int), .int .u32 (s : Int), .int .u64 (c : Int)]
theorem quo_equal (w : World) (a b c x y z : Int) : (Op.equalIn 10000 26 (.agg (quoA a b c)) (.agg (quoA x y z))).run Try.prog w = .ok (decide ((a, b, c) = (x, y, z))) w := by
  by_cases h : (a, b, c) = (x, y, z)
  · cases h
    unfold quoA
    go_simp
  · rw [decide_eq_false h]
    unfold quoA
    go_simp
    intros
    intro hlast
    exact (h (by simp only [Prod.mk.injEq]; exact ⟨by assumption, by assumption, by assumption⟩)).elim
theorem quo_neq (w : World) (a b c x y z : Int) : (binOp .neq 26 (.agg (quoA a b c)) (.agg (quoA x y z))).run Try.prog w = .ok (.bool (!decide ((a, b, c) = (x, y, z)))) w := by
  have := quo_equal w a b c x y z
  rw [run_neq_struct, this]
  rfl
theorem quo_eql (w : World) (a b c x y z : Int) : (binOp .eql 26 (.agg (quoA a b c)) (.agg (quoA x y z))).run Try.prog w = .ok (.bool (decide ((a, b, c) = (x, y, z)))) w := by
  have := quo_equal w a b c x y z
  rw [run_eql_struct, this]
  rfl
theorem tok_equal (w : World) (a : Int) (b c d : Nat) (x : Int) (y z u : Nat) : (Op.equalIn 10000 29 (.agg (tokA a b c d)) (.agg (tokA x y z u))).run Try.prog w = .ok (decide ((a, b, c, d) = (x, y, z, u))) w := by
  by_cases h : (a, b, c, d) = (x, y, z, u)
  · cases h
    unfold tokA
    go_simp
  · rw [decide_eq_false h]
    unfold tokA
    go_simp
    intro h1 h2 h3 h4
    refine (h ?_).elim
    simp only [Prod.mk.injEq]
    exact ⟨h1, by omega, by omega, by omega⟩
theorem tok_neq (w : World) (a : Int) (b c d : Nat) (x : Int) (y z u : Nat) : (binOp .neq 29 (.agg (tokA a b c d)) (.agg (tokA x y z u))).run Try.prog w = .ok (.bool (!decide ((a, b, c, d) = (x, y, z, u)))) w := by
  have := tok_equal w a b c d x y z u
  rw [run_neq_struct, this]
  rfl
theorem tok_eql (w : World) (a : Int) (b c d : Nat) (x : Int) (y z u : Nat) : (binOp .eql 29 (.agg (tokA a b c d)) (.agg (tokA x y z u))).run Try.prog w = .ok (.bool (decide ((a, b, c, d) = (x, y, z, u)))) w := by
  have := tok_equal w a b c d x y z u
  rw [run_eql_struct, this]
  rfl
theorem COp.ext' {r s : COp} (h1 : r.del = s.del) (h2 : r.key.toList = s.key.toList) (h3 : r.val.toList = s.val.toList) (h4 : (r.cond : Int) = s.cond) (h5 : (r.ttl : Int) = s.ttl) : r = s := by
  have h2 := bytes_of_toList h2
  have h3 := bytes_of_toList h3
  obtain ⟨⟩ := r
  obtain ⟨⟩ := s
  simp only [COp.mk.injEq] at *
  exact ⟨h1, h2, h3, by omega, by omega⟩
theorem op_equal (w : World) (r s : COp) : (Op.equalIn 10000 93 r.v s.v).run Try.prog w = .ok (decide (r = s)) w := by
  by_cases h : r = s
  · subst h
    unfold COp.v COp.cells
    go_simp
  · rw [decide_eq_false h]
    unfold COp.v COp.cells
    go_simp
    intros
    intro hlast
    exact (h (COp.ext' (by assumption) (by assumption) (by assumption) (by assumption) (by assumption))).elim
theorem op_eql (w : World) (r s : COp) : (binOp .eql 93 r.v s.v).run Try.prog w = .ok (.bool (decide (r = s))) w := by
  have := op_equal w r s
  unfold COp.v at *
  rw [run_eql_struct, this]
  rfl
theorem op_neq (w : World) (r s : COp) : (binOp .neq 93 r.v s.v).run Try.prog w = .ok (.bool (!decide (r = s))) w := by
  have := op_equal w r s
  unfold COp.v at *
  rw [run_neq_struct, this]
  rfl
theorem rop_equal (w : World) (r s : COp) : (Op.equalIn 10000 90 r.v s.v).run Try.prog w = .ok (decide (r = s)) w := by
  by_cases h : r = s
  · subst h
    unfold COp.v COp.cells
    go_simp
  · rw [decide_eq_false h]
    unfold COp.v COp.cells
    go_simp
    intros
    intro hlast
    exact (h (COp.ext' (by assumption) (by assumption) (by assumption) (by assumption) (by assumption))).elim
theorem rop_neq (w : World) (r s : COp) : (binOp .neq 90 r.v s.v).run Try.prog w = .ok (.bool (!decide (r = s))) w := by
  have := rop_equal w r s
  unfold COp.v at *
  rw [run_neq_struct, this]
  rfl
/-- Two structs compared, as an operation of a region. -/
theorem wpList_structEq {ops : Array Oper} {rest : List Oper} {o : Oper} {a : Act} {w : World} {Q : Exit → Act → World → Prop} (T : TypeId) (hg : Try.prog.eqGuardType Try.prog.depth T = false) (x y : Operand) (op : BinOp) (ho : o.op = .binOp op T x y T) (A B : Array Value) (b : Bool)
    (hx : a.eval x = .agg A) (hy : a.eval y = .agg B) (hr : ∀ w, (binOp op T (.agg A) (.agg B)).run Try.prog w = .ok (.bool b) w) (hw : Region.wanted o (yielded ops a.tmps) = true)
    (h : wpList Try.prog ops Q rest (a.put o.dst (.bool b)) w) : wpList Try.prog ops Q (o :: rest) a w := by
  rw [wpList, if_pos hw]
  refine .inl ?_
  unfold Oper.wp execOp
  simp only [ho, hx, hy, Sem.run_bind, run_eqGuard_agg w op _ x y A B hg, Result.andThen_ok, hr, Sem.run_pure, Oper.upon_value]
  exact h
theorem gives_structEq {o : Oper} {a : Act} {w : World} (T : TypeId) (hg : Try.prog.eqGuardType Try.prog.depth T = false) (x y : Operand) (op : BinOp) (ho : o.op = .binOp op T x y T) (A B : Array Value) (b : Bool)
    (hx : a.eval x = .agg A) (hy : a.eval y = .agg B) (hr : ∀ w, (binOp op T (.agg A) (.agg B)).run Try.prog w = .ok (.bool b) w) : Reg.gives Try.prog o a w (fun v w' => v = .bool b ∧ w' = w) := by
  unfold Reg.gives execOp
  simp only [ho, hx, hy, Sem.run_bind, run_eqGuard_agg w op _ x y A B hg, Result.andThen_ok, hr, Sem.run_pure]
  exact ⟨trivial, trivial⟩
theorem quo_guard : Try.prog.eqGuardType Try.prog.depth 26 = false := by kernel_rfl
theorem tok_guard : Try.prog.eqGuardType Try.prog.depth 29 = false := by kernel_rfl
theorem op_guard : Try.prog.eqGuardType Try.prog.depth 93 = false := by kernel_rfl
theorem rop_guard : Try.prog.eqGuardType Try.prog.depth 90 = false := by kernel_rfl
end Go.Proofs.Ytlngefhjoobmdaa
namespace Go.Proofs.Ytlngefhjoobmdaa
open Go.RowKit

/-- A row of bytes has become r. -/
def Puts (B : Nat) (w : World) (v : Value) (r : List UInt8) (e : Ending) (w' : World) : Prop := ∃ v', e = .returned v' ∧ OwnB B w' v' r ∧ Grew w w' v v'

def putJ (B : Nat) (w : World) (v : Value) (l : List UInt8) (n k : Nat) (a' : Act) (w' : World) : Prop :=
  ∃ (j : Nat) (v' : Value) (q i : Int) (u8 u9 u10 u11 u12 u13 u14 u15 u16 u17 u18 u19 u20 u21 u22 u23 u24 u25 u26 u27 : Value), 1 ≤ j ∧ j < k ∧ OwnB B w' v' (l ++ putL n j) ∧ Grew w w' v v' ∧ q = ((n / 256 ^ j : Nat) : Int) ∧ i = (j : Int) ∧
    a' = { tmps := #[v', .int .u64 q, .int .i64 k, undef, undef, undef, .slice none 0 0, .int .i64 i, u8, u9, u10, u11, u12, u13, u14, u15, u16, u17, u18, u19, u20, u21, u22, u23, u24, u25, u26, u27], defers := [] }
theorem u8_ofNat_val (m : Nat) : ((m : Int) % 256) = (((UInt8.ofNat m).toNat : Nat) : Int) := by simp

set_option maxHeartbeats 1000000 in
set_option maxRecDepth 100000 in
theorem packPut (B : Nat) (v : Value) (l : List UInt8) (n k : Nat) (w : World) (hv : OwnB B w v l) (hB : B ≤ w.heap.size) (hl : l.length ≤ 100000000000) (hn : n < 18446744073709551616) (hk1 : 1 ≤ k) (hk8 : k ≤ 8) :
    Calls Try.prog 38 #[v, .int .u64 n, .int .i64 k] w (Puts B w v (l ++ putL n k)) := by
  have HV := Lib.hid hv
  clear hv
  have e0 : putL n 1 = [UInt8.ofNat n] := by simp [putL]
  have E0 := Lib.hid e0
  clear e0
  go_enter Try.func38, Try.ntmps38
  go_wp2
  refine wp_scope_jumps 0 (putJ B w v l n k) (fun a' _ => (k - (intOf (a'.tmps.getD 7 undef)).toNat)) rfl ?_ ?_
  · go_wp2
    go_step3
    by_cases h1 : 1 < k
    · go_wp2_with (at_builtin; go_must (refine wpList_append_bytes rfl (.tmp 15) (.tmp 18) 22 rfl B v l rfl (HV.out.alloc _) _ [UInt8.ofNat n] rfl (srcB_one w _ _ (u8_ofNat_val n)) ?c1 ?c2 ?_))
      case c1 => simp; omega
      case c2 => simp; omega
      intro v2 w2 ho hg
      have HO := Lib.hid ho
      have HG := Lib.hid hg.after_alloc
      clear ho hg
      go_wp2
      go_step3
      exact ⟨rfl, 1, v2, _, _, _, _, _, _, _, _, _, _, _, _, _, _, _, _, _, _, _, _, _, _, Nat.le_refl _, h1, by rw [E0.out]; exact HO.out, HG.out, by simp, rfl, rfl⟩
    · obtain rfl : k = 1 := by omega
      go_wp2_with (at_builtin; go_must (refine wpList_append_bytes rfl (.tmp 15) (.tmp 18) 22 rfl B v l rfl (HV.out.alloc _) _ [UInt8.ofNat n] rfl (srcB_one w _ _ (u8_ofNat_val n)) ?d1 ?d2 ?_))
      case d1 => simp; omega
      case d2 => simp; omega
      intro v2 w2 ho hg
      have HO := Lib.hid ho
      have HG := Lib.hid hg.after_alloc
      clear ho hg
      go_wp2
      simp only [Exit.jump]
      go_ret
      exact ⟨v2, rfl, by rw [E0.out]; exact HO.out, HG.out⟩
  · rintro a' w' ⟨j, v', q, i, u8, u9, u10, u11, u12, u13, u14, u15, u16, u17, u18, u19, u20, u21, u22, u23, u24, u25, u26, u27, hj1, hjk, ho, hg, hq, hi, rfl⟩
    have hm : n / 256 ^ j < 18446744073709551616 := Nat.lt_of_le_of_lt (Nat.div_le_self _ _) hn
    have hsucc : n / 256 ^ (j + 1) = n / 256 ^ j / 256 := by rw [Nat.pow_succ, Nat.div_div_eq_div_mul]
    have hp := putL_succ n j
    have hlen : (l ++ putL n j).length ≤ 100000000010 := by simp; omega
    have hBw := Nat.le_trans hB hg.1.size
    have HS := Lib.hid hsucc
    have HP := Lib.hid hp
    clear hsucc hp
    have HO := Lib.hid ho
    have HG := Lib.hid hg
    clear ho hg
    subst hq hi
    generalize n / 256 ^ j = m at *
    by_cases h1 : j + 1 < k
    · go_wp2_with (at_builtin; go_must (refine wpList_append_bytes rfl (.tmp 15) (.tmp 18) 22 rfl B v' (l ++ putL n j) rfl (HO.out.alloc _) _ [UInt8.ofNat m] rfl (srcB_one w' _ _ (u8_ofNat_val m)) ?f1 ?f2 ?_))
      case f1 => simp; omega
      case f2 => simp; omega
      intro v2 w2 ho hg
      have HO2 := Lib.hid ho
      have HG2 := Lib.hid (HG.out.trans hg.after_alloc)
      clear ho hg
      go_wp2
      go_step3
      refine ⟨rfl, ⟨j + 1, v2, _, _, _, _, _, _, _, _, _, _, _, _, _, _, _, _, _, _, _, _, _, _, by omega, h1, by rw [HP.out]; exact HO2.out, HG2.out, by rw [HS.out]; simp, by simp, rfl⟩, by simp [intOf]; omega⟩
    · obtain rfl : k = j + 1 := by omega
      go_wp2_with (at_builtin; go_must (refine wpList_append_bytes rfl (.tmp 15) (.tmp 18) 22 rfl B v' (l ++ putL n j) rfl (HO.out.alloc _) _ [UInt8.ofNat m] rfl (srcB_one w' _ _ (u8_ofNat_val m)) ?g1 ?g2 ?_))
      case g1 => simp; omega
      case g2 => simp; omega
      intro v2 w2 ho hg
      have HO2 := Lib.hid ho
      have HG2 := Lib.hid (HG.out.trans hg.after_alloc)
      clear ho hg
      go_wp2
      simp only [Exit.jump]
      go_ret
      exact ⟨v2, rfl, by rw [HP.out]; exact HO2.out, HG2.out⟩

theorem packPut_none (v : Value) (n : Int) (k : Int) (w : World) (hk : k < 1 ∨ 8 < k) :
    Calls Try.prog 38 #[v, .int .u64 n, .int .i64 k] w fun e w' => e = .returned v ∧ w = w' := by
  rcases hk with h | h
  · go_enter Try.func38, Try.ntmps38
    go_wp2
    go_step3
    go_wp2
    rw [Exit.noGoto_ret]
    go_ret
    exact ⟨rfl, rfl⟩
  · have h' : ¬ k < 1 := by omega
    go_enter Try.func38, Try.ntmps38
    go_wp2
    go_step3
    go_wp2
    rw [Exit.noGoto_ret]
    go_ret
    exact ⟨rfl, rfl⟩

set_option maxHeartbeats 1000000 in
set_option maxRecDepth 100000 in
theorem packPutText (B : Nat) (v : Value) (l : List UInt8) (s : ByteArray) (w : World) (hv : OwnB B w v l) (hB : B ≤ w.heap.size) (hl : l.length ≤ 10000000000) (hs : s.size ≤ maxLen) :
    Calls Try.prog 40 #[v, .string s] w (Puts B w v (l ++ textL s.data.toList)) := by
  have HV := Lib.hid hv
  clear hv
  unfold maxLen at hs
  have hsz : s.data.toList.length = s.size := by simp
  by_cases h : 65535 < s.size
  · have hx : (s.extract 0 65535).size = 65535 := by rw [ByteArray.size_extract]; omega
    have ht : textL s.data.toList = putL 65535 2 ++ List.take 65535 s.data.toList := by
      unfold textL
      rw [hsz, show min s.size 65535 = 65535 by omega]
    have HT := Lib.hid ht
    clear ht hsz
    go_enter Try.func40, Try.ntmps40
    go_wp2_with fail
    refine (packPut B v l 65535 2 _ HV.out hB (by omega) (by omega) (by omega) (by omega)).mono ?_
    rintro e w1 ⟨v1, rfl, ho, hg⟩
    have hB1 := Nat.le_trans hB hg.1.size
    have HO := Lib.hid ho
    have HG := Lib.hid hg
    clear ho hg
    go_wp2_with (at_builtin; go_must (refine wpList_append_bytes rfl (.tmp 14) (.tmp 15) 9 rfl B v1 (l ++ putL 65535 2) rfl HO.out _ (s.extract 0 65535).data.toList rfl (SrcB.ofString _ _) hB1 ?c2 ?_))
    case c2 => simp; omega
    intro v2 w2 ho hg
    have HO2 := Lib.hid ho
    have HG2 := Lib.hid (HG.out.trans hg)
    clear ho hg
    go_wp2
    go_ret
    exact ⟨v2, rfl, by rw [HT.out]; exact HO2.out, HG2.out⟩
  · have ht : textL s.data.toList = putL s.size 2 ++ s.data.toList := by
      unfold textL
      rw [hsz, show min s.size 65535 = s.size by omega, List.take_of_length_le (by omega)]
    have HT := Lib.hid ht
    clear ht hsz
    go_enter Try.func40, Try.ntmps40
    go_wp2_with fail
    refine (packPut B v l s.size 2 _ HV.out hB (by omega) (by omega) (by omega) (by omega)).mono ?_
    rintro e w1 ⟨v1, rfl, ho, hg⟩
    have hB1 := Nat.le_trans hB hg.1.size
    have HO := Lib.hid ho
    have HG := Lib.hid hg
    clear ho hg
    go_wp2_with (at_builtin; go_must (refine wpList_append_bytes rfl (.tmp 14) (.tmp 15) 9 rfl B v1 (l ++ putL s.size 2) rfl HO.out _ s.data.toList rfl (SrcB.ofString _ _) hB1 ?d2 ?_))
    case d2 => simp; omega
    intro v2 w2 ho hg
    have HO2 := Lib.hid ho
    have HG2 := Lib.hid (HG.out.trans hg)
    clear ho hg
    go_wp2
    go_ret
    exact ⟨v2, rfl, by rw [HT.out]; exact HO2.out, HG2.out⟩
end Go.Proofs.Ytlngefhjoobmdaa
namespace Go.Proofs.Ytlngefhjoobmdaa
open Go.RowKit

set_option maxHeartbeats 1000000 in
set_option maxRecDepth 100000 in
theorem refPut (B : Nat) (v : Value) (l : List UInt8) (n k : Nat) (w : World) (hv : OwnB B w v l) (hB : B ≤ w.heap.size) (hl : l.length ≤ 100000000000) (hn : n < 18446744073709551616) (hk8 : k ≤ 8) :
    Calls Try.prog 43 #[v, .int .u64 n, .int .i64 k] w (Puts B w v (l ++ putL n k)) := by
  have HV := Lib.hid hv
  clear hv
  have d8 : decide ((k : Int) ≤ 8) = true := by simp; omega
  go_enter Try.func43, Try.ntmps43
  go_wp2
  go_loopw [0, 1, 7] (fun x m i wr => ∃ (j : Nat) (q : Nat), j ≤ k ∧ i = .int .i64 j ∧ m = .int .u64 q ∧ q < 18446744073709551616 ∧ Hid (q = n / 256 ^ j) ∧ OwnB B wr x (l ++ putL n j) ∧ Grew w wr v x) (fun _ _ i _ => k - (intOf i).toNat)
  case atStart => exact ⟨0, n, by omega, rfl, rfl, hn, by show n = _; simp, by rw [putL_zero, List.append_nil]; exact HV.out, Grew.refl _ _⟩
  case round =>
    obtain ⟨j, q, hj, rfl, rfl, hq, HQ, ho, hg⟩ := hrel
    have hBw := Nat.le_trans hB hg.1.size
    have HO := Lib.hid ho
    have HG := Lib.hid hg
    clear ho hg
    by_cases hlt : j < k
    · have hp : putL n (j + 1) = putL n j ++ [UInt8.ofNat q] := by rw [HQ.out]; exact putL_succ n j
      have HP := Lib.hid hp
      clear hp
      go_wp2_with (at_builtin; go_must (refine wpList_append_bytes rfl (.tmp 17) (.tmp 21) 22 rfl B _ (l ++ putL n j) rfl (HO.out.alloc _) _ [UInt8.ofNat q] rfl (srcB_one wr _ _ (u8_ofNat_val q)) ?c1 ?c2 ?_))
      case c1 => simp; omega
      case c2 => simp; omega
      intro v2 w2 ho hg
      have HO2 := Lib.hid ho
      have HG2 := Lib.hid (HG.out.trans hg.after_alloc)
      clear ho hg
      go_wp2
      go_roundw
      case rel => exact ⟨j + 1, q / 256, by omega, by go_num, rfl, by omega, by show q / 256 = _; rw [HQ.out, Nat.pow_succ, Nat.div_div_eq_div_mul], by rw [HP.out]; simpa using HO2.out, HG2.out⟩
      case measure => simp [intOf]; omega
    · obtain rfl : j = k := by omega
      go_wp2
      go_ret
      exact ⟨_, rfl, HO.out, HG.out⟩

set_option maxHeartbeats 1000000 in
set_option maxRecDepth 100000 in
theorem refText (B : Nat) (v : Value) (l : List UInt8) (s : ByteArray) (w : World) (hv : OwnB B w v l) (hB : B ≤ w.heap.size) (hl : l.length ≤ 10000000000) (hs : s.size ≤ maxLen) :
    Calls Try.prog 44 #[v, .string s] w (Puts B w v (l ++ textL s.data.toList)) := by
  have HV := Lib.hid hv
  clear hv
  unfold maxLen at hs
  have hsz : s.data.toList.length = s.size := by simp
  by_cases h : 65535 < s.size
  · have hx : (s.extract 0 65535).size = 65535 := by rw [ByteArray.size_extract]; omega
    have ht : textL s.data.toList = putL 65535 2 ++ List.take 65535 s.data.toList := by
      unfold textL
      rw [hsz, show min s.size 65535 = 65535 by omega]
    have HT := Lib.hid ht
    clear ht hsz
    go_enter Try.func44, Try.ntmps44
    go_wp2_with fail
    refine (refPut B v l 65535 2 _ HV.out hB (by omega) (by omega) (by omega)).mono ?_
    rintro e w1 ⟨v1, rfl, ho, hg⟩
    have hB1 := Nat.le_trans hB hg.1.size
    have HO := Lib.hid ho
    have HG := Lib.hid hg
    clear ho hg
    go_wp2_with (at_builtin; go_must (refine wpList_append_bytes rfl (.tmp 14) (.tmp 15) 9 rfl B v1 (l ++ putL 65535 2) rfl HO.out _ (s.extract 0 65535).data.toList rfl (SrcB.ofString _ _) hB1 ?c2 ?_))
    case c2 => simp; omega
    intro v2 w2 ho hg
    have HO2 := Lib.hid ho
    have HG2 := Lib.hid (HG.out.trans hg)
    clear ho hg
    go_wp2
    go_ret
    exact ⟨v2, rfl, by rw [HT.out]; exact HO2.out, HG2.out⟩
  · have ht : textL s.data.toList = putL s.size 2 ++ s.data.toList := by
      unfold textL
      rw [hsz, show min s.size 65535 = s.size by omega, List.take_of_length_le (by omega)]
    have HT := Lib.hid ht
    clear ht hsz
    go_enter Try.func44, Try.ntmps44
    go_wp2_with fail
    refine (refPut B v l s.size 2 _ HV.out hB (by omega) (by omega) (by omega)).mono ?_
    rintro e w1 ⟨v1, rfl, ho, hg⟩
    have hB1 := Nat.le_trans hB hg.1.size
    have HO := Lib.hid ho
    have HG := Lib.hid hg
    clear ho hg
    go_wp2_with (at_builtin; go_must (refine wpList_append_bytes rfl (.tmp 14) (.tmp 15) 9 rfl B v1 (l ++ putL s.size 2) rfl HO.out _ s.data.toList rfl (SrcB.ofString _ _) hB1 ?d2 ?_))
    case d2 => simp; omega
    intro v2 w2 ho hg
    have HO2 := Lib.hid ho
    have HG2 := Lib.hid (HG.out.trans hg)
    clear ho hg
    go_wp2
    go_ret
    exact ⟨v2, rfl, by rw [HT.out]; exact HO2.out, HG2.out⟩
end Go.Proofs.Ytlngefhjoobmdaa
namespace Go.Proofs.Ytlngefhjoobmdaa
open Go.RowKit
theorem own_row_ne {B : Nat} {w : World} {v : Value} {l : List UInt8} (h : OwnB B w v l) {b : Nat} {C : Array Value} {t : TypeId} {fr : Nat × Nat} (ht : t ≠ 5) (hb : w.heap[b]? = some (.cells C t fr)) : v.ownBlock ≠ some b := by
  intro e
  rcases h.2 with ⟨rfl, _⟩ | ⟨g, cap, cur, rfl, _, hg, _⟩
  · simp [Value.ownBlock] at e
  · simp [Value.ownBlock] at e
    subst e
    rw [hg] at hb
    simp only [Option.some.injEq, Obj.cells.injEq] at hb
    exact ht hb.2.1.symm
theorem keep_row {B : Nat} {w w' : World} {v v' : Value} {l : List UInt8} (h : OwnB B w v l) (hg : Grew w w' v v') {b : Nat} {C : Array Value} {t : TypeId} {fr : Nat × Nat} (ht : t ≠ 5) (hb : w.heap[b]? = some (.cells C t fr)) : w'.heap[b]? = some (.cells C t fr) := by
  rw [hg.1.block b (Array.getElem?_eq_some_iff.1 hb).1 (fun e => own_row_ne h ht hb e.symm)]
  exact hb
end Go.Proofs.Ytlngefhjoobmdaa
namespace Go.Proofs.Ytlngefhjoobmdaa
open Go.RowKit
def u64N (x : Int) : Nat := (IntKind.u64.wrap x).toNat
theorem wrap_u64N (x : Int) : IntKind.u64.wrap x = (u64N x : Int) := by
  unfold u64N
  rw [IntKind.wrap_u64]
  omega
theorem u64N_lt (x : Int) : u64N x < 18446744073709551616 := by
  unfold u64N
  rw [IntKind.wrap_u64]
  omega
theorem u64N_nat (n : Nat) (h : n < 18446744073709551616) : u64N n = n := by
  unfold u64N
  rw [IntKind.wrap_u64]
  omega
def bitN (b : Bool) : Nat := if b = true then 1 else 0
theorem bitN_lt (b : Bool) : bitN b < 18446744073709551616 := by unfold bitN; split <;> omega
def tokL (b : Int) (g s c : Nat) : List UInt8 := putL (u64N b) 1 ++ (putL g 4 ++ (putL s 4 ++ putL c 8))
@[simp] theorem tokL_length (b : Int) (g s c : Nat) : (tokL b g s c).length = 17 := by simp [tokL]
/-- Rows that are none of bytes stay. -/
structure RK (B : Nat) (w w' : World) : Prop where
  bel : Below B w w'
  row : ∀ (b : Nat) (C : Array Value) (t : TypeId) (fr : Nat × Nat), t ≠ 5 → w.heap[b]? = some (.cells C t fr) → w'.heap[b]? = some (.cells C t fr)
theorem RK.refl (B : Nat) (w : World) : RK B w w := ⟨Below.refl _ _, fun _ _ _ _ _ h => h⟩
theorem RK.trans {B : Nat} {a b c : World} (h : RK B a b) (k : RK B b c) : RK B a c := ⟨h.bel.trans k.bel, fun x C t fr h1 h2 => k.row x C t fr h1 (h.row x C t fr h1 h2)⟩
theorem RK.drewN (B : Nat) (w : World) (n : Nat) : RK B w (w.drewN n) := ⟨below_drewN (Below.refl _ _) n, fun _ _ _ _ _ h => h⟩
theorem RK.below {B : Nat} {w w' : World} (h : Below w.heap.size w w') (hB : B ≤ w.heap.size) : RK B w w' :=
  ⟨h.mono hB, fun b _ _ _ _ hb => (h.block b (Array.getElem?_eq_some_iff.1 hb).1).trans hb⟩
/-- A row of bytes that is built out of another (v0, in w). -/
structure BS (B : Nat) (w : World) (v0 : Value) (W : World) (v : Value) (l : List UInt8) : Prop where
  own : OwnB B W v l
  gr : Grew w W v0 v
  rk : RK B w W
  le : B ≤ W.heap.size
section
variable {B : Nat} {w W W' : World} {v0 v : Value} {l r : List UInt8} {e : Ending}
theorem BS.start (h : OwnB B w v l) (hB : B ≤ w.heap.size) : BS B w v w v l := ⟨h, Grew.refl _ _, RK.refl _ _, hB⟩
theorem OwnB.rkOf (h : OwnB B W v l) (hB : B ≤ W.heap.size) {v' : Value} (hg : Grew W W' v v') : RK B W W' :=
  ⟨below_of_grown h hB hg, fun _ _ _ _ ht hb => keep_row h hg ht hb⟩
theorem BS.step (h : BS B w v0 W v l) {v' : Value} (ho : OwnB B W' v' r) (hg : Grew W W' v v') : BS B w v0 W' v' r :=
  ⟨ho, h.gr.trans hg, h.rk.trans (h.own.rkOf h.le hg), Nat.le_trans h.le hg.1.size⟩
theorem BS.put (h : BS B w v0 W v l) (hp : Puts B W v r e W') : ∃ v', e = .returned v' ∧ BS B w v0 W' v' r := by
  obtain ⟨v', he, ho, hg⟩ := hp
  exact ⟨v', he, h.step ho hg⟩
theorem BS.put2 (h : BS B w v0 W v l) (hp : Puts B W v r e W') : ∃ v', e = .returned v' ∧ RK B W W' ∧ BS B w v0 W' v' r := by
  obtain ⟨v', he, ho, hg⟩ := hp
  exact ⟨v', he, h.own.rkOf h.le hg, h.step ho hg⟩
theorem BS.bel (h : BS B w v0 W v l) (hb : Below W.heap.size W W') : BS B w v0 W' v l :=
  ⟨h.own.bel hb, h.gr.trans (Grew.of_below v hb), h.rk.trans (RK.below hb h.le), Nat.le_trans h.le hb.size⟩
theorem BS.alloc (h : BS B w v0 W v l) (o : Obj) : BS B w v0 (W.alloc o) v l := h.bel ((Below.refl _ _).alloc (Nat.le_refl _) o)
theorem BS.drew (h : BS B w v0 W v l) (n : Nat) : BS B w v0 (W.drewN n) v l := h.bel (below_drewN (Below.refl _ _) n)
theorem BS.puts (h : BS B w v0 W v l) (hr : l = r) : Puts B w v0 r (.returned v) W := ⟨v, rfl, hr ▸ h.own, h.gr⟩
theorem Puts.after_alloc {o : Obj} (h : Puts B (w.alloc o) v r e W) : Puts B w v r e W := by
  obtain ⟨v', he, ho, hg⟩ := h
  exact ⟨v', he, ho, hg.after_alloc⟩
/-- The box's row, wherever the walk is. -/
theorem BS.row (h : BS B w v0 W v l) {b : Nat} {C : Array Value} {t : TypeId} {fr : Nat × Nat} (ht : t ≠ 5) (hb : w.heap[b]? = some (.cells C t fr)) : W.heap[b]? = some (.cells C t fr) := h.rk.row b C t fr ht hb
end
set_option maxRecDepth 100000 in
set_option maxHeartbeats 4000000 in
theorem cBit (b : Bool) (w : World) : Calls Try.prog 41 #[.bool b] w (fun e w' => e = .returned (.int .u64 (bitN b : Int)) ∧ w' = w) := by
  cases b
  · go_enter Try.func41, Try.ntmps41
    go_wp2
    go_ret
    exact ⟨rfl, rfl⟩
  · go_enter Try.func41, Try.ntmps41
    go_wp2
    go_ret
    exact ⟨rfl, rfl⟩
set_option maxRecDepth 100000 in
set_option maxHeartbeats 4000000 in
theorem rBit (b : Bool) (w : World) : Calls Try.prog 45 #[.bool b] w (fun e w' => e = .returned (.int .u8 (bitN b : Int)) ∧ w' = w) := by
  cases b
  · go_enter Try.func45, Try.ntmps45
    go_wp2
    go_ret
    exact ⟨rfl, rfl⟩
  · go_enter Try.func45, Try.ntmps45
    go_wp2
    go_ret
    exact ⟨rfl, rfl⟩
set_option maxRecDepth 100000 in
set_option maxHeartbeats 4000000 in
theorem cTok (B : Nat) (v : Value) (l : List UInt8) (b : Int) (g s c : Nat) (w : World) (hv : OwnB B w v l) (hB : B ≤ w.heap.size) (hl : l.length ≤ 50000000000) (hg : g < 4294967296) (hs : s < 4294967296) (hc : c < 18446744073709551616) :
    Calls Try.prog 39 #[v, .agg (tokA b g s c)] w (Puts B w v (l ++ tokL b g s c)) := by
  have hwb := wrap_u64N b
  have hbl := u64N_lt b
  have hwg : IntKind.u64.wrap (g : Int) = (g : Int) := by rw [IntKind.wrap_u64]; omega
  have hws : IntKind.u64.wrap (s : Int) = (s : Int) := by rw [IntKind.wrap_u64]; omega
  have HB := Lib.hid (And.intro hl (And.intro hg (And.intro hs (And.intro hc hbl))))
  have HS0 := Lib.hid (BS.start (hv.alloc (.cells (tokA b g s c) 29)) (Nat.le_trans hB (by simp)))
  have HR0 := Lib.hid (heap_alloc_new w (.cells (tokA b g s c) 29))
  have HAF := Lib.hid (fun r e W (h : Puts B (w.alloc (.cells (tokA b g s c) 29)) v r e W) => h.after_alloc)
  clear hv hB hl hg hs hc hbl
  unfold tokA at *
  go_enter Try.func39, Try.ntmps39
  go_wp2_with fail
  generalize (w.alloc (.cells #[.int .i64 b, .int .u32 (g : Int), .int .u32 (s : Int), .int .u64 (c : Int)] 29)) = W0 at *
  refine (packPut B _ _ (u64N b) 1 _ HS0.out.own HS0.out.le (by have := HB.out.1; (try simp only [List.length_append, putL_length]); omega) HB.out.2.2.2.2 (by omega) (by omega)).mono ?_
  intro e W1 hp
  obtain ⟨v1, rfl, hs⟩ := HS0.out.put hp
  have HS1 := Lib.hid hs
  have HR1 := Lib.hid (HS1.out.row (by decide) HR0.out)
  clear hp hs HS0
  have hcl := (cell_of_row W1 w.heap.size 1 _ _ _ HR1.out).trans (show _ = some (.int .u32 (g : Int)) from rfl)
  go_wp2_with fail
  clear hcl
  refine (packPut B _ _ g 4 _ HS1.out.own HS1.out.le (by have := HB.out.1; (try simp only [List.length_append, putL_length]); omega) (by have := HB.out.2.1; omega) (by omega) (by omega)).mono ?_
  intro e W2 hp
  obtain ⟨v2, rfl, hs⟩ := HS1.out.put hp
  have HS2 := Lib.hid hs
  have HR2 := Lib.hid (HS2.out.row (by decide) HR0.out)
  clear hp hs HS1
  have hcl := (cell_of_row W2 w.heap.size 2 _ _ _ HR2.out).trans (show _ = some (.int .u32 (s : Int)) from rfl)
  go_wp2_with fail
  clear hcl
  refine (packPut B _ _ s 4 _ HS2.out.own HS2.out.le (by have := HB.out.1; (try simp only [List.length_append, putL_length]); omega) (by have := HB.out.2.2.1; omega) (by omega) (by omega)).mono ?_
  intro e W3 hp
  obtain ⟨v3, rfl, hs⟩ := HS2.out.put hp
  have HS3 := Lib.hid hs
  have HR3 := Lib.hid (HS3.out.row (by decide) HR0.out)
  clear hp hs HS2
  have hcl := (cell_of_row W3 w.heap.size 3 _ _ _ HR3.out).trans (show _ = some (.int .u64 (c : Int)) from rfl)
  go_wp2_with fail
  clear hcl
  refine (packPut B _ _ c 8 _ HS3.out.own HS3.out.le (by have := HB.out.1; (try simp only [List.length_append, putL_length]); omega) HB.out.2.2.2.1 (by omega) (by omega)).mono ?_
  intro e W4 hp
  obtain ⟨v4, rfl, hs⟩ := HS3.out.put hp
  have HS4 := Lib.hid hs
  have HR4 := Lib.hid (HS4.out.row (by decide) HR0.out)
  clear hp hs HS3
  go_wp2
  go_ret
  exact HAF.out _ _ _ (HS4.out.puts (by simp only [tokL, List.append_assoc]))
set_option maxRecDepth 100000 in
set_option maxHeartbeats 4000000 in
theorem rTok (B : Nat) (v : Value) (l : List UInt8) (b : Int) (g s c : Nat) (w : World) (hv : OwnB B w v l) (hB : B ≤ w.heap.size) (hl : l.length ≤ 50000000000) (hg : g < 4294967296) (hs : s < 4294967296) (hc : c < 18446744073709551616) :
    Calls Try.prog 42 #[v, .agg (tokA b g s c)] w (Puts B w v (l ++ tokL b g s c)) := by
  have hwb := wrap_u64N b
  have hbl := u64N_lt b
  have hwg : IntKind.u64.wrap (g : Int) = (g : Int) := by rw [IntKind.wrap_u64]; omega
  have hws : IntKind.u64.wrap (s : Int) = (s : Int) := by rw [IntKind.wrap_u64]; omega
  have HB := Lib.hid (And.intro hl (And.intro hg (And.intro hs (And.intro hc hbl))))
  have HS0 := Lib.hid (BS.start (hv.alloc (.cells (tokA b g s c) 29)) (Nat.le_trans hB (by simp)))
  have HR0 := Lib.hid (heap_alloc_new w (.cells (tokA b g s c) 29))
  have HAF := Lib.hid (fun r e W (h : Puts B (w.alloc (.cells (tokA b g s c) 29)) v r e W) => h.after_alloc)
  clear hv hB hl hg hs hc hbl
  unfold tokA at *
  go_enter Try.func42, Try.ntmps42
  go_wp2_with fail
  generalize (w.alloc (.cells #[.int .i64 b, .int .u32 (g : Int), .int .u32 (s : Int), .int .u64 (c : Int)] 29)) = W0 at *
  refine (refPut B _ _ (u64N b) 1 _ HS0.out.own HS0.out.le (by have := HB.out.1; (try simp only [List.length_append, putL_length]); omega) HB.out.2.2.2.2 (by omega)).mono ?_
  intro e W1 hp
  obtain ⟨v1, rfl, hs⟩ := HS0.out.put hp
  have HS1 := Lib.hid hs
  have HR1 := Lib.hid (HS1.out.row (by decide) HR0.out)
  clear hp hs HS0
  have hcl := (cell_of_row W1 w.heap.size 1 _ _ _ HR1.out).trans (show _ = some (.int .u32 (g : Int)) from rfl)
  go_wp2_with fail
  clear hcl
  refine (refPut B _ _ g 4 _ HS1.out.own HS1.out.le (by have := HB.out.1; (try simp only [List.length_append, putL_length]); omega) (by have := HB.out.2.1; omega) (by omega)).mono ?_
  intro e W2 hp
  obtain ⟨v2, rfl, hs⟩ := HS1.out.put hp
  have HS2 := Lib.hid hs
  have HR2 := Lib.hid (HS2.out.row (by decide) HR0.out)
  clear hp hs HS1
  have hcl := (cell_of_row W2 w.heap.size 2 _ _ _ HR2.out).trans (show _ = some (.int .u32 (s : Int)) from rfl)
  go_wp2_with fail
  clear hcl
  refine (refPut B _ _ s 4 _ HS2.out.own HS2.out.le (by have := HB.out.1; (try simp only [List.length_append, putL_length]); omega) (by have := HB.out.2.2.1; omega) (by omega)).mono ?_
  intro e W3 hp
  obtain ⟨v3, rfl, hs⟩ := HS2.out.put hp
  have HS3 := Lib.hid hs
  have HR3 := Lib.hid (HS3.out.row (by decide) HR0.out)
  clear hp hs HS2
  have hcl := (cell_of_row W3 w.heap.size 3 _ _ _ HR3.out).trans (show _ = some (.int .u64 (c : Int)) from rfl)
  go_wp2_with fail
  clear hcl
  refine (refPut B _ _ c 8 _ HS3.out.own HS3.out.le (by have := HB.out.1; (try simp only [List.length_append, putL_length]); omega) HB.out.2.2.2.1 (by omega)).mono ?_
  intro e W4 hp
  obtain ⟨v4, rfl, hs⟩ := HS3.out.put hp
  have HS4 := Lib.hid hs
  have HR4 := Lib.hid (HS4.out.row (by decide) HR0.out)
  clear hp hs HS3
  go_wp2
  go_ret
  exact HAF.out _ _ _ (HS4.out.puts (by simp only [tokL, List.append_assoc]))
end Go.Proofs.Ytlngefhjoobmdaa
namespace Go.Proofs.Ytlngefhjoobmdaa.Reg
open Go
def chJ (c d : Nat) (P0 : World → Prop) (P1 P2 : Value → World → Prop) : Env → (Nat → Bool) → World → Prop := fun e L w => (L c = false → P0 w) ∧ (L c = true → L d = false → P1 (e c) w) ∧ (L d = true → P2 (e d) w)
section
variable {P : Program} {ops : Array Oper} {R : World → World → Prop} {w0 : World} {Q : Exit → Act → World → Prop} {c d : Nat} {P0 : World → Prop} {P1 P2 : Value → World → Prop}
theorem chJ_other {e : Env} {L : Nat → Bool} {w : World} {k : Nat} (v : Value) (hc : c ≠ k) (hd : d ≠ k) (h : chJ c d P0 P1 P2 e L w) : chJ c d P0 P1 P2 (setE e k v) (upd L k) w := by
  unfold chJ at *
  have h1 : (c == k) = false := by simpa using hc
  have h2 : (d == k) = false := by simpa using hd
  simp only [upd, h1, h2, Bool.false_or, setE, if_neg hc, if_neg hd]
  exact h
theorem chJ_upd {e : Env} {L : Nat → Bool} {w : World} {k : Nat} (hc : c ≠ k) (hd : d ≠ k) (h : chJ c d P0 P1 P2 e L w) : chJ c d P0 P1 P2 e (upd L k) w := by
  unfold chJ at *
  have h1 : (c == k) = false := by simpa using hc
  have h2 : (d == k) = false := by simpa using hd
  simp only [upd, h1, h2, Bool.false_or]
  exact h
theorem segH {fs : List (Nat × (Env → World → Prop))} (n : Nat) {l : List Oper} {k : Nat} {A : Env → Act} (hp : (l.take n).all plainB = true) (hn : (l.take n).length = n) (hij : ((decide (c < k) || decide (k + n ≤ c)) && (decide (d < k) || decide (k + n ≤ d))) = true)
    (h : ∃ A', (∀ e, wpQuiet P ops (fun w => R w0 w) (fun a' => a' = A' e) (l.take n) (A e)) ∧ Steps P ops R (chJ c d P0 P1 P2) w0 Q (l.drop n) (k + n) A' fs) : Steps P ops R (chJ c d P0 P1 P2) w0 Q l k A fs := by
  obtain ⟨A', h, hs⟩ := h
  simp only [Bool.and_eq_true, Bool.or_eq_true, decide_eq_true_eq] at hij
  have := steps_seg (P := P) (ops := ops) (R := R) (J := chJ c d P0 P1 P2) (w0 := w0) (Q := Q) (rest := l.drop n) (A' := A') (fs := fs) (l.take n) k A (by rw [hn]; exact fun q h1 h2 e L w hj => chJ_upd (by omega) (by omega) hj) hp h (by rw [hn]; exact hs)
  rw [List.take_append_drop] at this
  exact this
/-- It leaves the world alone. -/
theorem stillH {o : Oper} {rest : List Oper} {k : Nat} {A : Env → Act} {fs : List (Nat × (Env → World → Prop))} (u : Value) (hrefl : ∀ w, R w w) (hij : (c != k && d != k) = true)
    (h : ∀ e w, R w0 w → Region.wanted o (yielded ops (A e).tmps) = true ∧ gives P o (A e) w (fun v w' => w' = w ∧ v = u))
    (hs : Steps P ops R (chJ c d P0 P1 P2) w0 Q rest (k + 1) (fun e => (A e).put o.dst u) fs) : Steps P ops R (chJ c d P0 P1 P2) w0 Q (o :: rest) k A fs := by
  simp only [Bool.and_eq_true, bne_iff_ne] at hij
  exact steps_const u (fun e w L _ hR hJ _ => ⟨(h e w hR).1, gives_mono (fun v w' hh => by
    obtain ⟨rfl, hc⟩ := hh
    exact ⟨hrefl _, chJ_other v hij.1 hij.2 hJ, hc⟩) (h e w hR).2⟩) hs
/-- The first call. -/
theorem callH {o : Oper} {rest : List Oper} {A : Env → Act} {fs : List (Nat × (Env → World → Prop))} (hij : (d != c && depT ops ops.size d c) = true)
    (h : ∀ e w, R w0 w → P0 w → Region.wanted o (yielded ops (A e).tmps) = true ∧ gives P o (A e) w (fun v w' => R w w' ∧ P1 v w'))
    (hs : Steps P ops R (chJ c d P0 P1 P2) w0 Q rest (c + 1) (fun e => (A e).put o.dst (e c)) fs) : Steps P ops R (chJ c d P0 P1 P2) w0 Q (o :: rest) c A fs := by
  simp only [Bool.and_eq_true, bne_iff_ne] at hij
  refine steps_fact (fun _ _ => True) (fun _ _ _ _ _ => trivial) (fun e w L hN hR hJ _ => ?_) (steps_weaken _ _ _ fs _ (fun _ _ _ hf => hf.2) (fun _ _ hf => hf.2) hs)
  have hd := hN.2.2 d hij.2
  have h1 := h e w hR (hJ.1 hN.1)
  have e1 : (d == c) = false := by simpa using hij.1
  refine ⟨h1.1, gives_mono (fun v w' hh => ⟨hh.1, ⟨fun h2 => ?_, fun _ _ => ?_, fun h2 => ?_⟩, trivial⟩) h1.2⟩
  · simp [upd] at h2
  · simp only [setE, if_pos]; exact hh.2
  · simp [upd, e1, hd] at h2
/-- The second. -/
theorem callH2 {o : Oper} {rest : List Oper} {A : Env → Act} {fs : List (Nat × (Env → World → Prop))} (hij : (c != d && depT ops ops.size d c) = true)
    (h : ∀ e w, R w0 w → P1 (e c) w → Region.wanted o (yielded ops (A e).tmps) = true ∧ gives P o (A e) w (fun v w' => R w w' ∧ P2 v w'))
    (hs : Steps P ops R (chJ c d P0 P1 P2) w0 Q rest (d + 1) (fun e => (A e).put o.dst (e d)) fs) : Steps P ops R (chJ c d P0 P1 P2) w0 Q (o :: rest) d A fs := by
  simp only [Bool.and_eq_true, bne_iff_ne] at hij
  refine steps_fact (fun _ _ => True) (fun _ _ _ _ _ => trivial) (fun e w L hN hR hJ _ => ?_) (steps_weaken _ _ _ fs _ (fun _ _ _ hf => hf.2) (fun _ _ hf => hf.2) hs)
  have hc := hN.2.1 c hij.2
  have h1 := h e w hR (hJ.2.1 hc hN.1)
  have e1 : (c == d) = false := by simpa using hij.1
  refine ⟨h1.1, gives_mono (fun v w' hh => ⟨hh.1, ⟨fun h2 => ?_, fun _ h2 => ?_, fun _ => ?_⟩, trivial⟩) h1.2⟩
  · simp [upd, e1, hc] at h2
  · simp [upd] at h2
  · simp only [setE, if_pos]; exact hh.2
theorem wp_regionH {id : Nat} {l : List Oper} {a' : Act} {w : World} (R : World → World → Prop) (hrefl : ∀ w, R w w) (htr : ∀ a b c, R a b → R b c → R a c) (c d : Nat) (P0 : World → Prop) (P1 P2 : Value → World → Prop) (hm : P.follows .mixedOrders = true) (hB : regB l = true) (hp : P0 w.drew)
    (h : Steps P l.toArray R (chJ c d P0 P1 P2) w.drew Q l 0 (fun _ => a') []) : (Code.region id l.toArray true).wp P Q a' w :=
  wp_region_facts R (chJ c d P0 P1 P2) hm hB (hrefl _) htr (fun _ => ⟨fun _ => hp, fun h => (by cases h), fun h => (by cases h)⟩) h
end
end Go.Proofs.Ytlngefhjoobmdaa.Reg
namespace Go.Proofs.Ytlngefhjoobmdaa
open Go.RowKit
def COp.wf (x : COp) : Prop := x.cond < 18446744073709551616 ∧ x.ttl < 18446744073709551616 ∧ x.key.size ≤ maxLen ∧ x.val.size ≤ maxLen
/-- An op's bytes. -/
def opL (t : Int) (x : COp) : List UInt8 := (if t = 9 then putL (bitN x.del) 1 else []) ++ (textL x.key.data.toList ++ (if t = 7 then [] else putL x.cond 8 ++ (if x.del = true then [] else textL x.val.data.toList ++ putL x.ttl 8)))
theorem textL_len9 (s : List UInt8) : (textL s).length ≤ 65537 := by
  unfold textL
  simp only [List.length_append, putL_length, List.length_take]
  omega
theorem opL_len (t : Int) (x : COp) : (opL t x).length ≤ 131091 := by
  have hk := textL_len9 x.key.data.toList
  have hv := textL_len9 x.val.data.toList
  unfold opL
  split <;> split <;> (try split) <;> simp only [List.length_append, putL_length, List.length_nil] <;> omega
set_option maxRecDepth 100000 in
set_option maxHeartbeats 4000000 in
theorem putOp7 (B : Nat) (v : Value) (l : List UInt8) (K V : ByteArray) (d : Bool) (c u : Nat) (w : World) (hv : OwnB B w v l) (hB : B ≤ w.heap.size) (hl : l.length ≤ 5000000000) (hc : c < 18446744073709551616) (hu : u < 18446744073709551616) (hk : K.size ≤ maxLen) (hvv : V.size ≤ maxLen) :
    Calls Try.prog 54 #[v, .int .i64 7, .agg #[.bool d, .string K, .string V, .int .u64 (c : Int), .int .u64 (u : Int)]] w (Puts B w v (l ++ opL 7 ⟨d, K, V, c, u⟩)) := by
  have HB := Lib.hid (And.intro hl (And.intro hc (And.intro hu (And.intro hk hvv))))
  obtain ⟨C, hC⟩ : ∃ C : Array Value, C = #[.bool d, .string K, .string V, .int .u64 (c : Int), .int .u64 (u : Int)] := ⟨_, rfl⟩
  have HS0 := Lib.hid (BS.start (hv.alloc (.cells C 93)) (Nat.le_trans hB (by simp)))
  have HR0 := Lib.hid (heap_alloc_new w (.cells C 93))
  have HAF := Lib.hid (fun r e W (h : Puts B (w.alloc (.cells C 93)) v r e W) => h.after_alloc)
  subst hC
  have HEQ := Lib.hid (fun (_ : Unit) => show l ++ textL K.data.toList = l ++ opL 7 ⟨d, K, V, c, u⟩ by simp [opL])
  clear hv hB hl hc hu hk hvv
  go_enter Try.func54, Try.ntmps54
  go_wp2_with fail
  generalize (w.alloc (.cells #[.bool d, .string K, .string V, .int .u64 (c : Int), .int .u64 (u : Int)] 93)) = W0 at *
  refine (packPutText B _ _ K _ HS0.out.own HS0.out.le (by have := HB.out.1; have := textL_len9 K.data.toList; first | omega | (simp; omega)) HB.out.2.2.2.1).mono ?_
  intro e W1 hp
  obtain ⟨v1, rfl, hs⟩ := HS0.out.put hp
  have HS1 := Lib.hid hs
  have HR1 := Lib.hid (HS1.out.row (by decide) HR0.out)
  clear hp hs HS0
  go_wp2
  go_ret
  exact HAF.out _ _ _ (HS1.out.puts (HEQ.out ()))
set_option maxRecDepth 100000 in
set_option maxHeartbeats 4000000 in
theorem putOp9t (B : Nat) (v : Value) (l : List UInt8) (K V : ByteArray) (c u : Nat) (w : World) (hv : OwnB B w v l) (hB : B ≤ w.heap.size) (hl : l.length ≤ 5000000000) (hc : c < 18446744073709551616) (hu : u < 18446744073709551616) (hk : K.size ≤ maxLen) (hvv : V.size ≤ maxLen) :
    Calls Try.prog 54 #[v, .int .i64 9, .agg #[.bool true, .string K, .string V, .int .u64 (c : Int), .int .u64 (u : Int)]] w (Puts B w v (l ++ opL 9 ⟨true, K, V, c, u⟩)) := by
  have HB := Lib.hid (And.intro hl (And.intro hc (And.intro hu (And.intro hk hvv))))
  obtain ⟨C, hC⟩ : ∃ C : Array Value, C = #[.bool true, .string K, .string V, .int .u64 (c : Int), .int .u64 (u : Int)] := ⟨_, rfl⟩
  have HS0 := Lib.hid (BS.start (hv.alloc (.cells C 93)) (Nat.le_trans hB (by simp)))
  have HR0 := Lib.hid (heap_alloc_new w (.cells C 93))
  have HAF := Lib.hid (fun r e W (h : Puts B (w.alloc (.cells C 93)) v r e W) => h.after_alloc)
  subst hC
  have HEQ := Lib.hid (fun (_ : Unit) => show l ++ putL (bitN true) 1 ++ textL K.data.toList ++ putL c 8 = l ++ opL 9 ⟨true, K, V, c, u⟩ by simp [opL])
  clear hv hB hl hc hu hk hvv
  go_enter Try.func54, Try.ntmps54
  go_wp2_with fail
  generalize (w.alloc (.cells #[.bool true, .string K, .string V, .int .u64 (c : Int), .int .u64 (u : Int)] 93)) = W0 at *
  refine (cBit true _).mono ?_
  rintro e W0x ⟨rfl, hq⟩
  rw [hq]
  clear hq
  go_wp2_with fail
  refine (packPut B _ _ (bitN true) 1 _ HS0.out.own HS0.out.le (by have := HB.out.1; have := textL_len9 K.data.toList; first | omega | (simp; omega)) (bitN_lt _) (by omega) (by omega)).mono ?_
  intro e W1 hp
  obtain ⟨v1, rfl, hs⟩ := HS0.out.put hp
  have HS1 := Lib.hid hs
  have HR1 := Lib.hid (HS1.out.row (by decide) HR0.out)
  clear hp hs HS0
  have hcl1 := (cell_of_row W1 w.heap.size 1 _ _ _ HR1.out).trans (show _ = some (.string K) from rfl)
  go_wp2_with fail
  clear hcl1
  refine (packPutText B _ _ K _ HS1.out.own HS1.out.le (by have := HB.out.1; have := textL_len9 K.data.toList; first | omega | (simp; omega)) HB.out.2.2.2.1).mono ?_
  intro e W2 hp
  obtain ⟨v2, rfl, hs⟩ := HS1.out.put hp
  have HS2 := Lib.hid hs
  have HR2 := Lib.hid (HS2.out.row (by decide) HR0.out)
  clear hp hs HS1
  have hcl3 := (cell_of_row W2 w.heap.size 3 _ _ _ HR2.out).trans (show _ = some (.int .u64 (c : Int)) from rfl)
  go_wp2_with fail
  clear hcl3
  refine (packPut B _ _ c 8 _ HS2.out.own HS2.out.le (by have := HB.out.1; have := textL_len9 K.data.toList; first | omega | (simp; omega)) HB.out.2.1 (by omega) (by omega)).mono ?_
  intro e W3 hp
  obtain ⟨v3, rfl, hs⟩ := HS2.out.put hp
  have HS3 := Lib.hid hs
  have HR3 := Lib.hid (HS3.out.row (by decide) HR0.out)
  clear hp hs HS2
  have hcl0 := (cell_of_row W3 w.heap.size 0 _ _ _ HR3.out).trans (show _ = some (.bool true) from rfl)
  go_wp2
  go_ret
  exact HAF.out _ _ _ (HS3.out.puts (HEQ.out ()))
set_option maxRecDepth 100000 in
set_option maxHeartbeats 4000000 in
theorem putOp9f (B : Nat) (v : Value) (l : List UInt8) (K V : ByteArray) (c u : Nat) (w : World) (hv : OwnB B w v l) (hB : B ≤ w.heap.size) (hl : l.length ≤ 5000000000) (hc : c < 18446744073709551616) (hu : u < 18446744073709551616) (hk : K.size ≤ maxLen) (hvv : V.size ≤ maxLen) :
    Calls Try.prog 54 #[v, .int .i64 9, .agg #[.bool false, .string K, .string V, .int .u64 (c : Int), .int .u64 (u : Int)]] w (Puts B w v (l ++ opL 9 ⟨false, K, V, c, u⟩)) := by
  have HB := Lib.hid (And.intro hl (And.intro hc (And.intro hu (And.intro hk hvv))))
  obtain ⟨C, hC⟩ : ∃ C : Array Value, C = #[.bool false, .string K, .string V, .int .u64 (c : Int), .int .u64 (u : Int)] := ⟨_, rfl⟩
  have HS0 := Lib.hid (BS.start (hv.alloc (.cells C 93)) (Nat.le_trans hB (by simp)))
  have HR0 := Lib.hid (heap_alloc_new w (.cells C 93))
  have HAF := Lib.hid (fun r e W (h : Puts B (w.alloc (.cells C 93)) v r e W) => h.after_alloc)
  subst hC
  have HEQ := Lib.hid (fun (_ : Unit) => show (l ++ putL (bitN false) 1 ++ textL K.data.toList ++ putL c 8) ++ (textL V.data.toList ++ putL u 8) = l ++ opL 9 ⟨false, K, V, c, u⟩ by simp [opL])
  clear hv hB hl hc hu hk hvv
  go_enter Try.func54, Try.ntmps54
  go_wp2_with fail
  generalize (w.alloc (.cells #[.bool false, .string K, .string V, .int .u64 (c : Int), .int .u64 (u : Int)] 93)) = W0 at *
  refine (cBit false _).mono ?_
  rintro e W0x ⟨rfl, hq⟩
  rw [hq]
  clear hq
  go_wp2_with fail
  refine (packPut B _ _ (bitN false) 1 _ HS0.out.own HS0.out.le (by have := HB.out.1; have := textL_len9 K.data.toList; first | omega | (simp; omega)) (bitN_lt _) (by omega) (by omega)).mono ?_
  intro e W1 hp
  obtain ⟨v1, rfl, hs⟩ := HS0.out.put hp
  have HS1 := Lib.hid hs
  have HR1 := Lib.hid (HS1.out.row (by decide) HR0.out)
  clear hp hs HS0
  have hcl1 := (cell_of_row W1 w.heap.size 1 _ _ _ HR1.out).trans (show _ = some (.string K) from rfl)
  go_wp2_with fail
  clear hcl1
  refine (packPutText B _ _ K _ HS1.out.own HS1.out.le (by have := HB.out.1; have := textL_len9 K.data.toList; first | omega | (simp; omega)) HB.out.2.2.2.1).mono ?_
  intro e W2 hp
  obtain ⟨v2, rfl, hs⟩ := HS1.out.put hp
  have HS2 := Lib.hid hs
  have HR2 := Lib.hid (HS2.out.row (by decide) HR0.out)
  clear hp hs HS1
  have hcl3 := (cell_of_row W2 w.heap.size 3 _ _ _ HR2.out).trans (show _ = some (.int .u64 (c : Int)) from rfl)
  go_wp2_with fail
  clear hcl3
  refine (packPut B _ _ c 8 _ HS2.out.own HS2.out.le (by have := HB.out.1; have := textL_len9 K.data.toList; first | omega | (simp; omega)) HB.out.2.1 (by omega) (by omega)).mono ?_
  intro e W3 hp
  obtain ⟨v3, rfl, hs⟩ := HS2.out.put hp
  have HS3 := Lib.hid hs
  have HR3 := Lib.hid (HS3.out.row (by decide) HR0.out)
  clear hp hs HS2
  have hcl0 := (cell_of_row W3 w.heap.size 0 _ _ _ HR3.out).trans (show _ = some (.bool false) from rfl)
  go_wp2_with fail
  clear hcl0
  have HL9 := Lib.hid (show (l ++ putL (bitN false) 1 ++ textL K.data.toList ++ putL c 8).length ≤ 6000000000 from (by have := HB.out.1; have := textL_len9 K.data.toList; first | omega | (simp; omega)))
  generalize l ++ putL (bitN false) 1 ++ textL K.data.toList ++ putL c 8 = L9 at *
  refine Reg.wp_regionH (RK B) (RK.refl B) (fun _ _ _ h k => h.trans k) 3 6 (fun W => BS B W0 v W v3 L9) (fun x W => BS B W0 v W x (L9 ++ textL V.data.toList)) (fun x W => BS B W0 v W x (L9 ++ (textL V.data.toList ++ putL u 8))) (by kernel_rfl) (by kernel_rfl) (HS3.out.drew 1) ?_
  refine Reg.segH 2 (by kernel_rfl) rfl (by kernel_rfl) ?_
  apply Exists.intro
  refine ⟨fun e => ?_, ?_⟩
  · simp only [List.take_succ_cons, List.take_zero]
    repeat (go_big_quiet_step ((intro _; rfl)))
    refine wpQuiet_nil ?_
    exact rfl
  simp only [List.drop_succ_cons, List.drop_zero, Nat.reduceAdd]
  refine Reg.stillH (.string V) (RK.refl B) (by kernel_rfl) (fun e W hR => ⟨by rfl, ?_⟩) ?_
  · have hcb := (cell_of_row W w.heap.size 2 _ _ _ (hR.row _ _ _ _ (by decide) HR3.out)).trans (show _ = some (.string V) from rfl)
    unfold Reg.gives
    go_simp
  simp only [Act.put, List.setIfInBounds_toArray, List.set_cons_zero, List.set_cons_succ, Nat.reduceAdd]
  refine Reg.callH (by kernel_rfl) (fun e W hR h0 => ⟨by rfl, ?_⟩) ?_
  · unfold Reg.gives
    go_simp
    refine (packPutText B _ _ V W h0.own h0.le (by have := HL9.out; omega) HB.out.2.2.2.2).mono ?_
    intro en W' hp
    obtain ⟨v', rfl, hk, hs⟩ := h0.put2 hp
    exact ⟨v', rfl, hk, hs⟩
  simp only [Act.put, List.setIfInBounds_toArray, List.set_cons_zero, List.set_cons_succ, Nat.reduceAdd]
  refine Reg.segH 1 (by kernel_rfl) rfl (by kernel_rfl) ?_
  apply Exists.intro
  refine ⟨fun e => ?_, ?_⟩
  · simp only [List.take_succ_cons, List.take_zero]
    repeat (go_big_quiet_step ((intro _; rfl)))
    refine wpQuiet_nil ?_
    exact rfl
  simp only [List.drop_succ_cons, List.drop_zero, Nat.reduceAdd]
  refine Reg.stillH (.int .u64 (u : Int)) (RK.refl B) (by kernel_rfl) (fun e W hR => ⟨by rfl, ?_⟩) ?_
  · have hcb := (cell_of_row W w.heap.size 4 _ _ _ (hR.row _ _ _ _ (by decide) HR3.out)).trans (show _ = some (.int .u64 (u : Int)) from rfl)
    unfold Reg.gives
    go_simp
  simp only [Act.put, List.setIfInBounds_toArray, List.set_cons_zero, List.set_cons_succ, Nat.reduceAdd]
  refine Reg.callH2 (by kernel_rfl) (fun e W hR h0 => ⟨by rfl, ?_⟩) ?_
  · unfold Reg.gives
    go_simp
    refine (packPut B _ _ u 8 W h0.own h0.le (by have := HL9.out; have := textL_len9 V.data.toList; simp only [List.length_append]; omega) HB.out.2.2.1 (by omega) (by omega)).mono ?_
    intro en W' hp
    obtain ⟨v', rfl, hk, hs⟩ := h0.put2 hp
    exact ⟨v', rfl, hk, by rwa [List.append_assoc] at hs⟩
  simp only [Act.put, List.setIfInBounds_toArray, List.set_cons_zero, List.set_cons_succ, Nat.reduceAdd]
  refine Reg.segH 1 (by kernel_rfl) rfl (by kernel_rfl) ?_
  apply Exists.intro
  refine ⟨fun e => ?_, ?_⟩
  · simp only [List.take_succ_cons, List.take_zero]
    repeat (go_big_quiet_step ((intro _; rfl)))
    refine wpQuiet_nil ?_
    exact rfl
  simp only [List.drop_succ_cons, List.drop_zero, Nat.reduceAdd]
  intro e W hR hJ hf
  have hJ2 := hJ.2.2 (by rfl)
  clear hf
  go_wp2
  go_ret
  exact HAF.out _ _ _ (hJ2.puts (HEQ.out ()))
set_option maxRecDepth 100000 in
set_option maxHeartbeats 4000000 in
theorem putOptt (B : Nat) (v : Value) (l : List UInt8) (t : Int) (K V : ByteArray) (c u : Nat) (w : World) (hv : OwnB B w v l) (hB : B ≤ w.heap.size) (hl : l.length ≤ 5000000000) (hc : c < 18446744073709551616) (hu : u < 18446744073709551616) (hk : K.size ≤ maxLen) (hvv : V.size ≤ maxLen) (h9 : t ≠ 9) (h7 : t ≠ 7) :
    Calls Try.prog 54 #[v, .int .i64 t, .agg #[.bool true, .string K, .string V, .int .u64 (c : Int), .int .u64 (u : Int)]] w (Puts B w v (l ++ opL t ⟨true, K, V, c, u⟩)) := by
  have HB := Lib.hid (And.intro hl (And.intro hc (And.intro hu (And.intro hk hvv))))
  obtain ⟨C, hC⟩ : ∃ C : Array Value, C = #[.bool true, .string K, .string V, .int .u64 (c : Int), .int .u64 (u : Int)] := ⟨_, rfl⟩
  have HS0 := Lib.hid (BS.start (hv.alloc (.cells C 93)) (Nat.le_trans hB (by simp)))
  have HR0 := Lib.hid (heap_alloc_new w (.cells C 93))
  have HAF := Lib.hid (fun r e W (h : Puts B (w.alloc (.cells C 93)) v r e W) => h.after_alloc)
  subst hC
  have HEQ := Lib.hid (fun (_ : Unit) => show l ++ textL K.data.toList ++ putL c 8 = l ++ opL t ⟨true, K, V, c, u⟩ by simp [opL, h9, h7])
  have e9 : (t == 9) = false := by simpa using h9
  have e7 : (t == 7) = false := by simpa using h7
  clear h9 h7
  clear hv hB hl hc hu hk hvv
  go_enter Try.func54, Try.ntmps54
  go_wp2_with fail
  generalize (w.alloc (.cells #[.bool true, .string K, .string V, .int .u64 (c : Int), .int .u64 (u : Int)] 93)) = W0 at *
  refine (packPutText B _ _ K _ HS0.out.own HS0.out.le (by have := HB.out.1; have := textL_len9 K.data.toList; first | omega | (simp; omega)) HB.out.2.2.2.1).mono ?_
  intro e W1 hp
  obtain ⟨v1, rfl, hs⟩ := HS0.out.put hp
  have HS1 := Lib.hid hs
  have HR1 := Lib.hid (HS1.out.row (by decide) HR0.out)
  clear hp hs HS0
  have hcl3 := (cell_of_row W1 w.heap.size 3 _ _ _ HR1.out).trans (show _ = some (.int .u64 (c : Int)) from rfl)
  go_wp2_with fail
  clear hcl3
  refine (packPut B _ _ c 8 _ HS1.out.own HS1.out.le (by have := HB.out.1; have := textL_len9 K.data.toList; first | omega | (simp; omega)) HB.out.2.1 (by omega) (by omega)).mono ?_
  intro e W2 hp
  obtain ⟨v2, rfl, hs⟩ := HS1.out.put hp
  have HS2 := Lib.hid hs
  have HR2 := Lib.hid (HS2.out.row (by decide) HR0.out)
  clear hp hs HS1
  have hcl0 := (cell_of_row W2 w.heap.size 0 _ _ _ HR2.out).trans (show _ = some (.bool true) from rfl)
  go_wp2
  go_ret
  exact HAF.out _ _ _ (HS2.out.puts (HEQ.out ()))
set_option maxRecDepth 100000 in
set_option maxHeartbeats 4000000 in
theorem putOptf (B : Nat) (v : Value) (l : List UInt8) (t : Int) (K V : ByteArray) (c u : Nat) (w : World) (hv : OwnB B w v l) (hB : B ≤ w.heap.size) (hl : l.length ≤ 5000000000) (hc : c < 18446744073709551616) (hu : u < 18446744073709551616) (hk : K.size ≤ maxLen) (hvv : V.size ≤ maxLen) (h9 : t ≠ 9) (h7 : t ≠ 7) :
    Calls Try.prog 54 #[v, .int .i64 t, .agg #[.bool false, .string K, .string V, .int .u64 (c : Int), .int .u64 (u : Int)]] w (Puts B w v (l ++ opL t ⟨false, K, V, c, u⟩)) := by
  have HB := Lib.hid (And.intro hl (And.intro hc (And.intro hu (And.intro hk hvv))))
  obtain ⟨C, hC⟩ : ∃ C : Array Value, C = #[.bool false, .string K, .string V, .int .u64 (c : Int), .int .u64 (u : Int)] := ⟨_, rfl⟩
  have HS0 := Lib.hid (BS.start (hv.alloc (.cells C 93)) (Nat.le_trans hB (by simp)))
  have HR0 := Lib.hid (heap_alloc_new w (.cells C 93))
  have HAF := Lib.hid (fun r e W (h : Puts B (w.alloc (.cells C 93)) v r e W) => h.after_alloc)
  subst hC
  have HEQ := Lib.hid (fun (_ : Unit) => show (l ++ textL K.data.toList ++ putL c 8) ++ (textL V.data.toList ++ putL u 8) = l ++ opL t ⟨false, K, V, c, u⟩ by simp [opL, h9, h7])
  have e9 : (t == 9) = false := by simpa using h9
  have e7 : (t == 7) = false := by simpa using h7
  clear h9 h7
  clear hv hB hl hc hu hk hvv
  go_enter Try.func54, Try.ntmps54
  go_wp2_with fail
  generalize (w.alloc (.cells #[.bool false, .string K, .string V, .int .u64 (c : Int), .int .u64 (u : Int)] 93)) = W0 at *
  refine (packPutText B _ _ K _ HS0.out.own HS0.out.le (by have := HB.out.1; have := textL_len9 K.data.toList; first | omega | (simp; omega)) HB.out.2.2.2.1).mono ?_
  intro e W1 hp
  obtain ⟨v1, rfl, hs⟩ := HS0.out.put hp
  have HS1 := Lib.hid hs
  have HR1 := Lib.hid (HS1.out.row (by decide) HR0.out)
  clear hp hs HS0
  have hcl3 := (cell_of_row W1 w.heap.size 3 _ _ _ HR1.out).trans (show _ = some (.int .u64 (c : Int)) from rfl)
  go_wp2_with fail
  clear hcl3
  refine (packPut B _ _ c 8 _ HS1.out.own HS1.out.le (by have := HB.out.1; have := textL_len9 K.data.toList; first | omega | (simp; omega)) HB.out.2.1 (by omega) (by omega)).mono ?_
  intro e W2 hp
  obtain ⟨v2, rfl, hs⟩ := HS1.out.put hp
  have HS2 := Lib.hid hs
  have HR2 := Lib.hid (HS2.out.row (by decide) HR0.out)
  clear hp hs HS1
  have hcl0 := (cell_of_row W2 w.heap.size 0 _ _ _ HR2.out).trans (show _ = some (.bool false) from rfl)
  go_wp2_with fail
  clear hcl0
  have HL9 := Lib.hid (show (l ++ textL K.data.toList ++ putL c 8).length ≤ 6000000000 from (by have := HB.out.1; have := textL_len9 K.data.toList; first | omega | (simp; omega)))
  generalize l ++ textL K.data.toList ++ putL c 8 = L9 at *
  refine Reg.wp_regionH (RK B) (RK.refl B) (fun _ _ _ h k => h.trans k) 3 6 (fun W => BS B W0 v W v2 L9) (fun x W => BS B W0 v W x (L9 ++ textL V.data.toList)) (fun x W => BS B W0 v W x (L9 ++ (textL V.data.toList ++ putL u 8))) (by kernel_rfl) (by kernel_rfl) (HS2.out.drew 1) ?_
  refine Reg.segH 2 (by kernel_rfl) rfl (by kernel_rfl) ?_
  apply Exists.intro
  refine ⟨fun e => ?_, ?_⟩
  · simp only [List.take_succ_cons, List.take_zero]
    repeat (go_big_quiet_step ((intro _; rfl)))
    refine wpQuiet_nil ?_
    exact rfl
  simp only [List.drop_succ_cons, List.drop_zero, Nat.reduceAdd]
  refine Reg.stillH (.string V) (RK.refl B) (by kernel_rfl) (fun e W hR => ⟨by rfl, ?_⟩) ?_
  · have hcb := (cell_of_row W w.heap.size 2 _ _ _ (hR.row _ _ _ _ (by decide) HR2.out)).trans (show _ = some (.string V) from rfl)
    unfold Reg.gives
    go_simp
  simp only [Act.put, List.setIfInBounds_toArray, List.set_cons_zero, List.set_cons_succ, Nat.reduceAdd]
  refine Reg.callH (by kernel_rfl) (fun e W hR h0 => ⟨by rfl, ?_⟩) ?_
  · unfold Reg.gives
    go_simp
    refine (packPutText B _ _ V W h0.own h0.le (by have := HL9.out; omega) HB.out.2.2.2.2).mono ?_
    intro en W' hp
    obtain ⟨v', rfl, hk, hs⟩ := h0.put2 hp
    exact ⟨v', rfl, hk, hs⟩
  simp only [Act.put, List.setIfInBounds_toArray, List.set_cons_zero, List.set_cons_succ, Nat.reduceAdd]
  refine Reg.segH 1 (by kernel_rfl) rfl (by kernel_rfl) ?_
  apply Exists.intro
  refine ⟨fun e => ?_, ?_⟩
  · simp only [List.take_succ_cons, List.take_zero]
    repeat (go_big_quiet_step ((intro _; rfl)))
    refine wpQuiet_nil ?_
    exact rfl
  simp only [List.drop_succ_cons, List.drop_zero, Nat.reduceAdd]
  refine Reg.stillH (.int .u64 (u : Int)) (RK.refl B) (by kernel_rfl) (fun e W hR => ⟨by rfl, ?_⟩) ?_
  · have hcb := (cell_of_row W w.heap.size 4 _ _ _ (hR.row _ _ _ _ (by decide) HR2.out)).trans (show _ = some (.int .u64 (u : Int)) from rfl)
    unfold Reg.gives
    go_simp
  simp only [Act.put, List.setIfInBounds_toArray, List.set_cons_zero, List.set_cons_succ, Nat.reduceAdd]
  refine Reg.callH2 (by kernel_rfl) (fun e W hR h0 => ⟨by rfl, ?_⟩) ?_
  · unfold Reg.gives
    go_simp
    refine (packPut B _ _ u 8 W h0.own h0.le (by have := HL9.out; have := textL_len9 V.data.toList; simp only [List.length_append]; omega) HB.out.2.2.1 (by omega) (by omega)).mono ?_
    intro en W' hp
    obtain ⟨v', rfl, hk, hs⟩ := h0.put2 hp
    exact ⟨v', rfl, hk, by rwa [List.append_assoc] at hs⟩
  simp only [Act.put, List.setIfInBounds_toArray, List.set_cons_zero, List.set_cons_succ, Nat.reduceAdd]
  refine Reg.segH 1 (by kernel_rfl) rfl (by kernel_rfl) ?_
  apply Exists.intro
  refine ⟨fun e => ?_, ?_⟩
  · simp only [List.take_succ_cons, List.take_zero]
    repeat (go_big_quiet_step ((intro _; rfl)))
    refine wpQuiet_nil ?_
    exact rfl
  simp only [List.drop_succ_cons, List.drop_zero, Nat.reduceAdd]
  intro e W hR hJ hf
  have hJ2 := hJ.2.2 (by rfl)
  clear hf
  go_wp2
  go_ret
  exact HAF.out _ _ _ (hJ2.puts (HEQ.out ()))
theorem putOp (B : Nat) (v : Value) (l : List UInt8) (t : Int) (x : COp) (w : World) (hv : OwnB B w v l) (hB : B ≤ w.heap.size) (hl : l.length ≤ 5000000000) (hx : x.wf) :
    Calls Try.prog 54 #[v, .int .i64 t, x.v] w (Puts B w v (l ++ opL t x)) := by
  obtain ⟨d, K, V, c, u⟩ := x
  obtain ⟨h1, h2, h3, h4⟩ := hx
  by_cases h9 : t = 9
  · subst h9
    cases d
    · exact putOp9f B v l K V c u w hv hB hl h1 h2 h3 h4
    · exact putOp9t B v l K V c u w hv hB hl h1 h2 h3 h4
  by_cases h7 : t = 7
  · subst h7
    exact putOp7 B v l K V d c u w hv hB hl h1 h2 h3 h4
  cases d
  · exact putOptf B v l t K V c u w hv hB hl h1 h2 h3 h4 h9 h7
  · exact putOptt B v l t K V c u w hv hB hl h1 h2 h3 h4 h9 h7
end Go.Proofs.Ytlngefhjoobmdaa
namespace Go.Proofs.Ytlngefhjoobmdaa
open Go.RowKit
structure T3 (bq br qb : Nat) (w w' : World) : Prop where
  os : w'.os = w.os
  tape : w'.tape = w.tape
  output : w'.output = w.output
  size : w.heap.size ≤ w'.heap.size
  block : ∀ k, k < w.heap.size → k ≠ bq → k ≠ br → k ≠ qb → w'.heap[k]? = w.heap[k]?
theorem T3.refl (bq br qb : Nat) (w : World) : T3 bq br qb w w := ⟨rfl, rfl, rfl, Nat.le_refl _, fun _ _ _ _ _ => rfl⟩
theorem T3.trans {bq br qb : Nat} {w w1 w2 : World} (h : T3 bq br qb w w1) (k : T3 bq br qb w1 w2) : T3 bq br qb w w2 :=
  ⟨k.os.trans h.os, k.tape.trans h.tape, k.output.trans h.output, Nat.le_trans h.size k.size, fun i hi h1 h2 h3 => (k.block i (Nat.lt_of_lt_of_le hi h.size) h1 h2 h3).trans (h.block i hi h1 h2 h3)⟩
theorem T3.of_tg {bq br qb : Nat} {w w' : World} (h : TG bq br w w') : T3 bq br qb w w' := ⟨h.os, h.tape, h.output, h.size, fun k hk a b _ => h.block k hk a b⟩
theorem T3.of_below {bq br qb : Nat} {w w' : World} (h : Below w.heap.size w w') : T3 bq br qb w w' := ⟨h.os, h.tape, h.output, h.size, fun k hk _ _ _ => h.block k hk⟩
theorem T3.below {bq br qb B : Nat} {w w' : World} (h : T3 bq br qb w w') (hB : B ≤ w.heap.size) (h1 : B ≤ bq) (h2 : B ≤ br) (h3 : B ≤ qb) : Below B w w' :=
  ⟨h.os, h.tape, h.output, h.size, fun k hk => h.block k (by omega) (by omega) (by omega) (by omega)⟩
theorem T3.setCell {bq br qb : Nat} (w : World) (i : Nat) (u : Value) : T3 bq br qb w (w.setCell ⟨qb, i, none⟩ u) := ⟨rfl, rfl, rfl, by simp [World.setCell], fun k _ _ _ h => Below.heap_setCell _ _ _ _ h⟩
theorem T3.setRow {bq br qb : Nat} (w : World) (cs : Array Value) : T3 bq br qb w (w.setRow qb cs) := ⟨rfl, rfl, rfl, by simp [World.setRow], fun k _ _ _ h => setRow_other w qb k cs h⟩
theorem IsBytes.keepG {w w' : World} {r : Option Nat} {a : Option Addr} {l : List UInt8} (h : IsBytes w a l) (hg : w.grownBy w' r) (hne : ∀ b off, a = some ⟨b, off, none⟩ → 0 < l.length → some b ≠ r) : IsBytes w' a l := by
  intro i hi
  obtain ⟨b, off, h1, h2, h3⟩ := h i hi
  exact ⟨b, off, h1, Nat.lt_of_lt_of_le h2 hg.size, by rw [World.cell?_of_block (hg.block b h2 (hne b off h1 (by omega)))]; exact h3⟩
theorem IsReader.keepG {w w' : World} {br : Nat} {r : Option Nat} {l : List UInt8} {sh : Bool} (h : IsReader w br l sh) (hg : w.grownBy w' r) (hr : ∀ g, r = some g → br < g) : IsReader w' br l sh := by
  obtain ⟨a, cap, hb, h0, h1, h2, h3, h4, h5⟩ := h
  exact ⟨a, cap, (hg.block br (Array.getElem?_eq_some_iff.1 hb).1 (fun e => by have := hr br e.symm; omega)).trans hb, h0.keepG hg (fun b off e hl e2 => by have := h3 b off e (by omega); have := hr b e2.symm; omega), h1, h2, h3, h4, fun x hx hc => ⟨(h5 x hx hc).1, Nat.lt_of_lt_of_le (h5 x hx hc).2 hg.size⟩⟩
theorem IsRef.keepG {w w' : World} {br : Nat} {r : Option Nat} {b : List UInt8} {at_ : Nat} {sh : Bool} (h : IsRef w br b at_ sh) (hg : w.grownBy w' r) (hr : ∀ g, r = some g → br < g) : IsRef w' br b at_ sh := by
  obtain ⟨a, cap, hb, h0, h1, h2, h6, h3, h4, h5⟩ := h
  exact ⟨a, cap, (hg.block br (Array.getElem?_eq_some_iff.1 hb).1 (fun e => by have := hr br e.symm; omega)).trans hb, h0.keepG hg (fun b off e hl e2 => by have := h3 b off e (by omega); have := hr b e2.symm; omega), h1, h2, h6, h3, h4, fun x hx hc => ⟨(h5 x hx hc).1, Nat.lt_of_lt_of_le (h5 x hx hc).2 hg.size⟩⟩
/-- The reader's laws are kept by a row that grows beyond it. -/
structure GoodK (bq br : Nat) (I : RI) : Prop extends Goods bq br I where
  keep : ∀ {w w' s bad r}, I w s bad → w.grownBy w' r → (∀ g, r = some g → br < g ∧ g ≠ bq) → I w' s bad
theorem goodKCR (bq br : Nat) : GoodK bq br (IsCR bq br) where
  toGoods := goodsCR bq br
  keep h hg hr := ⟨(hg.block bq (Array.getElem?_eq_some_iff.1 h.box).1 (fun e => (hr bq e.symm).2 rfl)).trans h.box, h.rd.keepG hg (fun g e => (hr g e).1), h.ne⟩
theorem goodKPR (bq br : Nat) : GoodK bq br (IsPR bq br) where
  toGoods := goodsPR bq br
  keep h hg hr := by
    obtain ⟨b, at_, h3, h4, h5⟩ := h.rd
    exact ⟨(hg.block bq (Array.getElem?_eq_some_iff.1 h.box).1 (fun e => (hr bq e.symm).2 rfl)).trans h.box, ⟨b, at_, h3.keepG hg (fun g e => (hr g e).1), h4, h5⟩, h.ne⟩
/-- The reader's state; the box; what has turned. -/
structure QS (bq br qb : Nat) (I : RI) (w0 : World) (T : TypeId) (C : Array Value) (s : RS) (bad : Bool) (W : World) : Prop where
  good : GoodK bq br I
  rd : I W s bad
  c : W.heap[qb]? = some (.cells C T (0, 0))
  tg : T3 bq br qb w0 W
  lt : br < qb ∧ bq < qb
section
variable {bq br qb : Nat} {I : RI} {w0 W W' : World} {T : TypeId} {C : Array Value} {s s' : RS} {bad bad' : Bool}
theorem QS.call (h : QS bq br qb I w0 T C s bad W) (hr : I W' s' bad') (hg : TG bq br W W') : QS bq br qb I w0 T C s' bad' W' := by
  have h1 := h.lt
  exact ⟨h.good, hr, (hg.block qb (Array.getElem?_eq_some_iff.1 h.c).1 (by omega) (by omega)).trans h.c, h.tg.trans (T3.of_tg hg), h1⟩
theorem QS.store (h : QS bq br qb I w0 T C s bad W) (i : Nat) (u : Value) {C' : Array Value} (hc : C.setIfInBounds i u = C') : QS bq br qb I w0 T C' s bad (W.setCell ⟨qb, i, none⟩ u) := by
  have h1 := h.lt
  subst hc
  exact ⟨h.good, h.good.store _ _ h.rd (by simp only; omega) (by simp only; omega), heap_setCell_same W qb i C _ u h.c, h.tg.trans (T3.setCell _ _ _), h1⟩
theorem QS.row (h : QS bq br qb I w0 T C s bad W) (C' : Array Value) : QS bq br qb I w0 T C' s bad (W.setRow qb C') := by
  have h1 := h.lt
  exact ⟨h.good, h.good.row _ _ h.rd (by omega) (by omega), setRow_heap _ _ _ _ _ _ h.c, h.tg.trans (T3.setRow _ _), h1⟩
theorem QS.bel' (h : QS bq br qb I w0 T C s bad W) (hb : Below W.heap.size W W') : QS bq br qb I w0 T C s bad W' :=
  ⟨h.good, h.good.bel h.rd hb, (hb.block qb (Array.getElem?_eq_some_iff.1 h.c).1).trans h.c, h.tg.trans (T3.of_below hb), h.lt⟩
theorem QS.grown (h : QS bq br qb I w0 T C s bad W) {v v' : Value} (hg : Grew W W' v v') (hv : ∀ k, v.ownBlock = some k → qb < k ∧ w0.heap.size ≤ k) : QS bq br qb I w0 T C s bad W' := by
  have h1 := h.lt
  refine ⟨h.good, h.good.keep h.rd hg.1 (fun g e => ?_), (hg.1.block qb (Array.getElem?_eq_some_iff.1 h.c).1 (fun e => ?_)).trans h.c, ⟨hg.1.os.trans h.tg.os, hg.1.tape.trans h.tg.tape, hg.1.output.trans h.tg.output, Nat.le_trans h.tg.size hg.1.size, fun k hk a b c => ?_⟩, h1⟩
  · have := (hv g e).1; omega
  · have := (hv qb e.symm).1; omega
  · refine (hg.1.block k (Nat.lt_of_lt_of_le hk h.tg.size) (fun e => ?_)).trans (h.tg.block k hk a b c)
    have := (hv k e.symm).2; omega
theorem QS.cell (h : QS bq br qb I w0 T C s bad W) (j : Nat) {v : Value} (hv : C[j]? = some v) : W.cell? ⟨qb, j, none⟩ = some v := (cell_of_row W qb j _ _ _ h.c).trans hv
theorem QS.fro (h : QS bq br qb I w0 T C s bad W) (j : Nat) : W.frozen? ⟨qb, j, none⟩ = false := frozen_of_row W qb j _ _ h.c
/-- A struct stored into a part of the box. -/
theorem run_storePart (w : World) (T E : TypeId) (g o : Nat) (c u c' : Array Value) (hg : w.heap[g]? = some (.cells c E (0, 0))) (hi : (Try.prog.info? T).map (·.size) = some u.size) (hs : o + u.size ≤ c.size) (h1 : u.all (·.oneCell') = true) (hc : (c.toList.take o ++ u.toList ++ c.toList.drop (o + u.size)).toArray = c') :
    (Instr.storeAt T (.pointer (some ⟨g, o, none⟩)) (.agg u)).run Try.prog w = .ok () (w.setRow g c') := by
  subst hc
  have := run_storeCells_at Try.prog g o E u.toList 0 c w hg (by simpa using hs) (fun v hv => (Array.all_eq_true_iff_forall_mem.1 h1) v (by simpa using hv))
  cases hq : Try.prog.info? T with
  | none => simp [hq] at hi
  | some i =>
    have hs : u.size = i.size := by simp [hq] at hi; omega
    simp only [Nat.add_zero, Array.length_toList] at this
    simp only [Instr.storeAt, Instr.sureAddr, Sem.run_bind, Sem.run_pure, Result.andThen]
    simp [storeVar, sizeOf, typeInfo, hq, Value.cells, hs]
    rw [hs] at this
    simpa using this
/-- Rows that the call owns stay beneath what the reader does. -/
theorem OwnOf.tg {α : Type} {E : TypeId} {K : α → List Value} {sz : Nat} {v : Value} {l : List α} (h : OwnOf E K sz (qb + 1) W v l) (hl : br < qb ∧ bq < qb) (hg : TG bq br W W') : OwnOf E K sz (qb + 1) W' v l :=
  h.kept fun k hk => by have := h.block k hk; exact hg.block k this.2 (by omega) (by omega)
theorem OwnOf.t3 {α : Type} {E : TypeId} {K : α → List Value} {sz : Nat} {v : Value} {l : List α} (h : OwnOf E K sz (qb + 1) W v l) (hl : br < qb ∧ bq < qb) (hg : T3 bq br qb W W') : OwnOf E K sz (qb + 1) W' v l :=
  h.kept fun k hk => by have := h.block k hk; exact hg.block k this.2 (by omega) (by omega) (by omega)
end
/-- What a call that reads into the box has done. -/
structure TOk (bq br qb : Nat) (I : RI) (w0 : World) (T E : TypeId) (q : CReq) (s : RS) (bad : Bool) (e : Ending) (W : World) : Prop where
  ret : e = .returned (.tuple #[])
  st : ∃ v, QS bq br qb I w0 T (q.cells v) s bad W ∧ OwnOf E COp.cells 5 (qb + 1) W v q.ops
theorem ownOf_one (E : TypeId) (x : COp) (B : Nat) (w : World) (hB : B ≤ w.heap.size) : OwnOf E COp.cells 5 B (w.alloc (.cells x.cells.toArray E)) (.slice (some ⟨w.heap.size, 0, none⟩) 1 1) [x] :=
  ⟨by simp [COp.cells], .inr ⟨w.heap.size, 1, _, rfl, hB, heap_alloc_new w _, Nat.le_refl _, by unfold maxLen; omega, by simp [COp.cells], by simp [COp.cells]⟩⟩
theorem req_size : (Try.prog.info? 32).map (·.size) = some 16 := by kernel_rfl
theorem rreq_size : (Try.prog.info? 39).map (·.size) = some 16 := by kernel_rfl
end Go.Proofs.Ytlngefhjoobmdaa
namespace Go.Proofs.Ytlngefhjoobmdaa
open Go.RowKit
abbrev nilS : Value := .slice none 0 0
section
variable (bq br qb : Nat) (q : CReq) (s : RS) (bad : Bool) (w : World)
def TenOk (t : Nat) : Ending → World → Prop := TOk bq br qb (IsCR bq br) w 32 93 (tenP t q s bad).1 (tenP t q s bad).2.1 (tenP t q s bad).2.2
set_option maxRecDepth 100000 in
set_option maxHeartbeats 4000000 in
theorem crTen13 (h : QS bq br qb (IsCR bq br) w 32 (q.cells nilS) s bad w) (ht : q.tag = 13) (ho : q.ops = []) : Calls Try.prog 24 #[.pointer (some ⟨bq, 0, none⟩), .pointer (some ⟨qb, 0, none⟩)] w (TenOk bq br qb q s bad w 13) := by
  have q0 : w.cell? ⟨qb, 0, none⟩ = some (.int .i64 13) := by rw [h.cell 0 (v := .int .i64 q.tag) rfl, ht]
  have b0 : w.cell? ⟨bq, 0, none⟩ = some (.pointer (some ⟨br, 0, none⟩)) := h.rd.cells.c0
  have HO := Lib.hid ho
  obtain ⟨n1, hn1⟩ : ∃ x, x = rN 4 s := ⟨_, rfl⟩
  obtain ⟨s1, hs1⟩ : ∃ x, x = rN' 4 s := ⟨_, rfl⟩
  have HQ1 := Lib.hid (fun W (hW : IsCR bq br W s bad) => by have := crNum bq br s bad 4 W hW; rw [← hn1, ← hs1] at this; exact this)
  have hb1 : (n1 : Int) ≤ 4294967295 := by have := rN4 s; omega
  have hw1 : IntKind.u32.wrap (n1 : Int) = (n1 : Int) := by rw [IntKind.wrap_u32]; omega
  have HN1 := Lib.hid hn1
  have HS1 := Lib.hid hs1
  have HFIN := Lib.hid (show ∀ W, QS bq br qb (IsCR bq br) w 32 (CReq.cells { q with serial := n1 } nilS) s1 bad W → QS bq br qb (IsCR bq br) w 32 (CReq.cells (tenP 13 q s bad).1 nilS) (tenP 13 q s bad).2.1 (tenP 13 q s bad).2.2 W from fun W hh => by rw [hn1, hs1] at hh; exact hh)
  clear hn1 hs1 HN1 HS1
  have H := Lib.hid h
  clear h ht ho
  go_enter Try.func24, Try.ntmps24
  go_wp2_with fail
  refine (HQ1.out _ H.out.rd).mono ?_
  rintro e W1 ⟨rfl, hr, hg⟩
  have HT := Lib.hid (H.out.call hr hg)
  have hc := HT.out.cell 15 (v := .int .u32 (q.serial : Int)) rfl
  have hf := HT.out.fro 15
  have _hq : ∀ v, (W1.setCell ⟨qb, 15, none⟩ v).cell? ⟨bq, 0, none⟩ = some (.pointer (some ⟨br, 0, none⟩)) := fun v => (World.cell?_of_block (Below.heap_setCell _ _ _ _ (by have := HT.out.lt; simp only; omega))).trans hr.cells.c0
  have HU := Lib.hid (HT.out.store (C' := CReq.cells { q with serial := n1 } nilS) 15 (.int .u32 (n1 : Int)) rfl)
  clear hr hg H HQ1 HT
  go_wp2_with fail
  go_returns
  exact ⟨rfl, nilS, HFIN.out _ HU.out, by rw [show (tenP 13 q s bad).1.ops = [] from HO.out]; exact OwnOf.nil _ _⟩
set_option maxRecDepth 100000 in
set_option maxHeartbeats 4000000 in
theorem crTen0 (t : Nat) (hne : t ≠ 6 ∧ t ≠ 7 ∧ t ≠ 8 ∧ t ≠ 9 ∧ t ≠ 10 ∧ t ≠ 12 ∧ t ≠ 13) (h : QS bq br qb (IsCR bq br) w 32 (q.cells nilS) s bad w) (ht : q.tag = t) (ho : q.ops = []) : Calls Try.prog 24 #[.pointer (some ⟨bq, 0, none⟩), .pointer (some ⟨qb, 0, none⟩)] w (TenOk bq br qb q s bad w t) := by
  have q0 : w.cell? ⟨qb, 0, none⟩ = some (.int .i64 (t : Int)) := by rw [h.cell 0 (v := .int .i64 q.tag) rfl, ht]
  have b0 : w.cell? ⟨bq, 0, none⟩ = some (.pointer (some ⟨br, 0, none⟩)) := h.rd.cells.c0
  have HO := Lib.hid ho
  have e6 : ((t : Int) == 6) = false := by rw [beq_eq_false_iff_ne]; omega
  have e7 : ((t : Int) == 7) = false := by rw [beq_eq_false_iff_ne]; omega
  have e8 : ((t : Int) == 8) = false := by rw [beq_eq_false_iff_ne]; omega
  have e9 : ((t : Int) == 9) = false := by rw [beq_eq_false_iff_ne]; omega
  have e10 : ((t : Int) == 10) = false := by rw [beq_eq_false_iff_ne]; omega
  have e12 : ((t : Int) == 12) = false := by rw [beq_eq_false_iff_ne]; omega
  have e13 : ((t : Int) == 13) = false := by rw [beq_eq_false_iff_ne]; omega
  have HP := Lib.hid (show tenP t q s bad = (q, s, bad) by unfold tenP; rw [if_neg (by omega), if_neg (by omega), if_neg (by omega), if_neg (by omega), if_neg (by omega)])
  clear hne
  have H := Lib.hid h
  clear h ht ho
  go_enter Try.func24, Try.ntmps24
  go_wp2_with fail
  go_returns
  unfold TenOk
  rw [HP.out]
  exact ⟨rfl, nilS, H.out, by rw [show (q, s, bad).1.ops = [] from HO.out]; exact OwnOf.nil _ _⟩
set_option maxRecDepth 100000 in
set_option maxHeartbeats 4000000 in
theorem crTen12 (h : QS bq br qb (IsCR bq br) w 32 (q.cells nilS) s bad w) (ht : q.tag = 12) (ho : q.ops = []) : Calls Try.prog 24 #[.pointer (some ⟨bq, 0, none⟩), .pointer (some ⟨qb, 0, none⟩)] w (TenOk bq br qb q s bad w 12) := by
  have q0 : w.cell? ⟨qb, 0, none⟩ = some (.int .i64 12) := by rw [h.cell 0 (v := .int .i64 q.tag) rfl, ht]
  have b0 : w.cell? ⟨bq, 0, none⟩ = some (.pointer (some ⟨br, 0, none⟩)) := h.rd.cells.c0
  have HO := Lib.hid ho
  obtain ⟨n1, hn1⟩ : ∃ x, x = rN 1 s := ⟨_, rfl⟩
  obtain ⟨s1, hs1⟩ : ∃ x, x = rN' 1 s := ⟨_, rfl⟩
  have HQ1 := Lib.hid (fun W (hW : IsCR bq br W s bad) => by have := crNum bq br s bad 1 W hW; rw [← hn1, ← hs1] at this; exact this)
  have hb1 : (n1 : Int) ≤ 255 := by have := rN1 s; omega
  have hw1 : IntKind.i64.wrap (n1 : Int) = (n1 : Int) := by rw [IntKind.wrap_i64]; omega
  have HN1 := Lib.hid hn1
  have HS1 := Lib.hid hs1
  clear hn1 hs1
  have hz1 : (0 : Int) ≤ (n1 : Int) := by omega
  by_cases h0 : n1 = 0
  · have d0 : decide ((1 : Int) ≤ (n1 : Int)) = false := by rw [decide_eq_false_iff_not]; omega
    have HE := Lib.hid h0
    clear h0
    have H := Lib.hid h
    clear h ht ho
    go_enter Try.func24, Try.ntmps24
    go_wp2_with fail
    refine (HQ1.out _ H.out.rd).mono ?_
    rintro e W1 ⟨rfl, hr, hg⟩
    have HT := Lib.hid (H.out.call hr hg)
    have hc := HT.out.cell 14 (v := .int .i64 q.rights) rfl
    have hf := HT.out.fro 14
    have hq : ∀ v, (W1.setCell ⟨qb, 14, none⟩ v).cell? ⟨bq, 0, none⟩ = some (.pointer (some ⟨br, 0, none⟩)) := fun v => (World.cell?_of_block (Below.heap_setCell _ _ _ _ (by have := HT.out.lt; simp only; omega))).trans hr.cells.c0
    have HU := Lib.hid (HT.out.store (C' := CReq.cells { q with rights := (n1 : Int) } nilS) 14 (.int .i64 (n1 : Int)) rfl)
    clear hr hg H HQ1 HT
    go_wp2_with fail
    generalize World.setCell W1 _ _ = WA at HU ⊢
    clear hc hf hq hw1 q0 b0
    refine (crMust bq br _ _ false _ HU.out.rd).mono ?_
    rintro e W2 ⟨rfl, hr, hg⟩
    have HV := Lib.hid (HU.out.call hr hg)
    clear hr hg HU
    go_wp2_with fail
    go_returns
    have hh := HV.out
    rw [HN1.out, HS1.out] at hh
    exact ⟨rfl, nilS, (by show QS _ _ _ _ _ _ _ _ (bad || !(decide (1 ≤ rN 1 s) && decide (rN 1 s ≤ 7))) _; rw [← HN1.out, decide_eq_false (show ¬ 1 ≤ n1 by have := HE.out; omega)]; exact hh), by rw [show (tenP 12 q s bad).1.ops = [] from HO.out]; exact OwnOf.nil _ _⟩
  · have d0 : decide ((1 : Int) ≤ (n1 : Int)) = true := by rw [decide_eq_true_iff]; omega
    obtain ⟨ok, hok⟩ : ∃ ok, ok = decide (n1 ≤ 7) := ⟨_, rfl⟩
    have d1 : decide ((n1 : Int) ≤ 7) = ok := by rw [hok, Bool.eq_iff_iff]; simp <;> omega
    have d2 : decide (n1 ≤ 7) = ok := hok.symm
    have HE := Lib.hid h0
    have HOK := Lib.hid hok
    clear h0 hok
    have H := Lib.hid h
    clear h ht ho
    go_enter Try.func24, Try.ntmps24
    go_wp2_with fail
    refine (HQ1.out _ H.out.rd).mono ?_
    rintro e W1 ⟨rfl, hr, hg⟩
    have HT := Lib.hid (H.out.call hr hg)
    have hc := HT.out.cell 14 (v := .int .i64 q.rights) rfl
    have hf := HT.out.fro 14
    have hq : ∀ v, (W1.setCell ⟨qb, 14, none⟩ v).cell? ⟨bq, 0, none⟩ = some (.pointer (some ⟨br, 0, none⟩)) := fun v => (World.cell?_of_block (Below.heap_setCell _ _ _ _ (by have := HT.out.lt; simp only; omega))).trans hr.cells.c0
    have HU := Lib.hid (HT.out.store (C' := CReq.cells { q with rights := (n1 : Int) } nilS) 14 (.int .i64 (n1 : Int)) rfl)
    clear hr hg H HQ1 HT
    go_wp2_with fail
    generalize World.setCell W1 _ _ = WA at HU ⊢
    clear hc hf hq hw1 q0 b0
    refine (crMust bq br _ _ ok _ HU.out.rd).mono ?_
    rintro e W2 ⟨rfl, hr, hg⟩
    have HV := Lib.hid (HU.out.call hr hg)
    clear hr hg HU
    go_wp2_with fail
    go_returns
    have hh := HV.out
    rw [HN1.out, HS1.out] at hh
    exact ⟨rfl, nilS, (by show QS _ _ _ _ _ _ _ _ (bad || !(decide (1 ≤ rN 1 s) && decide (rN 1 s ≤ 7))) _; rw [← HN1.out, decide_eq_true (show 1 ≤ n1 by have := HE.out; omega), Bool.true_and, ← HOK.out]; exact hh), by rw [show (tenP 12 q s bad).1.ops = [] from HO.out]; exact OwnOf.nil _ _⟩
set_option maxRecDepth 100000 in
set_option maxHeartbeats 4000000 in
theorem crTen10 (h : QS bq br qb (IsCR bq br) w 32 (q.cells nilS) s bad w) (ht : q.tag = 10) (ho : q.ops = []) : Calls Try.prog 24 #[.pointer (some ⟨bq, 0, none⟩), .pointer (some ⟨qb, 0, none⟩)] w (TenOk bq br qb q s bad w 10) := by
  have q0 : w.cell? ⟨qb, 0, none⟩ = some (.int .i64 10) := by rw [h.cell 0 (v := .int .i64 q.tag) rfl, ht]
  have b0 : w.cell? ⟨bq, 0, none⟩ = some (.pointer (some ⟨br, 0, none⟩)) := h.rd.cells.c0
  have HO := Lib.hid ho
  obtain ⟨x1, hn1⟩ : ∃ x, x = rT s := ⟨_, rfl⟩
  obtain ⟨s1, hs1⟩ : ∃ x, x = rT' s := ⟨_, rfl⟩
  obtain ⟨d1, hd1⟩ : ∃ x, x = (bad || !okT 0 64 x1) := ⟨_, rfl⟩
  have HQ1 := Lib.hid (fun W (hW : IsCR bq br W s bad) => by have := crText bq br s bad 0 64 W hW; rw [← hn1, ← hs1, ← hd1] at this; exact this)
  obtain ⟨f2, hn2⟩ : ∃ x, x = decide (rN 1 s1 = 1) := ⟨_, rfl⟩
  obtain ⟨s2, hs2⟩ : ∃ x, x = rN' 1 s1 := ⟨_, rfl⟩
  obtain ⟨d2, hd2⟩ : ∃ x, x = (d1 || !decide (rN 1 s1 ≤ 1)) := ⟨_, rfl⟩
  have HQ2 := Lib.hid (fun W (hW : IsCR bq br W s1 d1) => by have := crFlag bq br s1 d1 W hW; rw [← hn2, ← hs2, ← hd2] at this; exact this)
  obtain ⟨n3, hn3⟩ : ∃ x, x = rN 1 s2 := ⟨_, rfl⟩
  obtain ⟨s3, hs3⟩ : ∃ x, x = rN' 1 s2 := ⟨_, rfl⟩
  have HQ3 := Lib.hid (fun W (hW : IsCR bq br W s2 d2) => by have := crNum bq br s2 d2 1 W hW; rw [← hn3, ← hs3] at this; exact this)
  have hb3 : (n3 : Int) ≤ 255 := by have := rN1 s2; omega
  have hw3 : IntKind.i64.wrap (n3 : Int) = (n3 : Int) := by rw [IntKind.wrap_i64]; omega
  have HN3 := Lib.hid hn3
  have HS3 := Lib.hid hs3
  obtain ⟨ok, hok⟩ : ∃ ok, ok = decide (n3 ≤ 50) := ⟨_, rfl⟩
  have c1 : decide ((n3 : Int) ≤ 50) = ok := by rw [hok, Bool.eq_iff_iff]; simp <;> omega
  have c2 : decide (n3 ≤ 50) = ok := hok.symm
  have HFIN := Lib.hid (show ∀ W, QS bq br qb (IsCR bq br) w 32 (CReq.cells { q with after := x1, first := f2, count := (n3 : Int) } nilS) s3 (d2 || !ok) W → QS bq br qb (IsCR bq br) w 32 (CReq.cells (tenP 10 q s bad).1 nilS) (tenP 10 q s bad).2.1 (tenP 10 q s bad).2.2 W from fun W hh => by
    simp only [hok, hn3, hs3, hd2, hs2, hn2, hd1, hs1, hn1] at hh
    exact hh)
  clear hn1 hs1 hd1 hn2 hs2 hd2 hn3 hs3 hok HN3 HS3
  have H := Lib.hid h
  clear h ht ho
  go_enter Try.func24, Try.ntmps24
  go_wp2_with fail
  refine (HQ1.out _ H.out.rd).mono ?_
  rintro e W1 ⟨rfl, hr, hg⟩
  have HT := Lib.hid (H.out.call hr hg)
  have hc := HT.out.cell 11 (v := .string q.after) rfl
  have hf := HT.out.fro 11
  have hq : ∀ v, (W1.setCell ⟨qb, 11, none⟩ v).cell? ⟨bq, 0, none⟩ = some (.pointer (some ⟨br, 0, none⟩)) := fun v => (World.cell?_of_block (Below.heap_setCell _ _ _ _ (by have := HT.out.lt; simp only; omega))).trans hr.cells.c0
  have HU := Lib.hid (HT.out.store (C' := CReq.cells { q with after := x1 } nilS) 11 (.string x1) rfl)
  clear hr hg H HQ1 HT
  go_wp2_with fail
  generalize World.setCell W1 _ _ = WA at HU ⊢
  clear hc hf hq
  have HU1 := Lib.hid HU.out
  clear HU
  refine (HQ2.out _ HU1.out.rd).mono ?_
  rintro e W2 ⟨rfl, hr, hg⟩
  have HT := Lib.hid (HU1.out.call hr hg)
  have hc := HT.out.cell 12 (v := .bool q.first) rfl
  have hf := HT.out.fro 12
  have hq : ∀ v, (W2.setCell ⟨qb, 12, none⟩ v).cell? ⟨bq, 0, none⟩ = some (.pointer (some ⟨br, 0, none⟩)) := fun v => (World.cell?_of_block (Below.heap_setCell _ _ _ _ (by have := HT.out.lt; simp only; omega))).trans hr.cells.c0
  have HU := Lib.hid (HT.out.store (C' := CReq.cells { q with after := x1, first := f2 } nilS) 12 (.bool f2) rfl)
  clear hr hg HU1 HQ2 HT
  go_wp2_with fail
  generalize World.setCell W2 _ _ = WA at HU ⊢
  clear hc hf hq
  have HU2 := Lib.hid HU.out
  clear HU
  refine (HQ3.out _ HU2.out.rd).mono ?_
  rintro e W3 ⟨rfl, hr, hg⟩
  have HT := Lib.hid (HU2.out.call hr hg)
  have hc := HT.out.cell 13 (v := .int .i64 q.count) rfl
  have hf := HT.out.fro 13
  have hq : ∀ v, (W3.setCell ⟨qb, 13, none⟩ v).cell? ⟨bq, 0, none⟩ = some (.pointer (some ⟨br, 0, none⟩)) := fun v => (World.cell?_of_block (Below.heap_setCell _ _ _ _ (by have := HT.out.lt; simp only; omega))).trans hr.cells.c0
  have HU := Lib.hid (HT.out.store (C' := CReq.cells { q with after := x1, first := f2, count := (n3 : Int) } nilS) 13 (.int .i64 (n3 : Int)) rfl)
  clear hr hg HU2 HQ3 HT
  go_wp2_with fail
  generalize World.setCell W3 _ _ = WA at HU ⊢
  clear hc hf hq hw3 q0 b0
  refine (crMust bq br _ _ ok _ HU.out.rd).mono ?_
  rintro e W4 ⟨rfl, hr, hg⟩
  have HV := Lib.hid (HU.out.call hr hg)
  clear hr hg HU
  go_wp2_with fail
  go_returns
  exact ⟨rfl, nilS, HFIN.out _ HV.out, by rw [show (tenP 10 q s bad).1.ops = [] from HO.out]; exact OwnOf.nil _ _⟩
set_option maxRecDepth 100000 in
set_option maxHeartbeats 4000000 in
theorem crTen6 (h : QS bq br qb (IsCR bq br) w 32 (q.cells nilS) s bad w) (ht : q.tag = 6) (ho : q.ops = []) : Calls Try.prog 24 #[.pointer (some ⟨bq, 0, none⟩), .pointer (some ⟨qb, 0, none⟩)] w (TenOk bq br qb q s bad w 6) := by
  have q0 : w.cell? ⟨qb, 0, none⟩ = some (.int .i64 6) := by rw [h.cell 0 (v := .int .i64 q.tag) rfl, ht]
  have b0 : w.cell? ⟨bq, 0, none⟩ = some (.pointer (some ⟨br, 0, none⟩)) := h.rd.cells.c0
  have HO := Lib.hid ho
  have HQ1 := Lib.hid (fun W (hW : IsCR bq br W s bad) => crOp bq br 6 s bad W hW (by omega))
  have HFIN := Lib.hid (show tenP 6 q s bad = ({ q with ops := [(opN 6 s bad).1] }, (opN 6 s bad).2.1, (opN 6 s bad).2.2) by unfold tenP; rw [if_pos (by omega)])
  have HU0 := Lib.hid (show (Try.prog.info? 93).map (·.size) = some 5 from op_size)
  obtain ⟨r, hr⟩ : ∃ r, r = opN 6 s bad := ⟨_, rfl⟩
  rw [← hr] at HQ1 HFIN
  unfold TenOk
  rw [HFIN.out]
  clear hr HFIN
  obtain ⟨⟨rd, rk, rv, rc, rl⟩, s1, d1⟩ := r
  have H := Lib.hid h
  clear h ht ho
  go_enter Try.func24, Try.ntmps24
  go_wp2_with fail
  refine (HQ1.out _ H.out.rd).mono ?_
  rintro e W1 ⟨rfl, hr, hg⟩
  have HT := Lib.hid (H.out.call hr hg)
  have HTA := Lib.hid (fun o => HT.out.bel' ((Below.refl W1.heap.size W1).alloc (Nat.le_refl _) o))
  have hc := fun o => (HTA.out o).cell 10 (v := nilS) rfl
  have hf := fun o => (HTA.out o).fro 10
  have HX := Lib.hid (fun (W : World) (hW : W.heap.size = W1.heap.size) => hW)
  have HL := Lib.hid HT.out.lt
  have HSZ := Lib.hid (show qb < W1.heap.size from (Array.getElem?_eq_some_iff.1 HT.out.c).1)
  clear hr hg H HQ1 HT HX
  simp only [COp.v, COp.cells]
  go_wp2_with fail
  go_returns
  have HU := Lib.hid ((HTA.out (.cells #[.bool rd, .string rk, .string rv, .int .u64 (rc : Int), .int .u64 (rl : Int)] 93)).store (C' := CReq.cells { q with ops := [⟨rd, rk, rv, rc, rl⟩] } (.slice (some ⟨W1.heap.size, 0, none⟩) 1 1)) 10 (.slice (some ⟨W1.heap.size, 0, none⟩) 1 1) rfl)
  exact ⟨rfl, _, HU.out, OwnOf.t3 (br := br) (bq := bq) (ownOf_one 93 ⟨rd, rk, rv, rc, rl⟩ (qb + 1) W1 HSZ.out) HL.out (T3.setCell _ _ _)⟩
set_option maxRecDepth 100000 in
set_option maxHeartbeats 4000000 in
theorem crTen7 (h : QS bq br qb (IsCR bq br) w 32 (q.cells nilS) s bad w) (ht : q.tag = 7) (ho : q.ops = []) : Calls Try.prog 24 #[.pointer (some ⟨bq, 0, none⟩), .pointer (some ⟨qb, 0, none⟩)] w (TenOk bq br qb q s bad w 7) := by
  have q0 : w.cell? ⟨qb, 0, none⟩ = some (.int .i64 7) := by rw [h.cell 0 (v := .int .i64 q.tag) rfl, ht]
  have b0 : w.cell? ⟨bq, 0, none⟩ = some (.pointer (some ⟨br, 0, none⟩)) := h.rd.cells.c0
  have HO := Lib.hid ho
  have HQ1 := Lib.hid (fun W (hW : IsCR bq br W s bad) => crOp bq br 7 s bad W hW (by omega))
  have HFIN := Lib.hid (show tenP 7 q s bad = ({ q with ops := [(opN 7 s bad).1] }, (opN 7 s bad).2.1, (opN 7 s bad).2.2) by unfold tenP; rw [if_pos (by omega)])
  have HU0 := Lib.hid (show (Try.prog.info? 93).map (·.size) = some 5 from op_size)
  obtain ⟨r, hr⟩ : ∃ r, r = opN 7 s bad := ⟨_, rfl⟩
  rw [← hr] at HQ1 HFIN
  unfold TenOk
  rw [HFIN.out]
  clear hr HFIN
  obtain ⟨⟨rd, rk, rv, rc, rl⟩, s1, d1⟩ := r
  have H := Lib.hid h
  clear h ht ho
  go_enter Try.func24, Try.ntmps24
  go_wp2_with fail
  refine (HQ1.out _ H.out.rd).mono ?_
  rintro e W1 ⟨rfl, hr, hg⟩
  have HT := Lib.hid (H.out.call hr hg)
  have HTA := Lib.hid (fun o => HT.out.bel' ((Below.refl W1.heap.size W1).alloc (Nat.le_refl _) o))
  have hc := fun o => (HTA.out o).cell 10 (v := nilS) rfl
  have hf := fun o => (HTA.out o).fro 10
  have HX := Lib.hid (fun (W : World) (hW : W.heap.size = W1.heap.size) => hW)
  have HL := Lib.hid HT.out.lt
  have HSZ := Lib.hid (show qb < W1.heap.size from (Array.getElem?_eq_some_iff.1 HT.out.c).1)
  clear hr hg H HQ1 HT HX
  simp only [COp.v, COp.cells]
  go_wp2_with fail
  go_returns
  have HU := Lib.hid ((HTA.out (.cells #[.bool rd, .string rk, .string rv, .int .u64 (rc : Int), .int .u64 (rl : Int)] 93)).store (C' := CReq.cells { q with ops := [⟨rd, rk, rv, rc, rl⟩] } (.slice (some ⟨W1.heap.size, 0, none⟩) 1 1)) 10 (.slice (some ⟨W1.heap.size, 0, none⟩) 1 1) rfl)
  exact ⟨rfl, _, HU.out, OwnOf.t3 (br := br) (bq := bq) (ownOf_one 93 ⟨rd, rk, rv, rc, rl⟩ (qb + 1) W1 HSZ.out) HL.out (T3.setCell _ _ _)⟩
set_option maxRecDepth 100000 in
set_option maxHeartbeats 4000000 in
theorem crTen8 (h : QS bq br qb (IsCR bq br) w 32 (q.cells nilS) s bad w) (ht : q.tag = 8) (ho : q.ops = []) : Calls Try.prog 24 #[.pointer (some ⟨bq, 0, none⟩), .pointer (some ⟨qb, 0, none⟩)] w (TenOk bq br qb q s bad w 8) := by
  have q0 : w.cell? ⟨qb, 0, none⟩ = some (.int .i64 8) := by rw [h.cell 0 (v := .int .i64 q.tag) rfl, ht]
  have b0 : w.cell? ⟨bq, 0, none⟩ = some (.pointer (some ⟨br, 0, none⟩)) := h.rd.cells.c0
  have HO := Lib.hid ho
  have HQ1 := Lib.hid (fun W (hW : IsCR bq br W s bad) => crOp bq br 8 s bad W hW (by omega))
  have HFIN := Lib.hid (show tenP 8 q s bad = ({ q with ops := [(opN 8 s bad).1] }, (opN 8 s bad).2.1, (opN 8 s bad).2.2) by unfold tenP; rw [if_pos (by omega)])
  have HU0 := Lib.hid (show (Try.prog.info? 93).map (·.size) = some 5 from op_size)
  obtain ⟨r, hr⟩ : ∃ r, r = opN 8 s bad := ⟨_, rfl⟩
  rw [← hr] at HQ1 HFIN
  unfold TenOk
  rw [HFIN.out]
  clear hr HFIN
  obtain ⟨⟨rd, rk, rv, rc, rl⟩, s1, d1⟩ := r
  have H := Lib.hid h
  clear h ht ho
  go_enter Try.func24, Try.ntmps24
  go_wp2_with fail
  refine (HQ1.out _ H.out.rd).mono ?_
  rintro e W1 ⟨rfl, hr, hg⟩
  have HT := Lib.hid (H.out.call hr hg)
  have HTA := Lib.hid (fun o => HT.out.bel' ((Below.refl W1.heap.size W1).alloc (Nat.le_refl _) o))
  have hc := fun o => (HTA.out o).cell 10 (v := nilS) rfl
  have hf := fun o => (HTA.out o).fro 10
  have HX := Lib.hid (fun (W : World) (hW : W.heap.size = W1.heap.size) => hW)
  have HL := Lib.hid HT.out.lt
  have HSZ := Lib.hid (show qb < W1.heap.size from (Array.getElem?_eq_some_iff.1 HT.out.c).1)
  clear hr hg H HQ1 HT HX
  simp only [COp.v, COp.cells]
  go_wp2_with fail
  go_returns
  have HU := Lib.hid ((HTA.out (.cells #[.bool rd, .string rk, .string rv, .int .u64 (rc : Int), .int .u64 (rl : Int)] 93)).store (C' := CReq.cells { q with ops := [⟨rd, rk, rv, rc, rl⟩] } (.slice (some ⟨W1.heap.size, 0, none⟩) 1 1)) 10 (.slice (some ⟨W1.heap.size, 0, none⟩) 1 1) rfl)
  exact ⟨rfl, _, HU.out, OwnOf.t3 (br := br) (bq := bq) (ownOf_one 93 ⟨rd, rk, rv, rc, rl⟩ (qb + 1) W1 HSZ.out) HL.out (T3.setCell _ _ _)⟩
end
end Go.Proofs.Ytlngefhjoobmdaa
namespace Go.Proofs.Ytlngefhjoobmdaa.Reg
open Go
def fourJ (c a s : Nat) (P0 P1 : World → Prop) (P2 : Value → World → Prop) (P3 : World → Prop) : Env → (Nat → Bool) → World → Prop := fun e L w => (L c = false → P0 w) ∧ (L c = true → L a = false → P1 w) ∧ (L a = true → L s = false → P2 (e a) w) ∧ (L s = true → P3 w)
section
variable {P : Program} {ops : Array Oper} {R : World → World → Prop} {w0 : World} {Q : Exit → Act → World → Prop} {c a s : Nat} {P0 P1 P3 : World → Prop} {P2 : Value → World → Prop}
theorem fourJ_other {e : Env} {L : Nat → Bool} {w : World} {k : Nat} (v : Value) (hc : c ≠ k) (ha : a ≠ k) (hs : s ≠ k) (h : fourJ c a s P0 P1 P2 P3 e L w) : fourJ c a s P0 P1 P2 P3 (setE e k v) (upd L k) w := by
  unfold fourJ at *
  have h1 : (c == k) = false := by simpa using hc
  have h2 : (a == k) = false := by simpa using ha
  have h3 : (s == k) = false := by simpa using hs
  simp only [upd, h1, h2, h3, Bool.false_or, setE, if_neg ha]
  exact h
theorem fourJ_upd {e : Env} {L : Nat → Bool} {w : World} {k : Nat} (hc : c ≠ k) (ha : a ≠ k) (hs : s ≠ k) (h : fourJ c a s P0 P1 P2 P3 e L w) : fourJ c a s P0 P1 P2 P3 e (upd L k) w := by
  unfold fourJ at *
  have h1 : (c == k) = false := by simpa using hc
  have h2 : (a == k) = false := by simpa using ha
  have h3 : (s == k) = false := by simpa using hs
  simp only [upd, h1, h2, h3, Bool.false_or]
  exact h
theorem segD {fs : List (Nat × (Env → World → Prop))} (n : Nat) {l : List Oper} {k : Nat} {A : Env → Act} (hp : (l.take n).all plainB = true) (hn : (l.take n).length = n) (hij : ((decide (c < k) || decide (k + n ≤ c)) && (decide (a < k) || decide (k + n ≤ a)) && (decide (s < k) || decide (k + n ≤ s))) = true)
    (h : ∃ A', (∀ e, wpQuiet P ops (fun w => R w0 w) (fun a' => a' = A' e) (l.take n) (A e)) ∧ Steps P ops R (fourJ c a s P0 P1 P2 P3) w0 Q (l.drop n) (k + n) A' fs) : Steps P ops R (fourJ c a s P0 P1 P2 P3) w0 Q l k A fs := by
  obtain ⟨A', h, hs⟩ := h
  simp only [Bool.and_eq_true, Bool.or_eq_true, decide_eq_true_eq] at hij
  have := steps_seg (P := P) (ops := ops) (R := R) (J := fourJ c a s P0 P1 P2 P3) (w0 := w0) (Q := Q) (rest := l.drop n) (A' := A') (fs := fs) (l.take n) k A (by rw [hn]; exact fun q h1 h2 e L w hj => fourJ_upd (by omega) (by omega) (by omega) hj) hp h (by rw [hn]; exact hs)
  rw [List.take_append_drop] at this
  exact this
/-- It leaves the world alone. -/
theorem stillD {o : Oper} {rest : List Oper} {k : Nat} {A : Env → Act} {fs : List (Nat × (Env → World → Prop))} (u : Value) (hrefl : ∀ w, R w w) (hij : (c != k && a != k && s != k) = true)
    (h : ∀ e w, R w0 w → Region.wanted o (yielded ops (A e).tmps) = true ∧ gives P o (A e) w (fun v w' => w' = w ∧ v = u))
    (hs : Steps P ops R (fourJ c a s P0 P1 P2 P3) w0 Q rest (k + 1) (fun e => (A e).put o.dst u) fs) : Steps P ops R (fourJ c a s P0 P1 P2 P3) w0 Q (o :: rest) k A fs := by
  simp only [Bool.and_eq_true, bne_iff_ne] at hij
  exact steps_const u (fun e w L _ hR hJ _ => ⟨(h e w hR).1, gives_mono (fun v w' hh => by
    obtain ⟨rfl, hc⟩ := hh
    exact ⟨hrefl _, fourJ_other v hij.1.1 hij.1.2 hij.2 hJ, hc⟩) (h e w hR).2⟩) hs
/-- A read ahead of the append. -/
theorem readD {o : Oper} {rest : List Oper} {k : Nat} {A : Env → Act} {fs : List (Nat × (Env → World → Prop))} (u : Value) (hrefl : ∀ w, R w w) (hij : (c != k && a != k && s != k) = true) (hd : depT ops ops.size a k = true)
    (h : ∀ e w, R w0 w → (P0 w ∨ P1 w) → Region.wanted o (yielded ops (A e).tmps) = true ∧ gives P o (A e) w (fun v w' => w' = w ∧ v = u))
    (hs : Steps P ops R (fourJ c a s P0 P1 P2 P3) w0 Q rest (k + 1) (fun e => (A e).put o.dst u) fs) : Steps P ops R (fourJ c a s P0 P1 P2 P3) w0 Q (o :: rest) k A fs := by
  simp only [Bool.and_eq_true, bne_iff_ne] at hij
  refine steps_const u (fun e w L hN hR hJ _ => ?_) hs
  have hp : P0 w ∨ P1 w := by
    cases hc : L c with
    | false => exact .inl (hJ.1 hc)
    | true => exact .inr (hJ.2.1 hc (hN.2.2 a hd))
  exact ⟨(h e w hR hp).1, gives_mono (fun v w' hh => by
    obtain ⟨rfl, hc⟩ := hh
    exact ⟨hrefl _, fourJ_other v hij.1.1 hij.1.2 hij.2 hJ, hc⟩) (h e w hR hp).2⟩
/-- The call that writes, of a known value. -/
theorem callD {o : Oper} {rest : List Oper} {A : Env → Act} {fs : List (Nat × (Env → World → Prop))} (u : Value) (hij : (a != c && s != c && depT ops ops.size a c && depT ops ops.size s c) = true)
    (h : ∀ e w, R w0 w → P0 w → Region.wanted o (yielded ops (A e).tmps) = true ∧ gives P o (A e) w (fun v w' => R w w' ∧ P1 w' ∧ v = u))
    (hs : Steps P ops R (fourJ c a s P0 P1 P2 P3) w0 Q rest (c + 1) (fun e => (A e).put o.dst u) fs) : Steps P ops R (fourJ c a s P0 P1 P2 P3) w0 Q (o :: rest) c A fs := by
  simp only [Bool.and_eq_true, bne_iff_ne] at hij
  refine steps_const u (fun e w L hN hR hJ _ => ?_) hs
  have ha := hN.2.2 a hij.1.2
  have hs' := hN.2.2 s hij.2
  have h1 := h e w hR (hJ.1 hN.1)
  have e1 : (a == c) = false := by simpa using hij.1.1.1
  have e2 : (s == c) = false := by simpa using hij.1.1.2
  refine ⟨h1.1, gives_mono (fun v w' hh => ⟨hh.1, ⟨fun h2 => ?_, fun _ _ => hh.2.1, fun h2 => ?_, fun h2 => ?_⟩, hh.2.2⟩) h1.2⟩
  · simp [upd] at h2
  · simp [upd, e1, ha] at h2
  · simp [upd, e2, hs'] at h2
/-- Behind the call, ahead of the append: it may make blocks; a fact that stays is known of its value. -/
theorem makeD {o : Oper} {rest : List Oper} {k : Nat} {A : Env → Act} {fs : List (Nat × (Env → World → Prop))} (Φ : Value → World → Prop) (hst : ∀ v w w', Φ v w → R w w' → Φ v w') (hij : (c != k && a != k && s != k) = true) (hd : (depT ops ops.size k c && depT ops ops.size a k && depT ops ops.size s k) = true)
    (h : ∀ e w, R w0 w → P1 w → Region.wanted o (yielded ops (A e).tmps) = true ∧ gives P o (A e) w (fun v w' => R w w' ∧ P1 w' ∧ Φ v w'))
    (hs : Steps P ops R (fourJ c a s P0 P1 P2 P3) w0 Q rest (k + 1) (fun e => (A e).put o.dst (e k)) ((k, fun e w => Φ (e k) w) :: fs)) : Steps P ops R (fourJ c a s P0 P1 P2 P3) w0 Q (o :: rest) k A fs := by
  simp only [Bool.and_eq_true, bne_iff_ne] at hij hd
  refine steps_fact Φ hst (fun e w L hN hR hJ _ => ?_) hs
  have hc := hN.2.1 c hd.1.1
  have ha := hN.2.2 a hd.1.2
  have hs' := hN.2.2 s hd.2
  have h1 := h e w hR (hJ.2.1 hc ha)
  have e1 : (c == k) = false := by simpa using hij.1.1
  have e2 : (a == k) = false := by simpa using hij.1.2
  have e3 : (s == k) = false := by simpa using hij.2
  refine ⟨h1.1, gives_mono (fun v w' hh => ⟨hh.1, ⟨fun h2 => ?_, fun _ _ => hh.2.1, fun h2 => ?_, fun h2 => ?_⟩, hh.2.2⟩) h1.2⟩
  · simp [upd, e1, hc] at h2
  · simp [upd, e2, ha] at h2
  · simp [upd, e3, hs'] at h2
/-- The append. -/
theorem appD {o : Oper} {rest : List Oper} {A : Env → Act} {fs : List (Nat × (Env → World → Prop))} (hij : (c != a && s != a && depT ops ops.size a c && depT ops ops.size s a) = true)
    (h : ∀ e w, R w0 w → P1 w → factsAt o fs e w → Region.wanted o (yielded ops (A e).tmps) = true ∧ gives P o (A e) w (fun v w' => R w w' ∧ P2 v w'))
    (hs : Steps P ops R (fourJ c a s P0 P1 P2 P3) w0 Q rest (a + 1) (fun e => (A e).put o.dst (e a)) fs) : Steps P ops R (fourJ c a s P0 P1 P2 P3) w0 Q (o :: rest) a A fs := by
  simp only [Bool.and_eq_true, bne_iff_ne] at hij
  refine steps_fact (fun _ _ => True) (fun _ _ _ _ _ => trivial) (fun e w L hN hR hJ hf => ?_) (steps_weaken _ _ _ fs _ (fun _ _ _ hf => hf.2) (fun _ _ hf => hf.2) hs)
  have hc := hN.2.1 c hij.1.2
  have hs' := hN.2.2 s hij.2
  have h1 := h e w hR (hJ.2.1 hc hN.1) hf
  have e1 : (c == a) = false := by simpa using hij.1.1.1
  have e2 : (s == a) = false := by simpa using hij.1.1.2
  refine ⟨h1.1, gives_mono (fun v w' hh => ⟨hh.1, ⟨fun h2 => ?_, fun _ h2 => ?_, fun _ _ => ?_, fun h2 => ?_⟩, trivial⟩) h1.2⟩
  · simp [upd, e1, hc] at h2
  · simp [upd] at h2
  · simp only [setE, if_pos]; exact hh.2
  · simp [upd, e2, hs'] at h2
/-- The store. -/
theorem storeD {o : Oper} {rest : List Oper} {A : Env → Act} {fs : List (Nat × (Env → World → Prop))} (hij : (c != s && a != s && depT ops ops.size s a && depT ops ops.size s c) = true)
    (h : ∀ e w, R w0 w → P2 (e a) w → factsAt o fs e w → Region.wanted o (yielded ops (A e).tmps) = true ∧ gives P o (A e) w (fun v w' => R w w' ∧ P3 w' ∧ v = undef))
    (hs : Steps P ops R (fourJ c a s P0 P1 P2 P3) w0 Q rest (s + 1) (fun e => (A e).put o.dst undef) fs) : Steps P ops R (fourJ c a s P0 P1 P2 P3) w0 Q (o :: rest) s A fs := by
  simp only [Bool.and_eq_true, bne_iff_ne] at hij
  refine steps_const undef (fun e w L hN hR hJ hf => ?_) hs
  have ha := hN.2.1 a hij.1.2
  have hc := hN.2.1 c hij.2
  have h1 := h e w hR (hJ.2.2.1 ha hN.1) hf
  have e1 : (c == s) = false := by simpa using hij.1.1.1
  have e2 : (a == s) = false := by simpa using hij.1.1.2
  refine ⟨h1.1, gives_mono (fun v w' hh => ⟨hh.1, ⟨fun h2 => ?_, fun _ h2 => ?_, fun _ h2 => ?_, fun _ => hh.2.1⟩, hh.2.2⟩) h1.2⟩
  · simp [upd, e1, hc] at h2
  · simp [upd, e2, ha] at h2
  · simp [upd] at h2
theorem wp_regionD {id : Nat} {l : List Oper} {a' : Act} {w : World} (R : World → World → Prop) (hrefl : ∀ w, R w w) (htr : ∀ a b c, R a b → R b c → R a c) (c a s : Nat) (P0 P1 : World → Prop) (P2 : Value → World → Prop) (P3 : World → Prop) (hm : P.follows .mixedOrders = true) (hB : regB l = true) (hp : P0 w.drew)
    (h : Steps P l.toArray R (fourJ c a s P0 P1 P2 P3) w.drew Q l 0 (fun _ => a') []) : (Code.region id l.toArray true).wp P Q a' w :=
  wp_region_facts R (fourJ c a s P0 P1 P2 P3) hm hB (hrefl _) htr (fun _ => ⟨fun _ => hp, fun h => (by cases h), fun h => (by cases h), fun h => (by cases h)⟩) h
end
end Go.Proofs.Ytlngefhjoobmdaa.Reg
namespace Go.Proofs.Ytlngefhjoobmdaa
open Go.RowKit
structure RO (bq br qb : Nat) (v : Value) (w w' : World) : Prop where
  os : w'.os = w.os
  tape : w'.tape = w.tape
  output : w'.output = w.output
  size : w.heap.size ≤ w'.heap.size
  block : ∀ k, k < w.heap.size → k ≠ bq → k ≠ br → k ≠ qb → v.ownBlock ≠ some k → w'.heap[k]? = w.heap[k]?
theorem RO.refl (bq br qb : Nat) (v : Value) (w : World) : RO bq br qb v w w := ⟨rfl, rfl, rfl, Nat.le_refl _, fun _ _ _ _ _ _ => rfl⟩
theorem RO.trans {bq br qb : Nat} {v : Value} {w w1 w2 : World} (h : RO bq br qb v w w1) (k : RO bq br qb v w1 w2) : RO bq br qb v w w2 :=
  ⟨k.os.trans h.os, k.tape.trans h.tape, k.output.trans h.output, Nat.le_trans h.size k.size, fun i hi h1 h2 h3 h4 => (k.block i (Nat.lt_of_lt_of_le hi h.size) h1 h2 h3 h4).trans (h.block i hi h1 h2 h3 h4)⟩
theorem RO.of_t3 {bq br qb : Nat} {v : Value} {w w' : World} (h : T3 bq br qb w w') : RO bq br qb v w w' := ⟨h.os, h.tape, h.output, h.size, fun k hk a b c _ => h.block k hk a b c⟩
theorem RO.of_grew {bq br qb : Nat} {v v' : Value} {w w' : World} (h : Grew w w' v v') : RO bq br qb v w w' := ⟨h.1.os, h.1.tape, h.1.output, h.1.size, fun k hk _ _ _ d => h.1.block k hk (fun e => d e.symm)⟩
/-- What the batch's loop keeps. -/
structure BSt (bq br qb : Nat) (I : RI) (T E : TypeId) (q : CReq) (w : World) (l : List COp) (v : Value) (s : RS) (bad : Bool) (W : World) : Prop where
  st : QS bq br qb I w T (q.cells v) s bad W
  own : OwnOf E COp.cells 5 w.heap.size W v l
  lt : qb < w.heap.size
def BMid (bq br qb : Nat) (I : RI) (T E : TypeId) (q : CReq) (w : World) (l : List COp) (v : Value) (s : RS) (bad : Bool) (vv : Value) (W : World) : Prop := QS bq br qb I w T (q.cells v) s bad W ∧ OwnOf E COp.cells 5 w.heap.size W vv l ∧ qb < w.heap.size
def BEnd (bq br qb : Nat) (I : RI) (T E : TypeId) (q : CReq) (w : World) (l : List COp) (s : RS) (bad : Bool) (W : World) : Prop := ∃ v, BSt bq br qb I T E q w l v s bad W
def BRow (bq br qb : Nat) (E : TypeId) (v : Value) (x : COp) (u : Value) (W : World) : Prop := ∃ g, u = .slice (some ⟨g, 0, none⟩) 1 1 ∧ g < W.heap.size ∧ g ≠ bq ∧ g ≠ br ∧ g ≠ qb ∧ v.ownBlock ≠ some g ∧ W.heap[g]? = some (.cells x.cells.toArray E (0, 0))
section
variable {bq br qb : Nat} {I : RI} {T E : TypeId} {q : CReq} {w W W' : World} {l : List COp} {v vv : Value} {s s' : RS} {bad bad' : Bool}
theorem BSt.call (h : BSt bq br qb I T E q w l v s bad W) (hr : I W' s' bad') (hg : TG bq br W W') : BSt bq br qb I T E q w l v s' bad' W' :=
  ⟨h.st.call hr hg, h.own.kept fun k hk => by have := h.own.block k hk; have := h.lt; have := h.st.lt; exact hg.block k (by omega) (by omega) (by omega), h.lt⟩
theorem BSt.bel' (h : BSt bq br qb I T E q w l v s bad W) (hb : Below W.heap.size W W') : BSt bq br qb I T E q w l v s bad W' := ⟨h.st.bel' hb, h.own.bel hb, h.lt⟩
theorem BSt.made (h : BSt bq br qb I T E q w l v s bad W) (x : COp) : RO bq br qb v W (W.alloc (.cells x.cells.toArray E)) ∧ BSt bq br qb I T E q w l v s bad (W.alloc (.cells x.cells.toArray E)) ∧ BRow bq br qb E v x (.slice (some ⟨W.heap.size, 0, none⟩) 1 1) (W.alloc (.cells x.cells.toArray E)) := by
  have hb := (Below.refl W.heap.size W).alloc (Nat.le_refl _) (.cells x.cells.toArray E)
  have h1 := h.st.lt
  have h2 := h.lt
  have h3 := h.st.tg.size
  exact ⟨RO.of_t3 (T3.of_below hb), h.bel' hb, W.heap.size, rfl, by simp, by omega, by omega, by omega, fun e => by have := (h.own.block _ e).2; omega, heap_alloc_new W _⟩
theorem BSt.app {x : COp} (h : BSt bq br qb I T E q w l v s bad W) (hg : Grew W W' v vv) (ho : OwnOf E COp.cells 5 w.heap.size W' vv (l ++ [x])) : BMid bq br qb I T E q w (l ++ [x]) v s bad vv W' := by
  refine ⟨h.st.grown hg (fun k hk => ?_), ho, h.lt⟩
  have := (h.own.block k hk).1
  have := h.lt
  omega
theorem BMid.store (h : BMid bq br qb I T E q w l v s bad vv W) : RO bq br qb v W (W.setCell ⟨qb, 10, none⟩ vv) ∧ BEnd bq br qb I T E q w l s bad (W.setCell ⟨qb, 10, none⟩ vv) := by
  refine ⟨RO.of_t3 (T3.setCell _ _ _), vv, h.1.store 10 vv rfl, h.2.1.kept fun k hk => ?_, h.2.2⟩
  have := (h.2.1.block k hk).1
  have := h.2.2
  exact Below.heap_setCell _ _ _ _ (by simp only; omega)
end
theorem op_info : (Try.prog.info? 93).map (fun i => (i.zero, i.size, i.bytes)) = some (some (.agg #[.bool false, .string ByteArray.empty, .string ByteArray.empty, .int .u64 0, .int .u64 0]), 5, 56) := by kernel_rfl
theorem rop_info : (Try.prog.info? 90).map (fun i => (i.zero, i.size, i.bytes)) = some (some (.agg #[.bool false, .string ByteArray.empty, .string ByteArray.empty, .int .u64 0, .int .u64 0]), 5, 56) := by kernel_rfl
theorem cop_one (x : COp) : ∀ u ∈ x.cells, u.oneCell' = true := by
  intro u hu
  simp [COp.cells] at hu
  rcases hu with rfl | rfl | rfl | rfl | rfl <;> rfl
theorem cop_len (x : COp) : x.cells.length = 5 := rfl
theorem bsrc (bq br qb : Nat) (S E : TypeId) (hS : Try.prog.underlying S = some (.slice E)) (v : Value) (x : COp) (u : Value) (W : World) (h : BRow bq br qb E v x u W) : Src Try.prog 5 S u [x].length ([x].flatMap COp.cells) W := by
  obtain ⟨g, rfl, _, _, _, _, _, hg⟩ := h
  exact src_rowOf (W := fun _ => True) hS cop_len cop_one (by omega) 1 (rowOf_new x trivial rfl hg)
/-- What is read behind one more. -/
theorem batch_step (n : Nat) (s : RS) (l : List COp) (R : List COp × RS × Bool) (h : (l ++ (batchN (n + 1) s false).1, (batchN (n + 1) s false).2) = R) : ((l ++ [(opN 9 s false).1]) ++ (batchN n (opN 9 s false).2.1 (opN 9 s false).2.2).1, (batchN n (opN 9 s false).2.1 (opN 9 s false).2.2).2) = R := by
  rw [← h]
  simp [batchN]
theorem batch_bad (n : Nat) (s : RS) (l : List COp) (R : List COp × RS × Bool) (h : (l ++ (batchN n s true).1, (batchN n s true).2) = R) : (l, s, true) = R := by
  rw [← h]
  cases n <;> simp [batchN]
theorem batch_none (s : RS) (bad : Bool) (l : List COp) (R : List COp × RS × Bool) (h : (l ++ (batchN 0 s bad).1, (batchN 0 s bad).2) = R) : (l, s, bad) = R := by
  rw [← h]
  simp [batchN]
section
variable (bq br qb : Nat) (q : CReq) (s : RS) (bad : Bool) (w : World)
set_option maxRecDepth 100000 in
set_option maxHeartbeats 4000000 in
theorem crTen9 (h : QS bq br qb (IsCR bq br) w 32 (q.cells nilS) s bad w) (ht : q.tag = 9) : Calls Try.prog 24 #[.pointer (some ⟨bq, 0, none⟩), .pointer (some ⟨qb, 0, none⟩)] w (TenOk bq br qb q s bad w 9) := by
  have q0 : w.cell? ⟨qb, 0, none⟩ = some (.int .i64 9) := by rw [h.cell 0 (v := .int .i64 q.tag) rfl, ht]
  have b0 : w.cell? ⟨bq, 0, none⟩ = some (.pointer (some ⟨br, 0, none⟩)) := h.rd.cells.c0
  obtain ⟨n, hn⟩ : ∃ x, x = rN 1 s := ⟨_, rfl⟩
  obtain ⟨s1, hs1⟩ : ∃ x, x = rN' 1 s := ⟨_, rfl⟩
  obtain ⟨ok, hok⟩ : ∃ x, x = (decide (1 ≤ n) && decide (n ≤ 16)) := ⟨_, rfl⟩
  have HQ := Lib.hid (fun W (hW : IsCR bq br W s bad) => by have := crNum bq br s bad 1 W hW; rw [← hn, ← hs1] at this; exact this)
  have hb : (n : Int) ≤ 255 := by have := rN1 s; omega
  have hw1 : IntKind.i64.wrap (n : Int) = (n : Int) := by rw [IntKind.wrap_i64]; omega
  obtain ⟨R, hR⟩ : ∃ R, R = batchN n s1 (bad || !ok) := ⟨_, rfl⟩
  have HFIN := Lib.hid (show ∀ e W, (∃ v, e = .returned (.tuple #[]) ∧ BSt bq br qb (IsCR bq br) 32 93 q w R.1 v R.2.1 R.2.2 W) → TenOk bq br qb q s bad w 9 e W from fun e W hh => by
    obtain ⟨v, he, hb⟩ := hh
    have ht : tenP 9 q s bad = ({ q with ops := R.1 }, R.2.1, R.2.2) := by
      rw [hR, hok, hn, hs1]
      rfl
    unfold TenOk
    rw [ht]
    exact ⟨he, v, hb.st, hb.own.mono hb.lt⟩)
  have HR0 := Lib.hid (show (([] : List COp) ++ (batchN (n - 0) s1 (bad || !ok)).1, (batchN (n - 0) s1 (bad || !ok)).2) = R by rw [hR]; rfl)
  have H := Lib.hid h
  have HLT := Lib.hid (show qb < w.heap.size from (Array.getElem?_eq_some_iff.1 h.c).1)
  have hd : decide ((1 : Int) ≤ (n : Int)) = decide (1 ≤ n) := by rw [Bool.eq_iff_iff]; simp <;> omega
  clear h ht hn hs1 hR
  have KEY : ∀ okb : Bool, Hid (okb = ok) → True := fun _ _ => trivial
  clear KEY
  have LOOP : True := trivial
  clear LOOP
  by_cases h0 : n = 0
  · have d0 : decide ((1 : Int) ≤ (n : Int)) = false := by rw [decide_eq_false_iff_not]; omega
    have hok' : ok = false := by rw [hok, h0]; rfl
    subst hok'
    have HNZ := Lib.hid h0
    clear h0 hok hd
    go_enter Try.func24, Try.ntmps24
    go_wp2_with fail
    refine (HQ.out _ H.out.rd).mono ?_
    rintro e W1 ⟨rfl, hr, hg⟩
    have HT := Lib.hid (H.out.call hr hg)
    clear hr hg H HQ
    go_wp2_with fail
    refine (crMust bq br _ _ false _ HT.out.rd).mono ?_
    rintro e W2 ⟨rfl, hr, hg⟩
    have HV := Lib.hid (HT.out.call hr hg)
    have b1 := hr.cells.c1
    clear hr hg HT
    have z : n = 0 := HNZ.out
    subst z
    go_wp2_with fail
    refine wp_loop_rounds 1 ?_
    rw [rounds_succ]
    go_wp2
    go_returns
    exact HFIN.out _ _ ⟨nilS, rfl, by rw [← batch_none _ _ _ _ HR0.out]; exact ⟨HV.out, OwnOf.nil _ _, HLT.out⟩⟩
  · have d0 : decide ((1 : Int) ≤ (n : Int)) = true := by rw [decide_eq_true_iff]; omega
    have d1 : decide ((n : Int) ≤ 16) = ok := by rw [hok, decide_eq_true (show 1 ≤ n by omega), Bool.true_and, Bool.eq_iff_iff]; simp <;> omega
    have d2 : decide (n ≤ 16) = ok := by rw [hok, decide_eq_true (show 1 ≤ n by omega), Bool.true_and]
    clear h0 hok hd
    go_enter Try.func24, Try.ntmps24
    go_wp2_with fail
    refine (HQ.out _ H.out.rd).mono ?_
    rintro e W1 ⟨rfl, hr, hg⟩
    have HT := Lib.hid (H.out.call hr hg)
    clear hr hg H HQ
    go_wp2_with fail
    refine (crMust bq br _ _ ok _ HT.out.rd).mono ?_
    rintro e W2 ⟨rfl, hr, hg⟩
    have HV := Lib.hid (HT.out.call hr hg)
    clear hr hg HT d0 d1 d2 q0 b0 hw1
    generalize (bad || !ok) = bd at *
    go_wp2_with fail
    go_loopw [5] (fun i wr => ∃ (k : Nat) (l : List COp) (v : Value) (s' : RS) (bad' : Bool), k ≤ n ∧ i = .int .i64 k ∧ Hid (l.length = k) ∧ Hid ((l ++ (batchN (n - k) s' bad').1, (batchN (n - k) s' bad').2) = R) ∧ Hid (BSt bq br qb (IsCR bq br) 32 93 q w l v s' bad' wr)) (fun i _ => n - (intOf i).toNat)
    case atStart => exact ⟨0, [], nilS, s1, bd, Nat.zero_le _, rfl, rfl, HR0, ⟨HV.out, OwnOf.nil _ _, HLT.out⟩⟩
    case round =>
      obtain ⟨k, l, v, s', bad', hk, rfl, HLL, HRR, HB⟩ := hrel
      clear HV HR0
      have b1 := HB.out.st.rd.cells.c1
      by_cases hlt : k < n
      · cases bad' with
        | true =>
          have HE := Lib.hid (batch_bad _ _ _ _ HRR.out)
          have hki : (k : Int) < (n : Int) := by omega
          clear HRR hlt
          go_wp2
          go_returns
          exact HFIN.out _ _ ⟨v, rfl, by rw [← HE.out]; exact HB.out⟩
        | false =>
          have HE := Lib.hid (batch_step (n - (k + 1)) s' l R (by rw [show n - (k + 1) + 1 = n - k by omega]; exact HRR.out))
          have hki : (k : Int) < (n : Int) := by omega
          have HKN := Lib.hid hlt
          have HOPI := Lib.hid op_info
          clear HRR hlt
          obtain ⟨r, hr⟩ : ∃ r, r = opN 9 s' false := ⟨_, rfl⟩
          have HQO := Lib.hid (fun W (hW : IsCR bq br W s' false) => by have := crOp bq br 9 s' false W hW (by omega); rw [← hr] at this; exact this)
          rw [← hr] at HE
          clear hr
          obtain ⟨x, s2, d2⟩ := r
          simp only at HE HQO
          obtain ⟨av, cv, hv⟩ := HB.out.own.slice
          have HVS := Lib.hid hv
          clear hv
          go_wp2_with fail
          refine Reg.wp_regionD (RO bq br qb v) (RO.refl bq br qb v) (fun _ _ _ h k => h.trans k) 6 8 11 (BSt bq br qb (IsCR bq br) 32 93 q w l v s' false) (BSt bq br qb (IsCR bq br) 32 93 q w l v s2 d2) (BMid bq br qb (IsCR bq br) 32 93 q w (l ++ [x]) v s2 d2) (BEnd bq br qb (IsCR bq br) 32 93 q w (l ++ [x]) s2 d2) (by kernel_rfl) (by kernel_rfl) (HB.out.bel' (Below.refl _ _).drew) ?_
          refine Reg.segD 2 (by kernel_rfl) rfl (by kernel_rfl) ?_
          apply Exists.intro
          refine ⟨fun e => ?_, ?_⟩
          · simp only [List.take_succ_cons, List.take_zero]
            repeat (go_big_quiet_step ((intro _; rfl)))
            refine wpQuiet_nil ?_
            exact rfl
          simp only [List.drop_succ_cons, List.drop_zero, Nat.reduceAdd]
          refine Reg.stillD (.pointer (some ⟨qb, 0, none⟩)) (RO.refl bq br qb v) rfl (fun e w1 hR => ⟨by rfl, ?_⟩) ?_
          · unfold Reg.gives
            go_simp
          simp only [Act.put, List.setIfInBounds_toArray, List.set_cons_zero, List.set_cons_succ, Nat.reduceAdd]
          refine Reg.segD 1 (by kernel_rfl) rfl (by kernel_rfl) ?_
          apply Exists.intro
          refine ⟨fun e => ?_, ?_⟩
          · simp only [List.take_succ_cons, List.take_zero]
            repeat (go_big_quiet_step ((intro _; rfl)))
            refine wpQuiet_nil ?_
            exact rfl
          simp only [List.drop_succ_cons, List.drop_zero, Nat.reduceAdd]
          refine Reg.readD v (RO.refl bq br qb v) rfl (by kernel_rfl) (fun e w1 hR hp => ⟨by rfl, ?_⟩) ?_
          · have hc : w1.cell? ⟨qb, 10, none⟩ = some v := by
              rcases hp with hp | hp
              · exact hp.st.cell 10 rfl
              · exact hp.st.cell 10 rfl
            clear hp
            have hv := HVS.out
            rw [hv] at hc ⊢
            clear hv
            unfold Reg.gives
            go_simp
          simp only [Act.put, List.setIfInBounds_toArray, List.set_cons_zero, List.set_cons_succ, Nat.reduceAdd]
          refine Reg.segD 1 (by kernel_rfl) rfl (by kernel_rfl) ?_
          apply Exists.intro
          refine ⟨fun e => ?_, ?_⟩
          · simp only [List.take_succ_cons, List.take_zero]
            repeat (go_big_quiet_step ((intro _; rfl)))
            refine wpQuiet_nil ?_
            exact rfl
          simp only [List.drop_succ_cons, List.drop_zero, Nat.reduceAdd]
          refine Reg.callD x.v (by kernel_rfl) (fun e w1 hR hp => ⟨by rfl, ?_⟩) ?_
          · have HP := Lib.hid hp
            clear hR hp
            unfold Reg.gives
            go_simp
            refine (HQO.out _ HP.out.st.rd).mono ?_
            rintro e W3 ⟨rfl, hr, hg⟩
            exact ⟨_, rfl, RO.of_t3 (T3.of_tg hg), HP.out.call hr hg, rfl⟩
          simp only [Act.put, List.setIfInBounds_toArray, List.set_cons_zero, List.set_cons_succ, Nat.reduceAdd]
          refine Reg.makeD (BRow bq br qb 93 v x) ?_ rfl (by kernel_rfl) (fun e w1 hR hp => ⟨by rfl, ?_⟩) ?_
          · rintro u w1 w2 ⟨g, hu, h1, h2, h3, h4, h5, h6⟩ hr
            exact ⟨g, hu, Nat.lt_of_lt_of_le h1 hr.size, h2, h3, h4, h5, (hr.block g h1 h2 h3 h4 h5).trans h6⟩
          · have HP := Lib.hid (hp.made x)
            clear hp hR
            unfold COp.v
            unfold COp.cells at HP ⊢
            unfold Reg.gives
            go_simp
            exact HP.out
          simp only [Act.put, List.setIfInBounds_toArray, List.set_cons_zero, List.set_cons_succ, Nat.reduceAdd]
          refine Reg.appD (by kernel_rfl) (fun e w1 hR hp hf => ⟨by rfl, ?_⟩) ?_
          · have hrow := Reg.factsAt_here hf (by kernel_rfl)
            refine Reg.gives_mono ?_ (gives_append_of Try.underlying30 HOPI.out rfl (by omega) (.tmp 56) (.tmp 59) rfl w.heap.size v l rfl hp.own _ [x] rfl (bsrc bq br qb 30 93 Try.underlying30 v x _ w1 hrow) (Nat.le_trans hp.st.tg.size (Nat.le_refl _)) (by have := HLL.out; simp; omega))
            rintro v' w2 ⟨ho, hg⟩
            exact ⟨RO.of_grew hg, hp.app hg ho⟩
          simp only [Act.put, List.setIfInBounds_toArray, List.set_cons_zero, List.set_cons_succ, Nat.reduceAdd]
          refine Reg.stillD (.pointer (some ⟨qb, 0, none⟩)) (RO.refl bq br qb v) rfl (fun e w1 hR => ⟨by rfl, ?_⟩) ?_
          · unfold Reg.gives
            go_simp
          simp only [Act.put, List.setIfInBounds_toArray, List.set_cons_zero, List.set_cons_succ, Nat.reduceAdd]
          refine Reg.segD 1 (by kernel_rfl) rfl (by kernel_rfl) ?_
          apply Exists.intro
          refine ⟨fun e => ?_, ?_⟩
          · simp only [List.take_succ_cons, List.take_zero]
            repeat (go_big_quiet_step ((intro _; rfl)))
            refine wpQuiet_nil ?_
            exact rfl
          simp only [List.drop_succ_cons, List.drop_zero, Nat.reduceAdd]
          refine Reg.storeD (by kernel_rfl) (fun e w1 hR hp hf => ⟨by rfl, ?_⟩) ?_
          · have c0 := hp.1.cell 10 (v := v) rfl
            have f0 := hp.1.fro 10
            obtain ⟨a8, c8, h8⟩ := hp.2.1.slice
            have HP := Lib.hid hp.store
            rw [h8] at HP ⊢
            rw [show (l ++ [x]).length = l.length + 1 by simp] at HP
            clear hf hp hR
            unfold Reg.gives
            go_simp
            exact HP.out
          simp only [Act.put, Nat.reduceAdd]
          intro e W5 hR hJ hf
          obtain ⟨v5, h5⟩ := hJ.2.2.2 rfl
          have H5 := Lib.hid h5
          clear hR hJ hf h5
          go_wp2
          go_roundw
          case rel => exact ⟨k + 1, l ++ [x], v5, s2, d2, by have := HKN.out; omega, by go_num, (show (l ++ [x]).length = k + 1 by rw [List.length_append, HLL.out]; rfl), HE.out, H5.out⟩
          case measure => simp [intOf]; omega
      · obtain rfl : k = n := by omega
        have HE := Lib.hid (show (l, s', bad') = R from batch_none s' bad' l R (by have h9 := HRR.out; rw [Nat.sub_self] at h9; exact h9))
        clear HRR hlt
        go_wp2
        go_returns
        exact HFIN.out _ _ ⟨v, rfl, by rw [← HE.out]; exact HB.out⟩
end
end Go.Proofs.Ytlngefhjoobmdaa
