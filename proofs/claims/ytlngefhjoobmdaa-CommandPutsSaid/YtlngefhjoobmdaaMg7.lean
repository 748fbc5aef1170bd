/- Texts laid together: RefParse Reads CmdForm. -/
import Derived.Test.YtlngefhjoobmdaaMg6
import Derived.Test.YtlngefhjoobmdaaZRefP1
import Derived.Test.YtlngefhjoobmdaaZRefP2
import Derived.Test.YtlngefhjoobmdaaZRefP3
import Derived.Test.YtlngefhjoobmdaaZRefP4
import Derived.Test.YtlngefhjoobmdaaZRefP5
import Derived.Test.YtlngefhjoobmdaaZRefP6
import Derived.Test.YtlngefhjoobmdaaZRefP7
import Derived.Test.YtlngefhjoobmdaaZRefP8
import Derived.Test.YtlngefhjoobmdaaZRefP9
import Derived.Test.YtlngefhjoobmdaaZRefP10
import Derived.Test.YtlngefhjoobmdaaZRefP11
import Derived.Test.YtlngefhjoobmdaaZRefP12
import Derived.Test.YtlngefhjoobmdaaZRefP13
import Derived.Test.YtlngefhjoobmdaaMg1
import Derived.Test.YtlngefhjoobmdaaMg4
namespace Go.Proofs.Ytlngefhjoobmdaa
open Go.RowKit
theorem prParse (a : Option Addr) (cap : Nat) (b : List UInt8) (w : World) (h : Reads w (.slice a b.length cap) b) (hl : b.length ≤ 100000000000) : Calls Try.prog 8 #[.slice a b.length cap] w (ParseOk 90 tupB (parseP b) w) := by
  obtain ⟨t, ht⟩ : ∃ x, x = rN 1 (b, false) := ⟨_, rfl⟩
  by_cases hb : t = 0 ∨ 13 < t
  · exact prParseBad a cap b w h hl t _ ht rfl hb
  by_cases h1 : t = 1
  · subst h1
    exact prParse1 a cap b w h hl _ ht rfl
  by_cases h2 : t = 2
  · subst h2
    exact prParse2 a cap b w h hl _ ht rfl
  by_cases h3 : t = 3
  · subst h3
    exact prParse3 a cap b w h hl _ ht rfl
  by_cases h4 : t = 4
  · subst h4
    exact prParse4 a cap b w h hl _ ht rfl
  by_cases h5 : t = 5
  · subst h5
    exact prParse5 a cap b w h hl _ ht rfl
  by_cases h6 : t = 6
  · subst h6
    exact prParse6 a cap b w h hl _ ht rfl
  by_cases h7 : t = 7
  · subst h7
    exact prParse7 a cap b w h hl _ ht rfl
  by_cases h8 : t = 8
  · subst h8
    exact prParse8 a cap b w h hl _ ht rfl
  by_cases h9 : t = 9
  · subst h9
    exact prParse9 a cap b w h hl _ ht rfl
  by_cases h10 : t = 10
  · subst h10
    exact prParse10 a cap b w h hl _ ht rfl
  by_cases h11 : t = 11
  · subst h11
    exact prParse11 a cap b w h hl _ ht rfl
  by_cases h12 : t = 12
  · subst h12
    exact prParse12 a cap b w h hl _ ht rfl
  by_cases h13 : t = 13
  · subst h13
    exact prParse13 a cap b w h hl _ ht rfl
  omega
end Go.Proofs.Ytlngefhjoobmdaa
namespace Go.Proofs.Ytlngefhjoobmdaa
open Go.RowKit
theorem IsRow.more {k : IntKind} {w : World} {a : Option Addr} {len cap : Nat} {zs : List Int} (h : IsRow k w a len cap zs) : (a = none → cap = 0) ∧ ∀ x, a = some x → 0 < cap → x.spot = none ∧ x.block < w.heap.size := by
  rcases h with ⟨rfl, rfl, rfl, rfl⟩ | ⟨x, rfl, h1, h2, h3, h4, h5⟩
  · exact ⟨fun _ => rfl, fun x hx => (by cases hx)⟩
  · refine ⟨fun e => (by cases e), fun y hy hc => ?_⟩
    cases hy
    obtain ⟨b, off, sp⟩ := x
    have hc0 := h4 0 (by omega)
    have h0 := World.cell?_spot hc0
    simp [Addr.add] at h0
    subst h0
    have hadd : (⟨b, off, none⟩ : Addr).add 0 = ⟨b, off, none⟩ := by unfold Addr.add; simp
    rw [hadd] at hc0
    exact ⟨rfl, heap_lt_of_cell hc0⟩
theorem IsRow.reads {w : World} {a : Option Addr} {len cap : Nat} {zs : List Int} (h : IsRow .u8 w a len cap zs) : ∃ l, l.length = len ∧ Reads w (.slice a len cap) l := by
  obtain ⟨h1, h2⟩ := h.more
  obtain ⟨l, rfl, hc, hm, hb⟩ := h.bytes
  exact ⟨l, rfl, a, cap, rfl, hb, hc, hm, h1, h2⟩
theorem Reads.bytes {w : World} {a : Option Addr} {n cap : Nat} {l : List UInt8} (h : Reads w (.slice a n cap) l) : IsBytes w a l := by
  obtain ⟨a', cap', hv, hb, _⟩ := h
  simp only [Value.slice.injEq] at hv
  rw [hv.1]
  exact hb
theorem Reads.low {w : World} {a : Option Addr} {n cap : Nat} {l : List UInt8} (h : Reads w (.slice a n cap) l) : ∀ x, a = some x → 0 < cap → x.block < w.heap.size := by
  obtain ⟨a', cap', hv, hb, _, _, _, h5⟩ := h
  simp only [Value.slice.injEq] at hv
  obtain ⟨rfl, _, rfl⟩ := hv
  exact fun x hx hc => (h5 x hx hc).2
theorem Reads.take {w : World} {a : Option Addr} {n cap : Nat} {l : List UInt8} (h : Reads w (.slice a n cap) l) (k : Nat) (hk : k ≤ l.length) : Reads w (.slice a k cap) (l.take k) := by
  obtain ⟨a', cap', hv, hb, h1, h2, h3, h4⟩ := h
  simp only [Value.slice.injEq] at hv
  obtain ⟨rfl, _, rfl⟩ := hv
  have hl : (l.take k).length = k := by rw [List.length_take]; omega
  exact ⟨a, cap, by rw [hl], hb.take k, by omega, h2, h3, h4⟩
theorem own_at {B : Nat} {w : World} {g n cap : Nat} {l : List UInt8} (h : OwnB B w (.slice (some ⟨g, 0, none⟩) n cap) l) (i : Nat) (hi : i < l.length) :
    w.cell? ⟨g, i, none⟩ = some (.int .u8 (l[i].toNat : Int)) ∧ w.frozen? ⟨g, i, none⟩ = false ∧ B ≤ g ∧ ∀ y : UInt8, OwnB B (w.setCell ⟨g, i, none⟩ (.int .u8 (y.toNat : Int))) (.slice (some ⟨g, 0, none⟩) n cap) (l.set i y) := by
  obtain ⟨g', cap', hv, hBg, _, _, _, hc, hf, hset⟩ := h.get (by omega)
  simp only [Value.slice.injEq, Option.some.injEq, Addr.mk.injEq] at hv
  obtain ⟨⟨rfl, _⟩, rfl, rfl⟩ := hv
  exact ⟨hc i hi, hf i, hBg, fun y => hset i y hi⟩
theorem OwnB.bytesOf {B : Nat} {w : World} {a : Option Addr} {n cap : Nat} {l : List UInt8} (h : OwnB B w (.slice a n cap) l) : IsBytes w a l := h.reads.bytes
end Go.Proofs.Ytlngefhjoobmdaa
namespace Go.Proofs.Ytlngefhjoobmdaa
open Go.RowKit
theorem rT_max (s : RS) : (rT s).size ≤ maxLen := Nat.le_trans (rT_size s) (by unfold maxLen; omega)
theorem opN_wf (t : Nat) (s : RS) (bad : Bool) : (opN t s bad).1.wf := by
  unfold opN
  extract_lets f key s2 b2
  split
  · exact ⟨by simp, by simp, rT_max _, by simp [maxLen]⟩
  · split
    · exact ⟨rN8 _, by simp, rT_max _, by simp [maxLen]⟩
    · exact ⟨rN8 _, rN8 _, rT_max _, rT_max _⟩
theorem batchN_len : ∀ (n : Nat) (s : RS) (bad : Bool), (batchN n s bad).1.length ≤ n
  | 0, s, bad => by simp [batchN]
  | n + 1, s, bad => by
    unfold batchN
    split
    · simp
    · have := batchN_len n (opN 9 s bad).2.1 (opN 9 s bad).2.2
      simp only [List.length_cons]
      omega
theorem batchN_wf : ∀ (n : Nat) (s : RS) (bad : Bool), ∀ x ∈ (batchN n s bad).1, x.wf
  | 0, s, bad => by simp [batchN]
  | n + 1, s, bad => by
    unfold batchN
    split
    · simp
    · intro x hx
      rcases List.mem_cons.1 hx with rfl | hx
      · exact opN_wf _ _ _
      · exact batchN_wf n _ _ x hx
theorem tenP_wf (t : Nat) (q : CReq) (s : RS) (bad : Bool) (h : q.wf) (ho : q.ops = []) : (tenP t q s bad).1.wf ∧ (tenP t q s bad).1.ops.length ≤ 255 := by
  obtain ⟨h1, h2, h3, h4, h5, h6, h7⟩ := h
  unfold tenP
  split
  · exact ⟨⟨h1, h2, h3, h4, h5, h6, fun x hx => by simp only [List.mem_singleton] at hx; subst hx; exact opN_wf _ _ _⟩, by simp⟩
  split
  · refine ⟨⟨h1, h2, h3, h4, h5, h6, batchN_wf _ _ _⟩, ?_⟩
    have := batchN_len (rN 1 s) (rN' 1 s) (bad || !(decide (1 ≤ rN 1 s) && decide (rN 1 s ≤ 16)))
    have := rN1 s
    simp only
    omega
  split
  · exact ⟨⟨h1, h2, h3, h4, h5, rT_max _, h7⟩, by simp [ho]⟩
  split
  · exact ⟨⟨h1, h2, h3, h4, h5, h6, h7⟩, by simp [ho]⟩
  split
  · exact ⟨⟨h1, h2, h3, h4, rN4 s, h6, h7⟩, by simp [ho]⟩
  · exact ⟨⟨h1, h2, h3, h4, h5, h6, h7⟩, by simp [ho]⟩
theorem zero_wf : CReq.zero.wf := by unfold CReq.wf CReq.zero maxLen; simp
theorem bodyP_wf (t : Nat) (s : RS) : (bodyP t s).1.wf ∧ (bodyP t s).1.ops.length ≤ 255 := by
  obtain ⟨h1, h2, h3, h4, h5, h6, h7⟩ := zero_wf
  unfold bodyP
  split
  · exact tenP_wf _ _ _ _ ⟨h1, rN4 _, rN4 _, rN8 _, h5, h6, h7⟩ rfl
  split
  · split
    · exact ⟨⟨rN8 _, h2, h3, h4, h5, h6, h7⟩, Nat.zero_le _⟩
    · exact ⟨⟨rN8 _, h2, h3, h4, h5, h6, h7⟩, Nat.zero_le _⟩
  · exact ⟨⟨rN8 _, h2, h3, h4, h5, h6, h7⟩, Nat.zero_le _⟩
theorem parseP_wf {b : List UInt8} {q : CReq} (h : parseP b = some q) : q.wf ∧ q.ops.length ≤ 255 := by
  unfold parseP endP at h
  split at h
  · cases h
  · cases h
    exact bodyP_wf _ _
end Go.Proofs.Ytlngefhjoobmdaa
