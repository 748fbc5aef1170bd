/- The frame of a body, and what bytes begin with: plain definitions and laws. No program in sight. -/
import Derived.Test.YtiihemmonncioaaCrcPure
import Derived.Test.YtiihemmonncioaaPackPure
namespace Go.Proofs.Ytiihemmonncioaa

def frameL (body : List UInt8) : List UInt8 := putL body.length 4 ++ (putL (addN 0 body) 4 ++ body)
/-- The body, how many bytes the frame has, the error's number. -/
def getL (b : List UInt8) : List UInt8 × Nat × Nat :=
  if b.length < 8 then ([], 0, 3)
  else if numL (b.take 4) = 0 ∨ 20000 < numL (b.take 4) then ([], 0, 2)
  else if b.length - 8 < numL (b.take 4) then ([], 0, 3)
  else if addN 0 ((b.drop 8).take (numL (b.take 4))) ≠ numL ((b.drop 4).take 4) then ([], 0, 4)
  else ((b.drop 8).take (numL (b.take 4)), 8 + numL (b.take 4), 0)
theorem frameL_length (body : List UInt8) : (frameL body).length = 8 + body.length := by
  simp only [frameL, List.length_append, putL_length]; omega
theorem numL_put4 (n : Nat) (h : n < 4294967296) : numL (putL n 4) = n := by
  rw [numL_putL]; exact Nat.mod_eq_of_lt (by simpa using h)
theorem take4 (x y : List UInt8) (n : Nat) : (putL n 4 ++ x ++ y).take 4 = putL n 4 := by
  rw [List.append_assoc, List.take_append_of_le_length (by rw [putL_length]; omega), List.take_of_length_le (by rw [putL_length]; omega)]
/-- Any body of the right length, behind any head of that length and any sum. -/
theorem getL_of (body rest : List UInt8) (s : Nat) (hs : s < 4294967296) (h1 : 1 ≤ body.length) (h2 : body.length ≤ 20000) :
    getL (putL body.length 4 ++ (putL s 4 ++ (body ++ rest))) = if addN 0 body ≠ s then ([], 0, 4) else (body, 8 + body.length, 0) := by
  have e1 : (putL body.length 4 ++ (putL s 4 ++ (body ++ rest))).take 4 = putL body.length 4 := by
    rw [List.take_append_of_le_length (by rw [putL_length]; omega), List.take_of_length_le (by rw [putL_length]; omega)]
  have e2 : (putL body.length 4 ++ (putL s 4 ++ (body ++ rest))).drop 4 = putL s 4 ++ (body ++ rest) := by
    rw [List.drop_append_of_le_length (by rw [putL_length]; omega), List.drop_of_length_le (by rw [putL_length]; omega), List.nil_append]
  have e3 : (putL s 4 ++ (body ++ rest)).take 4 = putL s 4 := by
    rw [List.take_append_of_le_length (by rw [putL_length]; omega), List.take_of_length_le (by rw [putL_length]; omega)]
  have e4 : (putL body.length 4 ++ (putL s 4 ++ (body ++ rest))).drop 8 = body ++ rest := by
    rw [show (8 : Nat) = 4 + 4 by rfl, ← List.drop_drop, e2, List.drop_append_of_le_length (by rw [putL_length]; omega), List.drop_of_length_le (by rw [putL_length]; omega), List.nil_append]
  have e5 : (body ++ rest).take body.length = body := List.take_left
  have hl : (putL body.length 4 ++ (putL s 4 ++ (body ++ rest))).length = 8 + body.length + rest.length := by
    simp only [List.length_append, putL_length]; omega
  unfold getL
  rw [e1, e2, e3, e4, numL_put4 _ (by omega), numL_put4 _ hs, e5, hl, if_neg (by omega), if_neg (by omega), if_neg (by omega)]
/-- What was put is got as it was, whatever lies behind it. -/
theorem getL_frame (body rest : List UInt8) (h1 : 1 ≤ body.length) (h2 : body.length ≤ 20000) : getL (frameL body ++ rest) = (body, 8 + body.length, 0) := by
  unfold frameL
  rw [List.append_assoc, List.append_assoc, getL_of body rest _ (addN_lt 0 body) h1 h2, if_neg (by simp)]
/-- No beginning of it is a frame. -/
theorem getL_cut (body : List UInt8) (c : Nat) (h1 : 1 ≤ body.length) (h2 : body.length ≤ 20000) (hc : c < 8 + body.length) : getL ((frameL body).take c) = ([], 0, 3) := by
  have hl : ((frameL body).take c).length = c := by rw [List.length_take, frameL_length]; omega
  unfold getL
  rw [hl]
  by_cases h8 : c < 8
  · rw [if_pos h8]
  · have e1 : ((frameL body).take c).take 4 = putL body.length 4 := by
      rw [List.take_take, show min 4 c = 4 by omega]
      unfold frameL
      rw [List.take_append_of_le_length (by rw [putL_length]; omega), List.take_of_length_le (by rw [putL_length]; omega)]
    rw [if_neg h8, e1, numL_put4 _ (by omega), if_neg (by omega), if_pos (by omega)]
/-- None with a byte of the body changed. -/
theorem getL_turned (body : List UInt8) (i : Nat) (hi : i < body.length) (y : UInt8) (hy : body[i] ≠ y) (h2 : body.length ≤ 20000) : getL ((frameL body).set (8 + i) y) = ([], 0, 4) := by
  have hs : (frameL body).set (8 + i) y = putL (body.set i y).length 4 ++ (putL (addN 0 body) 4 ++ ((body.set i y) ++ [])) := by
    unfold frameL
    rw [List.set_append_right _ _ (by rw [putL_length]; omega), putL_length, List.set_append_right _ _ (by rw [putL_length]; omega), putL_length, List.length_set, List.append_nil, show 8 + i - 4 - 4 = i by omega]
  have hne : addN 0 (body.set i y) ≠ addN 0 body := by
    have e : body = body.take i ++ body[i] :: body.drop (i + 1) := by rw [← List.drop_eq_getElem_cons hi, List.take_append_drop]
    have e' : body.set i y = body.take i ++ y :: body.drop (i + 1) := by rw [List.set_eq_take_append_cons_drop, if_pos hi]
    have ht := addN_turn 0 (body.take i) (body.drop (i + 1)) y body[i] (fun h => hy h.symm)
    rw [← e, ← e'] at ht
    exact ht
  rw [hs, getL_of (body.set i y) [] _ (addN_lt 0 body) (by simp; omega) (by simpa using h2), if_pos hne]
attribute [irreducible] frameL getL
end Go.Proofs.Ytiihemmonncioaa
