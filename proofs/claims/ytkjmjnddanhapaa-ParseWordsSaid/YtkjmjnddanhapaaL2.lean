/-
  What the layer lex computes, in plain words on rows of bytes. Plain definitions and lemmas; no condition.
-/
import Derived.Test.YtkjmjnddanhapaaL1
import Derived.Lib.Bytealg
import Derived.Lib.IndexMore
namespace Go.Proofs.Ytkjmjnddanhapaa
open Go.RowKit

def digB (u : UInt8) : Bool := decide (48 ≤ (u.toNat : Int)) && decide ((u.toNat : Int) ≤ 57)
def largB (u : UInt8) : Bool := decide (65 ≤ (u.toNat : Int)) && decide ((u.toNat : Int) ≤ 90)
def letB (u : UInt8) : Bool := (largB u || (decide (97 ≤ (u.toNat : Int)) && decide ((u.toNat : Int) ≤ 122))) || decide ((u.toNat : Int) = 95)
def nameB (u : UInt8) : Bool := letB u || digB u
def blkB (u : UInt8) : Bool := decide (0 ≤ Lib.indexByte [32, 9, 13, 10] u)
def lineB (u : UInt8) : Bool := !decide ((u.toNat : Int) = 10)
/-- How many bytes at the beginning are so. -/
def whileN (p : UInt8 → Bool) (l : List UInt8) : Nat := (l.takeWhile p).length
theorem whileN_le (p : UInt8 → Bool) (l : List UInt8) : whileN p l ≤ l.length := by
  unfold whileN
  have h := congrArg List.length (List.takeWhile_append_dropWhile (p := p) (l := l))
  rw [List.length_append] at h; omega
theorem whileN_eq {p : UInt8 → Bool} : ∀ {l : List UInt8} {k : Nat}, k ≤ l.length → (∀ i x, i < k → l[i]? = some x → p x = true) → (∀ x, l[k]? = some x → p x = false) → whileN p l = k := by
  intro l
  induction l with
  | nil => intro k hk _ _; simp at hk; subst hk; rfl
  | cons a l ih =>
    intro k hk h1 h2
    unfold whileN
    cases k with
    | zero =>
      have := h2 a rfl
      rw [List.takeWhile_cons, this]; rfl
    | succ k =>
      have ha := h1 0 a (by omega) rfl
      rw [List.takeWhile_cons, ha, if_pos rfl, List.length_cons]
      have := ih (k := k) (by simpa using hk) (fun i x hi hx => h1 (i + 1) x (by omega) (by simpa using hx)) (fun x hx => h2 x (by simpa using hx))
      unfold whileN at this
      omega
theorem next_yes {p : UInt8 → Bool} {l : List UInt8} {k : Nat} {u : UInt8} (hn : ∀ i x, i < k → l[i]? = some x → p x = true) (hu : l[k]? = some u) (h : p u = true) : ∀ i x, i < k + 1 → l[i]? = some x → p x = true := by
  intro i x hi hx
  by_cases e : i = k
  · subst e; rw [hu] at hx; cases hx; exact h
  · exact hn i x (by omega) hx
theorem at_end {p : UInt8 → Bool} {l : List UInt8} {k : Nat} (h : ¬ (k : Int) < (l.length : Int)) : ∀ x, l[k]? = some x → p x = false := fun x hx => by have := lt_of_some hx; omega
theorem at_stop {p : UInt8 → Bool} {l : List UInt8} {k : Nat} {u : UInt8} (hu : l[k]? = some u) (h : p u = false) : ∀ x, l[k]? = some x → p x = false := fun x hx => by rw [hu] at hx; cases hx; exact h
/-- How many bytes at the beginning do not matter, at once. -/
def blank1 (l : List UInt8) : Nat :=
  if decide ((whileN blkB l : Int) = 0) then (match l with | [] => 0 | a :: _ => if decide ((a.toNat : Int) = 35) then whileN lineB l else 0) else whileN blkB l
/-- A number's value. -/
def numGo (v : Nat) : List UInt8 → Option Nat
  | [] => some v
  | c :: r => if (9223372036854775807 - (c.toNat - 48)) / 10 < v then none else numGo (10 * v + (c.toNat - 48)) r
def digs (l : List UInt8) : List UInt8 := l.take (whileN digB l)
def tokCs (k : Int) (t : List UInt8) (n a : Int) : Array Value := #[.int .i64 k, .string (bs t), .int .i64 n, .int .i64 a]
def zeroTok : Array Value := #[.int .i64 0, .string (⟨#[]⟩ : ByteArray), .int .i64 0, .int .i64 0]
def numV (l : List UInt8) : Value := match numGo 0 (digs l) with
  | none => .tuple #[.agg zeroTok, .int .i64 0, .bool false]
  | some v => .tuple #[.agg (tokCs 1 (digs l) (v : Int) 0), .int .i64 (whileN digB l : Int), .bool true]
theorem digs_dig {l : List UInt8} {i : Nat} {c : UInt8} (h : (digs l)[i]? = some c) : digB c = true := by
  have h1 : digs l = l.takeWhile digB := by
    unfold digs whileN
    conv => lhs; arg 2; rw [← List.takeWhile_append_dropWhile (p := digB) (l := l)]
    rw [List.take_left]
  rw [h1] at h
  exact List.all_eq_true.1 (List.all_takeWhile) c (List.mem_of_getElem? h)
theorem dig_range {c : UInt8} (h : digB c = true) : 48 ≤ c.toNat ∧ c.toNat ≤ 57 := by
  unfold digB at h
  simp only [Bool.and_eq_true, decide_eq_true_eq] at h
  omega
theorem numGo_step {v : Nat} {l : List UInt8} {i : Nat} {c : UInt8} (h : l[i]? = some c) : numGo v (l.drop i) = if (9223372036854775807 - (c.toNat - 48)) / 10 < v then none else numGo (10 * v + (c.toNat - 48)) (l.drop (i + 1)) := by
  have hk := lt_of_some h
  rw [List.drop_eq_getElem_cons hk, (List.getElem?_eq_some_iff.1 h).2, numGo]
theorem sub48 {c : UInt8} (h : digB c = true) : IntKind.i64.wrap (IntKind.u8.wrap ((c.toNat : Int) - 48)) = ((c.toNat - 48 : Nat) : Int) := by
  have h1 := dig_range h
  have h2 : IntKind.u8.wrap ((c.toNat : Int) - 48) = ((c.toNat - 48 : Nat) : Int) := by
    have : (c.toNat : Int) - 48 = ((c.toNat - 48 : Nat) : Int) := by omega
    rw [this]
    have h3 : c.toNat - 48 ≤ 9 := by omega
    generalize c.toNat - 48 = m at h3
    have : m = 0 ∨ m = 1 ∨ m = 2 ∨ m = 3 ∨ m = 4 ∨ m = 5 ∨ m = 6 ∨ m = 7 ∨ m = 8 ∨ m = 9 := by omega
    rcases this with rfl | rfl | rfl | rfl | rfl | rfl | rfl | rfl | rfl | rfl <;> decide
  rw [h2]
  exact wrap64_id _ (by omega)
theorem quo10 {a : Nat} (h : a ≤ 9) : IntKind.i64.wrap ((9223372036854775807 - (a : Int)).tdiv 10) = (((9223372036854775807 - a) / 10 : Nat) : Int) := by
  have h1 : (9223372036854775807 - (a : Int)) = ((9223372036854775807 - a : Nat) : Int) := by omega
  rw [h1]
  have h2 : ((9223372036854775807 - a : Nat) : Int).tdiv 10 = (((9223372036854775807 - a) / 10 : Nat) : Int) := by
    rw [Int.tdiv_eq_ediv_of_nonneg (by omega)]; rfl
  rw [h2]
  exact wrap64_id _ (by omega)
def keysL : List UInt8 := [32, 102, 117, 110, 32, 108, 101, 116, 32, 105, 110, 32, 114, 101, 99, 32, 105, 102, 32, 116, 104, 101, 110, 32, 101, 108, 115, 101, 32, 109, 97, 116, 99, 104, 32, 104, 97, 110, 100, 108, 101, 32, 114, 101, 116, 117, 114, 110, 32, 101, 102, 102, 101, 99, 116, 32, 100, 97, 116, 97, 32, 112, 114, 105, 110, 116, 32, 114, 101, 97, 100, 32, 114, 101, 102, 32, 116, 114, 117, 101, 32, 102, 97, 108, 115, 101, 32, 105, 110, 116, 32, 98, 111, 111, 108, 32, 117, 110, 105, 116, 32]
def kwB (t : List UInt8) : Bool := Lib.contains keysL (([32] ++ t) ++ [32])
def nameV (l : List UInt8) : Value :=
  if decide (60 < (whileN nameB l : Int)) then .tuple #[.agg (tokCs 2 (l.take (whileN nameB l)) 0 0), .int .i64 0, .bool false]
  else if largB (l.getD 0 0) then .tuple #[.agg (tokCs 3 (l.take (whileN nameB l)) 0 0), .int .i64 (whileN nameB l : Int), .bool true]
  else if kwB (l.take (whileN nameB l)) then .tuple #[.agg (tokCs 4 (l.take (whileN nameB l)) 0 0), .int .i64 (whileN nameB l : Int), .bool true]
  else if decide ((whileN nameB l : Int) < (l.length : Int)) && decide (((l.getD (whileN nameB l) 0).toNat : Int) = 33) then .tuple #[.agg (tokCs 6 (l.take (whileN nameB l)) 0 0), .int .i64 ((whileN nameB l : Int) + 1), .bool true]
  else .tuple #[.agg (tokCs 2 (l.take (whileN nameB l)) 0 0), .int .i64 (whileN nameB l : Int), .bool true]
theorem getD_of {l : List UInt8} {i : Nat} {u : UInt8} (h : l[i]? = some u) : l.getD i 0 = u := by simp [List.getD, h]
theorem numV_none {l : List UInt8} (h : numGo 0 (digs l) = none) : numV l = .tuple #[.agg zeroTok, .int .i64 0, .bool false] := by unfold numV; rw [h]
theorem numV_some {l : List UInt8} {v : Nat} (h : numGo 0 (digs l) = some v) : numV l = .tuple #[.agg (tokCs 1 (digs l) (v : Int) 0), .int .i64 (whileN digB l : Int), .bool true] := by unfold numV; rw [h]
end Go.Proofs.Ytkjmjnddanhapaa
