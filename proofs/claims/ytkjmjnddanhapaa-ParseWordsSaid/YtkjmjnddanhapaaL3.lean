/-
  Words, signs, rules: what the layer lex computes of a source. Plain definitions and lemmas; no condition.
-/
import Derived.Test.YtkjmjnddanhapaaL2
namespace Go.Proofs.Ytkjmjnddanhapaa
open Go.RowKit

def signsS : List ByteArray := [⟨#[45, 62]⟩, ⟨#[58, 61]⟩, ⟨#[40]⟩, ⟨#[41]⟩, ⟨#[123]⟩, ⟨#[125]⟩, ⟨#[44]⟩, ⟨#[59]⟩, ⟨#[58]⟩, ⟨#[61]⟩, ⟨#[43]⟩, ⟨#[45]⟩, ⟨#[42]⟩, ⟨#[47]⟩, ⟨#[60]⟩, ⟨#[33]⟩]
def preB (l : List UInt8) (x : ByteArray) : Bool := Lib.hasPrefix l x.data.toList
def signV (l : List UInt8) : Value := match signsS.find? (preB l) with
  | none => .tuple #[.agg zeroTok, .int .i64 0, .bool false]
  | some x => .tuple #[.agg #[.int .i64 5, .string x, .int .i64 0, .int .i64 0], .int .i64 (x.size : Int), .bool true]
theorem idx_none {α : Type} {p : α → Bool} {l : List α} (h : idxI p l < 0) : l.find? p = none := by
  cases hf : l.findIdx? p with
  | none =>
    rw [List.find?_eq_none]
    rw [List.findIdx?_eq_none_iff] at hf
    intro x hx; simpa using hf x hx
  | some i => unfold idxI at h; rw [hf] at h; simp at h; omega
theorem idx_some {α : Type} {p : α → Bool} {l : List α} (h : ¬ idxI p l < 0) : ∃ (j : Nat) (x : α), idxI p l = (j : Int) ∧ l[j]? = some x ∧ l.find? p = some x := by
  cases hf : l.findIdx? p with
  | none => unfold idxI at h; rw [hf] at h; simp at h
  | some i =>
    have h1 := List.findIdx?_eq_some_iff_getElem.1 hf
    obtain ⟨hlt, hp, hb⟩ := h1
    refine ⟨i, l[i], by unfold idxI; rw [hf], List.getElem?_eq_getElem hlt, ?_⟩
    rw [List.find?_eq_some_iff_getElem]
    exact ⟨hp, i, hlt, rfl, fun j hj => by simpa using hb j hj⟩
theorem signV_none {l : List UInt8} (h : signsS.find? (preB l) = none) : signV l = .tuple #[.agg zeroTok, .int .i64 0, .bool false] := by unfold signV; rw [h]
theorem signV_some {l : List UInt8} {x : ByteArray} (h : signsS.find? (preB l) = some x) : signV l = .tuple #[.agg #[.int .i64 5, .string x, .int .i64 0, .int .i64 0], .int .i64 (x.size : Int), .bool true] := by unfold signV; rw [h]

theorem StrsAt.rs {bs : List (Nat × Obj)} {a b : World} {v : Value} {ss : List ByteArray} (h : StrsAt a v ss) (hR : RS bs a b) (hn : ∀ p ∈ bs, vBlock v ≠ p.1) : StrsAt b v ss :=
  RowsAt.keepB h fun hne => by
    have hne' : ss ≠ [] := fun e => hne (by rw [e]; rfl)
    have hlt := StrsAt.lt h hne'
    rw [hR.old _ _ hn (Array.getElem?_eq_getElem hlt)]
    exact (Array.getElem?_eq_getElem hlt).symm
/-- A word. -/
structure Tk where
  k : Int
  t : List UInt8
  n : Int
  a : Int
def Tk.cs (x : Tk) : Array Value := tokCs x.k x.t x.n x.a
structure TkOk (x : Tk) : Prop where
  size : x.cs.size = 4
  one : x.cs.all (·.oneCell') = true
  c0 : x.cs[0]? = some (.int .i64 x.k)
  c1 : x.cs[1]? = some (.string (bs x.t))
  c2 : x.cs[2]? = some (.int .i64 x.n)
  c3 : x.cs[3]? = some (.int .i64 x.a)
theorem tk_ok (x : Tk) : TkOk x := ⟨rfl, by simp [Tk.cs, tokCs, Value.oneCell'], rfl, rfl, rfl, rfl⟩
end Go.Proofs.Ytkjmjnddanhapaa
