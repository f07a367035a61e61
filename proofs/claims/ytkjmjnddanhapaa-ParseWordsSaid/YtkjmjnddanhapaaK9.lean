/-
  Parts of a slice, from its start to a place and from a place to its end. Plain lemmas over any program; no condition beyond those that stand in each statement.
-/
import Derived.Test.YtkjmjnddanhapaaK8
namespace Go.Proofs.Ytkjmjnddanhapaa
open Go.RowKit

/-- A slice up to a place. -/
def takeV (v : Value) (h : Nat) : Value := match v with | .slice b _ c => .slice b h c | v => v
section
variable {P : Program} {N : Nat} {ds : List Deferred} {L : List (Nat × Value)} {w : World} {ops : Array Oper} {Q : Exit → Act → World → Prop} {rest : List Oper} {d : Nat}
  {ty : TypeId} {pos : String} {aft : Array Edge} {x y : Operand}
theorem addr_add_zero (a : Addr) : a.add 0 = a := by cases a; simp [Addr.add]
theorem At.sliceTo {t e : TypeId} {sz n h : Nat} {v : Value} (hx : ev L x = some v) (hy : ev L y = some (.int .i64 (h : Int))) (hv : SlOk v n) (he : elemB P t = some e) (hs : sizeB P e = some sz) (hh : h ≤ n) (hN : Nat.blt d N = true)
    (k : At N ds ((d, takeV v h) :: L) (wpList P ops Q rest) w) :
    At N ds L (wpList P ops Q (⟨some d, .slice t x none (some y) none, ty, pos, aft, none⟩ :: rest)) w := by
  rcases hv with ⟨rfl, h0⟩ | ⟨a, cap, rfl, hc, hsp⟩
  · obtain rfl : h = 0 := by omega
    exact At.sliceHi hx hy he hs (Nat.le_refl 0) hN k
  · refine At.sliceHi hx hy he hs (by omega) hN ?_
    have : (if cap = 0 then some a else (some a).map (·.add (0 * sz))) = some a := by simp [addr_add_zero]
    rw [this]; exact k
end
theorem SlOk.take {v : Value} {n h : Nat} (hv : SlOk v n) (hh : h ≤ n) : SlOk (takeV v h) h := by
  rcases hv with ⟨rfl, h0⟩ | ⟨a, cap, rfl, hc, hsp⟩
  · exact .inl ⟨by simp [takeV]; omega, by omega⟩
  · exact .inr ⟨a, cap, rfl, by omega, fun h0 => hsp (by omega)⟩
theorem takeV_block {v : Value} {n h : Nat} (hv : SlOk v n) : vBlock (takeV v h) = vBlock v ∧ vOff (takeV v h) = vOff v := by
  rcases hv with ⟨rfl, h0⟩ | ⟨a, cap, rfl, hc, hsp⟩ <;> exact ⟨rfl, rfl⟩
theorem RowsAt.take {w : World} {v : Value} {sz : Nat} {rows : List (Array Value)} (hr : RowsAt w v sz rows) {h : Nat} (hh : h ≤ rows.length) : RowsAt w (takeV v h) sz (rows.take h) := by
  have hl : (rows.take h).length = h := by simp; omega
  refine ⟨by rw [hl]; exact hr.ok.take hh, fun i cs hi => ?_, fun i cs hi => ?_, ?_⟩
  · by_cases hk : i < h
    · rw [List.getElem?_take_of_lt hk] at hi; exact hr.size i cs hi
    · rw [List.getElem?_eq_none (by omega)] at hi; cases hi
  · have := takeV_block (h := h) hr.ok
    rw [this.1, this.2]
    by_cases hk : i < h
    · rw [List.getElem?_take_of_lt hk] at hi; exact hr.at_ i cs hi
    · rw [List.getElem?_eq_none (by omega)] at hi; cases hi
  · have := hr.len; omega
theorem StrsAt.take {w : World} {v : Value} {ss : List ByteArray} (h : StrsAt w v ss) {k : Nat} (hk : k ≤ ss.length) : StrsAt w (takeV v k) (ss.take k) := by
  have := RowsAt.take h (h := k) (by simpa using hk)
  rw [← List.map_take] at this
  exact this
end Go.Proofs.Ytkjmjnddanhapaa
