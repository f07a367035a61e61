/-
  From what an argument reads as to how it lies in memory: rows of bytes, numbers. Plain lemmas; no condition beyond those that stand in each statement.
-/
import Derived.Test.YtkjmjnddanhapaaR1
import Derived.Test.YtkjmjnddanhapaaL1
import Derived.Test.YtkjmjnddanhapaaN3
import Derived.Test.YtkjmjnddanhapaaChecked
import Derived.Shelf.Vars
namespace Go.Proofs.Ytkjmjnddanhapaa
open Go.RowKit

section
variable {H : Type} {enc : TypeId × Value → H}
theorem Rd.u8 {P : Program} {w : World} {n : Nat} {t : TypeId} {cs : List Value} (hu : P.underlying t = some (.int .u8)) (h : Rd enc P w n t cs) : ∃ u : UInt8, cs = [.int .u8 (u.toNat : Int)] := by
  obtain ⟨x, h⟩ := h
  obtain ⟨m, rfl, hw⟩ := DataW.trod_int hu h
  have hr : 0 ≤ m ∧ m < 256 := by
    have e1 : IntKind.u8.min = 0 := by decide
    have e2 : IntKind.u8.max = 255 := by decide
    simp only [Lit.wf, e1, e2, Bool.and_eq_true, decide_eq_true_eq] at hw
    omega
  refine ⟨UInt8.ofNat m.toNat, ?_⟩
  have : (UInt8.ofNat m.toNat).toNat = m.toNat := by rw [UInt8.toNat_ofNat']; omega
  rw [this]
  congr 2; omega
theorem e22 : elemB Try.prog 22 = some 5 := by kernel_rfl
theorem c5 : Try.prog.cellsOf 5 = 1 := by kernel_rfl
theorem bytes_arg {w : World} {a : Option Addr} {m c : Nat} {d : DataW H} {ps : List MemPlace} (h : DataW.Trod enc Try.prog w 0 (fun _ => true) true 22 (.slice a m c) d ps) : ∃ l : List UInt8, BytesAt w (.slice a m c) l := by
  obtain ⟨n, h⟩ := h
  obtain ⟨v, l, h1, h2, _⟩ := Rd.rows (f := fun u : UInt8 => #[Value.int .u8 (u.toNat : Int)]) (Ok := fun _ => True) e22 c5 (by omega) (⟨_, h⟩ : Rd enc Try.prog w n 22 _) fun m hm row hr hd => by
    obtain ⟨x, hx⟩ := Rd.u8 Try.underlying5 hd
    exact ⟨x, by rw [hx], trivial⟩
  have : v = .slice a m c := by simpa [Value.cells] using h1.symm
  rw [this] at h2
  exact ⟨l, h2⟩
theorem c3 : Try.prog.cellsOf 3 = 1 := by kernel_rfl
theorem k3 : kindB Try.prog 3 = 1 := by kernel_rfl
theorem max_cell {w : World} (h : w.ShapedOpen Try.prog) : ∃ m, w.cell? ⟨0, 0, none⟩ = some (.int .i64 m) :=
  cell_of_shapedOpen_int (zero := #[.int .i64 0]) (t := 3) h (of_decide_eq_true (by kernel_rfl)) (by kernel_rfl) rfl (by kernel_rfl) (by kernel_rfl) Try.underlying3
end
end Go.Proofs.Ytkjmjnddanhapaa
