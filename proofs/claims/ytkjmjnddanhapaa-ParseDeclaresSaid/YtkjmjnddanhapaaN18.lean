/-
  From what an argument reads as to how it lies in memory: rows of truths. Plain lemmas; no condition beyond those that stand in each statement.
-/
import Derived.Test.YtkjmjnddanhapaaN12
import Derived.Test.YtkjmjnddanhapaaN17
import Derived.ChangeArms
namespace Go.Proofs.Ytkjmjnddanhapaa
open Go.RowKit

section
variable {H : Type} {enc : TypeId × Value → H}
theorem e63 : elemB Try.prog 63 = some 4 := by kernel_rfl
theorem c4 : Try.prog.cellsOf 4 = 1 := by kernel_rfl
theorem bools_arg {w : World} {a : Option Addr} {m c : Nat} {d : DataW H} {ps : List MemPlace} (h : DataW.Trod enc Try.prog w 0 (fun _ => true) true 63 (.slice a m c) d ps) : ∃ l : List Bool, BoolsAt w (.slice a m c) l := by
  obtain ⟨n, h⟩ := h
  obtain ⟨v, l, h1, h2, _⟩ := Rd.rows (f := fun s : Bool => #[Value.bool s]) (Ok := fun _ => True) e63 c4 (by omega) (⟨_, h⟩ : Rd enc Try.prog w n 63 _) fun m hm row hr hd => by
    obtain ⟨y, hd⟩ := hd
    obtain ⟨x, hx, _⟩ := DataW.trod_bool Try.underlying4 hd
    exact ⟨x, by rw [hx], trivial⟩
  have : v = .slice a m c := by simpa [Value.cells] using h1.symm
  rw [this] at h2
  exact ⟨l, h2⟩
end
end Go.Proofs.Ytkjmjnddanhapaa
