/-
  The table of powers of ten as the row's list gives it; a world for the witness. Facts of this seat's program, shown by computation; no condition.
-/
import Derived.Test.YtkclecfbjfdfkaaGreatDoorP7
import Derived.Test.YtkclecfbjfdfkaaGreatDoorCards
import Derived.Test.YtkclecfbjfdfkaaGreatDoorTie
import Derived.Deep.DeepHandedRow
import Derived.Lib.LaidTab
import Derived.LaidSub
namespace Go.Proofs.YtkclecfbjfdfkaaGreatDoor
open Go.RowKit

theorem max_cell {w : World} (h : w.ShapedOpen Tryz.prog) : ∃ m, w.cell? ⟨0, 0, none⟩ = some (.int .i64 m) :=
  cell_of_shapedOpen_int (zero := #[.int .i64 0]) (t := 3) h (of_decide_eq_true (by kernel_rfl)) (by kernel_rfl) rfl (by kernel_rfl) (by kernel_rfl) Tryz.underlying3
theorem gPow : Tryz.prog.globalNamed "internal/strconv.uint64pow10" = some 1 := by kernel_rfl
theorem gPowType : (Tryz.prog.globals[1]?).map (·.type) = some 170 := by kernel_rfl
theorem cellsPow : Tryz.prog.cellsOf 170 = 20 := by kernel_rfl
theorem cellsU64 : Tryz.prog.cellsOf 161 = 1 := by kernel_rfl
def seatLaid : List (String × DataW Unit) := [("math/bits.deBruijn32tab", Rows.laid_math_bits_deBruijn32tab), ("math/bits.deBruijn64tab", Rows.laid_math_bits_deBruijn64tab), ("internal/strconv.uint64pow10", Rows.laid_internal_strconv_uint64pow10)]
/-- What the row's list gives. -/
theorem table {W : World} (h : laidMetH Tryz.prog seatLaid W) : Tab W :=
  Lib.tabIs_of_head (rest := []) gPow gPowType Tryz.underlying170 Tryz.underlying161 cellsU64 cellsPow (h.filter fun x => x.1 == "internal/strconv.uint64pow10")
def cells8 (l : List Int) : Array Value := (l.map fun z => Value.int .u8 z).toArray
def cells64 (l : List Int) : Array Value := (l.map fun z => Value.int .u64 z).toArray
def setCells (cs : Array Value) : Obj → Obj
  | .cells _ t frozen => .cells cs t frozen
  | o => o
/-- A world whose listed tables hold what their initialisers lay. -/
noncomputable def laidWorld (os : Os) : World :=
  { World.holding Tryz.prog os ⟨#[], #[], []⟩ with heap := (((World.holding Tryz.prog os ⟨#[], #[], []⟩).heap.modify 1 (setCells (cells64 [1, 10, 100, 1000, 10000, 100000, 1000000, 10000000, 100000000, 1000000000, 10000000000, 100000000000, 1000000000000, 10000000000000, 100000000000000, 1000000000000000, 10000000000000000, 100000000000000000, 1000000000000000000, 10000000000000000000]))).modify 2 (setCells
      (cells8 [0, 1, 28, 2, 29, 14, 24, 3, 30, 22, 20, 15, 25, 17, 4, 8, 31, 27, 13, 23, 21, 19, 16, 7, 26, 12, 18, 6, 11, 5, 10, 9]))).modify 3 (setCells
      (cells8 [0, 1, 56, 2, 57, 49, 28, 3, 61, 58, 42, 50, 38, 29, 17, 4, 62, 47, 59, 36, 45, 43, 51, 22, 53, 39, 33, 30, 24, 18, 12, 5, 63, 55, 48, 27, 60, 41, 37, 16, 46, 35, 44, 21, 52, 32, 23, 11, 54, 26, 40, 15, 34, 20, 31, 10, 25, 14, 19, 9, 13, 8, 7, 6])) }
theorem laid_met (os : Os) (args : Array Value) : laidMet Tryz.prog seatLaid ((laidWorld os).forCall (fun _ _ => 0) ⟨#[], args, []⟩).memory :=
  laidMet_of_run' 8 (by kernel_rfl) (by kernel_rfl)
theorem own_knob : ownKnob Tryz.prog.godebug = none := by kernel_rfl
theorem laid_out : laidOutB Tryz.prog = true := by kernel_rfl
def zeroTmD {H : Type} : DataW H := .agg [zeroI, zeroI, zeroS, zeroS, zeroI, .nil, .nil, zeroTyD, .agg [.nil, zeroI], zeroTyD]
end Go.Proofs.YtkclecfbjfdfkaaGreatDoor
