/-
 The walk of digits. Written by a program of ours.
-/
import Derived.Test.YtkjmjnddanhapaaN13
import Derived.Test.YtkjmjnddanhapaaU10
set_option linter.unusedVariables false
set_option linter.unusedSimpArgs false
namespace Go.Proofs.Ytkjmjnddanhapaa
open Go.RowKit
theorem en16 : entB Try.prog 16 = true := by kernel_rfl
theorem digits_step (n : Nat) (w : World) (hn : n ≤ 9223372036854775807) (ih : ¬ n < 10 → ∀ w, Calls Try.prog 16 ([.int .i64 ((n / 10 : Nat) : Int)] : List Value).toArray w fun e w' => e = .returned (.string (bs (dgs (n / 10)))) ∧ Below w.heap.size w w') :
  Calls Try.prog 16 ([.int .i64 (n : Int)] : List Value).toArray w fun e w' => e = .returned (.string (bs (dgs n))) ∧ Below w.heap.size w w' := by
 have htm : (n : Int).tmod 10 = ((n % 10 : Nat) : Int) := rfl
 have hdl : ¬ n < 10 → (dgs (n / 10)).length ≤ 19 := fun h => dgs_len20 (by omega)
 have hB := Below.refl w.heap.size w
 refine At.enter (N := 18) Try.func16 rfl rfl (by simp) [(0, .int .i64 (n : Int))] (by simp) ?_
 refine At.seq ?_
 refine At.region ?_
 refine At.assign rfl rfl ?_
 refine At.ops0 ?_
 refine At.thenN ?_
 refine At.seq ?_
 refine At.region ?_
 refine At.move rfl rfl ?_
 refine At.remI rfl rfl (by omega) rfl ?_
 refine At.addI rfl rfl rfl (by omega) ?_
 refine At.convI rfl ik3 ik5 rfl ?_
 refine At.buildSlice (xs := [.tmp 7]) rfl rfl el22 sz5 ze5 (by intro v hv; simp only [List.mem_cons, List.not_mem_nil, or_false] at hv; rcases hv with rfl <;> first | rfl | simp [Value.cells, Value.cells]) rfl (by decide) rfl (fun b1 w1 F1 => ?_)
 have gb1 := F1.ge hB
 have hb1 : w1.heap[b1]? = some (.cells #[.int .u8 (IntKind.u8.wrap (48 + ((n : Int).tmod 10)))] 5) := F1.new
 replace hB := F1.below' hB
 refine At.convB (xs := [IntKind.u8.wrap (48 + ((n : Int).tmod 10))]) rfl hb1 rfl el22 ik5 st9 rfl ?_
 refine At.set (d := 9) (u := .string (bs [dg n])) rfl (congrArg Value.string (dig_str n)) ?_
 refine At.assign rfl rfl ?_
 refine At.ops0 ?_
 refine At.thenN ?_
 refine At.seq ?_
 refine At.seq ?_
 refine At.region ?_
 refine At.move rfl rfl ?_
 refine At.geq rfl rfl rfl ?_
 refine At.ops0 ?_
 refine At.thenN ?_
 refine At.cond (b := decide (10 ≤ (n : Int))) rfl (fun hc1 => ?_) (fun hc1 => ?_)
 ·skip
  have hc1' := of_decide_eq_true hc1
  refine At.region ?_
  refine At.move rfl rfl ?_
  refine At.quoI rfl rfl (by omega) rfl ?_
  refine At.set (d := 13) (u := .int .i64 ((((n / 10) : Nat)) : Int)) rfl (congrArg (Value.int .i64) (quo10x hn)) ?_
  refine At.call en16 rfl rfl (ih (by omega) _) (fun e w2 hR => ?_)
  obtain ⟨rfl, hbl1⟩ := hR
  refine ⟨_, rfl, ?_⟩
  replace hb1 := Below.old hbl1 hb1
  replace hB := Below.andThen hB hbl1
  refine At.move rfl rfl ?_
  refine At.catB (a := (dgs ((n / 10)))) (b := [dg n]) rfl rfl rfl (by have := hdl (by omega); simp only [List.length_cons, List.length_nil]; omega) ?_
  refine At.assign rfl rfl ?_
  refine At.ops0 ?_
  refine At.thenN ?_
  refine At.seq ?_
  refine At.region ?_
  refine At.move rfl rfl ?_
  refine At.assign rfl rfl ?_
  refine At.ops0 ?_
  refine At.thenN ?_
  refine At.retc ?_
  refine At.doneR (ResV.tmp rfl ResV.nil) ?_
  exact ⟨congrArg (fun l => Ending.returned (.string (bs l))) (dgs_ge (by omega)).symm, hB⟩
 ·skip
  have hc1' := of_decide_eq_false hc1
  refine At.skip ?_
  refine At.thenN ?_
  refine At.seq ?_
  refine At.region ?_
  refine At.move rfl rfl ?_
  refine At.assign rfl rfl ?_
  refine At.ops0 ?_
  refine At.thenN ?_
  refine At.retc ?_
  refine At.doneR (ResV.tmp rfl ResV.nil) ?_
  exact ⟨congrArg (fun l => Ending.returned (.string (bs l))) (dgs_lt (by omega)).symm, hB⟩
theorem digits_any (n : Nat) (w : World) (hn : n ≤ 9223372036854775807) : Calls Try.prog 16 ([.int .i64 (n : Int)] : List Value).toArray w fun e w' => e = .returned (.string (bs (dgs n))) ∧ Below w.heap.size w w' := by
 induction n using Nat.strongRecOn generalizing w with
 | ind n ih => exact digits_step n w hn (fun h w => ih (n / 10) (by omega) w (by omega))
end Go.Proofs.Ytkjmjnddanhapaa
