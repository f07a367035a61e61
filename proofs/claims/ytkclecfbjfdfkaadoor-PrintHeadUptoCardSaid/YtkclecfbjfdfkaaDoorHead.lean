/-
  PrintHead: whatever the input of bulk at most 1048576, the law returns true, and the input reads as it did; the listed tables are tied to the program's text by the given tie.
-/
import Derived.Test.YtkclecfbjfdfkaaDoorP8
import Derived.Test.YtkclecfbjfdfkaaDoorQ6
import Derived.WalkKit
import Derived.OpenShut
import Derived.Carry
import Derived.JoinedCond
import Derived.SevenTiedAt
namespace Go.Proofs.YtkclecfbjfdfkaaDoor
open Go.ChangeShapes Go.WideShapes Go.ChangeAt Go.RowKit

set_option maxRecDepth 100000 in
theorem printHead_contract (H : Type) (enc : TypeId × Value → H) (W : World) (base : Nat) (args : Array Value) (ds gs : List (DataW H)) (before : List MemPlace)
    (hval0 : ∀ (j : Nat) t v, Tryd.f4.params[j]? = some t → args[j]? = some v → Value.okWide Tryd.prog W .any base t v)
    (hW : DataW.Whole enc Tryd.prog Tryd.f4.params.toList Rows.printHeadSpec.vars false W args.toList ds gs before) (hk : Rows.uptoSmall H (ds ++ gs) = true) (htab : Tab W) (hsh : W.ShapedOpen Tryd.prog) :
    Calls Tryd.prog 4 args W fun e W' => ∃ v, e = .returned v ∧ Rows.printHeadSpec.post enc Tryd.prog Tryd.f4 false true false false W args v W' := by
  have hval := hval0
  have hW' := hW
  obtain ⟨m, hm⟩ := max_cell hsh
  obtain ⟨p, q, hA0, hV, rfl, hfz, hnd⟩ := hW
  have hA : DataW.TrodAll enc Tryd.prog W 0 (fun _ => true) true Tryd.f4.params.toList args.toList ds p := hA0
  rw [Tryd.params4] at hA hval
  obtain ⟨v0, v1, d0, d1, p0, p1, rfl, rfl, rfl, h0, h1⟩ := trodAll_two hA
  obtain ⟨rfl, rfl⟩ := trodVars_none hV
  clear hA0 hval0
  simp only [List.append_nil] at hW'
  have hb : Rows.uptoBulk d0 + (Rows.uptoBulk d1 + 0) ≤ 1048576 := by have h := of_decide_eq_true hk; simpa only [Rows.uptoBulkAll, List.cons_append, List.nil_append] using h
  obtain ⟨a0, rfl, ha0, hs0⟩ := pr_argb (by omega) h0
  obtain ⟨a1, rfl, ha1, hz1, hw1⟩ := tm_argb (by omega) h1
  have hlt : ∀ x ∈ p0 ++ p1, x.block < W.heap.size := fun x hx => by simpa using hW'.lt x hx
  refine (printHead_any a0 a1 m W ha0 (hs0.szP (by omega)) (by have := hs0.body; omega) (fun hr => hs0.few (by omega) hs0.szB (by have := hs0.body; omega) a0 rfl rfl rfl (RightB.written hr)) hm htab ha1 hz1 (by omega) (fun hr => hs0.few (by omega) hz1 (by omega) (mkPr a0.ev a0.dv a0.effs a0.dats a1) rfl rfl rfl (RightB.written hr))).mono fun e W' ⟨he, hbelow⟩ => ?_
  subst he
  have harg0 : DataW.Trod enc Tryd.prog W' 0 (fun b => decide (b < W.heap.size)) true 35 (.agg a0.cs) d0 p0 :=
    Below.trod laid_out (by kernel_rfl) (of_decide_eq_true (by kernel_rfl)) h0 hbelow (fun x hx => hlt x (by simp [hx]))
  have harg1 : DataW.Trod enc Tryd.prog W' 0 (fun b => decide (b < W.heap.size)) true 33 (.agg a1.cs) d1 p1 :=
    Below.trod laid_out (by kernel_rfl) (of_decide_eq_true (by kernel_rfl)) h1 hbelow (fun x hx => hlt x (by simp [hx]))
  exact ⟨_, rfl, _, _, _, [], _, [], hW', trodAll_mk1 (shut_bool (by kernel_rfl) _), trodAll_mk2 harg0 harg1, rfl, hbelow.frame _, fun h => by cases h⟩

theorem printHead_reads (os : Os) {H : Type} (enc : TypeId × Value → H) : ∃ places, DataW.whole enc Tryd.prog ((laidWorld os).forCall (fun _ _ => 0) ⟨#[], #[.agg #[.slice none 0 0, .slice none 0 0, .int .i64 0, .int .i64 0, .string ⟨#[]⟩, .string ⟨#[]⟩, .int .i64 0, .slice none 0 0, .slice none 0 0, .int .i64 0, .string ⟨#[]⟩, .int .i64 0, .slice none 0 0, .slice none 0 0, .int .i64 0, .slice none 0 0, .int .i64 0, .int .i64 0, .string ⟨#[]⟩, .int .i64 0, .slice none 0 0, .slice none 0 0, .int .i64 0], .agg #[.int .i64 0, .int .i64 0, .string ⟨#[]⟩, .string ⟨#[]⟩, .int .i64 0, .slice none 0 0, .slice none 0 0, .int .i64 0, .string ⟨#[]⟩, .int .i64 0, .slice none 0 0, .slice none 0 0, .int .i64 0, .slice none 0 0, .int .i64 0, .int .i64 0, .string ⟨#[]⟩, .int .i64 0, .slice none 0 0, .slice none 0 0, .int .i64 0]], []⟩).memory Tryd.f4.params.toList Rows.printHeadSpec.vars false (#[.agg #[.slice none 0 0, .slice none 0 0, .int .i64 0, .int .i64 0, .string ⟨#[]⟩, .string ⟨#[]⟩, .int .i64 0, .slice none 0 0, .slice none 0 0, .int .i64 0, .string ⟨#[]⟩, .int .i64 0, .slice none 0 0, .slice none 0 0, .int .i64 0, .slice none 0 0, .int .i64 0, .int .i64 0, .string ⟨#[]⟩, .int .i64 0, .slice none 0 0, .slice none 0 0, .int .i64 0], .agg #[.int .i64 0, .int .i64 0, .string ⟨#[]⟩, .string ⟨#[]⟩, .int .i64 0, .slice none 0 0, .slice none 0 0, .int .i64 0, .string ⟨#[]⟩, .int .i64 0, .slice none 0 0, .slice none 0 0, .int .i64 0, .slice none 0 0, .int .i64 0, .int .i64 0, .string ⟨#[]⟩, .int .i64 0, .slice none 0 0, .slice none 0 0, .int .i64 0]] : Array Value).toList 8 = some ([zeroD, zeroTmD], [], places) :=
  ⟨[], by kernel_rfl⟩
set_option maxRecDepth 100000 in
theorem printHead_lifted (os : Os) (started : os.Started) (H : Type) (enc : TypeId × Value → H) (F : Stop.Interp) :
    ReturnsInHanded {} Tryd.checked os 4 .any ((Rows.OpenSpec.upto Rows.printHeadSpec).preRow enc Tryd.prog Tryd.f4 Rows.printHeadUptoRow.domain false Rows.printHeadUptoRow.laid) (((Rows.OpenSpec.upto Rows.printHeadSpec).at F).post enc Tryd.prog Tryd.f4 false true false false) := by
  obtain ⟨places, hx⟩ := printHead_reads os enc
  refine returnsInHanded_of_row (C := Tryd.checked) (s := Rows.OpenSpec.upto Rows.printHeadSpec) own_knob started (by kernel_rfl) Tryd.func4
    (witness_row_at (enc := enc) (C := Tryd.checked) false (laidWorld os) #[.agg #[.slice none 0 0, .slice none 0 0, .int .i64 0, .int .i64 0, .string ⟨#[]⟩, .string ⟨#[]⟩, .int .i64 0, .slice none 0 0, .slice none 0 0, .int .i64 0, .string ⟨#[]⟩, .int .i64 0, .slice none 0 0, .slice none 0 0, .int .i64 0, .slice none 0 0, .int .i64 0, .int .i64 0, .string ⟨#[]⟩, .int .i64 0, .slice none 0 0, .slice none 0 0, .int .i64 0], .agg #[.int .i64 0, .int .i64 0, .string ⟨#[]⟩, .string ⟨#[]⟩, .int .i64 0, .slice none 0 0, .slice none 0 0, .int .i64 0, .string ⟨#[]⟩, .int .i64 0, .slice none 0 0, .slice none 0 0, .int .i64 0, .slice none 0 0, .int .i64 0, .int .i64 0, .string ⟨#[]⟩, .int .i64 0, .slice none 0 0, .slice none 0 0, .int .i64 0]] rfl (by kernel_rfl) (by kernel_rfl) (by kernel_rfl)
      (OpenSpec.preRow_of_cond 8 hx (by kernel_rfl) (fun k hk => by cases hk; kernel_rfl) (by kernel_rfl) (laid_met os _))) ?_
  intro W base args ds gs before hval hW _ hcond _ hL hsh _
  exact printHead_contract H enc W base args ds gs before hval hW (hcond _ rfl) (table hL) hsh

theorem printHead_said : Rows.PrintHeadUptoSaid :=
  OpenClaim.holds_of_cond 4 Tryd.f4 rfl rfl rfl rfl rfl rfl rfl ⟨rfl, rfl, rfl, rfl, rfl⟩ rfl rfl rfl rfl rfl (by kernel_rfl) Tryd.func4 (by kernel_rfl)
    (of_decide_eq_true (by kernel_rfl)) (by unfold Func.isWrapper; rw [if_neg (by decide +kernel)]; exact ⟨rfl, rfl⟩)
    (fun os started H enc _ F => by rw [OpenClaim.pre_eq_preRow]; exact printHead_lifted os started H enc F)
theorem printHead_plain (f : FuncId) (fn : Func) (hf : Tryd.pinned.checked.prog.funcNamed "brocade/brocadelaw03.PrintHead" = some f) (hfn : Tryd.pinned.checked.prog.funcs[f]? = some fn) :
    false = Tryd.pinned.checked.prog.looks [] ∧ ∀ (j : Nat) t, fn.params[j]? = some t → Tryd.pinned.checked.prog.wantsStandIn t = false := by
  obtain rfl : f = 4 := Option.some.inj ((show Tryd.prog.funcNamed "brocade/brocadelaw03.PrintHead" = some 4 by kernel_rfl).symm.trans hf) |>.symm
  obtain rfl : fn = Tryd.f4 := (Option.some.inj (Tryd.func4.symm.trans hfn)).symm
  refine ⟨by kernel_rfl, fun j t ht => ?_⟩
  rw [Tryd.params4] at ht
  have hmem := Array.mem_of_getElem? ht
  have hor : t = 35 ∨ t = 33 := by simpa using hmem
  rcases hor with rfl | rfl
  · exact (show Tryd.prog.wantsStandIn 35 = false by kernel_rfl)
  · exact (show Tryd.prog.wantsStandIn 33 = false by kernel_rfl)
/-- The card. -/
theorem printHead_holds : Rows.PrintHeadUptoCardSaid :=
  Claim7.holds_tied_plain_at .later [] _ _ _ _ printHead_said (fun _ h => by cases h) (by kernel_rfl) (fun _ h => by cases h) printHeadUpto_row_tie rfl ⟨rfl, rfl⟩ (by kernel_rfl) rfl printHead_plain (by kernel_rfl)
end Go.Proofs.YtkclecfbjfdfkaaDoor
