/-
  ParseWords: whatever the input, the law returns true, and the input reads as it did. No condition.
-/
import Derived.Test.YtkjmjnddanhapaaU24
import Derived.Test.YtkjmjnddanhapaaN12
import Derived.Carry
import Derived.HandedShaped
namespace Go.Proofs.Ytkjmjnddanhapaa
open Go.ChangeShapes Go.WideShapes Go.ChangeAt Go.RowKit

theorem own_knob : ownKnob Try.prog.godebug = none := by kernel_rfl
theorem laid_out : laidOutB Try.prog = true := by kernel_rfl

set_option maxRecDepth 100000 in
theorem parseWords_lifted (os : Os) (started : os.Started) (H : Type) (enc : TypeId × Value → H) :
    ReturnsInHanded {} Try.checked os 11 .any (Rows.parseWordsSpec.pre6 enc Try.prog Try.f11 Rows.parseWordsRow.domain false) (Rows.parseWordsSpec.post enc Try.prog Try.f11 false true false false) := by
  refine returnsInHanded_of_change_shaped (C := Try.checked) own_knob started (by kernel_rfl) Try.func11
    (ChangeSpec.witness6 (enc := enc) (C := Try.checked) false ⟨#[], #[.slice none 0 0], []⟩ 8 (by kernel_rfl) (by kernel_rfl) (by kernel_rfl) (by kernel_rfl)) ?_
  intro W base args ds gs before hval0 hW hcnd _ hsh _
  obtain ⟨m, hm⟩ := max_cell hsh
  have hval : ∀ (j : Nat) t v, Try.f11.params[j]? = some t → args[j]? = some v → Value.okWide Try.prog W .any base t v := hval0
  have hW' := hW
  obtain ⟨p, q, hA0, hV, rfl, hfz, hnd⟩ := hW
  have hA : DataW.TrodAll enc Try.prog W 0 (fun _ => true) true Try.f11.params.toList args.toList ds p := hA0
  rw [Try.params11] at hA hval
  obtain ⟨v0, d0, rfl, rfl, h0⟩ := trodAll_one hA
  obtain ⟨rfl, rfl⟩ := trodVars_none hV
  obtain ⟨s0, n0, c0, rfl⟩ := okWide_slice (show Try.prog.underlying 22 = some (.slice 5) by kernel_rfl) (hval 0 22 v0 rfl rfl)
  obtain ⟨l0, hl0⟩ := bytes_arg h0
  clear hA0 hval0
  simp only [List.append_nil] at hW'
  have hlt : ∀ x ∈ p, x.block < W.heap.size := fun x hx => by simpa using hW'.lt x hx
  refine (words_any (.slice s0 n0 c0) l0 m W hl0 hm).mono fun e W' ⟨he, hbelow⟩ => ?_
  subst he
  have harg0 : DataW.Trod enc Try.prog W' 0 (fun b => decide (b < W.heap.size)) true 22 (.slice s0 n0 c0) d0 p :=
    Below.trod laid_out (by kernel_rfl) (of_decide_eq_true (by kernel_rfl)) h0 hbelow (fun x hx => hlt x (by simp [hx]))
  exact ⟨_, rfl, _, _, _, [], _, [], hW', trodAll_mk1 (shut_bool (by kernel_rfl) _), trodAll_mk1 harg0, rfl, hbelow.frame _, fun h => by cases h⟩

theorem parseWords_holds : Rows.ParseWordsSaid :=
  OpenClaim.holds_of_wide 11 Try.f11 rfl rfl rfl rfl rfl rfl rfl ⟨rfl, rfl, rfl, rfl, rfl⟩ rfl rfl rfl rfl rfl (by kernel_rfl) Try.func11 (by kernel_rfl)
    (of_decide_eq_true (by kernel_rfl)) (by unfold Func.isWrapper; rw [if_neg (by decide +kernel)]; exact ⟨rfl, rfl⟩)
    (fun os started H enc _ => parseWords_lifted os started H enc)
end Go.Proofs.Ytkjmjnddanhapaa
