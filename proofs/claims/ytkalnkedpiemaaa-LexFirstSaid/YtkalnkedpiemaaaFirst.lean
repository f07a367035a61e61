/-
  LexFirst: whatever the input, the law returns true, and the input reads as it did. No condition.
-/
import Derived.Test.YtkalnkedpiemaaaV9
import Derived.Test.YtkalnkedpiemaaaL11
import Derived.Carry
import Derived.HandedShaped
namespace Go.Proofs.Ytkalnkedpiemaaa
open Go.ChangeShapes Go.WideShapes Go.ChangeAt Go.RowKit

theorem own_knob : ownKnob Try.prog.godebug = none := by kernel_rfl
theorem laid_out : laidOutB Try.prog = true := by kernel_rfl

set_option maxRecDepth 100000 in
theorem lexFirst_lifted (os : Os) (started : os.Started) (H : Type) (enc : TypeId × Value → H) :
    ReturnsInHanded {} Try.checked os 5 .any (Rows.lexFirstSpec.pre6 enc Try.prog Try.f5 Rows.lexFirstRow.domain false) (Rows.lexFirstSpec.post enc Try.prog Try.f5 false true false false) := by
  refine returnsInHanded_of_change_shaped (C := Try.checked) own_knob started (by kernel_rfl) Try.func5
    (ChangeSpec.witness6 (enc := enc) (C := Try.checked) false ⟨#[], #[.slice none 0 0, .int .u8 0, .slice none 0 0], []⟩ 8 (by kernel_rfl) (by kernel_rfl) (by kernel_rfl) (by kernel_rfl)) ?_
  intro W base args ds gs before hval0 hW hcnd _ hsh _
  obtain ⟨m, hm⟩ := max_cell hsh
  have hval : ∀ (j : Nat) t v, Try.f5.params[j]? = some t → args[j]? = some v → Value.okWide Try.prog W .any base t v := hval0
  have hW' := hW
  obtain ⟨p, q, hA0, hV, rfl, hfz, hnd⟩ := hW
  have hA : DataW.TrodAll enc Try.prog W 0 (fun _ => true) true Try.f5.params.toList args.toList ds p := hA0
  rw [Try.params5] at hA hval
  obtain ⟨v0, v1, v2, d0, d1, d2, p0, p1, p2, rfl, rfl, rfl, h0, h1, h2⟩ := trodAll_three hA
  obtain ⟨rfl, rfl⟩ := trodVars_none hV
  obtain ⟨s0, n0, c0, rfl⟩ := okWide_slice (show Try.prog.underlying 22 = some (.slice 5) by kernel_rfl) (hval 0 22 v0 rfl rfl)
  obtain ⟨l0, hl0⟩ := bytes_arg h0
  obtain ⟨b1, rfl⟩ := okWide_int (show Try.prog.underlying 5 = some (.int .u8) by kernel_rfl) (hval 1 5 v1 rfl rfl)
  obtain ⟨a1, rfl⟩ := u8_arg h1
  obtain ⟨s2, n2, c2, rfl⟩ := okWide_slice (show Try.prog.underlying 22 = some (.slice 5) by kernel_rfl) (hval 2 22 v2 rfl rfl)
  obtain ⟨l2, hl2⟩ := bytes_arg h2
  clear hA0 hval0
  simp only [List.append_nil] at hW'
  have hlt : ∀ x ∈ p0 ++ p1 ++ p2, x.block < W.heap.size := fun x hx => by simpa using hW'.lt x hx
  refine (lexFirst_any (.slice s0 n0 c0) l0 a1 (.slice s2 n2 c2) l2 m W hl0 hl2 hm).mono fun e W' ⟨he, hbelow⟩ => ?_
  subst he
  have harg0 : DataW.Trod enc Try.prog W' 0 (fun b => decide (b < W.heap.size)) true 22 (.slice s0 n0 c0) d0 p0 :=
    Below.trod laid_out (by kernel_rfl) (of_decide_eq_true (by kernel_rfl)) h0 hbelow (fun x hx => hlt x (by simp [hx]))
  have harg1 : DataW.Trod enc Try.prog W' 0 (fun b => decide (b < W.heap.size)) true 5 (.int .u8 (a1.toNat : Int)) d1 p1 :=
    Below.trod laid_out (by kernel_rfl) (of_decide_eq_true (by kernel_rfl)) h1 hbelow (fun x hx => hlt x (by simp [hx]))
  have harg2 : DataW.Trod enc Try.prog W' 0 (fun b => decide (b < W.heap.size)) true 22 (.slice s2 n2 c2) d2 p2 :=
    Below.trod laid_out (by kernel_rfl) (of_decide_eq_true (by kernel_rfl)) h2 hbelow (fun x hx => hlt x (by simp [hx]))
  exact ⟨_, rfl, _, _, _, [], _, [], hW', trodAll_mk1 (shut_bool (by kernel_rfl) _), (by have q := trodAll_mk3 harg0 harg1 harg2; rw [← List.append_assoc] at q; exact q), rfl, hbelow.frame _, fun h => by cases h⟩

theorem lexFirst_holds : Rows.LexFirstSaid :=
  OpenClaim.holds_of_wide 5 Try.f5 rfl rfl rfl rfl rfl rfl rfl ⟨rfl, rfl, rfl, rfl, rfl⟩ rfl rfl rfl rfl rfl (by kernel_rfl) Try.func5 (by kernel_rfl)
    (of_decide_eq_true (by kernel_rfl)) (by unfold Func.isWrapper; rw [if_neg (by decide +kernel)]; exact ⟨rfl, rfl⟩)
    (fun os started H enc _ => lexFirst_lifted os started H enc)
end Go.Proofs.Ytkalnkedpiemaaa
