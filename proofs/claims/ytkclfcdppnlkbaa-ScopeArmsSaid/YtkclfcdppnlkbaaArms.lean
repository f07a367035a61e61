/-
  ScopeArms: whatever the input, the law returns true, and the input reads as it did. No condition.
-/
import Derived.Test.YtkclfcdppnlkbaaW14
import Derived.Test.YtkclfcdppnlkbaaR2
import Derived.Carry
namespace Go.Proofs.Ytkclfcdppnlkbaa
open Go.ChangeShapes Go.WideShapes Go.ChangeAt Go.RowKit

theorem own_knob : ownKnob Try.prog.godebug = none := by kernel_rfl
theorem laid_out : laidOutB Try.prog = true := by kernel_rfl
theorem e68 : elemB Try.prog 68 = some 3 := by kernel_rfl

theorem ints_arg {H : Type} {enc : TypeId × Value → H} {w : World} {a : Option Addr} {m c : Nat} {d : DataW H} {ps : List MemPlace} (h : DataW.Trod enc Try.prog w 0 (fun _ => true) true 68 (.slice a m c) d ps) : ∃ l : List Int, IntsAt w (.slice a m c) l := by
  obtain ⟨n, h⟩ := h
  obtain ⟨v, l, h1, h2, _⟩ := Rd.rows (f := fun n : Int => #[Value.int .i64 n]) (Ok := fun _ => True) e68 c3 (by omega) (⟨_, h⟩ : Rd enc Try.prog w n 68 _) fun m hm row hr hd => by
    obtain ⟨x, hx⟩ := Rd.int k3 hd
    exact ⟨x, by rw [hx], trivial⟩
  have : v = .slice a m c := by simpa [Value.cells] using h1.symm
  rw [this] at h2
  exact ⟨l, h2⟩

set_option maxRecDepth 100000 in
theorem scopeArms_lifted (os : Os) (started : os.Started) (H : Type) (enc : TypeId × Value → H) :
    ReturnsInHanded {} Try.checked os 9 .any (Rows.scopeArmsSpec.pre6 enc Try.prog Try.f9 Rows.scopeArmsRow.domain false) (Rows.scopeArmsSpec.post enc Try.prog Try.f9 false true false false) := by
  refine returnsInHanded_of_change (C := Try.checked) own_knob started (by kernel_rfl) Try.func9
    (ChangeSpec.witness6 (enc := enc) (C := Try.checked) false ⟨#[], #[.slice none 0 0, .int .i64 0, .int .i64 0], []⟩ 8 (by kernel_rfl) (by kernel_rfl) (by kernel_rfl) (by kernel_rfl)) ?_
  intro W base args ds gs before hval0 hW hcnd _
  have hval : ∀ (j : Nat) t v, Try.f9.params[j]? = some t → args[j]? = some v → Value.okWide Try.prog W .any base t v := hval0
  have hW' := hW
  obtain ⟨p, q, hA0, hV, rfl, hfz, hnd⟩ := hW
  have hA : DataW.TrodAll enc Try.prog W 0 (fun _ => true) true Try.f9.params.toList args.toList ds p := hA0
  rw [Try.params9] at hA hval
  obtain ⟨v0, v1, v2, d0, d1, d2, p0, p1, p2, rfl, rfl, rfl, h0, h1, h2⟩ := trodAll_three hA
  obtain ⟨rfl, rfl⟩ := trodVars_none hV
  obtain ⟨a, m, c, rfl⟩ := okWide_slice (show Try.prog.underlying 68 = some (.slice 3) from underlying_elem e68) (hval 0 68 v0 rfl rfl)
  obtain ⟨l, hl⟩ := ints_arg h0
  obtain ⟨i, rfl⟩ := okWide_int (show Try.prog.underlying 3 = some (.int .i64) by kernel_rfl) (hval 1 3 v1 rfl rfl)
  obtain ⟨k, rfl⟩ := okWide_int (show Try.prog.underlying 3 = some (.int .i64) by kernel_rfl) (hval 2 3 v2 rfl rfl)
  clear hA0 hval0
  simp only [List.append_nil] at hW'
  have hlt : ∀ x ∈ p0 ++ p1 ++ p2, x.block < W.heap.size := fun x hx => by simpa using hW'.lt x hx
  refine (scopeArms_any (.slice a m c) l i k W hl).mono fun e W' ⟨he, hbelow⟩ => ?_
  subst he
  have harg0 : DataW.Trod enc Try.prog W' 0 (fun b => decide (b < W.heap.size)) true 68 (.slice a m c) d0 p0 :=
    Below.trod laid_out (by kernel_rfl) (of_decide_eq_true (by kernel_rfl)) h0 hbelow (fun x hx => hlt x (by simp [hx]))
  have harg1 : DataW.Trod enc Try.prog W' 0 (fun b => decide (b < W.heap.size)) true 3 (.int .i64 i) d1 p1 :=
    Below.trod laid_out (by kernel_rfl) (of_decide_eq_true (by kernel_rfl)) h1 hbelow (fun x hx => hlt x (by simp [hx]))
  have harg2 : DataW.Trod enc Try.prog W' 0 (fun b => decide (b < W.heap.size)) true 3 (.int .i64 k) d2 p2 :=
    Below.trod laid_out (by kernel_rfl) (of_decide_eq_true (by kernel_rfl)) h2 hbelow (fun x hx => hlt x (by simp [hx]))
  exact ⟨_, rfl, _, _, _, [], _, [], hW', trodAll_mk1 (shut_bool (by kernel_rfl) _), (by have q := trodAll_mk3 harg0 harg1 harg2; rw [← List.append_assoc] at q; exact q), rfl, hbelow.frame _, fun h => by cases h⟩

theorem scopeArms_holds : Rows.ScopeArmsSaid :=
  OpenClaim.holds_of_wide 9 Try.f9 rfl rfl rfl rfl rfl rfl rfl ⟨rfl, rfl, rfl, rfl, rfl⟩ rfl rfl rfl rfl rfl (by kernel_rfl) Try.func9 (by kernel_rfl)
    (of_decide_eq_true (by kernel_rfl)) (by unfold Func.isWrapper; rw [if_neg (by decide +kernel)]; exact ⟨rfl, rfl⟩)
    (fun os started H enc _ => scopeArms_lifted os started H enc)
end Go.Proofs.Ytkclfcdppnlkbaa
