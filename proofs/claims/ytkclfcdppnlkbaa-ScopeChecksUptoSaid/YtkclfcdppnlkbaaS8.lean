/-
  The reference's answers, step by step, are the plain ones. Plain definitions and lemmas; no condition.
-/
import Derived.Test.YtkclfcdppnlkbaaS6
import Derived.Test.YtkclfcdppnlkbaaK9
set_option linter.unusedSimpArgs false
namespace Go.Proofs.Ytkclfcdppnlkbaa
open Go.RowKit

theorem map_snoc {α β : Type} {l : List α} {k : Nat} {u : α} (f : α → β) (hu : l[k]? = some u) : (l.take (k + 1)).map f = (l.take k).map f ++ [f u] := by
  have := take_snoc f [] hu; simpa using this
section
variable {dats : List Dat} {t : Ty}
theorem first_bare (h : ((((!decide (t.var = 0)) || decide (0 < (t.args : Int))) || decide (0 < (t.labels : Int))) || (!decide (t.rvar = 0))) = true) : knownT dats t = false := by
  unfold knownT kb
  have : (((decide (t.var = 0) && decide ((t.args : Int) = 0)) && decide ((t.labels : Int) = 0)) && decide (t.rvar = 0)) = false := by
    simp only [Bool.or_eq_true, Bool.not_eq_true', decide_eq_false_iff_not, decide_eq_true_eq] at h
    simp only [Bool.and_eq_false_iff, decide_eq_false_iff_not]
    omega
  rw [this]; rfl
theorem bare_of (h : ((((!decide (t.var = 0)) || decide (0 < (t.args : Int))) || decide (0 < (t.labels : Int))) || (!decide (t.rvar = 0))) = false) : (((decide (t.var = 0) && decide ((t.args : Int) = 0)) && decide ((t.labels : Int) = 0)) && decide (t.rvar = 0)) = true := by
  simp only [Bool.or_eq_false_iff, Bool.not_eq_false', decide_eq_false_iff_not, decide_eq_true_eq] at h
  simp only [Bool.and_eq_true, decide_eq_true_eq]
  omega
theorem first_kind (h : ((((!decide (t.var = 0)) || decide (0 < (t.args : Int))) || decide (0 < (t.labels : Int))) || (!decide (t.rvar = 0))) = false) (hk : ((decide (t.k = 1) || decide (t.k = 2)) || decide (t.k = 3)) = true) :
    knownT dats t = decide (t.nm = (⟨#[]⟩ : ByteArray)) := by
  unfold knownT kb
  rw [bare_of h, hk]
  have : ¬ t.k = 4 := by simp only [Bool.or_eq_true, decide_eq_true_eq] at hk; omega
  simp [this]
theorem first_data (h : ((((!decide (t.var = 0)) || decide (0 < (t.args : Int))) || decide (0 < (t.labels : Int))) || (!decide (t.rvar = 0))) = false) (hk : ((decide (t.k = 1) || decide (t.k = 2)) || decide (t.k = 3)) = false) :
    knownT dats t = dats.any (fun d => decide (t.k = 4) && decide (d.nm = t.nm)) := by
  unfold knownT kb
  rw [bare_of h, hk]
  by_cases h4 : t.k = 4
  · simp only [h4, decide_true, Bool.true_and, Bool.and_false, Bool.false_eq_true, if_false, if_true]; rfl
  · simp [h4]
end
section
variable {p : Pr}
theorem declR_lim (h : (decide (65534 < (p.effs.length : Int))) = true) : declR p = 6 := by unfold declR; rw [h]; rfl
theorem declR_effs (h : (decide (65534 < (p.effs.length : Int))) = false) (he : effsB p.dats [con_] [] p.effs = false) : declR p = 4 := by unfold declR; rw [h, he]; rfl
theorem declR_dats (h : (decide (65534 < (p.effs.length : Int))) = false) (he : effsB p.dats [con_] [] p.effs = true) (hd : datsB p.dats [con_] [] p.dats = false) : declR p = 4 := by unfold declR; rw [h, he, hd]; rfl
theorem declR_ok (h : (decide (65534 < (p.effs.length : Int))) = false) (he : effsB p.dats [con_] [] p.effs = true) (hd : datsB p.dats [con_] [] p.dats = true) : declR p = 0 := by unfold declR; rw [h, he, hd]; rfl
end
theorem any_step {α : Type} {f : α → Bool} {l : List α} {k : Nat} (h : l.length ≤ k) (hn : ∀ i x, i < k → l[i]? = some x → f x = false) : l.any f = false := by
  rw [List.any_eq_false]
  intro x hx
  obtain ⟨i, hi⟩ := List.mem_iff_getElem?.1 hx
  rw [hn i x (by have := lt_of_some hi; omega) hi]; decide
theorem any_hit {α : Type} {f : α → Bool} {l : List α} {k : Nat} {x : α} (hx : l[k]? = some x) (h : f x = true) : l.any f = true := List.any_eq_true.2 ⟨x, List.mem_of_getElem? hx, h⟩
theorem atE_none {r : Option Int} (h : okE r = true) : r = none := by cases r with | none => rfl | some a => cases h
theorem atE_some {r s : Option Int} (h : okE r = false) : orO r s = r := by cases r with | none => cases h | some a => rfl
end Go.Proofs.Ytkclfcdppnlkbaa
