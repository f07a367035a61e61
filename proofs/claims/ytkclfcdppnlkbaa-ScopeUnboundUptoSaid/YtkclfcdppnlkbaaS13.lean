/-
  What ScopeUnbound hangs on: how many terms there are, and that no name is free just if none is told. Plain definitions and lemmas; no condition.
-/
import Derived.Test.YtkclfcdppnlkbaaS12
namespace Go.Proofs.Ytkclfcdppnlkbaa
open Go.RowKit

mutual
theorem count_le : ∀ t : Tm, (wtT t : Int) ≤ 4611686018427387904 → 1 ≤ countS t ∧ countS t ≤ (wtT t : Int)
  | .mk _ _ _ _ _ _ _ _ kids arms, h => by
    rw [countS]
    rw [wtT] at h ⊢
    have h1 := countL_le kids 1 (by omega) (by omega)
    have h2 := countA_le arms (countL 1 kids) (by omega) (by omega)
    omega
theorem countL_le : ∀ (l : List Tm) (c : Int), 0 ≤ c → c + (wtL l : Int) ≤ 4611686018427387904 → c ≤ countL c l ∧ countL c l ≤ c + (wtL l : Int)
  | [], c, _, _ => by rw [countL]; rw [wtL]; simp
  | t :: r, c, h0, h => by
    rw [countL]
    rw [wtL] at h ⊢
    have h1 := count_le t (by omega)
    rw [wrap_small (x := c + countS t) (by omega) (by omega)]
    have h2 := countL_le r (c + countS t) (by omega) (by omega)
    omega
theorem countA_le : ∀ (l : List Am) (c : Int), 0 ≤ c → c + (wtA l : Int) ≤ 4611686018427387904 → c ≤ countA c l ∧ countA c l ≤ c + (wtA l : Int)
  | [], c, _, _ => by rw [countA]; rw [wtA]; simp
  | .mk _ _ _ vars b :: r, c, h0, h => by
    rw [countA]
    rw [wtA] at h ⊢
    have h1 := count_le b (by omega)
    rw [wrap_small (x := c + countS b) (by omega) (by omega)]
    have h2 := countA_le r (c + countS b) (by omega) (by omega)
    omega
end
theorem tmod_range {a b : Int} (ha : 0 ≤ a) (hb : 0 < b) : 0 ≤ a.tmod b ∧ a.tmod b < b := ⟨Int.tmod_nonneg b ha, Int.tmod_lt_of_pos a hb⟩
theorem free_iff {t : Tm} (h : (wtT t : Int) ≤ 4611686018427387904) : (∀ x, varIn x t = true → ¬ 0 < usesS x t) ↔ ∀ x, freeIn x t = false := by
  constructor
  · intro hh x
    cases hx : freeIn x t with
    | false => rfl
    | true => exact absurd ((uses_free x t h).2.2.2 hx) (hh x (free_var x t hx))
  · intro hh x _ hu
    have := (uses_free x t h).2.2.1 hu
    rw [hh x] at this; cases this
theorem unbound_law {p : Pr} {t : Tm} {ls : List ByteArray} (hok : (checkP p).2 = 0) (hs : shapeT p t = true) (hw : (wtT t : Int) ≤ 4611686018427387904) (hl : ls = [] ↔ ∀ x, varIn x t = true → ¬ 0 < usesS x t) :
    decide (decide ((checkP (p.withBody t)).2 = 0) = decide ((ls.length : Int) = 0)) = true := by
  refine decide_eq_true (decide_eq_decide.2 ?_)
  rw [put_law hok hs, ← free_iff hw, ← hl]
  constructor
  · intro h; rw [h]; rfl
  · intro h; exact List.eq_nil_of_length_eq_zero (by omega)
end Go.Proofs.Ytkclfcdppnlkbaa
