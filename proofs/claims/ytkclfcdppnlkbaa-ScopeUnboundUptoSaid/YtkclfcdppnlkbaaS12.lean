/-
  Names in rows: which stand there, how many there are. Plain definitions and lemmas; no condition.
-/
import Derived.Test.YtkclfcdppnlkbaaS11
namespace Go.Proofs.Ytkclfcdppnlkbaa
open Go.RowKit

theorem wtL_snoc : ∀ (l : List Tm) (u : Tm), wtL (l ++ [u]) = wtL l + wtT u := by
  intro l
  induction l with
  | nil => intro u; simp [wtL]
  | cons a l ih => intro u; rw [List.cons_append, wtL, wtL, ih]; omega
theorem wtA_snoc : ∀ (l : List Am) (u : Am), wtA (l ++ [u]) = wtA l + (u.vars.length + wtT u.body) := by
  intro l
  induction l with
  | nil => intro u; cases u; simp [wtA, Am.vars, Am.body]
  | cons a l ih => intro u; cases a; rw [List.cons_append, wtA, wtA, ih]; omega
theorem wtL_take (l : List Tm) (k : Nat) : wtL (l.take k) ≤ wtL l := by
  induction l generalizing k with
  | nil => simp
  | cons a l ih => cases k with | zero => simp [wtL] | succ k => rw [List.take_succ_cons, wtL, wtL]; have := ih k; omega
theorem wtA_take (l : List Am) (k : Nat) : wtA (l.take k) ≤ wtA l := by
  induction l generalizing k with
  | nil => simp
  | cons a l ih => cases a; cases k with | zero => simp [wtA] | succ k => rw [List.take_succ_cons, wtA, wtA]; have := ih k; omega
theorem memB_ins {x u : ByteArray} {l : List ByteArray} {k : Nat} : memB x ((([] ++ l.take k) ++ [u]) ++ l.drop k) = (memB x l || decide (u = x)) := by
  have h : memB x l = (memB x (l.take k) || memB x (l.drop k)) := by rw [← memB_append, List.take_append_drop]
  rw [List.nil_append, memB_append, memB_append, h, memB_cons]
  simp only [memB, List.any_nil, Bool.or_false]
  cases List.any (List.take k l) _ <;> cases List.any (List.drop k l) _ <;> cases decide (u = x) <;> rfl
theorem memB_take {x u : ByteArray} {l : List ByteArray} {k : Nat} (hu : l[k]? = some u) : memB x (l.take (k + 1)) = (memB x (l.take k) || decide (u = x)) := by
  rw [take_succ_snoc hu, memB_append, memB_cons]; simp [memB]
theorem memB_get {x u : ByteArray} {l : List ByteArray} {k : Nat} (hu : l[k]? = some u) : (memB x l || decide (u = x)) = memB x l := by
  by_cases h : u = x
  · have : memB x l = true := memB_iff.2 (h ▸ List.mem_of_getElem? hu)
    rw [this]; rfl
  · simp [h]
end Go.Proofs.Ytkclfcdppnlkbaa
