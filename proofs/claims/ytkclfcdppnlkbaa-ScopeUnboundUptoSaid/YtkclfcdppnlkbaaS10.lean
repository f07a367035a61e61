/-
  Names that stand free; what is right just if no name stands free; a term with one of its terms made a variable. Plain definitions and lemmas; no condition.
-/
import Derived.Test.YtkclfcdppnlkbaaS9
import Derived.Test.YtkclfcdppnlkbaaK12
namespace Go.Proofs.Ytkclfcdppnlkbaa
open Go.RowKit

-- ------------------------------------------------------------------ variables
mutual
/-- Does a variable of this name stand in a term? -/
def varIn (x : ByteArray) : Tm → Bool
  | .mk _ k _ nm _ _ _ _ kids arms => if decide (k = 1) then decide (nm = x) else varL x kids || varA x arms
def varL (x : ByteArray) : List Tm → Bool
  | [] => false
  | t :: r => varIn x t || varL x r
def varA (x : ByteArray) : List Am → Bool
  | [] => false
  | .mk _ _ _ _ b :: r => varIn x b || varA x r
end
theorem varIn_eq (x : ByteArray) (t : Tm) : varIn x t = if decide (t.k = 1) then decide (t.nm = x) else varL x t.kids || varA x t.arms := by cases t; rw [varIn]; rfl
theorem varL_snoc (x : ByteArray) : ∀ (l : List Tm) (u : Tm), varL x (l ++ [u]) = (varL x l || varIn x u) := by
  intro l
  induction l with
  | nil => intro u; simp [varL]
  | cons a l ih => intro u; rw [List.cons_append, varL, varL, ih, Bool.or_assoc]
theorem varA_snoc (x : ByteArray) : ∀ (l : List Am) (u : Am), varA x (l ++ [u]) = (varA x l || varIn x u.body) := by
  intro l
  induction l with
  | nil => intro u; cases u; simp [varA]; rfl
  | cons a l ih => intro u; cases a; rw [List.cons_append, varA, varA, ih, Bool.or_assoc]
mutual
/-- At how many places a variable stands free, as the code counts them. -/
def usesS (s : ByteArray) : Tm → Int
  | .mk _ k _ nm pm _ _ _ kids arms => if decide (k = 1) then (if decide (nm = s) then 1 else 0) else usesA s (usesL s k nm pm 0 0 kids) arms
def usesL (s : ByteArray) (k : Int) (nm pm : ByteArray) (c : Int) (i : Nat) : List Tm → Int
  | [] => c
  | t :: r => usesL s k nm pm (if decide (s = us_) || !memB s (boundB k nm pm i) then IntKind.i64.wrap (c + usesS s t) else c) (i + 1) r
def usesA (s : ByteArray) (c : Int) : List Am → Int
  | [] => c
  | .mk _ _ _ vars b :: r => usesA s (if decide (s = us_) || !memB s vars then IntKind.i64.wrap (c + usesS s b) else c) r
end
theorem usesS_eq (s : ByteArray) (t : Tm) : usesS s t = if decide (t.k = 1) then (if decide (t.nm = s) then 1 else 0) else usesA s (usesL s t.k t.nm t.pm 0 0 t.kids) t.arms := by cases t; rw [usesS]; rfl
theorem usesL_step {s : ByteArray} {k : Int} {nm pm : ByteArray} {c : Int} {l : List Tm} {i : Nat} {u : Tm} (hu : l[i]? = some u) :
    usesL s k nm pm c i (l.drop i) = usesL s k nm pm (if decide (s = us_) || !memB s (boundB k nm pm i) then IntKind.i64.wrap (c + usesS s u) else c) (i + 1) (l.drop (i + 1)) := by
  rw [drop_cons hu, usesL]
theorem usesA_step {s : ByteArray} {c : Int} {l : List Am} {i : Nat} {u : Am} (hu : l[i]? = some u) :
    usesA s c (l.drop i) = usesA s (if decide (s = us_) || !memB s u.vars then IntKind.i64.wrap (c + usesS s u.body) else c) (l.drop (i + 1)) := by
  rw [drop_cons hu]; cases u; rw [usesA]; rfl
mutual
/-- Does a variable stand free in a term? -/
def freeIn (x : ByteArray) : Tm → Bool
  | .mk _ k _ nm pm _ _ _ kids arms => if decide (k = 1) then decide (nm = x) else freeL x k nm pm 0 kids || freeA x arms
def freeL (x : ByteArray) (k : Int) (nm pm : ByteArray) (i : Nat) : List Tm → Bool
  | [] => false
  | t :: r => ((decide (x = us_) || !memB x (boundB k nm pm i)) && freeIn x t) || freeL x k nm pm (i + 1) r
def freeA (x : ByteArray) : List Am → Bool
  | [] => false
  | .mk _ _ _ vars b :: r => ((decide (x = us_) || !memB x vars) && freeIn x b) || freeA x r
end
mutual
theorem free_var (x : ByteArray) : ∀ t : Tm, freeIn x t = true → varIn x t = true
  | .mk _ k _ nm pm _ _ _ kids arms, h => by
    rw [freeIn] at h
    rw [varIn]
    by_cases h1 : k = 1
    · simpa [h1] using h
    · simp only [h1, decide_false, Bool.false_eq_true, if_false, Bool.or_eq_true] at h ⊢
      exact h.imp (free_varL x kids k nm pm 0) (free_varA x arms)
theorem free_varL (x : ByteArray) : ∀ (l : List Tm) (k : Int) (nm pm : ByteArray) (i : Nat), freeL x k nm pm i l = true → varL x l = true
  | [], _, _, _, _, h => by rw [freeL] at h; cases h
  | t :: r, k, nm, pm, i, h => by
    rw [freeL] at h
    rw [varL]
    simp only [Bool.or_eq_true, Bool.and_eq_true] at h ⊢
    exact h.imp (fun h => free_var x t h.2) (free_varL x r k nm pm (i + 1))
theorem free_varA (x : ByteArray) : ∀ (l : List Am), freeA x l = true → varA x l = true
  | [], h => by rw [freeA] at h; cases h
  | .mk _ _ _ vars b :: r, h => by
    rw [freeA] at h
    rw [varA]
    simp only [Bool.or_eq_true, Bool.and_eq_true] at h ⊢
    exact h.imp (fun h => free_var x b h.2) (free_varA x r)
end
mutual
theorem uses_free (s : ByteArray) : ∀ t : Tm, (wtT t : Int) ≤ 4611686018427387904 → 0 ≤ usesS s t ∧ usesS s t ≤ (wtT t : Int) ∧ (0 < usesS s t ↔ freeIn s t = true)
  | .mk _ k _ nm pm _ _ _ kids arms, h => by
    rw [usesS, freeIn]
    rw [wtT] at h ⊢
    by_cases h1 : k = 1
    · simp only [h1, decide_true, if_true]
      by_cases h2 : nm = s
      · simp only [h2, decide_true, if_true]
        refine ⟨by omega, by omega, ?_⟩; simp
      · simp only [h2, decide_false, Bool.false_eq_true, if_false]
        refine ⟨by omega, by omega, ?_⟩; simp
    · simp only [h1, decide_false, Bool.false_eq_true, if_false, Bool.or_eq_true]
      have q1 := uses_freeL s kids k nm pm 0 0 (by omega) (by omega)
      have q2 := uses_freeA s arms (usesL s k nm pm 0 0 kids) (by omega) (by omega)
      refine ⟨by omega, by omega, ?_⟩
      rw [← q1.2.2, ← q2.2.2]; omega
theorem uses_freeL (s : ByteArray) : ∀ (l : List Tm) (k : Int) (nm pm : ByteArray) (c : Int) (i : Nat), 0 ≤ c → c + (wtL l : Int) ≤ 4611686018427387904 → c ≤ usesL s k nm pm c i l ∧ usesL s k nm pm c i l ≤ c + (wtL l : Int) ∧ (c < usesL s k nm pm c i l ↔ freeL s k nm pm i l = true)
  | [], k, nm, pm, c, i, h0, h => by
    rw [usesL, freeL]; rw [wtL]; simp
  | t :: r, k, nm, pm, c, i, h0, h => by
    rw [usesL, freeL]
    rw [wtL] at h ⊢
    have q := uses_free s t (by omega)
    cases hb : (decide (s = us_) || !memB s (boundB k nm pm i)) with
    | false =>
      simp only [Bool.false_eq_true, if_false, Bool.false_and, Bool.false_or]
      have q2 := uses_freeL s r k nm pm c (i + 1) h0 (by omega)
      exact ⟨q2.1, by omega, q2.2.2⟩
    | true =>
      simp only [if_true, Bool.true_and, Bool.or_eq_true]
      rw [wrap_small (x := c + usesS s t) (by omega) (by omega)]
      have q2 := uses_freeL s r k nm pm (c + usesS s t) (i + 1) (by omega) (by omega)
      refine ⟨by omega, by omega, ?_⟩
      rw [← q.2.2, ← q2.2.2]; omega
theorem uses_freeA (s : ByteArray) : ∀ (l : List Am) (c : Int), 0 ≤ c → c + (wtA l : Int) ≤ 4611686018427387904 → c ≤ usesA s c l ∧ usesA s c l ≤ c + (wtA l : Int) ∧ (c < usesA s c l ↔ freeA s l = true)
  | [], c, h0, h => by
    rw [usesA, freeA]; rw [wtA]; simp
  | .mk _ _ _ vars b :: r, c, h0, h => by
    rw [usesA, freeA]
    rw [wtA] at h ⊢
    have q := uses_free s b (by omega)
    cases hb : (decide (s = us_) || !memB s vars) with
    | false =>
      simp only [Bool.false_eq_true, if_false, Bool.false_and, Bool.false_or]
      have q2 := uses_freeA s r c h0 (by omega)
      exact ⟨q2.1, by omega, q2.2.2⟩
    | true =>
      simp only [if_true, Bool.true_and, Bool.or_eq_true]
      rw [wrap_small (x := c + usesS s b) (by omega) (by omega)]
      have q2 := uses_freeA s r (c + usesS s b) (by omega) (by omega)
      refine ⟨by omega, by omega, ?_⟩
      rw [← q.2.2, ← q2.2.2]; omega
end

-- ------------------------------------------------------------------ right, but for the names that are bound
def one0 (p : Pr) (t : Tm) : Bool := if decide (t.k = 1) then decide ((t.kids.length : Int) = 0) && !decide (0 < (t.arms.length : Int)) else oneB p t []
theorem one0_var {p : Pr} {t : Tm} {b : List ByteArray} (h : t.k = 1) : oneB p t b = (one0 p t && (!decide (t.nm = us_) && memB t.nm b)) := by
  unfold oneB one0
  simp only [h, decide_true, if_true, Int.reduceEq, decide_false, Bool.false_eq_true, if_false, Bool.and_assoc]
  rfl
theorem one0_other {p : Pr} {t : Tm} {b : List ByteArray} (h : ¬ t.k = 1) : oneB p t b = one0 p t := by
  unfold one0
  rw [if_neg (by simpa using h)]
  unfold oneB; simp [h]
mutual
def shapeT (p : Pr) : Tm → Bool
  | .mk cs k at_ nm pm n kv av kids arms => one0 p (.mk cs k at_ nm pm n kv av kids arms) && shapeL p kids && shapeA p arms
def shapeL (p : Pr) : List Tm → Bool
  | [] => true
  | t :: r => shapeT p t && shapeL p r
def shapeA (p : Pr) : List Am → Bool
  | [] => true
  | .mk _ _ _ _ b :: r => shapeT p b && shapeA p r
end
theorem shapeT_eq (p : Pr) (t : Tm) : shapeT p t = (one0 p t && shapeL p t.kids && shapeA p t.arms) := by cases t; rw [shapeT]; rfl
theorem orO_none_iff {a b : Option Int} : orO a b = none ↔ a = none ∧ b = none := by cases a <;> simp [orO]
/-- All free names are bound there, and none of them is _. -/
def AllIn (f : ByteArray → Bool) (b : List ByteArray) : Prop := ∀ x, f x = true → x ≠ us_ ∧ memB x b = true
theorem AllIn.inside {f : ByteArray → Bool} {b bd : List ByteArray} : AllIn f (b ++ bd) ↔ AllIn (fun x => (decide (x = us_) || !memB x bd) && f x) b := by
  constructor
  · intro h x hx
    simp only [Bool.and_eq_true, Bool.or_eq_true, decide_eq_true_eq, Bool.not_eq_true'] at hx
    have h1 := h x hx.2
    refine ⟨h1.1, ?_⟩
    have h2 := h1.2
    rw [memB_append, Bool.or_eq_true] at h2
    rcases h2 with h2 | h2
    · exact h2
    · rcases hx.1 with h3 | h3
      · exact absurd h3 h1.1
      · rw [h3] at h2; cases h2
  · intro h x hx
    by_cases hu : x = us_
    · have := h x (by simp only [hu, decide_true, Bool.true_or, Bool.true_and]; rw [← hu]; exact hx)
      exact absurd hu this.1
    · refine ⟨hu, ?_⟩
      rw [memB_append, Bool.or_eq_true]
      cases hb : memB x bd with
      | true => exact .inr rfl
      | false => exact .inl (h x (by simp only [hb, Bool.not_false, Bool.or_true, Bool.true_and]; exact hx)).2
theorem AllIn.or {f g : ByteArray → Bool} {b : List ByteArray} : AllIn (fun x => f x || g x) b ↔ AllIn f b ∧ AllIn g b := by
  constructor
  · intro h
    exact ⟨fun x hx => h x (by simp only [hx, Bool.true_or]), fun x hx => h x (by simp only [hx, Bool.or_true])⟩
  · intro h x hx
    simp only [Bool.or_eq_true] at hx
    exact hx.elim (h.1 x) (h.2 x)
mutual
theorem termS_free (p : Pr) : ∀ (t : Tm) (b : List ByteArray), termS p b t = none ↔ shapeT p t = true ∧ AllIn (fun x => freeIn x t) b
  | .mk cs k at_ nm pm n kv av kids arms, b => by
    by_cases h1 : k = 1
    · rw [termS, shapeT]
      rw [one0_var (t := .mk cs k at_ nm pm n kv av kids arms) h1]
      cases h0 : one0 p (.mk cs k at_ nm pm n kv av kids arms) with
      | false => simp
      | true =>
        have hk : kids = [] ∧ arms = [] := by
          simpa [one0, Tm.k, h1, Tm.kids, Tm.arms] using h0
        obtain ⟨rfl, rfl⟩ := hk
        have hf : ∀ x, freeIn x (.mk cs k at_ nm pm n kv av [] []) = decide (nm = x) := fun x => by rw [freeIn]; simp [h1]
        simp only [Tm.nm, Bool.true_and, shapeL, shapeA, kidsS, armsS, orO, true_and]
        have hA : AllIn (fun x => freeIn x (.mk cs k at_ nm pm n kv av [] [])) b ↔ (nm ≠ us_ ∧ memB nm b = true) := by
          constructor
          · intro h; exact h nm (by show freeIn nm _ = true; rw [hf]; simp)
          · intro h x hx; have hx' : freeIn x _ = true := hx; rw [hf] at hx'; rw [← of_decide_eq_true hx']; exact h
        rw [hA]
        by_cases h2 : nm = us_ <;> cases h3 : memB nm b <;> simp [h2]
    · rw [termS, shapeT, one0_other (t := .mk cs k at_ nm pm n kv av kids arms) h1]
      cases h0 : one0 p (.mk cs k at_ nm pm n kv av kids arms) with
      | false => simp
      | true =>
        have hone : oneB p (.mk cs k at_ nm pm n kv av kids arms) b = true := by rw [one0_other (t := .mk cs k at_ nm pm n kv av kids arms) h1]; exact h0
        have hins : ∀ i, i < kids.length → insideB k nm pm i b = b ++ boundB k nm pm i := fun i hi => (bound_inside hone hi).symm
        rw [if_pos rfl, orO_none_iff, kidsS_free p kids k nm pm b 0 (fun j _ hj => hins j (by omega)), armsS_free p arms b]
        have hf : (fun x => freeIn x (.mk cs k at_ nm pm n kv av kids arms)) = fun x => freeL x k nm pm 0 kids || freeA x arms := by
          funext x; rw [freeIn]; simp [h1]
        rw [hf, AllIn.or]
        simp only [Bool.true_and, Bool.and_eq_true]
        constructor
        · rintro ⟨⟨a, b⟩, c, d⟩; exact ⟨⟨a, c⟩, b, d⟩
        · rintro ⟨⟨a, c⟩, b, d⟩; exact ⟨⟨a, b⟩, c, d⟩
theorem kidsS_free (p : Pr) : ∀ (l : List Tm) (k : Int) (nm pm : ByteArray) (b : List ByteArray) (i : Nat), (∀ j, i ≤ j → j < i + l.length → insideB k nm pm j b = b ++ boundB k nm pm j) → (kidsS p k nm pm b i l = none ↔ shapeL p l = true ∧ AllIn (fun x => freeL x k nm pm i l) b)
  | [], k, nm, pm, b, i, _ => by
    rw [kidsS, shapeL]
    exact ⟨fun _ => ⟨rfl, fun x hx => by have hx' : freeL x k nm pm i [] = true := hx; rw [freeL] at hx'; cases hx'⟩, fun _ => rfl⟩
  | t :: r, k, nm, pm, b, i, hi => by
    rw [kidsS, shapeL, orO_none_iff, hi i (Nat.le_refl _) (by simp), termS_free p t, kidsS_free p r k nm pm b (i + 1) (fun j h1 h2 => hi j (by omega) (by simp only [List.length_cons]; omega)), AllIn.inside]
    have hf : (fun x => freeL x k nm pm i (t :: r)) = fun x => ((decide (x = us_) || !memB x (boundB k nm pm i)) && freeIn x t) || freeL x k nm pm (i + 1) r := by funext x; rw [freeL]
    rw [hf, AllIn.or]
    simp only [Bool.and_eq_true]
    constructor
    · rintro ⟨⟨a, b⟩, c, d⟩; exact ⟨⟨a, c⟩, b, d⟩
    · rintro ⟨⟨a, c⟩, b, d⟩; exact ⟨⟨a, b⟩, c, d⟩
theorem armsS_free (p : Pr) : ∀ (l : List Am) (b : List ByteArray), armsS p b l = none ↔ shapeA p l = true ∧ AllIn (fun x => freeA x l) b
  | [], b => by
    rw [armsS, shapeA]
    exact ⟨fun _ => ⟨rfl, fun x hx => by have hx' : freeA x [] = true := hx; rw [freeA] at hx'; cases hx'⟩, fun _ => rfl⟩
  | .mk cs nm vv vars body :: r, b => by
    rw [armsS, shapeA, orO_none_iff, termS_free p body, armsS_free p r b, AllIn.inside]
    have hf : (fun x => freeA x (.mk cs nm vv vars body :: r)) = fun x => ((decide (x = us_) || !memB x vars) && freeIn x body) || freeA x r := by funext x; rw [freeA]
    rw [hf, AllIn.or]
    simp only [Bool.and_eq_true]
    constructor
    · rintro ⟨⟨a, b⟩, c, d⟩; exact ⟨⟨a, c⟩, b, d⟩
    · rintro ⟨⟨a, c⟩, b, d⟩; exact ⟨⟨a, b⟩, c, d⟩
end
/-- What is right has no free names; what is right but for its names is right just if it has none. -/
theorem right_free {p : Pr} (h : (checkP p).2 = 0) : (∀ x, freeIn x p.body = false) ∧ shapeT p p.body = true := by
  have h1 := (termS_free p p.body []).1 (checkP_ok.1 h).2
  refine ⟨fun x => ?_, h1.1⟩
  cases hx : freeIn x p.body with
  | false => rfl
  | true => have := (h1.2 x hx).2; simp [memB] at this
theorem put_law {p : Pr} {t : Tm} (h : (checkP p).2 = 0) (hs : shapeT p t = true) : (checkP (p.withBody t)).2 = 0 ↔ ∀ x, freeIn x t = false := by
  rw [checkP_body h]
  have h1 := termS_free p t []
  have h2 : AllIn (fun x => freeIn x t) [] ↔ ∀ x, freeIn x t = false := by
    constructor
    · intro h x
      cases hx : freeIn x t with
      | false => rfl
      | true => have := (h x hx).2; simp [memB] at this
    · intro h x hx; have hx' : freeIn x t = true := hx; rw [h x] at hx'; cases hx'
  rw [← h2]
  constructor
  · intro h3
    exact (h1.1 (erE_none h3)).2
  · intro h3
    have := h1.2 ⟨hs, h3⟩
    show erE (termS p [] t) = 0
    rw [this]; rfl
end Go.Proofs.Ytkclfcdppnlkbaa
