/-
  What is left behind reading is shorter. Plain lemmas; no condition beyond those that stand in each statement.
-/
import Derived.Test.YtkjmjnddanhapaaN1
namespace Go.Proofs.Ytkjmjnddanhapaa
open Go.RowKit

theorem PR.Sh.mono {α : Type} {m n : Nat} {r : PR α} (h : r.Sh m) (hm : m ≤ n) : r.Sh n := by
  cases r with
  | ok x ts => have h : ts.length < m := h; show ts.length < n; omega
  | bad a c => trivial
theorem PR.Le.mono {α : Type} {m n : Nat} {r : PR α} (h : r.Le m) (hm : m ≤ n) : r.Le n := by
  cases r with
  | ok x ts => have h : ts.length ≤ m := h; show ts.length ≤ n; omega
  | bad a c => trivial
theorem PR.Le.sh {α : Type} {m n : Nat} {r : PR α} (h : r.Le m) (hm : m < n) : r.Sh n := by
  cases r with
  | ok x ts => have h : ts.length ≤ m := h; show ts.length < n; omega
  | bad a c => trivial
theorem typ_sh (e : Int) (ts : List Tk) : (typP e ts).Sh ts.length := by
  unfold typP
  cases h : isK e ts tyWords with
  | true => obtain ⟨u, r, rfl⟩ := is_some h; exact tail_lt rfl
  | false => exact (word_sh e 3 (by decide) ts).bind fun x ts h => h
theorem names_le (e : Int) : ∀ (n : Nat) (l : List ByteArray) (ts : List Tk), (namesP e n l ts).Le ts.length := by
  intro n
  induction n with
  | zero => intro l ts; exact Nat.le_refl _
  | succ n ih => intro l ts; rw [namesP]; exact (word_sh e 2 (by decide) ts).le.bind fun x us h => (ih _ us).mono h
theorem listL_sh {σ : Type} {e : Int} {bt en : ByteArray} {one : σ → List Tk → PR σ} (ho : ∀ s ts, (one s ts).Sh ts.length) : ∀ (f : Nat) (first : Bool) (s : σ) (ts : List Tk), (listL e bt en one f first s ts).Sh ts.length := by
  intro f
  induction f with
  | zero => intro first s ts; trivial
  | succ f ih =>
    intro first s ts
    rw [listL]
    cases h : isK e ts [en] with
    | true => exact (text_sh e en [] ts).bind fun x us h => h
    | false =>
      refine PR.Le.bindSh (n := ts.length) ?_ fun x us h => ((ho s us).bindLe fun y vs _ => (ih _ y vs).le).mono h
      cases first with
      | true => exact Nat.le_refl _
      | false => exact (text_sh e bt [] ts).le
theorem list_sh {σ : Type} {e : Int} {op bt en : ByteArray} {one : σ → List Tk → PR σ} (ho : ∀ s ts, (one s ts).Sh ts.length) (s : σ) (ts : List Tk) : (listP e op bt en one s ts).Sh ts.length := by
  unfold listP
  exact (text_sh e op [] ts).bindLe fun x us _ => (listL_sh ho _ _ _ us).le
theorem op_sh (e : Int) (l : List SOp) (ts : List Tk) : (opP e l ts).Sh ts.length := by
  unfold opP
  exact (word_sh e 2 (by decide) ts).bindLe fun x us _ => (text_sh e _ [] us).le.bind fun y vs h => ((typ_sh e vs).le.mono h).bind fun z xs h => ((text_sh e _ [] xs).le.mono h).bind fun z ys h => ((typ_sh e ys).le.mono h).bind fun z zs h => h
theorem eff_sh (e : Int) (ts : List Tk) : (effP e ts).Sh ts.length := by
  unfold effP
  exact (text_sh e _ [] ts).bindLe fun x us _ => (word_sh e 3 (by decide) us).le.bind fun y vs h => ((list_sh (op_sh e) [] vs).le.mono h).bind fun z xs h => h
theorem fields_le (e : Int) : ∀ (f : Nat) (l : List STy) (ts : List Tk), (fieldsP e f l ts).Le ts.length := by
  intro f
  induction f with
  | zero => intro l ts; trivial
  | succ f ih =>
    intro l ts
    rw [fieldsP]
    cases isK e ts tyWords || kdK e ts [3] with
    | true => exact (typ_sh e ts).le.bind fun x us h => (ih _ us).mono h
    | false => exact Nat.le_refl _
theorem cn_sh (e : Int) (l : List SCn) (ts : List Tk) : (cnP e l ts).Sh ts.length := by
  unfold cnP
  exact (word_sh e 3 (by decide) ts).bindLe fun x us _ => (fields_le e _ [] us).bind fun y vs h => h
theorem dat_sh (e : Int) (ts : List Tk) : (datP e ts).Sh ts.length := by
  unfold datP
  exact (text_sh e _ [] ts).bindLe fun x us _ => (word_sh e 3 (by decide) us).le.bind fun y vs h => ((list_sh (cn_sh e) [] vs).le.mono h).bind fun z xs h => h
section
variable {e : Int} {ex : List Tk → PR ST} (hx : ∀ ts, (ex ts).Sh ts.length)
include hx
theorem body_sh (ts : List Tk) : (bodyP e ex ts).Sh ts.length := by
  unfold bodyP
  exact (text_sh e _ [] ts).bindLe fun x us _ => (hx us).le
omit hx in
theorem vars_le : ∀ (f : Nat) (l : List ByteArray) (ts : List Tk), (varsP e f l ts).Le ts.length := by
  intro f
  induction f with
  | zero => intro l ts; trivial
  | succ f ih =>
    intro l ts
    rw [varsP]
    cases h : kdK e ts [2] with
    | true =>
      obtain ⟨u, r, rfl⟩ := kd_some h (by decide)
      exact (ih _ r).mono (by simp)
    | false => exact Nat.le_refl _
theorem way_sh (ts : List Tk) : (wayP e ex ts).Sh ts.length := by
  unfold wayP
  exact (word_sh e 3 (by decide) ts).bindLe fun x us _ => (vars_le _ [] us).bind fun y vs h => ((body_sh hx vs).le.mono h).bind fun z xs h => h
theorem clause_sh (b : Bool) (ts : List Tk) : (clauseP e ex b ts).Sh ts.length := by
  unfold clauseP
  cases b with
  | true => exact (text_sh e _ [] ts).bindLe fun x us _ => (names_le e 1 [] us).bind fun y vs h => ((body_sh hx vs).le.mono h).bind fun z xs h => h
  | false => exact (word_sh e 2 (by decide) ts).bindLe fun x us _ => (names_le e 2 [] us).bind fun y vs h => ((body_sh hx vs).le.mono h).bind fun z xs h => h
theorem kids_le : ∀ (ss : List ByteArray) (l : List ST) (ts : List Tk), (kidsP e ex ss l ts).Le ts.length := by
  intro ss
  induction ss with
  | nil => intro l ts; exact Nat.le_refl _
  | cons s r ih => intro l ts; rw [kidsP]; exact (text_sh e s [] ts).le.bind fun x us h => ((hx us).le.mono h).bind fun y vs h => (ih _ vs).mono h
theorem kids_sh (s : ByteArray) (r : List ByteArray) (l : List ST) (ts : List Tk) : (kidsP e ex (s :: r) l ts).Sh ts.length := by
  rw [kidsP]; exact (text_sh e s [] ts).bindLe fun x us _ => (hx us).le.bind fun y vs h => (kids_le hx r _ vs).mono h
omit hx in
theorem once_sh {side : List Tk → PR ST} (hs : ∀ ts, (side ts).Sh ts.length) (ss : List ByteArray) (ts : List Tk) : (onceP e side ss ts).Sh ts.length := by
  unfold onceP
  refine (hs ts).bindLe fun x us _ => ?_
  cases h : isK e us ss with
  | true => obtain ⟨u, r, rfl⟩ := is_some h; exact ((hs r).le.mono (by simp)).bind fun y vs h => h
  | false => exact Nat.le_refl _
omit hx in
theorem manyL_le {side : List Tk → PR ST} (hs : ∀ ts, (side ts).Sh ts.length) (ss : List ByteArray) : ∀ (f : Nat) (x : ST) (ts : List Tk), (manyL e side ss f x ts).Le ts.length := by
  intro f
  induction f with
  | zero => intro x ts; trivial
  | succ f ih =>
    intro x ts
    rw [manyL]
    cases h : isK e ts ss with
    | true => obtain ⟨u, r, rfl⟩ := is_some h; exact ((hs r).le.mono (by simp)).bind fun y vs h => (ih _ vs).mono h
    | false => exact Nat.le_refl _
omit hx in
theorem many_sh {side : List Tk → PR ST} (hs : ∀ ts, (side ts).Sh ts.length) (ss : List ByteArray) (ts : List Tk) : (manyP e side ss ts).Sh ts.length := by
  unfold manyP
  exact (hs ts).bindLe fun x us _ => manyL_le hs ss _ x us
theorem one_sh (l : List ST) (ts : List Tk) : (listOne ex l ts).Sh ts.length := by
  unfold listOne
  exact (hx ts).bind fun x us h => h
theorem atom_sh (ts : List Tk) : (atomP e ex ts).Sh ts.length := by
  unfold atomP
  cases h1 : kdK e ts [1] with
  | true => obtain ⟨u, r, rfl⟩ := kd_some h1 (by decide); exact tail_lt rfl
  | false =>
    rw [cond_false]
    cases h2 : isK e ts [trB, faB] with
    | true => obtain ⟨u, r, rfl⟩ := is_some h2; exact tail_lt rfl
    | false =>
      rw [cond_false]
      cases h3 : kdK e ts [2] with
      | true => obtain ⟨u, r, rfl⟩ := kd_some h3 (by decide); exact tail_lt rfl
      | false =>
        rw [cond_false]
        cases h4 : isK e ts [rdB] with
        | true => exact (text_sh e _ _ ts).bind fun y vs h => h
        | false =>
          rw [cond_false]
          cases h5 : kdK e ts [3] with
          | true =>
            obtain ⟨u, r, rfl⟩ := kd_some h5 (by decide)
            rw [cond_true]
            cases isK e (u :: r).tail [oP] with
            | true => exact PR.Le.sh (m := r.length) ((list_sh (one_sh hx) [] r).le.bind fun y vs h => h) (by simp)
            | false => exact tail_lt rfl
          | false =>
            rw [cond_false]
            cases h6 : isK e ts [oP] with
            | true =>
              obtain ⟨u, r, rfl⟩ := is_some h6
              rw [cond_true]
              cases h7 : isK e (u :: r).tail [cP] with
              | true => obtain ⟨v, q, hq⟩ := is_some h7; show (u :: r).tail.tail.length < (u :: r).length; rw [hq]; have := congrArg List.length hq; simp at this ⊢; omega
              | false => exact PR.Le.sh (m := r.length) ((hx r).le.bind fun y vs h => ((text_sh e _ [] vs).le.mono h).bind fun z xs h => h) (by simp)
            | false => trivial
theorem appL_le : ∀ (f : Nat) (x : ST) (ts : List Tk), (appL e ex f x ts).Le ts.length := by
  intro f
  induction f with
  | zero => intro x ts; trivial
  | succ f ih =>
    intro x ts
    rw [appL]
    cases appB e ts with
    | true => exact (atom_sh hx ts).le.bind fun y vs h => (ih _ vs).mono h
    | false => exact Nat.le_refl _
theorem app_sh (ts : List Tk) : (appP e ex ts).Sh ts.length := by
  unfold appP
  exact (atom_sh hx ts).bindLe fun x us _ => appL_le hx _ x us
omit hx in
theorem pre_le : ∀ (f : Nat) (l : List Tk) (ts : List Tk), (preP e f l ts).Le ts.length := by
  intro f
  induction f with
  | zero => intro l ts; trivial
  | succ f ih =>
    intro l ts
    rw [preP]
    cases h : preB' e ts with
    | true =>
      have hs : ∃ u r, ts = u :: r := by
        unfold preB' at h
        rw [Bool.or_eq_true] at h
        rcases h with h | h
        · exact is_some h
        · exact kd_some h (by decide)
      obtain ⟨u, r, rfl⟩ := hs
      exact (ih _ r).mono (by simp)
    | false => exact Nat.le_refl _
theorem unary_sh (ts : List Tk) : (unaryP e ex ts).Sh ts.length := by
  unfold unaryP
  exact (pre_le _ [] ts).bindSh fun x us h => ((app_sh hx us).bind (f := fun y vs => .ok (x.foldr sUn y) vs) fun y vs h => h).mono h
theorem prod_sh (ts : List Tk) : (prodP e ex ts).Sh ts.length := many_sh (unary_sh hx) _ ts
theorem sum_sh (ts : List Tk) : (sumP e ex ts).Sh ts.length := many_sh (prod_sh hx) _ ts
theorem cmp_sh (ts : List Tk) : (cmpP e ex ts).Sh ts.length := once_sh (sum_sh hx) _ ts
theorem assign_sh (ts : List Tk) : (assignP e ex ts).Sh ts.length := once_sh (cmp_sh hx) _ ts
theorem clauses_le : ∀ (f : Nat) (l : List SA) (ts : List Tk), (clausesP e ex f l ts).Le ts.length := by
  intro f
  induction f with
  | zero => intro l ts; trivial
  | succ f ih =>
    intro l ts
    rw [clausesP]
    cases h : isK e ts [smB] with
    | true => obtain ⟨u, r, rfl⟩ := is_some h; exact ((clause_sh hx false r).le.mono (by simp)).bind fun y vs h => (ih _ vs).mono h
    | false => exact Nat.le_refl _
theorem wayOne_sh (l : List SA) (ts : List Tk) : (wayOne e ex l ts).Sh ts.length := by
  unfold wayOne
  exact (way_sh hx ts).bind fun x us h => h
theorem exB_sh (ts : List Tk) : (exB e ex ts).Sh ts.length := by
  unfold exB
  cases h1 : isK e ts [funB] with
  | true => obtain ⟨u, r, rfl⟩ := is_some h1; exact PR.Le.sh (m := r.length) ((names_le e 1 [] r).bind fun y vs h => ((kids_le hx _ [] vs).mono h).bind fun z xs h => h) (by simp)
  | false =>
    rw [cond_false]
    cases h2 : isK e ts [letWB] with
    | true => obtain ⟨u, r, rfl⟩ := is_some h2; exact PR.Le.sh (m := r.length) ((names_le e 1 [] r).bind fun y vs h => ((kids_le hx _ [] vs).mono h).bind fun z xs h => h) (by simp)
    | false =>
      rw [cond_false]
      cases h3 : isK e ts [recB] with
      | true => obtain ⟨u, r, rfl⟩ := is_some h3; exact PR.Le.sh (m := r.length) ((names_le e 2 [] r).bind fun y vs h => ((kids_le hx _ [] vs).mono h).bind fun z xs h => h) (by simp)
      | false =>
        rw [cond_false]
        cases h4 : isK e ts [ifB] with
        | true => exact (kids_sh hx _ _ [] ts).bind fun y vs h => h
        | false =>
          rw [cond_false]
          cases h5 : isK e ts [matB] with
          | true => exact (kids_sh hx _ _ [] ts).bindLe fun y vs _ => (list_sh (wayOne_sh hx) [] vs).le.bind fun z xs h => h
          | false =>
            rw [cond_false]
            cases h6 : isK e ts [hanB] with
            | true =>
              obtain ⟨u, r, rfl⟩ := is_some h6
              exact PR.Le.sh (m := r.length) ((word_sh e 3 (by decide) r).le.bind fun y vs h => ((hx vs).le.mono h).bind fun z xs h => ((text_sh e _ [] xs).le.mono h).bind fun z ys h => ((clause_sh hx true ys).le.mono h).bind fun z zs h => ((clauses_le hx _ _ zs).mono h).bind fun z as' h => ((text_sh e _ [] as').le.mono h).bind fun z bs' h => h) (by simp)
            | false => exact assign_sh hx ts
end
theorem expr_sh (e : Int) : ∀ (n : Nat) (ts : List Tk), (exprP e n ts).Sh ts.length := by
  intro n
  induction n with
  | zero => intro ts; trivial
  | succ n ih => intro ts; rw [exprP]; exact exB_sh ih ts
end Go.Proofs.Ytkjmjnddanhapaa
