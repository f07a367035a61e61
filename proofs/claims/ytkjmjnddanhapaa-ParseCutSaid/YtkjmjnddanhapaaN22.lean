/-
  Two readings side by side: what is kept by every piece of the reader is kept by the reader. Plain lemmas; no condition beyond those that stand in each statement.
-/
import Derived.Test.YtkjmjnddanhapaaN2
namespace Go.Proofs.Ytkjmjnddanhapaa
open Go.RowKit

mutual
/-- A term, without where it stands. -/
def erT : ST → ST
  | .mk k _ nm pm n kids arms => .mk k 0 nm pm n (erL kids) (erA arms)
def erL : List ST → List ST
  | [] => []
  | t :: r => erT t :: erL r
def erA : List SA → List SA
  | [] => []
  | .mk nm vars body :: r => .mk nm vars (erT body) :: erA r
end
theorem erL_app (l m : List ST) : erL (l ++ m) = erL l ++ erL m := by
  induction l with
  | nil => rfl
  | cons a l ih => rw [List.cons_append, erL, erL, ih]; rfl
theorem erA_app (l m : List SA) : erA (l ++ m) = erA l ++ erA m := by
  induction l with
  | nil => rfl
  | cons a l ih => cases a; rw [List.cons_append, erA, erA, ih]; rfl
def VT (x y : ST) : Prop := erT x = erT y
def VL (x y : List ST) : Prop := erL x = erL y
def VA (x y : List SA) : Prop := erA x = erA y
def VA1 (x y : SA) : Prop := erA [x] = erA [y]
def VU (_ _ : Unit) : Prop := True
def ktT (t : Tk) : Int × List UInt8 := (t.k, t.t)
def VP (x y : List Tk) : Prop := x.map ktT = y.map ktT
theorem VL.snoc {l m : List ST} {x y : ST} (h : VL l m) (k : VT x y) : VL (l ++ [x]) (m ++ [y]) := by
  unfold VL VT at *; rw [erL_app, erL_app, h, erL, erL, k]; rfl
theorem VA.snoc {l m : List SA} {x y : SA} (h : VA l m) (k : VA1 x y) : VA (l ++ [x]) (m ++ [y]) := by
  unfold VA VA1 at *; rw [erA_app, erA_app, h, k]
theorem VA1.mk {nm nm' : ByteArray} {l l' : List ByteArray} {x y : ST} (h1 : nm = nm') (h2 : l = l') (h : VT x y) : VA1 (.mk nm l x) (.mk nm' l' y) := by
  unfold VA1 VT at *; rw [erA, erA, h1, h2, h]; rfl
theorem VT.mk {k k' a a' n n' : Int} {nm nm' pm pm' : ByteArray} {l l' : List ST} {z z' : List SA} (h1 : k = k') (h2 : nm = nm') (h3 : pm = pm') (h4 : n = n') (h5 : VL l l') (h6 : VA z z') : VT (.mk k a nm pm n l z) (.mk k' a' nm' pm' n' l' z') := by
  unfold VT VL VA at *; rw [erT, erT, h1, h2, h3, h4, h5, h6]
theorem VL.nil : VL [] [] := rfl
theorem VA.nil : VA [] [] := rfl
theorem VL.one {x y : ST} (h : VT x y) : VL [x] [y] := VL.nil.snoc h
theorem VL.two {x y u v : ST} (h : VT x y) (k : VT u v) : VL [x, u] [y, v] := (VL.one h).snoc k
theorem PR.bind_cg {α β : Type} {r : PR α} {n : Nat} {f g : α → List Tk → PR β} (h : r.Sh n) (k : ∀ x ts, ts.length < n → f x ts = g x ts) : r.bind f = r.bind g := by
  cases r with
  | ok x ts => exact k x ts h
  | bad a c => rfl
theorem PR.bind_cgL {α β : Type} {r : PR α} {n : Nat} {f g : α → List Tk → PR β} (h : r.Le n) (k : ∀ x ts, ts.length ≤ n → f x ts = g x ts) : r.bind f = r.bind g := by
  cases r with
  | ok x ts => exact k x ts h
  | bad a c => rfl
-- ------------------------------------------------------------------ enough is enough
section
variable {e : Int} {ex : List Tk → PR ST}
theorem listL_fuel {σ : Type} {bt en : ByteArray} {one : σ → List Tk → PR σ} (ho : ∀ s ts, (one s ts).Sh ts.length) : ∀ (f g : Nat) (b : Bool) (s : σ) (ts : List Tk), ts.length < f → ts.length < g → listL e bt en one f b s ts = listL e bt en one g b s ts := by
  intro f
  induction f with
  | zero => intro g b s ts h; omega
  | succ f ih =>
    intro g b s ts h1 h2
    obtain ⟨g, rfl⟩ : ∃ g', g = g' + 1 := ⟨g - 1, by omega⟩
    rw [listL, listL]
    congr 1
    refine PR.bind_cgL (n := ts.length) ?_ fun x us h => PR.bind_cg (ho s us) fun y vs hv => ih g _ y vs (by omega) (by omega)
    cases b with
    | true => exact Nat.le_refl _
    | false => exact (text_sh e bt [] ts).le
theorem fields_fuel : ∀ (f g : Nat) (l : List STy) (ts : List Tk), ts.length < f → ts.length < g → fieldsP e f l ts = fieldsP e g l ts := by
  intro f
  induction f with
  | zero => intro g l ts h; omega
  | succ f ih =>
    intro g l ts h1 h2
    obtain ⟨g, rfl⟩ : ∃ g', g = g' + 1 := ⟨g - 1, by omega⟩
    rw [fieldsP, fieldsP]
    congr 1
    exact PR.bind_cg (typ_sh e ts) fun y vs hv => ih g _ vs (by omega) (by omega)
theorem tl_lt {ts : List Tk} (h : ∃ u r, ts = u :: r) : ts.tail.length < ts.length := by obtain ⟨u, r, rfl⟩ := h; simp
theorem vars_fuel : ∀ (f g : Nat) (l : List ByteArray) (ts : List Tk), ts.length < f → ts.length < g → varsP e f l ts = varsP e g l ts := by
  intro f
  induction f with
  | zero => intro g l ts h; omega
  | succ f ih =>
    intro g l ts h1 h2
    obtain ⟨g, rfl⟩ : ∃ g', g = g' + 1 := ⟨g - 1, by omega⟩
    rw [varsP, varsP]
    cases h : kdK e ts [2] with
    | true => have := tl_lt (kd_some h (by decide)); exact ih g _ _ (by omega) (by omega)
    | false => rfl
theorem many_fuel {side : List Tk → PR ST} (hs : ∀ ts, (side ts).Sh ts.length) (ss : List ByteArray) : ∀ (f g : Nat) (x : ST) (ts : List Tk), ts.length < f → ts.length < g → manyL e side ss f x ts = manyL e side ss g x ts := by
  intro f
  induction f with
  | zero => intro g l ts h; omega
  | succ f ih =>
    intro g l ts h1 h2
    obtain ⟨g, rfl⟩ : ∃ g', g = g' + 1 := ⟨g - 1, by omega⟩
    rw [manyL, manyL]
    cases h : isK e ts ss with
    | true => have := tl_lt (is_some h); exact PR.bind_cg (hs ts.tail) fun y vs hv => ih g _ vs (by omega) (by omega)
    | false => rfl
theorem app_fuel (hx : ∀ ts, (ex ts).Sh ts.length) : ∀ (f g : Nat) (x : ST) (ts : List Tk), ts.length < f → ts.length < g → appL e ex f x ts = appL e ex g x ts := by
  intro f
  induction f with
  | zero => intro g l ts h; omega
  | succ f ih =>
    intro g l ts h1 h2
    obtain ⟨g, rfl⟩ : ∃ g', g = g' + 1 := ⟨g - 1, by omega⟩
    rw [appL, appL]
    congr 1
    exact PR.bind_cg (atom_sh hx ts) fun y vs hv => ih g _ vs (by omega) (by omega)
theorem preB_some {ts : List Tk} (h : preB' e ts = true) : ∃ u r, ts = u :: r := by
  unfold preB' at h
  rw [Bool.or_eq_true] at h
  rcases h with h | h
  · exact is_some h
  · exact kd_some h (by decide)
theorem pre_fuel : ∀ (f g : Nat) (l ts : List Tk), ts.length < f → ts.length < g → preP e f l ts = preP e g l ts := by
  intro f
  induction f with
  | zero => intro g l ts h; omega
  | succ f ih =>
    intro g l ts h1 h2
    obtain ⟨g, rfl⟩ : ∃ g', g = g' + 1 := ⟨g - 1, by omega⟩
    rw [preP, preP]
    cases h : preB' e ts with
    | true => have := tl_lt (preB_some h); exact ih g _ _ (by omega) (by omega)
    | false => rfl
theorem clauses_fuel (hx : ∀ ts, (ex ts).Sh ts.length) : ∀ (f g : Nat) (l : List SA) (ts : List Tk), ts.length < f → ts.length < g → clausesP e ex f l ts = clausesP e ex g l ts := by
  intro f
  induction f with
  | zero => intro g l ts h; omega
  | succ f ih =>
    intro g l ts h1 h2
    obtain ⟨g, rfl⟩ : ∃ g', g = g' + 1 := ⟨g - 1, by omega⟩
    rw [clausesP, clausesP]
    cases h : isK e ts [smB] with
    | true => have := tl_lt (is_some h); exact PR.bind_cg (clause_sh hx false ts.tail) fun y vs hv => ih g _ vs (by omega) (by omega)
    | false => rfl
theorem decl_fuel : ∀ (f g : Nat) (xs : List SEff) (ds : List SDat) (ts : List Tk), ts.length < f → ts.length < g → declP e f xs ds ts = declP e g xs ds ts := by
  intro f
  induction f with
  | zero => intro g xs ds ts h; omega
  | succ f ih =>
    intro g xs ds ts h1 h2
    obtain ⟨g, rfl⟩ : ∃ g', g = g' + 1 := ⟨g - 1, by omega⟩
    rw [declP, declP]
    congr 2
    · exact PR.bind_cg (eff_sh e ts) fun y vs hv => ih g _ _ vs (by omega) (by omega)
    · exact PR.bind_cg (dat_sh e ts) fun y vs hv => ih g _ _ vs (by omega) (by omega)
end
theorem decl_le (e : Int) : ∀ (f : Nat) (xs : List SEff) (ds : List SDat) (ts : List Tk), (declP e f xs ds ts).Le ts.length := by
  intro f
  induction f with
  | zero => intro xs ds ts; trivial
  | succ f ih =>
    intro xs ds ts
    rw [declP]
    cases isK e ts [effW0, datW0] with
    | false => exact Nat.le_refl _
    | true =>
      cases isK e ts [effW0] with
      | true => exact (eff_sh e ts).le.bind fun x us h => (ih _ _ us).mono h
      | false => exact (dat_sh e ts).le.bind fun x us h => (ih _ _ us).mono h
theorem program_end {e : Int} {ts us : List Tk} {p : SPr} (h : programP e ts = .ok p us) : us = [] := by
  unfold programP at h
  cases h1 : declP e (ts.length + 1) [] [] ts with
  | bad a c => rw [h1] at h; cases h
  | ok q vs =>
    rw [h1, PR.bind_ok] at h
    cases h2 : exprP e 201 vs with
    | bad a c => rw [h2] at h; cases h
    | ok b ws =>
      rw [h2, PR.bind_ok] at h
      by_cases hw : ws = []
      · subst hw; injection h with h3 h4; exact h4.symm
      · have : decide (ws = []) = false := by simp [hw]
        rw [this] at h; cases h
-- ------------------------------------------------------------------ what is kept
/-- What two readings, side by side, keep: of sources that are shorter than so much. -/
structure Lg where
  e1 : Int
  e2 : Int
  Rt : Tk → Tk → Prop
  J : Nat → {α : Type} → (α → α → Prop) → (List Tk → PR α) → (List Tk → PR α) → Prop
  rt : ∀ {t u : Tk}, Rt t u → t.k = u.k ∧ t.t = u.t ∧ t.n = u.n
  zero : ∀ {α : Type} {V : α → α → Prop} {P Q : List Tk → PR α}, J 0 V P Q
  congr : ∀ {n : Nat} {α : Type} {V : α → α → Prop} {P P' Q Q' : List Tk → PR α}, J n V P' Q' → (∀ ts, ts.length < n → P ts = P' ts) → (∀ ts, ts.length < n → Q ts = Q' ts) → J n V P Q
  pure : ∀ {n : Nat} {α : Type} {V : α → α → Prop} {x y : α}, V x y → J n V (fun ts => .ok x ts) (fun ts => .ok y ts)
  bind : ∀ {n m : Nat} {α β : Type} {V : α → α → Prop} {W : β → β → Prop} {P Q : List Tk → PR α} {f g : α → List Tk → PR β}, J n V P Q → (∀ ts, ts.length < n → (P ts).Sh m) → (∀ ts, ts.length < n → (Q ts).Sh m) → (∀ x y, V x y → J m W (f x) (g y)) → J n W (fun ts => (P ts).bind f) (fun ts => (Q ts).bind g)
  fail : ∀ {n : Nat} {α : Type} {V : α → α → Prop}, J n V (failP e1) (failP e2)
  take : ∀ {n : Nat} {α : Type} {V : α → α → Prop} {φ : Int → List UInt8 → Bool} {K M : Tk → List Tk → PR α} {G H : List Tk → PR α}, φ 0 [] = false → (φ 5 [41] = false ∨ (G []).Sh 0) → (∀ t u, Rt t u → J n V (K t) (M u)) → J (n + 1) V G H →
    J (n + 1) V (fun ts => bif φ (nx e1 ts).k (nx e1 ts).t then K (nx e1 ts) ts.tail else G ts) (fun ts => bif φ (nx e2 ts).k (nx e2 ts).t then M (nx e2 ts) ts.tail else H ts)
  peek : ∀ {n : Nat} {α : Type} {V : α → α → Prop} {φ : Int → List UInt8 → Bool} {K M G H : List Tk → PR α}, φ 0 [] = false → (φ 5 [41] = false ∨ (G []).Sh 0) → J n V K M → J n V G H →
    J n V (fun ts => bif φ (nx e1 ts).k (nx e1 ts).t then K ts else G ts) (fun ts => bif φ (nx e2 ts).k (nx e2 ts).t then M ts else H ts)
namespace Lg
variable (S : Lg)
theorem bindLe {n : Nat} {α β : Type} {V : α → α → Prop} {W : β → β → Prop} {P Q : List Tk → PR α} {f g : α → List Tk → PR β} (h : S.J n V P Q) (hP : ∀ ts, (P ts).Le ts.length) (hQ : ∀ ts, (Q ts).Le ts.length) (k : ∀ x y, V x y → S.J n W (f x) (g y)) : S.J n W (fun ts => (P ts).bind f) (fun ts => (Q ts).bind g) :=
  S.bind h (fun ts ht => (hP ts).sh ht) (fun ts ht => (hQ ts).sh ht) k
theorem bindSh {n : Nat} {α β : Type} {V : α → α → Prop} {W : β → β → Prop} {P Q : List Tk → PR α} {f g : α → List Tk → PR β} (h : S.J (n + 1) V P Q) (hP : ∀ ts, (P ts).Sh ts.length) (hQ : ∀ ts, (Q ts).Sh ts.length) (k : ∀ x y, V x y → S.J n W (f x) (g y)) : S.J (n + 1) W (fun ts => (P ts).bind f) (fun ts => (Q ts).bind g) :=
  S.bind h (fun ts ht => (hP ts).mono (by omega)) (fun ts ht => (hQ ts).mono (by omega)) k
/-- In any case no longer. -/
theorem bindS {n : Nat} {α β : Type} {V : α → α → Prop} {W : β → β → Prop} {P Q : List Tk → PR α} {f g : α → List Tk → PR β} (h : S.J n V P Q) (hP : ∀ ts, (P ts).Sh ts.length) (hQ : ∀ ts, (Q ts).Sh ts.length) (k : ∀ x y, V x y → S.J n W (f x) (g y)) : S.J n W (fun ts => (P ts).bind f) (fun ts => (Q ts).bind g) :=
  S.bindLe h (fun ts => (hP ts).le) (fun ts => (hQ ts).le) k
theorem takeIs {n : Nat} {α : Type} {V : α → α → Prop} (ss : List ByteArray) (K M : Tk → List Tk → PR α) {G H : List Tk → PR α} (hc : memB (bs [41]) ss = false ∨ (G []).Sh 0) (h : ∀ t u, S.Rt t u → S.J n V (K t) (M u)) (h2 : S.J (n + 1) V G H) :
    S.J (n + 1) V (fun ts => bif isK S.e1 ts ss then K (nx S.e1 ts) ts.tail else G ts) (fun ts => bif isK S.e2 ts ss then M (nx S.e2 ts) ts.tail else H ts) :=
  S.take (φ := fun k t => (decide (k = 4) || decide (k = 5)) && memB (bs t) ss) rfl (hc.imp (fun h => by rw [h]; rfl) id) h h2
theorem takeKd {n : Nat} {α : Type} {V : α → α → Prop} (ks : List Int) (hk : ks.any (fun x => decide (x = 0)) = false) (K M : Tk → List Tk → PR α) {G H : List Tk → PR α} (hc : (ks.any fun x => decide (x = 5)) = false ∨ (G []).Sh 0) (h : ∀ t u, S.Rt t u → S.J n V (K t) (M u)) (h2 : S.J (n + 1) V G H) :
    S.J (n + 1) V (fun ts => bif kdK S.e1 ts ks then K (nx S.e1 ts) ts.tail else G ts) (fun ts => bif kdK S.e2 ts ks then M (nx S.e2 ts) ts.tail else H ts) :=
  S.take (φ := fun k _ => ks.any fun x => decide (x = k)) hk hc h h2
theorem peekIs {n : Nat} {α : Type} {V : α → α → Prop} (ss : List ByteArray) {K M G H : List Tk → PR α} (hc : memB (bs [41]) ss = false ∨ (G []).Sh 0) (h : S.J n V K M) (h2 : S.J n V G H) :
    S.J n V (fun ts => bif isK S.e1 ts ss then K ts else G ts) (fun ts => bif isK S.e2 ts ss then M ts else H ts) :=
  S.peek (φ := fun k t => (decide (k = 4) || decide (k = 5)) && memB (bs t) ss) rfl (hc.imp (fun h => by rw [h]; rfl) id) h h2
theorem word (n : Nat) (k : Int) (hk : [k].any (fun x => decide (x = 0)) = false) : S.J n S.Rt (wordP S.e1 k) (wordP S.e2 k) := by
  cases n with
  | zero => exact S.zero
  | succ n => exact S.takeKd [k] hk (fun t ts => .ok t ts) (fun t ts => .ok t ts) (Or.inr trivial) (fun t u h => S.pure h) S.fail
theorem text : ∀ (ss : List ByteArray) (n : Nat), S.J n VU (textP S.e1 ss) (textP S.e2 ss) := by
  intro ss
  induction ss with
  | nil => intro n; exact S.pure trivial
  | cons s r ih =>
    intro n
    cases n with
    | zero => exact S.zero
    | succ n => exact S.takeIs [s] (fun _ ts => textP S.e1 r ts) (fun _ ts => textP S.e2 r ts) (Or.inr trivial) (fun t u h => ih n) S.fail
theorem names (n : Nat) : ∀ (k : Nat) (l l' : List ByteArray), l = l' → S.J n Eq (namesP S.e1 k l) (namesP S.e2 k l') := by
  intro k
  induction k with
  | zero => intro l l' h; exact S.pure h
  | succ k ih => intro l l' h; exact S.bindS (S.word n 2 rfl) (word_sh _ 2 (by decide)) (word_sh _ 2 (by decide)) fun t u ht => ih _ _ (by rw [h, (S.rt ht).2.1])
theorem typ (n : Nat) : S.J n Eq (typP S.e1) (typP S.e2) := by
  cases n with
  | zero => exact S.zero
  | succ n =>
    refine S.takeIs tyWords (fun t ts => .ok (⟨1 + idxI (fun x : ByteArray => decide (x = bs t.t)) tyWords, E0B⟩ : STy) ts) (fun t ts => .ok (⟨1 + idxI (fun x : ByteArray => decide (x = bs t.t)) tyWords, E0B⟩ : STy) ts) (Or.inl rfl) (fun t u h => S.pure (by rw [(S.rt h).2.1])) ?_
    exact S.bindS (S.word _ 3 rfl) (word_sh _ 3 (by decide)) (word_sh _ 3 (by decide)) fun t u h => S.pure (by rw [(S.rt h).2.1])
theorem listL' {σ : Type} {V : σ → σ → Prop} {bt en : ByteArray} {o1 o2 : σ → List Tk → PR σ} (hJ : ∀ n s s', V s s' → S.J n V (o1 s) (o2 s')) (h1 : ∀ s ts, (o1 s ts).Sh ts.length) (h2 : ∀ s ts, (o2 s ts).Sh ts.length) :
    ∀ (n : Nat) (b : Bool) (s s' : σ), V s s' → S.J n V (listL S.e1 bt en o1 n b s) (listL S.e2 bt en o2 n b s') := by
  intro n
  induction n with
  | zero => intro b s s' h; exact S.zero
  | succ n ih =>
    intro b s s' h
    refine S.peekIs [en] (Or.inr ?_) (S.bindS (S.text [en] _) (text_sh _ _ _) (text_sh _ _ _) fun _ _ _ => S.pure h) ?_
    · exact PR.Le.bindSh (n := 0) (r := bif b then .ok () [] else textP S.e1 [bt] []) (by cases b; exact (text_sh _ bt [] []).le; exact Nat.le_refl _) fun x us hu => ((h1 s us).bindLe fun y vs _ => (listL_sh h1 _ _ y vs).le).mono hu
    refine S.bindLe (P := fun ts => bif b then .ok () ts else textP S.e1 [bt] ts) (Q := fun ts => bif b then .ok () ts else textP S.e2 [bt] ts) (V := VU) ?_ ?_ ?_ fun _ _ _ => S.bindSh (hJ _ s s' h) (h1 s) (h2 s') fun x y hv => ih false x y hv
    · cases b with
      | true => exact S.pure trivial
      | false => exact S.text [bt] _
    · intro ts; cases b with
      | true => exact Nat.le_refl _
      | false => exact (text_sh _ bt [] ts).le
    · intro ts; cases b with
      | true => exact Nat.le_refl _
      | false => exact (text_sh _ bt [] ts).le
theorem list {σ : Type} {V : σ → σ → Prop} {op bt en : ByteArray} {o1 o2 : σ → List Tk → PR σ} (hJ : ∀ n s s', V s s' → S.J n V (o1 s) (o2 s')) (h1 : ∀ s ts, (o1 s ts).Sh ts.length) (h2 : ∀ s ts, (o2 s ts).Sh ts.length) {s s' : σ} (h : V s s') (n : Nat) :
    S.J n V (listP S.e1 op bt en o1 s) (listP S.e2 op bt en o2 s') :=
  S.bindS (S.text [op] n) (text_sh _ _ _) (text_sh _ _ _) fun _ _ _ => S.congr (S.listL' hJ h1 h2 n true s s' h) (fun ts ht => listL_fuel h1 _ _ _ _ _ (by omega) ht) (fun ts ht => listL_fuel h2 _ _ _ _ _ (by omega) ht)
theorem op (n : Nat) (l l' : List SOp) (h : l = l') : S.J n Eq (opP S.e1 l) (opP S.e2 l') := by
  refine S.bindS (S.word n 2 rfl) (word_sh _ 2 (by decide)) (word_sh _ 2 (by decide)) fun t u ht => ?_
  refine S.bindS (S.text [clB] n) (text_sh _ _ _) (text_sh _ _ _) fun _ _ _ => ?_
  refine S.bindS (S.typ n) (typ_sh _) (typ_sh _) fun a a' ha => ?_
  refine S.bindS (S.text [arB] n) (text_sh _ _ _) (text_sh _ _ _) fun _ _ _ => ?_
  exact S.bindS (S.typ n) (typ_sh _) (typ_sh _) fun r r' hr => S.pure (by rw [h, (S.rt ht).2.1, ha, hr])
theorem eff (n : Nat) : S.J n Eq (effP S.e1) (effP S.e2) := by
  refine S.bindS (S.text [effW0] n) (text_sh _ _ _) (text_sh _ _ _) fun _ _ _ => ?_
  refine S.bindS (S.word n 3 rfl) (word_sh _ 3 (by decide)) (word_sh _ 3 (by decide)) fun t u ht => ?_
  exact S.bindS (S.list (fun n s s' h => S.op n s s' h) (op_sh _) (op_sh _) rfl n) (list_sh (op_sh _) _) (list_sh (op_sh _) _) fun l l' hl => S.pure (by rw [(S.rt ht).2.1, hl])
theorem fields' : ∀ (n : Nat) (l l' : List STy), l = l' → S.J n Eq (fieldsP S.e1 n l) (fieldsP S.e2 n l') := by
  intro n
  induction n with
  | zero => intro l l' h; exact S.zero
  | succ n ih =>
    intro l l' h
    exact S.peek (φ := fun k t => ((decide (k = 4) || decide (k = 5)) && memB (bs t) tyWords) || ([3].any fun x : Int => decide (x = k))) rfl (Or.inl rfl) (S.bindSh (S.typ _) (typ_sh _) (typ_sh _) fun a a' ha => ih _ _ (by rw [h, ha])) (S.pure h)
theorem cn (n : Nat) (l l' : List SCn) (h : l = l') : S.J n Eq (cnP S.e1 l) (cnP S.e2 l') := by
  refine S.bindS (S.word n 3 rfl) (word_sh _ 3 (by decide)) (word_sh _ 3 (by decide)) fun t u ht => ?_
  refine S.bindLe (V := Eq) (P := fun ts => fieldsP S.e1 (ts.length + 1) [] ts) (Q := fun ts => fieldsP S.e2 (ts.length + 1) [] ts) (S.congr (S.fields' n [] [] rfl) (fun ts ht => fields_fuel _ _ _ _ (by omega) ht) (fun ts ht => fields_fuel _ _ _ _ (by omega) ht)) (fun ts => fields_le _ _ _ ts) (fun ts => fields_le _ _ _ ts) fun fs fs' hf => S.pure (by rw [h, (S.rt ht).2.1, hf])
theorem dat (n : Nat) : S.J n Eq (datP S.e1) (datP S.e2) := by
  refine S.bindS (S.text [datW0] n) (text_sh _ _ _) (text_sh _ _ _) fun _ _ _ => ?_
  refine S.bindS (S.word n 3 rfl) (word_sh _ 3 (by decide)) (word_sh _ 3 (by decide)) fun t u ht => ?_
  exact S.bindS (S.list (fun n s s' h => S.cn n s s' h) (cn_sh _) (cn_sh _) rfl n) (list_sh (cn_sh _) _) (list_sh (cn_sh _) _) fun l l' hl => S.pure (by rw [(S.rt ht).2.1, hl])
theorem decl' : ∀ (n : Nat) (xs xs' : List SEff) (ds ds' : List SDat), xs = xs' → ds = ds' → S.J n Eq (declP S.e1 n xs ds) (declP S.e2 n xs' ds') := by
  intro n
  induction n with
  | zero => intro _ _ _ _ _ _; exact S.zero
  | succ n ih =>
    intro xs xs' ds ds' h k
    refine S.peekIs [effW0, datW0] (Or.inl rfl) (S.peekIs [effW0] (Or.inl rfl) ?_ ?_) (S.pure (by rw [h, k]))
    · exact S.bindSh (S.eff _) (eff_sh _) (eff_sh _) fun x y hv => ih _ _ _ _ (by rw [h, hv]) k
    · exact S.bindSh (S.dat _) (dat_sh _) (dat_sh _) fun x y hv => ih _ _ _ _ h (by rw [k, hv])
theorem decl (n : Nat) : S.J n Eq (fun ts => declP S.e1 (ts.length + 1) [] [] ts) (fun ts => declP S.e2 (ts.length + 1) [] [] ts) :=
  S.congr (S.decl' n [] [] [] [] rfl rfl) (fun ts ht => decl_fuel _ _ _ _ _ (by omega) ht) (fun ts ht => decl_fuel _ _ _ _ _ (by omega) ht)
-- ------------------------------------------------------------------ terms
section
variable {x1 x2 : List Tk → PR ST} (hx1 : ∀ ts, (x1 ts).Sh ts.length) (hx2 : ∀ ts, (x2 ts).Sh ts.length) (hJ : ∀ n, S.J n VT x1 x2)
include hx1 hx2 hJ
omit hx1 hx2 in
theorem body (n : Nat) : S.J n VT (bodyP S.e1 x1) (bodyP S.e2 x2) :=
  S.bindS (S.text [arB] n) (text_sh _ _ _) (text_sh _ _ _) fun _ _ _ => hJ n
omit hx1 hx2 hJ in
theorem vars' : ∀ (n : Nat) (l l' : List ByteArray), l = l' → S.J n Eq (varsP S.e1 n l) (varsP S.e2 n l') := by
  intro n
  induction n with
  | zero => intro _ _ _; exact S.zero
  | succ n ih =>
    intro l l' h
    exact S.takeKd [2] rfl (fun t ts => varsP S.e1 n (l ++ [bs t.t]) ts) (fun t ts => varsP S.e2 n (l' ++ [bs t.t]) ts) (Or.inl rfl) (fun t u ht => ih _ _ (by rw [h, (S.rt ht).2.1])) (S.pure h)
omit hx1 hx2 hJ in
theorem vars (n : Nat) : S.J n Eq (fun ts => varsP S.e1 (ts.length + 1) [] ts) (fun ts => varsP S.e2 (ts.length + 1) [] ts) :=
  S.congr (S.vars' n [] [] rfl) (fun ts ht => vars_fuel _ _ _ _ (by omega) ht) (fun ts ht => vars_fuel _ _ _ _ (by omega) ht)
theorem way (n : Nat) : S.J n VA1 (wayP S.e1 x1) (wayP S.e2 x2) := by
  refine S.bindS (S.word n 3 rfl) (word_sh _ 3 (by decide)) (word_sh _ 3 (by decide)) fun t u ht => ?_
  refine S.bindLe (S.vars n) (fun ts => vars_le _ _ ts) (fun ts => vars_le _ _ ts) fun vs vs' hv => ?_
  exact S.bindS (S.body hJ n) (body_sh hx1) (body_sh hx2) fun b b' hb => S.pure (VA1.mk (by rw [(S.rt ht).2.1]) hv hb)
theorem clause (b : Bool) (n : Nat) : S.J n VA1 (clauseP S.e1 x1 b) (clauseP S.e2 x2 b) := by
  cases b with
  | true =>
    refine S.bindS (S.text [retB] n) (text_sh _ _ _) (text_sh _ _ _) fun _ _ _ => ?_
    refine S.bindLe (S.names n 1 [] [] rfl) (names_le _ _ _) (names_le _ _ _) fun vs vs' hv => ?_
    exact S.bindS (S.body hJ n) (body_sh hx1) (body_sh hx2) fun b b' hb => S.pure (VA1.mk rfl hv hb)
  | false =>
    refine S.bindS (S.word n 2 rfl) (word_sh _ 2 (by decide)) (word_sh _ 2 (by decide)) fun t u ht => ?_
    refine S.bindLe (S.names n 2 [] [] rfl) (names_le _ _ _) (names_le _ _ _) fun vs vs' hv => ?_
    exact S.bindS (S.body hJ n) (body_sh hx1) (body_sh hx2) fun b b' hb => S.pure (VA1.mk (by rw [(S.rt ht).2.1]) hv hb)
theorem kids (n : Nat) : ∀ (ss : List ByteArray) (l l' : List ST), VL l l' → S.J n VL (kidsP S.e1 x1 ss l) (kidsP S.e2 x2 ss l') := by
  intro ss
  induction ss with
  | nil => intro l l' h; exact S.pure h
  | cons s r ih =>
    intro l l' h
    refine S.bindS (S.text [s] n) (text_sh _ _ _) (text_sh _ _ _) fun _ _ _ => ?_
    exact S.bindS (hJ n) hx1 hx2 fun x y hv => ih _ _ (h.snoc hv)
omit hx1 hx2 hJ in
theorem once {s1 s2 : List Tk → PR ST} (h1 : ∀ ts, (s1 ts).Sh ts.length) (h2 : ∀ ts, (s2 ts).Sh ts.length) (h : ∀ n, S.J n VT s1 s2) (ss : List ByteArray) (hs : memB (bs [41]) ss = false) (n : Nat) : S.J n VT (onceP S.e1 s1 ss) (onceP S.e2 s2 ss) := by
  refine S.bindS (h n) h1 h2 fun x y hv => ?_
  cases n with
  | zero => exact S.zero
  | succ n => exact S.takeIs ss (fun t ts => (s1 ts).bind fun y us => .ok (sTwo (bs t.t) x y) us) (fun t ts => (s2 ts).bind fun z us => .ok (sTwo (bs t.t) y z) us) (Or.inl hs) (fun t u ht => S.bindS (h n) h1 h2 fun a b hw => S.pure (VT.mk rfl (by rw [(S.rt ht).2.1]) rfl rfl (VL.two hv hw) VA.nil)) (S.pure hv)
omit hx1 hx2 hJ in
theorem many' {s1 s2 : List Tk → PR ST} (h1 : ∀ ts, (s1 ts).Sh ts.length) (h2 : ∀ ts, (s2 ts).Sh ts.length) (h : ∀ n, S.J n VT s1 s2) (ss : List ByteArray) (hs : memB (bs [41]) ss = false) : ∀ (n : Nat) (x y : ST), VT x y → S.J n VT (manyL S.e1 s1 ss n x) (manyL S.e2 s2 ss n y) := by
  intro n
  induction n with
  | zero => intro _ _ _; exact S.zero
  | succ n ih =>
    intro x y hv
    exact S.takeIs ss (fun t ts => (s1 ts).bind fun y us => manyL S.e1 s1 ss n (sTwo (bs t.t) x y) us) (fun t ts => (s2 ts).bind fun z us => manyL S.e2 s2 ss n (sTwo (bs t.t) y z) us) (Or.inl hs) (fun t u ht => S.bindS (h n) h1 h2 fun a b hw => ih _ _ (VT.mk rfl (by rw [(S.rt ht).2.1]) rfl rfl (VL.two hv hw) VA.nil)) (S.pure hv)
omit hx1 hx2 hJ in
theorem many {s1 s2 : List Tk → PR ST} (h1 : ∀ ts, (s1 ts).Sh ts.length) (h2 : ∀ ts, (s2 ts).Sh ts.length) (h : ∀ n, S.J n VT s1 s2) (ss : List ByteArray) (hs : memB (bs [41]) ss = false) (n : Nat) : S.J n VT (manyP S.e1 s1 ss) (manyP S.e2 s2 ss) :=
  S.bindS (h n) h1 h2 fun x y hv => S.congr (S.many' h1 h2 h ss hs n x y hv) (fun ts ht => many_fuel h1 ss _ _ _ _ (by omega) ht) (fun ts ht => many_fuel h2 ss _ _ _ _ (by omega) ht)
theorem listOne (n : Nat) (l l' : List ST) (h : VL l l') : S.J n VL (listOne x1 l) (listOne x2 l') :=
  S.bindS (hJ n) hx1 hx2 fun x y hv => S.pure (h.snoc hv)
end
end Lg
end Go.Proofs.Ytkjmjnddanhapaa
