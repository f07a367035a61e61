/-
  Two readings side by side: what is kept by every piece of the reader is kept by the reader; the same words elsewhere; terms that are the same but for where they stand. Plain lemmas; no condition beyond those that stand in each statement.
-/
import Derived.Test.YtkjmjnddanhapaaN10
namespace Go.Proofs.Ytkjmjnddanhapaa
open Go.RowKit

mutual
/-- A term, without where it stands. -/
def erT : ST → ST
  | .mk k _ nm pm n kids arms => .mk k 0 nm pm n (erL kids) (erA arms)
def erL : List ST → List ST
  | [] => []
  | t :: r => erT t :: erL r
def erA : List SA → List SA
  | [] => []
  | .mk nm vars body :: r => .mk nm vars (erT body) :: erA r
end
theorem erL_app (l m : List ST) : erL (l ++ m) = erL l ++ erL m := by
  induction l with
  | nil => rfl
  | cons a l ih => rw [List.cons_append, erL, erL, ih]; rfl
theorem erA_app (l m : List SA) : erA (l ++ m) = erA l ++ erA m := by
  induction l with
  | nil => rfl
  | cons a l ih => cases a; rw [List.cons_append, erA, erA, ih]; rfl
def VT (x y : ST) : Prop := erT x = erT y
def VL (x y : List ST) : Prop := erL x = erL y
def VA (x y : List SA) : Prop := erA x = erA y
def VA1 (x y : SA) : Prop := erA [x] = erA [y]
def VU (_ _ : Unit) : Prop := True
def ktT (t : Tk) : Int × List UInt8 := (t.k, t.t)
def VP (x y : List Tk) : Prop := x.map ktT = y.map ktT
theorem VL.snoc {l m : List ST} {x y : ST} (h : VL l m) (k : VT x y) : VL (l ++ [x]) (m ++ [y]) := by
  unfold VL VT at *; rw [erL_app, erL_app, h, erL, erL, k]; rfl
theorem VA.snoc {l m : List SA} {x y : SA} (h : VA l m) (k : VA1 x y) : VA (l ++ [x]) (m ++ [y]) := by
  unfold VA VA1 at *; rw [erA_app, erA_app, h, k]
theorem VA1.mk {nm nm' : ByteArray} {l l' : List ByteArray} {x y : ST} (h1 : nm = nm') (h2 : l = l') (h : VT x y) : VA1 (.mk nm l x) (.mk nm' l' y) := by
  unfold VA1 VT at *; rw [erA, erA, h1, h2, h]; rfl
theorem VT.mk {k k' a a' n n' : Int} {nm nm' pm pm' : ByteArray} {l l' : List ST} {z z' : List SA} (h1 : k = k') (h2 : nm = nm') (h3 : pm = pm') (h4 : n = n') (h5 : VL l l') (h6 : VA z z') : VT (.mk k a nm pm n l z) (.mk k' a' nm' pm' n' l' z') := by
  unfold VT VL VA at *; rw [erT, erT, h1, h2, h3, h4, h5, h6]
theorem VL.nil : VL [] [] := rfl
theorem VA.nil : VA [] [] := rfl
theorem VL.one {x y : ST} (h : VT x y) : VL [x] [y] := VL.nil.snoc h
theorem VL.two {x y u v : ST} (h : VT x y) (k : VT u v) : VL [x, u] [y, v] := (VL.one h).snoc k
theorem PR.bind_cg {α β : Type} {r : PR α} {n : Nat} {f g : α → List Tk → PR β} (h : r.Sh n) (k : ∀ x ts, ts.length < n → f x ts = g x ts) : r.bind f = r.bind g := by
  cases r with
  | ok x ts => exact k x ts h
  | bad a c => rfl
theorem PR.bind_cgL {α β : Type} {r : PR α} {n : Nat} {f g : α → List Tk → PR β} (h : r.Le n) (k : ∀ x ts, ts.length ≤ n → f x ts = g x ts) : r.bind f = r.bind g := by
  cases r with
  | ok x ts => exact k x ts h
  | bad a c => rfl
-- ------------------------------------------------------------------ enough is enough
section
variable {e : Int} {ex : List Tk → PR ST}
theorem listL_fuel {σ : Type} {bt en : ByteArray} {one : σ → List Tk → PR σ} (ho : ∀ s ts, (one s ts).Sh ts.length) : ∀ (f g : Nat) (b : Bool) (s : σ) (ts : List Tk), ts.length < f → ts.length < g → listL e bt en one f b s ts = listL e bt en one g b s ts := by
  intro f
  induction f with
  | zero => intro g b s ts h; omega
  | succ f ih =>
    intro g b s ts h1 h2
    obtain ⟨g, rfl⟩ : ∃ g', g = g' + 1 := ⟨g - 1, by omega⟩
    rw [listL, listL]
    congr 1
    refine PR.bind_cgL (n := ts.length) ?_ fun x us h => PR.bind_cg (ho s us) fun y vs hv => ih g _ y vs (by omega) (by omega)
    cases b with
    | true => exact Nat.le_refl _
    | false => exact (text_sh e bt [] ts).le
theorem fields_fuel : ∀ (f g : Nat) (l : List STy) (ts : List Tk), ts.length < f → ts.length < g → fieldsP e f l ts = fieldsP e g l ts := by
  intro f
  induction f with
  | zero => intro g l ts h; omega
  | succ f ih =>
    intro g l ts h1 h2
    obtain ⟨g, rfl⟩ : ∃ g', g = g' + 1 := ⟨g - 1, by omega⟩
    rw [fieldsP, fieldsP]
    congr 1
    exact PR.bind_cg (typ_sh e ts) fun y vs hv => ih g _ vs (by omega) (by omega)
theorem tl_lt {ts : List Tk} (h : ∃ u r, ts = u :: r) : ts.tail.length < ts.length := by obtain ⟨u, r, rfl⟩ := h; simp
theorem vars_fuel : ∀ (f g : Nat) (l : List ByteArray) (ts : List Tk), ts.length < f → ts.length < g → varsP e f l ts = varsP e g l ts := by
  intro f
  induction f with
  | zero => intro g l ts h; omega
  | succ f ih =>
    intro g l ts h1 h2
    obtain ⟨g, rfl⟩ : ∃ g', g = g' + 1 := ⟨g - 1, by omega⟩
    rw [varsP, varsP]
    cases h : kdK e ts [2] with
    | true => have := tl_lt (kd_some h (by decide)); exact ih g _ _ (by omega) (by omega)
    | false => rfl
theorem many_fuel {side : List Tk → PR ST} (hs : ∀ ts, (side ts).Sh ts.length) (ss : List ByteArray) : ∀ (f g : Nat) (x : ST) (ts : List Tk), ts.length < f → ts.length < g → manyL e side ss f x ts = manyL e side ss g x ts := by
  intro f
  induction f with
  | zero => intro g l ts h; omega
  | succ f ih =>
    intro g l ts h1 h2
    obtain ⟨g, rfl⟩ : ∃ g', g = g' + 1 := ⟨g - 1, by omega⟩
    rw [manyL, manyL]
    cases h : isK e ts ss with
    | true => have := tl_lt (is_some h); exact PR.bind_cg (hs ts.tail) fun y vs hv => ih g _ vs (by omega) (by omega)
    | false => rfl
theorem app_fuel (hx : ∀ ts, (ex ts).Sh ts.length) : ∀ (f g : Nat) (x : ST) (ts : List Tk), ts.length < f → ts.length < g → appL e ex f x ts = appL e ex g x ts := by
  intro f
  induction f with
  | zero => intro g l ts h; omega
  | succ f ih =>
    intro g l ts h1 h2
    obtain ⟨g, rfl⟩ : ∃ g', g = g' + 1 := ⟨g - 1, by omega⟩
    rw [appL, appL]
    congr 1
    exact PR.bind_cg (atom_sh hx ts) fun y vs hv => ih g _ vs (by omega) (by omega)
theorem preB_some {ts : List Tk} (h : preB' e ts = true) : ∃ u r, ts = u :: r := by
  unfold preB' at h
  rw [Bool.or_eq_true] at h
  rcases h with h | h
  · exact is_some h
  · exact kd_some h (by decide)
theorem pre_fuel : ∀ (f g : Nat) (l ts : List Tk), ts.length < f → ts.length < g → preP e f l ts = preP e g l ts := by
  intro f
  induction f with
  | zero => intro g l ts h; omega
  | succ f ih =>
    intro g l ts h1 h2
    obtain ⟨g, rfl⟩ : ∃ g', g = g' + 1 := ⟨g - 1, by omega⟩
    rw [preP, preP]
    cases h : preB' e ts with
    | true => have := tl_lt (preB_some h); exact ih g _ _ (by omega) (by omega)
    | false => rfl
theorem clauses_fuel (hx : ∀ ts, (ex ts).Sh ts.length) : ∀ (f g : Nat) (l : List SA) (ts : List Tk), ts.length < f → ts.length < g → clausesP e ex f l ts = clausesP e ex g l ts := by
  intro f
  induction f with
  | zero => intro g l ts h; omega
  | succ f ih =>
    intro g l ts h1 h2
    obtain ⟨g, rfl⟩ : ∃ g', g = g' + 1 := ⟨g - 1, by omega⟩
    rw [clausesP, clausesP]
    cases h : isK e ts [smB] with
    | true => have := tl_lt (is_some h); exact PR.bind_cg (clause_sh hx false ts.tail) fun y vs hv => ih g _ vs (by omega) (by omega)
    | false => rfl
theorem decl_fuel : ∀ (f g : Nat) (xs : List SEff) (ds : List SDat) (ts : List Tk), ts.length < f → ts.length < g → declP e f xs ds ts = declP e g xs ds ts := by
  intro f
  induction f with
  | zero => intro g xs ds ts h; omega
  | succ f ih =>
    intro g xs ds ts h1 h2
    obtain ⟨g, rfl⟩ : ∃ g', g = g' + 1 := ⟨g - 1, by omega⟩
    rw [declP, declP]
    congr 2
    · exact PR.bind_cg (eff_sh e ts) fun y vs hv => ih g _ _ vs (by omega) (by omega)
    · exact PR.bind_cg (dat_sh e ts) fun y vs hv => ih g _ _ vs (by omega) (by omega)
end
theorem decl_le (e : Int) : ∀ (f : Nat) (xs : List SEff) (ds : List SDat) (ts : List Tk), (declP e f xs ds ts).Le ts.length := by
  intro f
  induction f with
  | zero => intro xs ds ts; trivial
  | succ f ih =>
    intro xs ds ts
    rw [declP]
    cases isK e ts [effW0, datW0] with
    | false => exact Nat.le_refl _
    | true =>
      cases isK e ts [effW0] with
      | true => exact (eff_sh e ts).le.bind fun x us h => (ih _ _ us).mono h
      | false => exact (dat_sh e ts).le.bind fun x us h => (ih _ _ us).mono h
-- ------------------------------------------------------------------ what is kept
/-- What two readings, side by side, keep: of sources that are shorter than so much. -/
structure Lg where
  e1 : Int
  e2 : Int
  Rt : Tk → Tk → Prop
  J : Nat → {α : Type} → (α → α → Prop) → (List Tk → PR α) → (List Tk → PR α) → Prop
  rt : ∀ {t u : Tk}, Rt t u → t.k = u.k ∧ t.t = u.t ∧ t.n = u.n
  zero : ∀ {α : Type} {V : α → α → Prop} {P Q : List Tk → PR α}, J 0 V P Q
  congr : ∀ {n : Nat} {α : Type} {V : α → α → Prop} {P P' Q Q' : List Tk → PR α}, J n V P' Q' → (∀ ts, ts.length < n → P ts = P' ts) → (∀ ts, ts.length < n → Q ts = Q' ts) → J n V P Q
  pure : ∀ {n : Nat} {α : Type} {V : α → α → Prop} {x y : α}, V x y → J n V (fun ts => .ok x ts) (fun ts => .ok y ts)
  bind : ∀ {n m : Nat} {α β : Type} {V : α → α → Prop} {W : β → β → Prop} {P Q : List Tk → PR α} {f g : α → List Tk → PR β}, J n V P Q → (∀ ts, ts.length < n → (P ts).Sh m) → (∀ ts, ts.length < n → (Q ts).Sh m) → (∀ x y, V x y → J m W (f x) (g y)) → J n W (fun ts => (P ts).bind f) (fun ts => (Q ts).bind g)
  fail : ∀ {n : Nat} {α : Type} {V : α → α → Prop}, J n V (failP e1) (failP e2)
  take : ∀ {n : Nat} {α : Type} {V : α → α → Prop} {φ : Int → List UInt8 → Bool} {K M : Tk → List Tk → PR α} {G H : List Tk → PR α}, φ 0 [] = false → (φ 5 [41] = false ∨ (G []).Sh 0) → (∀ t u, Rt t u → J n V (K t) (M u)) → J (n + 1) V G H →
    J (n + 1) V (fun ts => bif φ (nx e1 ts).k (nx e1 ts).t then K (nx e1 ts) ts.tail else G ts) (fun ts => bif φ (nx e2 ts).k (nx e2 ts).t then M (nx e2 ts) ts.tail else H ts)
  peek : ∀ {n : Nat} {α : Type} {V : α → α → Prop} {φ : Int → List UInt8 → Bool} {K M G H : List Tk → PR α}, φ 0 [] = false → (φ 5 [41] = false ∨ (G []).Sh 0) → J n V K M → J n V G H →
    J n V (fun ts => bif φ (nx e1 ts).k (nx e1 ts).t then K ts else G ts) (fun ts => bif φ (nx e2 ts).k (nx e2 ts).t then M ts else H ts)
namespace Lg
variable (S : Lg)
theorem bindLe {n : Nat} {α β : Type} {V : α → α → Prop} {W : β → β → Prop} {P Q : List Tk → PR α} {f g : α → List Tk → PR β} (h : S.J n V P Q) (hP : ∀ ts, (P ts).Le ts.length) (hQ : ∀ ts, (Q ts).Le ts.length) (k : ∀ x y, V x y → S.J n W (f x) (g y)) : S.J n W (fun ts => (P ts).bind f) (fun ts => (Q ts).bind g) :=
  S.bind h (fun ts ht => (hP ts).sh ht) (fun ts ht => (hQ ts).sh ht) k
theorem bindSh {n : Nat} {α β : Type} {V : α → α → Prop} {W : β → β → Prop} {P Q : List Tk → PR α} {f g : α → List Tk → PR β} (h : S.J (n + 1) V P Q) (hP : ∀ ts, (P ts).Sh ts.length) (hQ : ∀ ts, (Q ts).Sh ts.length) (k : ∀ x y, V x y → S.J n W (f x) (g y)) : S.J (n + 1) W (fun ts => (P ts).bind f) (fun ts => (Q ts).bind g) :=
  S.bind h (fun ts ht => (hP ts).mono (by omega)) (fun ts ht => (hQ ts).mono (by omega)) k
/-- In any case no longer. -/
theorem bindS {n : Nat} {α β : Type} {V : α → α → Prop} {W : β → β → Prop} {P Q : List Tk → PR α} {f g : α → List Tk → PR β} (h : S.J n V P Q) (hP : ∀ ts, (P ts).Sh ts.length) (hQ : ∀ ts, (Q ts).Sh ts.length) (k : ∀ x y, V x y → S.J n W (f x) (g y)) : S.J n W (fun ts => (P ts).bind f) (fun ts => (Q ts).bind g) :=
  S.bindLe h (fun ts => (hP ts).le) (fun ts => (hQ ts).le) k
theorem takeIs {n : Nat} {α : Type} {V : α → α → Prop} (ss : List ByteArray) (K M : Tk → List Tk → PR α) {G H : List Tk → PR α} (hc : memB (bs [41]) ss = false ∨ (G []).Sh 0) (h : ∀ t u, S.Rt t u → S.J n V (K t) (M u)) (h2 : S.J (n + 1) V G H) :
    S.J (n + 1) V (fun ts => bif isK S.e1 ts ss then K (nx S.e1 ts) ts.tail else G ts) (fun ts => bif isK S.e2 ts ss then M (nx S.e2 ts) ts.tail else H ts) :=
  S.take (φ := fun k t => (decide (k = 4) || decide (k = 5)) && memB (bs t) ss) rfl (hc.imp (fun h => by rw [h]; rfl) id) h h2
theorem takeKd {n : Nat} {α : Type} {V : α → α → Prop} (ks : List Int) (hk : ks.any (fun x => decide (x = 0)) = false) (K M : Tk → List Tk → PR α) {G H : List Tk → PR α} (hc : (ks.any fun x => decide (x = 5)) = false ∨ (G []).Sh 0) (h : ∀ t u, S.Rt t u → S.J n V (K t) (M u)) (h2 : S.J (n + 1) V G H) :
    S.J (n + 1) V (fun ts => bif kdK S.e1 ts ks then K (nx S.e1 ts) ts.tail else G ts) (fun ts => bif kdK S.e2 ts ks then M (nx S.e2 ts) ts.tail else H ts) :=
  S.take (φ := fun k _ => ks.any fun x => decide (x = k)) hk hc h h2
theorem peekIs {n : Nat} {α : Type} {V : α → α → Prop} (ss : List ByteArray) {K M G H : List Tk → PR α} (hc : memB (bs [41]) ss = false ∨ (G []).Sh 0) (h : S.J n V K M) (h2 : S.J n V G H) :
    S.J n V (fun ts => bif isK S.e1 ts ss then K ts else G ts) (fun ts => bif isK S.e2 ts ss then M ts else H ts) :=
  S.peek (φ := fun k t => (decide (k = 4) || decide (k = 5)) && memB (bs t) ss) rfl (hc.imp (fun h => by rw [h]; rfl) id) h h2
theorem word (n : Nat) (k : Int) (hk : [k].any (fun x => decide (x = 0)) = false) : S.J n S.Rt (wordP S.e1 k) (wordP S.e2 k) := by
  cases n with
  | zero => exact S.zero
  | succ n => exact S.takeKd [k] hk (fun t ts => .ok t ts) (fun t ts => .ok t ts) (Or.inr trivial) (fun t u h => S.pure h) S.fail
theorem text : ∀ (ss : List ByteArray) (n : Nat), S.J n VU (textP S.e1 ss) (textP S.e2 ss) := by
  intro ss
  induction ss with
  | nil => intro n; exact S.pure trivial
  | cons s r ih =>
    intro n
    cases n with
    | zero => exact S.zero
    | succ n => exact S.takeIs [s] (fun _ ts => textP S.e1 r ts) (fun _ ts => textP S.e2 r ts) (Or.inr trivial) (fun t u h => ih n) S.fail
theorem names (n : Nat) : ∀ (k : Nat) (l l' : List ByteArray), l = l' → S.J n Eq (namesP S.e1 k l) (namesP S.e2 k l') := by
  intro k
  induction k with
  | zero => intro l l' h; exact S.pure h
  | succ k ih => intro l l' h; exact S.bindS (S.word n 2 rfl) (word_sh _ 2 (by decide)) (word_sh _ 2 (by decide)) fun t u ht => ih _ _ (by rw [h, (S.rt ht).2.1])
theorem typ (n : Nat) : S.J n Eq (typP S.e1) (typP S.e2) := by
  cases n with
  | zero => exact S.zero
  | succ n =>
    refine S.takeIs tyWords (fun t ts => .ok (⟨1 + idxI (fun x : ByteArray => decide (x = bs t.t)) tyWords, E0B⟩ : STy) ts) (fun t ts => .ok (⟨1 + idxI (fun x : ByteArray => decide (x = bs t.t)) tyWords, E0B⟩ : STy) ts) (Or.inl rfl) (fun t u h => S.pure (by rw [(S.rt h).2.1])) ?_
    exact S.bindS (S.word _ 3 rfl) (word_sh _ 3 (by decide)) (word_sh _ 3 (by decide)) fun t u h => S.pure (by rw [(S.rt h).2.1])
theorem listL' {σ : Type} {V : σ → σ → Prop} {bt en : ByteArray} {o1 o2 : σ → List Tk → PR σ} (hJ : ∀ n s s', V s s' → S.J n V (o1 s) (o2 s')) (h1 : ∀ s ts, (o1 s ts).Sh ts.length) (h2 : ∀ s ts, (o2 s ts).Sh ts.length) :
    ∀ (n : Nat) (b : Bool) (s s' : σ), V s s' → S.J n V (listL S.e1 bt en o1 n b s) (listL S.e2 bt en o2 n b s') := by
  intro n
  induction n with
  | zero => intro b s s' h; exact S.zero
  | succ n ih =>
    intro b s s' h
    refine S.peekIs [en] (Or.inr ?_) (S.bindS (S.text [en] _) (text_sh _ _ _) (text_sh _ _ _) fun _ _ _ => S.pure h) ?_
    · exact PR.Le.bindSh (n := 0) (r := bif b then .ok () [] else textP S.e1 [bt] []) (by cases b; exact (text_sh _ bt [] []).le; exact Nat.le_refl _) fun x us hu => ((h1 s us).bindLe fun y vs _ => (listL_sh h1 _ _ y vs).le).mono hu
    refine S.bindLe (P := fun ts => bif b then .ok () ts else textP S.e1 [bt] ts) (Q := fun ts => bif b then .ok () ts else textP S.e2 [bt] ts) (V := VU) ?_ ?_ ?_ fun _ _ _ => S.bindSh (hJ _ s s' h) (h1 s) (h2 s') fun x y hv => ih false x y hv
    · cases b with
      | true => exact S.pure trivial
      | false => exact S.text [bt] _
    · intro ts; cases b with
      | true => exact Nat.le_refl _
      | false => exact (text_sh _ bt [] ts).le
    · intro ts; cases b with
      | true => exact Nat.le_refl _
      | false => exact (text_sh _ bt [] ts).le
theorem list {σ : Type} {V : σ → σ → Prop} {op bt en : ByteArray} {o1 o2 : σ → List Tk → PR σ} (hJ : ∀ n s s', V s s' → S.J n V (o1 s) (o2 s')) (h1 : ∀ s ts, (o1 s ts).Sh ts.length) (h2 : ∀ s ts, (o2 s ts).Sh ts.length) {s s' : σ} (h : V s s') (n : Nat) :
    S.J n V (listP S.e1 op bt en o1 s) (listP S.e2 op bt en o2 s') :=
  S.bindS (S.text [op] n) (text_sh _ _ _) (text_sh _ _ _) fun _ _ _ => S.congr (S.listL' hJ h1 h2 n true s s' h) (fun ts ht => listL_fuel h1 _ _ _ _ _ (by omega) ht) (fun ts ht => listL_fuel h2 _ _ _ _ _ (by omega) ht)
theorem op (n : Nat) (l l' : List SOp) (h : l = l') : S.J n Eq (opP S.e1 l) (opP S.e2 l') := by
  refine S.bindS (S.word n 2 rfl) (word_sh _ 2 (by decide)) (word_sh _ 2 (by decide)) fun t u ht => ?_
  refine S.bindS (S.text [clB] n) (text_sh _ _ _) (text_sh _ _ _) fun _ _ _ => ?_
  refine S.bindS (S.typ n) (typ_sh _) (typ_sh _) fun a a' ha => ?_
  refine S.bindS (S.text [arB] n) (text_sh _ _ _) (text_sh _ _ _) fun _ _ _ => ?_
  exact S.bindS (S.typ n) (typ_sh _) (typ_sh _) fun r r' hr => S.pure (by rw [h, (S.rt ht).2.1, ha, hr])
theorem eff (n : Nat) : S.J n Eq (effP S.e1) (effP S.e2) := by
  refine S.bindS (S.text [effW0] n) (text_sh _ _ _) (text_sh _ _ _) fun _ _ _ => ?_
  refine S.bindS (S.word n 3 rfl) (word_sh _ 3 (by decide)) (word_sh _ 3 (by decide)) fun t u ht => ?_
  exact S.bindS (S.list (fun n s s' h => S.op n s s' h) (op_sh _) (op_sh _) rfl n) (list_sh (op_sh _) _) (list_sh (op_sh _) _) fun l l' hl => S.pure (by rw [(S.rt ht).2.1, hl])
theorem fields' : ∀ (n : Nat) (l l' : List STy), l = l' → S.J n Eq (fieldsP S.e1 n l) (fieldsP S.e2 n l') := by
  intro n
  induction n with
  | zero => intro l l' h; exact S.zero
  | succ n ih =>
    intro l l' h
    exact S.peek (φ := fun k t => ((decide (k = 4) || decide (k = 5)) && memB (bs t) tyWords) || ([3].any fun x : Int => decide (x = k))) rfl (Or.inl rfl) (S.bindSh (S.typ _) (typ_sh _) (typ_sh _) fun a a' ha => ih _ _ (by rw [h, ha])) (S.pure h)
theorem cn (n : Nat) (l l' : List SCn) (h : l = l') : S.J n Eq (cnP S.e1 l) (cnP S.e2 l') := by
  refine S.bindS (S.word n 3 rfl) (word_sh _ 3 (by decide)) (word_sh _ 3 (by decide)) fun t u ht => ?_
  refine S.bindLe (V := Eq) (P := fun ts => fieldsP S.e1 (ts.length + 1) [] ts) (Q := fun ts => fieldsP S.e2 (ts.length + 1) [] ts) (S.congr (S.fields' n [] [] rfl) (fun ts ht => fields_fuel _ _ _ _ (by omega) ht) (fun ts ht => fields_fuel _ _ _ _ (by omega) ht)) (fun ts => fields_le _ _ _ ts) (fun ts => fields_le _ _ _ ts) fun fs fs' hf => S.pure (by rw [h, (S.rt ht).2.1, hf])
theorem dat (n : Nat) : S.J n Eq (datP S.e1) (datP S.e2) := by
  refine S.bindS (S.text [datW0] n) (text_sh _ _ _) (text_sh _ _ _) fun _ _ _ => ?_
  refine S.bindS (S.word n 3 rfl) (word_sh _ 3 (by decide)) (word_sh _ 3 (by decide)) fun t u ht => ?_
  exact S.bindS (S.list (fun n s s' h => S.cn n s s' h) (cn_sh _) (cn_sh _) rfl n) (list_sh (cn_sh _) _) (list_sh (cn_sh _) _) fun l l' hl => S.pure (by rw [(S.rt ht).2.1, hl])
theorem decl' : ∀ (n : Nat) (xs xs' : List SEff) (ds ds' : List SDat), xs = xs' → ds = ds' → S.J n Eq (declP S.e1 n xs ds) (declP S.e2 n xs' ds') := by
  intro n
  induction n with
  | zero => intro _ _ _ _ _ _; exact S.zero
  | succ n ih =>
    intro xs xs' ds ds' h k
    refine S.peekIs [effW0, datW0] (Or.inl rfl) (S.peekIs [effW0] (Or.inl rfl) ?_ ?_) (S.pure (by rw [h, k]))
    · exact S.bindSh (S.eff _) (eff_sh _) (eff_sh _) fun x y hv => ih _ _ _ _ (by rw [h, hv]) k
    · exact S.bindSh (S.dat _) (dat_sh _) (dat_sh _) fun x y hv => ih _ _ _ _ h (by rw [k, hv])
theorem decl (n : Nat) : S.J n Eq (fun ts => declP S.e1 (ts.length + 1) [] [] ts) (fun ts => declP S.e2 (ts.length + 1) [] [] ts) :=
  S.congr (S.decl' n [] [] [] [] rfl rfl) (fun ts ht => decl_fuel _ _ _ _ _ (by omega) ht) (fun ts ht => decl_fuel _ _ _ _ _ (by omega) ht)
-- ------------------------------------------------------------------ terms
section
variable {x1 x2 : List Tk → PR ST} (hx1 : ∀ ts, (x1 ts).Sh ts.length) (hx2 : ∀ ts, (x2 ts).Sh ts.length) (hJ : ∀ n, S.J n VT x1 x2)
include hx1 hx2 hJ
omit hx1 hx2 in
theorem body (n : Nat) : S.J n VT (bodyP S.e1 x1) (bodyP S.e2 x2) :=
  S.bindS (S.text [arB] n) (text_sh _ _ _) (text_sh _ _ _) fun _ _ _ => hJ n
omit hx1 hx2 hJ in
theorem vars' : ∀ (n : Nat) (l l' : List ByteArray), l = l' → S.J n Eq (varsP S.e1 n l) (varsP S.e2 n l') := by
  intro n
  induction n with
  | zero => intro _ _ _; exact S.zero
  | succ n ih =>
    intro l l' h
    exact S.takeKd [2] rfl (fun t ts => varsP S.e1 n (l ++ [bs t.t]) ts) (fun t ts => varsP S.e2 n (l' ++ [bs t.t]) ts) (Or.inl rfl) (fun t u ht => ih _ _ (by rw [h, (S.rt ht).2.1])) (S.pure h)
omit hx1 hx2 hJ in
theorem vars (n : Nat) : S.J n Eq (fun ts => varsP S.e1 (ts.length + 1) [] ts) (fun ts => varsP S.e2 (ts.length + 1) [] ts) :=
  S.congr (S.vars' n [] [] rfl) (fun ts ht => vars_fuel _ _ _ _ (by omega) ht) (fun ts ht => vars_fuel _ _ _ _ (by omega) ht)
theorem way (n : Nat) : S.J n VA1 (wayP S.e1 x1) (wayP S.e2 x2) := by
  refine S.bindS (S.word n 3 rfl) (word_sh _ 3 (by decide)) (word_sh _ 3 (by decide)) fun t u ht => ?_
  refine S.bindLe (S.vars n) (fun ts => vars_le _ _ ts) (fun ts => vars_le _ _ ts) fun vs vs' hv => ?_
  exact S.bindS (S.body hJ n) (body_sh hx1) (body_sh hx2) fun b b' hb => S.pure (VA1.mk (by rw [(S.rt ht).2.1]) hv hb)
theorem clause (b : Bool) (n : Nat) : S.J n VA1 (clauseP S.e1 x1 b) (clauseP S.e2 x2 b) := by
  cases b with
  | true =>
    refine S.bindS (S.text [retB] n) (text_sh _ _ _) (text_sh _ _ _) fun _ _ _ => ?_
    refine S.bindLe (S.names n 1 [] [] rfl) (names_le _ _ _) (names_le _ _ _) fun vs vs' hv => ?_
    exact S.bindS (S.body hJ n) (body_sh hx1) (body_sh hx2) fun b b' hb => S.pure (VA1.mk rfl hv hb)
  | false =>
    refine S.bindS (S.word n 2 rfl) (word_sh _ 2 (by decide)) (word_sh _ 2 (by decide)) fun t u ht => ?_
    refine S.bindLe (S.names n 2 [] [] rfl) (names_le _ _ _) (names_le _ _ _) fun vs vs' hv => ?_
    exact S.bindS (S.body hJ n) (body_sh hx1) (body_sh hx2) fun b b' hb => S.pure (VA1.mk (by rw [(S.rt ht).2.1]) hv hb)
theorem kids (n : Nat) : ∀ (ss : List ByteArray) (l l' : List ST), VL l l' → S.J n VL (kidsP S.e1 x1 ss l) (kidsP S.e2 x2 ss l') := by
  intro ss
  induction ss with
  | nil => intro l l' h; exact S.pure h
  | cons s r ih =>
    intro l l' h
    refine S.bindS (S.text [s] n) (text_sh _ _ _) (text_sh _ _ _) fun _ _ _ => ?_
    exact S.bindS (hJ n) hx1 hx2 fun x y hv => ih _ _ (h.snoc hv)
omit hx1 hx2 hJ in
theorem once {s1 s2 : List Tk → PR ST} (h1 : ∀ ts, (s1 ts).Sh ts.length) (h2 : ∀ ts, (s2 ts).Sh ts.length) (h : ∀ n, S.J n VT s1 s2) (ss : List ByteArray) (hs : memB (bs [41]) ss = false) (n : Nat) : S.J n VT (onceP S.e1 s1 ss) (onceP S.e2 s2 ss) := by
  refine S.bindS (h n) h1 h2 fun x y hv => ?_
  cases n with
  | zero => exact S.zero
  | succ n => exact S.takeIs ss (fun t ts => (s1 ts).bind fun y us => .ok (sTwo (bs t.t) x y) us) (fun t ts => (s2 ts).bind fun z us => .ok (sTwo (bs t.t) y z) us) (Or.inl hs) (fun t u ht => S.bindS (h n) h1 h2 fun a b hw => S.pure (VT.mk rfl (by rw [(S.rt ht).2.1]) rfl rfl (VL.two hv hw) VA.nil)) (S.pure hv)
omit hx1 hx2 hJ in
theorem many' {s1 s2 : List Tk → PR ST} (h1 : ∀ ts, (s1 ts).Sh ts.length) (h2 : ∀ ts, (s2 ts).Sh ts.length) (h : ∀ n, S.J n VT s1 s2) (ss : List ByteArray) (hs : memB (bs [41]) ss = false) : ∀ (n : Nat) (x y : ST), VT x y → S.J n VT (manyL S.e1 s1 ss n x) (manyL S.e2 s2 ss n y) := by
  intro n
  induction n with
  | zero => intro _ _ _; exact S.zero
  | succ n ih =>
    intro x y hv
    exact S.takeIs ss (fun t ts => (s1 ts).bind fun y us => manyL S.e1 s1 ss n (sTwo (bs t.t) x y) us) (fun t ts => (s2 ts).bind fun z us => manyL S.e2 s2 ss n (sTwo (bs t.t) y z) us) (Or.inl hs) (fun t u ht => S.bindS (h n) h1 h2 fun a b hw => ih _ _ (VT.mk rfl (by rw [(S.rt ht).2.1]) rfl rfl (VL.two hv hw) VA.nil)) (S.pure hv)
omit hx1 hx2 hJ in
theorem many {s1 s2 : List Tk → PR ST} (h1 : ∀ ts, (s1 ts).Sh ts.length) (h2 : ∀ ts, (s2 ts).Sh ts.length) (h : ∀ n, S.J n VT s1 s2) (ss : List ByteArray) (hs : memB (bs [41]) ss = false) (n : Nat) : S.J n VT (manyP S.e1 s1 ss) (manyP S.e2 s2 ss) :=
  S.bindS (h n) h1 h2 fun x y hv => S.congr (S.many' h1 h2 h ss hs n x y hv) (fun ts ht => many_fuel h1 ss _ _ _ _ (by omega) ht) (fun ts ht => many_fuel h2 ss _ _ _ _ (by omega) ht)
theorem listOne (n : Nat) (l l' : List ST) (h : VL l l') : S.J n VL (listOne x1 l) (listOne x2 l') :=
  S.bindS (hJ n) hx1 hx2 fun x y hv => S.pure (h.snoc hv)
end
end Lg
def aN (t : Tk) (ts : List Tk) : PR ST := .ok (.mk 2 t.a E0B E0B t.n [] []) ts
def aB (t : Tk) (ts : List Tk) : PR ST := .ok (.mk 3 t.a E0B E0B (bif decide (bs t.t = trB) then 1 else 0) [] []) ts
def aV (t : Tk) (ts : List Tk) : PR ST := .ok (.mk 1 t.a (bs t.t) E0B 0 [] []) ts
def aU (t _ : Tk) (ts : List Tk) : PR ST := .ok (.mk 4 t.a E0B E0B 0 [] []) ts
def aR (e : Int) (t : Tk) (ts : List Tk) : PR ST := (textP e [oP, cP] ts).bind fun _ us => .ok (.mk 10 t.a rdB E0B 0 [] []) us
section
variable (e : Int) (ex : List Tk → PR ST)
def aC (t : Tk) (ts : List Tk) : PR ST := bif isK e ts [oP] then (listP e oP coB cP (listOne ex) [] ts).bind fun l us => .ok (.mk 11 t.a (bs t.t) E0B 0 l []) us else .ok (.mk 11 t.a (bs t.t) E0B 0 [] []) ts
def aP (t : Tk) (ts : List Tk) : PR ST := bif isK e ts [cP] then aU t (nx e ts) ts.tail else (ex ts).bind fun x us => (textP e [cP] us).bind fun _ us => .ok x us
/-- An atom, as what it takes first. -/
def atomQ (ts : List Tk) : PR ST :=
  bif kdK e ts [1] then aN (nx e ts) ts.tail
  else bif isK e ts [trB, faB] then aB (nx e ts) ts.tail
  else bif kdK e ts [2] then aV (nx e ts) ts.tail
  else bif isK e ts [rdB] then aR e (nx e ts) ts.tail
  else bif kdK e ts [3] then aC e ex (nx e ts) ts.tail
  else bif isK e ts [oP] then aP e ex (nx e ts) ts.tail
  else failP e ts
def eF (t : Tk) (us : List Tk) : PR ST := (namesP e 1 [] us).bind fun l us => (kidsP e ex [arB] [] us).bind fun ks us => .ok (.mk 5 t.a (l.getD 0 E0B) E0B 0 ks []) us
def eL (t : Tk) (us : List Tk) : PR ST := (namesP e 1 [] us).bind fun l us => (kidsP e ex [eqB', inB] [] us).bind fun ks us => .ok (.mk 7 t.a (l.getD 0 E0B) E0B 0 ks []) us
def eR (t : Tk) (us : List Tk) : PR ST := (namesP e 2 [] us).bind fun l us => (kidsP e ex [eqB', inB] [] us).bind fun ks us => .ok (.mk 8 t.a (l.getD 0 E0B) (l.getD 1 E0B) 0 ks []) us
def eI (t : Tk) (us : List Tk) : PR ST := (ex us).bind fun x us => (kidsP e ex [thenB, elseB] [x] us).bind fun ks us => .ok (.mk 9 t.a E0B E0B 0 ks []) us
def eM (t : Tk) (us : List Tk) : PR ST := (ex us).bind fun x us => (listP e oB smB cB (wayOne e ex) [] us).bind fun zs us => .ok (.mk 12 t.a E0B E0B 0 [x] zs) us
def eH (t0 : Tk) (us : List Tk) : PR ST := (wordP e 3 us).bind fun t us => (ex us).bind fun x us => (textP e [oB] us).bind fun _ us => (clauseP e ex true us).bind fun a us =>
    (clausesP e ex (us.length + 1) [a] us).bind fun zs us => (textP e [cB] us).bind fun _ us => .ok (.mk 14 t0.a (bs t.t) E0B 0 [x] zs) us
def exQ (ts : List Tk) : PR ST :=
  bif isK e ts [funB] then eF e ex (nx e ts) ts.tail
  else bif isK e ts [letWB] then eL e ex (nx e ts) ts.tail
  else bif isK e ts [recB] then eR e ex (nx e ts) ts.tail
  else bif isK e ts [ifB] then eI e ex (nx e ts) ts.tail
  else bif isK e ts [matB] then eM e ex (nx e ts) ts.tail
  else bif isK e ts [hanB] then eH e ex (nx e ts) ts.tail
  else assignP e ex ts
end
theorem atom_q (e : Int) (ex : List Tk → PR ST) (ts : List Tk) : atomP e ex ts = atomQ e ex ts := by
  unfold atomP atomQ
  cases h : isK e ts [rdB] with
  | false => rfl
  | true =>
    have : textP e [rdB, oP, cP] ts = textP e [oP, cP] ts.tail := by rw [textP, h]; rfl
    rw [this]; rfl
theorem kids_q {e : Int} {ex : List Tk → PR ST} {ts : List Tk} {s : ByteArray} (r : List ByteArray) (h : isK e ts [s] = true) : kidsP e ex (s :: r) [] ts = (ex ts.tail).bind fun x us => kidsP e ex r [x] us := by
  rw [kidsP, textP, h]; rfl
theorem ex_q (e : Int) (ex : List Tk → PR ST) (ts : List Tk) : exB e ex ts = exQ e ex ts := by
  unfold exB exQ
  cases h : isK e ts [ifB] with
  | true => rw [kids_q _ h, PR.bind_assoc]; rfl
  | false =>
    cases h2 : isK e ts [matB] with
    | true => rw [kids_q _ h2, PR.bind_assoc]; rfl
    | false => rfl
theorem fold_un {l m : List Tk} {x y : ST} (h : VP l m) (k : VT x y) : VT (l.foldr sUn x) (m.foldr sUn y) := by
  induction l generalizing m with
  | nil => cases m with
    | nil => exact k
    | cons b m => simp [VP] at h
  | cons a l ih => cases m with
    | nil => simp [VP] at h
    | cons b m =>
      have h : ktT a :: l.map ktT = ktT b :: m.map ktT := h
      injection h with h1 h2
      have h3 : a.k = b.k := congrArg Prod.fst h1
      have h4 : a.t = b.t := congrArg Prod.snd h1
      rw [List.foldr_cons, List.foldr_cons]
      exact VT.mk (by rw [h3]) (by rw [h4]) rfl rfl (VL.one (ih h2)) VA.nil
namespace Lg
variable (S : Lg)
section
variable {x1 x2 : List Tk → PR ST} (hx1 : ∀ ts, (x1 ts).Sh ts.length) (hx2 : ∀ ts, (x2 ts).Sh ts.length) (hJ : ∀ n, S.J n VT x1 x2)
include hx1 hx2 hJ
theorem atom (n : Nat) : S.J n VT (atomP S.e1 x1) (atomP S.e2 x2) := by
  cases n with
  | zero => exact S.zero
  | succ n =>
    refine S.congr (P' := atomQ S.e1 x1) (Q' := atomQ S.e2 x2) ?_ (fun ts _ => atom_q _ _ ts) (fun ts _ => atom_q _ _ ts)
    refine S.takeKd [1] rfl aN aN (Or.inl rfl) (fun t u h => ?_) ?_
    · exact S.pure (VT.mk rfl rfl rfl (S.rt h).2.2 VL.nil VA.nil)
    refine S.takeIs [trB, faB] aB aB (Or.inl rfl) (fun t u h => ?_) ?_
    · exact S.pure (VT.mk rfl rfl rfl (by rw [(S.rt h).2.1]) VL.nil VA.nil)
    refine S.takeKd [2] rfl aV aV (Or.inl rfl) (fun t u h => ?_) ?_
    · exact S.pure (VT.mk rfl (by rw [(S.rt h).2.1]) rfl rfl VL.nil VA.nil)
    refine S.takeIs [rdB] (aR S.e1) (aR S.e2) (Or.inl rfl) (fun t u h => ?_) ?_
    · exact S.bindS (S.text [oP, cP] n) (text_sh _ _ _) (text_sh _ _ _) fun _ _ _ => S.pure (VT.mk rfl rfl rfl rfl VL.nil VA.nil)
    refine S.takeKd [3] rfl (aC S.e1 x1) (aC S.e2 x2) (Or.inl rfl) (fun t u h => ?_) ?_
    · exact S.peekIs [oP] (Or.inl rfl) (S.bindS (S.list (fun n s s' h => S.listOne hx1 hx2 hJ n s s' h) (one_sh hx1) (one_sh hx2) VL.nil n) (list_sh (one_sh hx1) _) (list_sh (one_sh hx2) _) fun l l' hl => S.pure (VT.mk rfl (by rw [(S.rt h).2.1]) rfl rfl hl VA.nil)) (S.pure (VT.mk rfl (by rw [(S.rt h).2.1]) rfl rfl VL.nil VA.nil))
    refine S.takeIs [oP] (aP S.e1 x1) (aP S.e2 x2) (Or.inl rfl) (fun t u h => ?_) S.fail
    cases n with
    | zero => exact S.zero
    | succ n =>
      refine S.takeIs [cP] (aU t) (aU u) (Or.inr ?_) (fun t u h => S.pure (VT.mk rfl rfl rfl rfl VL.nil VA.nil)) ?_
      · exact (hx1 []).bindLe fun x us _ => (text_sh _ cP [] us).le.bind fun y vs h => h
      · exact S.bindS (hJ _) hx1 hx2 fun x y hv => S.bindS (S.text [cP] _) (text_sh _ _ _) (text_sh _ _ _) fun _ _ _ => S.pure hv
theorem app' : ∀ (n : Nat) (x y : ST), VT x y → S.J n VT (appL S.e1 x1 n x) (appL S.e2 x2 n y) := by
  intro n
  induction n with
  | zero => intro _ _ _; exact S.zero
  | succ n ih =>
    intro x y h
    exact S.peek (φ := fun k t => ([1, 2, 3].any fun x : Int => decide (x = k)) || ((decide (k = 4) || decide (k = 5)) && memB (bs t) [trB, faB, oP, rdB])) rfl (Or.inl rfl)
      (S.bindSh (S.atom hx1 hx2 hJ _) (atom_sh hx1) (atom_sh hx2) fun a b hw => ih _ _ (VT.mk rfl rfl rfl rfl (VL.two h hw) VA.nil)) (S.pure h)
theorem app (n : Nat) : S.J n VT (appP S.e1 x1) (appP S.e2 x2) :=
  S.bindS (S.atom hx1 hx2 hJ n) (atom_sh hx1) (atom_sh hx2) fun x y h => S.congr (S.app' hx1 hx2 hJ n x y h) (fun ts ht => app_fuel hx1 _ _ _ _ (by omega) ht) (fun ts ht => app_fuel hx2 _ _ _ _ (by omega) ht)
omit hx1 hx2 hJ in
theorem pre' : ∀ (n : Nat) (l m : List Tk), VP l m → S.J n VP (preP S.e1 n l) (preP S.e2 n m) := by
  intro n
  induction n with
  | zero => intro _ _ _; exact S.zero
  | succ n ih =>
    intro l m h
    exact S.take (φ := fun k t => ((decide (k = 4) || decide (k = 5)) && memB (bs t) unB) || ([6].any fun x : Int => decide (x = k))) (K := fun t ts => preP S.e1 n (l ++ [t]) ts) (M := fun t ts => preP S.e2 n (m ++ [t]) ts) rfl (Or.inl rfl)
      (fun t u ht => ih _ _ (by
        have h1 : ktT t = ktT u := by unfold ktT; rw [(S.rt ht).1, (S.rt ht).2.1]
        unfold VP at *; rw [List.map_append, List.map_append, h]; simp [h1])) (S.pure h)
theorem unary (n : Nat) : S.J n VT (unaryP S.e1 x1) (unaryP S.e2 x2) := by
  refine S.bindLe (V := VP) (P := fun ts => preP S.e1 (ts.length + 1) [] ts) (Q := fun ts => preP S.e2 (ts.length + 1) [] ts) (S.congr (S.pre' n [] [] rfl) (fun ts ht => pre_fuel _ _ _ _ (by omega) ht) (fun ts ht => pre_fuel _ _ _ _ (by omega) ht)) (fun ts => pre_le _ _ ts) (fun ts => pre_le _ _ ts) fun l m hl => ?_
  exact S.bindS (S.app hx1 hx2 hJ n) (app_sh hx1) (app_sh hx2) fun x y h => S.pure (fold_un hl h)
theorem prod (n : Nat) : S.J n VT (prodP S.e1 x1) (prodP S.e2 x2) := S.many (unary_sh hx1) (unary_sh hx2) (S.unary hx1 hx2 hJ) _ rfl n
theorem sum (n : Nat) : S.J n VT (sumP S.e1 x1) (sumP S.e2 x2) := S.many (prod_sh hx1) (prod_sh hx2) (S.prod hx1 hx2 hJ) _ rfl n
theorem cmp (n : Nat) : S.J n VT (cmpP S.e1 x1) (cmpP S.e2 x2) := S.once (sum_sh hx1) (sum_sh hx2) (S.sum hx1 hx2 hJ) _ rfl n
theorem assign (n : Nat) : S.J n VT (assignP S.e1 x1) (assignP S.e2 x2) := S.once (cmp_sh hx1) (cmp_sh hx2) (S.cmp hx1 hx2 hJ) _ rfl n
theorem clauses' : ∀ (n : Nat) (l m : List SA), VA l m → S.J n VA (clausesP S.e1 x1 n l) (clausesP S.e2 x2 n m) := by
  intro n
  induction n with
  | zero => intro _ _ _; exact S.zero
  | succ n ih =>
    intro l m h
    exact S.takeIs [smB] (fun _ ts => (clauseP S.e1 x1 false ts).bind fun a us => clausesP S.e1 x1 n (l ++ [a]) us) (fun _ ts => (clauseP S.e2 x2 false ts).bind fun a us => clausesP S.e2 x2 n (m ++ [a]) us) (Or.inl rfl)
      (fun t u ht => S.bindS (S.clause hx1 hx2 hJ false n) (clause_sh hx1 _) (clause_sh hx2 _) fun a b hab => ih _ _ (h.snoc hab)) (S.pure h)
theorem wayOne' (n : Nat) (l m : List SA) (h : VA l m) : S.J n VA (wayOne S.e1 x1 l) (wayOne S.e2 x2 m) :=
  S.bindS (S.way hx1 hx2 hJ n) (way_sh hx1) (way_sh hx2) fun a b hab => S.pure (h.snoc hab)
theorem exB' (n : Nat) : S.J n VT (exB S.e1 x1) (exB S.e2 x2) := by
  cases n with
  | zero => exact S.zero
  | succ n =>
    refine S.congr (P' := exQ S.e1 x1) (Q' := exQ S.e2 x2) ?_ (fun ts _ => ex_q _ _ ts) (fun ts _ => ex_q _ _ ts)
    have hk := S.kids hx1 hx2 hJ n
    refine S.takeIs [funB] (eF S.e1 x1) (eF S.e2 x2) (Or.inl rfl) (fun t u h => ?_) ?_
    · exact S.bindLe (S.names n 1 [] [] rfl) (names_le _ _ _) (names_le _ _ _) fun l l' hl => S.bindLe (hk [arB] [] [] VL.nil) (kids_le hx1 _ _) (kids_le hx2 _ _) fun ks ks' h2 => S.pure (VT.mk rfl (by rw [hl]) rfl rfl h2 VA.nil)
    refine S.takeIs [letWB] (eL S.e1 x1) (eL S.e2 x2) (Or.inl rfl) (fun t u h => ?_) ?_
    · exact S.bindLe (S.names n 1 [] [] rfl) (names_le _ _ _) (names_le _ _ _) fun l l' hl => S.bindLe (hk [eqB', inB] [] [] VL.nil) (kids_le hx1 _ _) (kids_le hx2 _ _) fun ks ks' h2 => S.pure (VT.mk rfl (by rw [hl]) rfl rfl h2 VA.nil)
    refine S.takeIs [recB] (eR S.e1 x1) (eR S.e2 x2) (Or.inl rfl) (fun t u h => ?_) ?_
    · exact S.bindLe (S.names n 2 [] [] rfl) (names_le _ _ _) (names_le _ _ _) fun l l' hl => S.bindLe (hk [eqB', inB] [] [] VL.nil) (kids_le hx1 _ _) (kids_le hx2 _ _) fun ks ks' h2 => S.pure (VT.mk rfl (by rw [hl]) (by rw [hl]) rfl h2 VA.nil)
    refine S.takeIs [ifB] (eI S.e1 x1) (eI S.e2 x2) (Or.inl rfl) (fun t u h => ?_) ?_
    · exact S.bindS (hJ n) hx1 hx2 fun x y hv => S.bindLe (hk [thenB, elseB] _ _ (VL.one hv)) (kids_le hx1 _ _) (kids_le hx2 _ _) fun ks ks' h2 => S.pure (VT.mk rfl rfl rfl rfl h2 VA.nil)
    refine S.takeIs [matB] (eM S.e1 x1) (eM S.e2 x2) (Or.inl rfl) (fun t u h => ?_) ?_
    · exact S.bindS (hJ n) hx1 hx2 fun x y hv => S.bindS (S.list (fun n s s' h => S.wayOne' hx1 hx2 hJ n s s' h) (wayOne_sh hx1) (wayOne_sh hx2) VA.nil n) (list_sh (wayOne_sh hx1) _) (list_sh (wayOne_sh hx2) _) fun zs zs' h2 => S.pure (VT.mk rfl rfl rfl rfl (VL.one hv) h2)
    refine S.takeIs [hanB] (eH S.e1 x1) (eH S.e2 x2) (Or.inl rfl) (fun t0 u0 h0 => ?_) (S.assign hx1 hx2 hJ _)
    refine S.bindS (S.word n 3 rfl) (word_sh _ 3 (by decide)) (word_sh _ 3 (by decide)) fun t u ht => ?_
    refine S.bindS (hJ n) hx1 hx2 fun x y hv => ?_
    refine S.bindS (S.text [oB] n) (text_sh _ _ _) (text_sh _ _ _) fun _ _ _ => ?_
    refine S.bindS (S.clause hx1 hx2 hJ true n) (clause_sh hx1 _) (clause_sh hx2 _) fun a b hab => ?_
    refine S.bindLe (V := VA) (P := fun ts => clausesP S.e1 x1 (ts.length + 1) [a] ts) (Q := fun ts => clausesP S.e2 x2 (ts.length + 1) [b] ts) (S.congr (S.clauses' hx1 hx2 hJ n [a] [b] (VA.nil.snoc hab)) (fun ts ht => clauses_fuel hx1 _ _ _ _ (by omega) ht) (fun ts ht => clauses_fuel hx2 _ _ _ _ (by omega) ht)) (fun ts => clauses_le hx1 _ _ ts) (fun ts => clauses_le hx2 _ _ ts) fun zs zs' hz => ?_
    exact S.bindS (S.text [cB] n) (text_sh _ _ _) (text_sh _ _ _) fun _ _ _ => S.pure (VT.mk rfl (by rw [(S.rt ht).2.1]) rfl rfl (VL.one hv) hz)
end
end Lg
/-- Word for word. -/
inductive Al (R : Tk → Tk → Prop) : List Tk → List Tk → Prop
  | nil : Al R [] []
  | cons {t u : Tk} {a b : List Tk} (h : R t u) (k : Al R a b) : Al R (t :: a) (u :: b)
def PsR (R : Tk → Tk → Prop) (e1 e2 p q : Int) : Prop := (p = e1 ∧ q = e2) ∨ ∃ t u, R t u ∧ p = t.a ∧ q = u.a
def WdO (R : Tk → Tk → Prop) (e1 e2 : Int) {α : Type} (V : α → α → Prop) (r1 r2 : PR α) : Prop :=
  (∃ x y a b, V x y ∧ Al R a b ∧ r1 = .ok x a ∧ r2 = .ok y b) ∨ ∃ p q c, r1 = .bad p c ∧ r2 = .bad q c ∧ (c = 3 ∨ c = 6) ∧ PsR R e1 e2 p q
theorem nx_al {R : Tk → Tk → Prop} {a b : List Tk} (h : Al R a b) (e1 e2 : Int) : PsR R e1 e2 (nx e1 a).a (nx e2 b).a := by
  cases h with
  | nil => exact Or.inl ⟨rfl, rfl⟩
  | cons h k => exact Or.inr ⟨_, _, h, rfl, rfl⟩
def wordsLg (R : Tk → Tk → Prop) (hR : ∀ {t u : Tk}, R t u → t.k = u.k ∧ t.t = u.t ∧ t.n = u.n) (e1 e2 : Int) : Lg where
  e1 := e1
  e2 := e2
  Rt := R
  J := fun n {_} V P Q => ∀ a b, Al R a b → a.length < n → b.length < n → WdO R e1 e2 V (P a) (Q b)
  rt := hR
  zero := fun a b _ h => absurd h (Nat.not_lt_zero _)
  congr := fun h hP hQ a b hab h1 h2 => by rw [hP a h1, hQ b h2]; exact h a b hab h1 h2
  pure := fun hv a b hab _ _ => Or.inl ⟨_, _, a, b, hv, hab, rfl, rfl⟩
  bind := fun {n m α β V W P Q f g} h hP hQ k a b hab h1 h2 => by
    have sP := hP a h1; have sQ := hQ b h2
    show WdO R e1 e2 W ((P a).bind f) ((Q b).bind g)
    rcases h a b hab h1 h2 with ⟨x, y, a', b', hv, hab', e1, e2⟩ | ⟨p, q, c, e1, e2, hc⟩
    · rw [e1] at sP ⊢; rw [e2] at sQ ⊢; exact k x y hv a' b' hab' sP sQ
    · rw [e1, e2]; exact Or.inr ⟨p, q, c, rfl, rfl, hc⟩
  fail := fun a b hab _ _ => Or.inr ⟨_, _, 3, rfl, rfl, Or.inl rfl, nx_al hab e1 e2⟩
  take := fun {n α V φ K M G H} h0 _ h h2 a b hab l1 l2 => by
    cases hab with
    | nil =>
      show WdO R e1 e2 V (bif φ 0 [] then _ else G []) (bif φ 0 [] then _ else H [])
      rw [h0]; exact h2 _ _ .nil l1 l2
    | @cons t u a b ht hab =>
      show WdO R e1 e2 V (bif φ t.k t.t then K t a else G (t :: a)) (bif φ u.k u.t then M u b else H (u :: b))
      rw [← (hR ht).1, ← (hR ht).2.1]
      cases φ t.k t.t with
      | true => exact h t u ht _ _ hab (by simp only [List.length_cons] at l1; omega) (by simp only [List.length_cons] at l2; omega)
      | false => exact h2 _ _ (.cons ht hab) l1 l2
  peek := fun {n α V φ K M G H} h0 _ h h2 a b hab l1 l2 => by
    cases hab with
    | nil =>
      show WdO R e1 e2 V (bif φ 0 [] then _ else G []) (bif φ 0 [] then _ else H [])
      rw [h0]; exact h2 _ _ .nil l1 l2
    | @cons t u a b ht hab =>
      show WdO R e1 e2 V (bif φ t.k t.t then K (t :: a) else G (t :: a)) (bif φ u.k u.t then M (u :: b) else H (u :: b))
      rw [← (hR ht).1, ← (hR ht).2.1]
      cases φ t.k t.t with
      | true => exact h _ _ (.cons ht hab) l1 l2
      | false => exact h2 _ _ (.cons ht hab) l1 l2
section
variable {R : Tk → Tk → Prop} (hR : ∀ {t u : Tk}, R t u → t.k = u.k ∧ t.t = u.t ∧ t.n = u.n) (e1 e2 : Int)
include hR
theorem words_expr : ∀ k n, (wordsLg R hR e1 e2).J n VT (exprP e1 k) (exprP e2 k) := by
  intro k
  induction k with
  | zero => intro n a b hab _ _; exact Or.inr ⟨_, _, 6, rfl, rfl, Or.inr rfl, nx_al hab e1 e2⟩
  | succ k ih => intro n; exact (wordsLg R hR e1 e2).exB' (expr_sh e1 k) (expr_sh e2 k) ih n
def VPr (p q : SPr) : Prop := p.effs = q.effs ∧ p.dats = q.dats ∧ VT p.body q.body
theorem words_program {a b : List Tk} (h : Al R a b) : WdO R e1 e2 VPr (programP e1 a) (programP e2 b) := by
  have hd : ∀ e ts, (declP e (ts.length + 1) [] [] ts).Le ts.length := fun e ts => decl_le e _ _ _ ts
  refine (wordsLg R hR e1 e2).bindLe (n := a.length + b.length + 1) (V := Eq) ((wordsLg R hR e1 e2).decl _) (hd e1) (hd e2) (fun p q hpq => ?_) a b h (by omega) (by omega)
  refine (wordsLg R hR e1 e2).bindS (V := VT) (words_expr hR e1 e2 201 _) (expr_sh e1 201) (expr_sh e2 201) fun x y hv => ?_
  intro a b hab _ _
  cases hab with
  | nil => exact Or.inl ⟨⟨p.1, p.2, x⟩, ⟨q.1, q.2, y⟩, [], [], ⟨by rw [hpq], by rw [hpq], hv⟩, .nil, rfl, rfl⟩
  | cons ht hab => exact Or.inr ⟨_, _, 3, rfl, rfl, Or.inl rfl, nx_al (.cons ht hab) e1 e2⟩
end
theorem erL_len : ∀ l : List ST, (erL l).length = l.length
  | [] => rfl
  | _ :: l => by rw [erL, List.length_cons, List.length_cons, erL_len l]
theorem erA_len : ∀ l : List SA, (erA l).length = l.length
  | [] => rfl
  | .mk _ _ _ :: l => by rw [erA, List.length_cons, List.length_cons, erA_len l]
theorem VL.at_ : ∀ {l m : List ST}, VL l m → ∀ {i : Nat} {u x : ST}, l[i]? = some u → m[i]? = some x → VT u x
  | [], _, _, _, _, _, hu, _ => by cases hu
  | _ :: _, [], _, _, _, _, _, hx => by cases hx
  | a :: l, b :: m, h, i, u, x, hu, hx => by
    have h : erT a :: erL l = erT b :: erL m := h
    injection h with h1 h2
    cases i with
    | zero => cases hu; cases hx; exact h1
    | succ i => exact VL.at_ (l := l) (m := m) h2 hu hx
theorem VA.at_ : ∀ {l m : List SA}, VA l m → ∀ {i : Nat} {u x : SA}, l[i]? = some u → m[i]? = some x → VA1 u x
  | [], _, _, _, _, _, hu, _ => by cases hu
  | _ :: _, [], _, _, _, _, _, hx => by cases hx
  | .mk n1 v1 b1 :: l, .mk n2 v2 b2 :: m, h, i, u, x, hu, hx => by
    have h : SA.mk n1 v1 (erT b1) :: erA l = SA.mk n2 v2 (erT b2) :: erA m := h
    injection h with h1 h2
    cases i with
    | zero => cases hu; cases hx; show [SA.mk n1 v1 (erT b1)] = [SA.mk n2 v2 (erT b2)]; rw [h1]
    | succ i => exact VA.at_ (l := l) (m := m) h2 hu hx
theorem dSL_mem {l : List ST} {i : Nat} {u : ST} (h : l[i]? = some u) : dS u ≤ dSL l := by
  induction l generalizing i with
  | nil => cases h
  | cons a l ih =>
    rw [dSL]
    cases i with
    | zero => cases h; omega
    | succ i => have := ih h; omega
theorem dSA_mem {l : List SA} {i : Nat} {u : SA} (h : l[i]? = some u) : dS u.body ≤ dSA l := by
  induction l generalizing i with
  | nil => cases h
  | cons a l ih =>
    obtain ⟨n, v, b⟩ := a
    rw [dSA]
    cases i with
    | zero => cases h; show dS b ≤ _; omega
    | succ i => have := ih h; omega
/-- What two terms that are the same but for where they stand have in common. -/
structure SmF (a b : Tm) : Prop where
  k : a.k = b.k
  nm : a.nm = b.nm
  pm : a.pm = b.pm
  n : a.n = b.n
  kl : a.kids.length = b.kids.length
  al : a.arms.length = b.arms.length
  kid : ∀ {i : Nat} {u x : Tm}, a.kids[i]? = some u → b.kids[i]? = some x → dS (shT u) < dS (shT a) ∧ VT (shT u) (shT x)
  arm : ∀ {i : Nat} {u x : Am}, a.arms[i]? = some u → b.arms[i]? = some x → u.nm = x.nm ∧ u.vars = x.vars ∧ dS (shT u.body) < dS (shT a) ∧ VT (shT u.body) (shT x.body)
theorem SmF.of {a b : Tm} (h : VT (shT a) (shT b)) : SmF a b := by
  unfold VT at h
  rw [shT_eq a, shT_eq b, erT, erT] at h
  injection h with h1 _ h3 h4 h5 h6 h7
  have hk := erL_len (a.kids.map shT); have hk2 := erL_len (b.kids.map shT)
  have ha := erA_len (a.arms.map shAm); have ha2 := erA_len (b.arms.map shAm)
  rw [h6] at hk; rw [h7] at ha
  simp only [List.length_map] at hk hk2 ha ha2
  refine ⟨h1, h3, h4, h5, by omega, by omega, fun {i u x} hu hx => ⟨?_, ?_⟩, fun {i u x} hu hx => ?_⟩
  · have := dSL_mem (map_at rfl hu : (a.kids.map shT)[i]? = some (shT u)); have h2 := dS_eq a; omega
  · exact VL.at_ h6 (map_at rfl hu) (map_at rfl hx)
  · have hm := dSA_mem (map_at rfl hu : (a.arms.map shAm)[i]? = some (shAm u))
    have hv := VA.at_ h7 (map_at rfl hu) (map_at rfl hx)
    have hv : [SA.mk u.nm u.vars (erT (shT u.body))] = [SA.mk x.nm x.vars (erT (shT x.body))] := hv
    injection hv with hv _
    injection hv with v1 v2 v3
    refine ⟨v1, v2, ?_, v3⟩
    have hm : dS (shT u.body) ≤ dSA (a.arms.map shAm) := hm
    have h2 := dS_eq a; omega
mutual
theorem dS_er : ∀ x : ST, dS (erT x) = dS x
  | .mk _ _ _ _ _ ks zs => by rw [erT, dS, dS, dSL_er ks, dSA_er zs]
theorem dSL_er : ∀ l : List ST, dSL (erL l) = dSL l
  | [] => rfl
  | x :: l => by rw [erL, dSL, dSL, dS_er x, dSL_er l]
theorem dSA_er : ∀ l : List SA, dSA (erA l) = dSA l
  | [] => rfl
  | .mk _ _ b :: l => by rw [erA, dSA, dSA, dS_er b, dSA_er l]
end
theorem VT.dS {x y : ST} (h : VT x y) : dS x = dS y := by rw [← dS_er x, ← dS_er y, h]
end Go.Proofs.Ytkjmjnddanhapaa
