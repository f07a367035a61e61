/-
  What the layer parse makes of words. Plain definitions and lemmas; no condition beyond those that stand in each statement.
-/
import Derived.Test.YtkjmjnddanhapaaL4
import Derived.Test.YtkjmjnddanhapaaS1
import Derived.Test.YtkjmjnddanhapaaK12
namespace Go.Proofs.Ytkjmjnddanhapaa
open Go.RowKit

-- ------------------------------------------------------------------ programs, without where they lie
structure STy where
  k : Int
  nm : ByteArray
structure SOp where
  nm : ByteArray
  arg : STy
  res : STy
structure SEff where
  nm : ByteArray
  ops : List SOp
structure SCn where
  nm : ByteArray
  fields : List STy
structure SDat where
  nm : ByteArray
  cons : List SCn
mutual
inductive ST
  | mk (k at_ : Int) (nm pm : ByteArray) (n : Int) (kids : List ST) (arms : List SA)
inductive SA
  | mk (nm : ByteArray) (vars : List ByteArray) (body : ST)
end
structure SPr where
  effs : List SEff
  dats : List SDat
  body : ST
def ST.at_ : ST → Int | .mk _ a _ _ _ _ _ => a
def ST.k : ST → Int | .mk k _ _ _ _ _ _ => k
def E0B : ByteArray := (⟨#[]⟩ : ByteArray)
mutual
/-- A term, without where it lies. -/
def shT : Tm → ST
  | .mk _ k a nm pm n _ _ kids arms => .mk k a nm pm n (shL kids) (shA arms)
def shL : List Tm → List ST
  | [] => []
  | t :: r => shT t :: shL r
def shA : List Am → List SA
  | [] => []
  | .mk _ nm _ vars body :: r => .mk nm vars (shT body) :: shA r
end
theorem shL_map (l : List Tm) : shL l = l.map shT := by
  induction l with
  | nil => rfl
  | cons a l ih => rw [shL, ih]; rfl
def shAm (a : Am) : SA := .mk a.nm a.vars (shT a.body)
theorem shA_map (l : List Am) : shA l = l.map shAm := by
  induction l with
  | nil => rfl
  | cons a l ih => cases a; rw [shA, ih]; rfl
theorem shT_eq (t : Tm) : shT t = .mk t.k t.at_ t.nm t.pm t.n (t.kids.map shT) (t.arms.map shAm) := by cases t; rw [shT, shL_map, shA_map]; rfl
/-- Nothing but a kind and a name. -/
def tyPl (t : Ty) : Bool := decide (t.var = 0) && (decide (t.args = 0) && (decide (t.labels = 0) && decide (t.rvar = 0)))
def shTy (t : Ty) : STy := ⟨bif tyPl t then t.k else -1, t.nm⟩
theorem shTy_k {t : Ty} {k : Int} {nm : ByteArray} (h : shTy t = ⟨k, nm⟩) (hk : k ≠ -1) : t.k = k ∧ t.nm = nm ∧ tyPl t = true := by
  unfold shTy at h
  injection h with h1 h2
  cases hp : tyPl t with
  | true => rw [hp] at h1; exact ⟨h1, h2, rfl⟩
  | false => rw [hp] at h1; exact absurd h1.symm hk
def shOp (o : Op) : SOp := ⟨o.nm, shTy o.arg, shTy o.res⟩
def shEff (x : Eff) : SEff := ⟨x.nm, x.ops.map shOp⟩
def shCn (c : Cn) : SCn := ⟨c.nm, c.fields.map shTy⟩
def shDat (d : Dat) : SDat := ⟨d.nm, d.cons.map shCn⟩
def shPr (p : Pr) : SPr := ⟨p.effs.map shEff, p.dats.map shDat, shT p.body⟩
-- ------------------------------------------------------------------ what reading words comes to
/-- Something, and the words that are left; or where it is wrong, and how. -/
inductive PR (α : Type)
  | ok (x : α) (ts : List Tk)
  | bad (a c : Int)
def PR.bind {α β : Type} (r : PR α) (f : α → List Tk → PR β) : PR β := match r with
  | .ok x ts => f x ts
  | .bad a c => .bad a c
theorem PR.bind_ok {α β : Type} (x : α) (ts : List Tk) (f : α → List Tk → PR β) : (PR.ok x ts).bind f = f x ts := rfl
/-- What a reading comes to, once its tests are known. -/
theorem SB : (∀ {α : Type} (a b : α), cond true a b = a) ∧ (∀ {α : Type} (a b : α), cond false a b = b) ∧ (∀ {α β : Type} (x : α) (ts : List Tk) (f : α → List Tk → PR β), (PR.ok x ts).bind f = f x ts) ∧ (∀ {α β : Type} (a c : Int) (f : α → List Tk → PR β), (PR.bad a c : PR α).bind f = .bad a c) ∧
    (∀ b : Bool, (true || b) = true) ∧ (∀ b : Bool, (b || true) = true) ∧ (∀ b : Bool, (false || b) = b) ∧ ∀ b : Bool, (b || false) = b :=
  ⟨fun _ _ => rfl, fun _ _ => rfl, fun _ _ _ => rfl, fun _ _ _ => rfl, Bool.true_or, Bool.or_true, Bool.false_or, Bool.or_false⟩
/-- What is left is shorter. -/
def PR.Sh {α : Type} (n : Nat) (r : PR α) : Prop := match r with
  | .ok _ ts => ts.length < n
  | .bad _ _ => True
/-- What is left is no longer. -/
def PR.Le {α : Type} (n : Nat) (r : PR α) : Prop := match r with
  | .ok _ ts => ts.length ≤ n
  | .bad _ _ => True
theorem PR.Sh.le {α : Type} {n : Nat} {r : PR α} (h : r.Sh n) : r.Le n := by cases r <;> simp [PR.Sh, PR.Le] at *; omega
theorem PR.Le.bind {α β : Type} {n : Nat} {r : PR α} {f : α → List Tk → PR β} (h : r.Le n) (k : ∀ x ts, ts.length ≤ n → (f x ts).Le n) : (r.bind f).Le n := by
  cases r with
  | ok x ts => exact k x ts h
  | bad a c => trivial
theorem PR.Sh.bind {α β : Type} {n : Nat} {r : PR α} {f : α → List Tk → PR β} (h : r.Sh n) (k : ∀ x ts, ts.length < n → (f x ts).Sh n) : (r.bind f).Sh n := by
  cases r with
  | ok x ts => exact k x ts h
  | bad a c => trivial
theorem PR.Le.bindSh {α β : Type} {n : Nat} {r : PR α} {f : α → List Tk → PR β} (h : r.Le n) (k : ∀ x ts, ts.length ≤ n → (f x ts).Sh n) : (r.bind f).Sh n := by
  cases r with
  | ok x ts => exact k x ts h
  | bad a c => trivial
theorem PR.Sh.bindLe {α β : Type} {n : Nat} {r : PR α} {f : α → List Tk → PR β} (h : r.Sh n) (k : ∀ x ts, ts.length < n → (f x ts).Le ts.length) : (r.bind f).Sh n := by
  cases r with
  | ok x ts =>
    have h1 := k x ts h
    have h : ts.length < n := h
    show (f x ts).Sh n
    cases hf : f x ts with
    | ok y us => rw [hf] at h1; have h1 : us.length ≤ ts.length := h1; show us.length < n; omega
    | bad a c => trivial
  | bad a c => trivial
-- ------------------------------------------------------------------ words
def nx (e : Int) (ts : List Tk) : Tk := ts.headD ⟨0, [], 0, e⟩
def isK (e : Int) (ts : List Tk) (ss : List ByteArray) : Bool := (decide ((nx e ts).k = 4) || decide ((nx e ts).k = 5)) && memB (bs (nx e ts).t) ss
def kdK (e : Int) (ts : List Tk) (ks : List Int) : Bool := ks.any fun x => decide (x = (nx e ts).k)
theorem is_some {e : Int} {ts : List Tk} {ss : List ByteArray} (h : isK e ts ss = true) : ∃ u r, ts = u :: r := by
  cases ts with
  | nil => simp [isK, nx] at h
  | cons u r => exact ⟨u, r, rfl⟩
theorem kd_some {e : Int} {ts : List Tk} {ks : List Int} (h : kdK e ts ks = true) (hk : ks.any (fun x => decide (x = 0)) = false) : ∃ u r, ts = u :: r := by
  cases ts with
  | nil =>
    exfalso
    have : kdK e [] ks = ks.any (fun x => decide (x = 0)) := rfl
    rw [this, hk] at h; cases h
  | cons u r => exact ⟨u, r, rfl⟩
def failP {α : Type} (e : Int) (ts : List Tk) : PR α := .bad (nx e ts).a 3
def wordP (e : Int) (k : Int) (ts : List Tk) : PR Tk := bif kdK e ts [k] then .ok (nx e ts) ts.tail else failP e ts
def textP (e : Int) : List ByteArray → List Tk → PR Unit
  | [], ts => .ok () ts
  | s :: r, ts => bif isK e ts [s] then textP e r ts.tail else failP e ts
def namesP (e : Int) : Nat → List ByteArray → List Tk → PR (List ByteArray)
  | 0, l, ts => .ok l ts
  | n + 1, l, ts => (wordP e 2 ts).bind fun t ts => namesP e n (l ++ [bs t.t]) ts
abbrev tyWords : List ByteArray := [(⟨#[105, 110, 116]⟩ : ByteArray), (⟨#[98, 111, 111, 108]⟩ : ByteArray), (⟨#[117, 110, 105, 116]⟩ : ByteArray)]
def typP (e : Int) (ts : List Tk) : PR STy :=
  bif isK e ts tyWords then .ok ⟨1 + idxI (fun x : ByteArray => decide (x = bs (nx e ts).t)) tyWords, E0B⟩ ts.tail
  else (wordP e 3 ts).bind fun t ts => .ok ⟨4, bs t.t⟩ ts
-- ------------------------------------------------------------------ lists
/-- What stands in brackets: so many at most. -/
def listL {σ : Type} (e : Int) (bt en : ByteArray) (one : σ → List Tk → PR σ) : Nat → Bool → σ → List Tk → PR σ
  | 0, _, _, _ => .bad 0 99
  | f + 1, first, s, ts => bif isK e ts [en] then (textP e [en] ts).bind fun _ ts => .ok s ts
      else (bif first then .ok () ts else textP e [bt] ts).bind fun _ ts => (one s ts).bind fun s ts => listL e bt en one f false s ts
def listP {σ : Type} (e : Int) (op bt en : ByteArray) (one : σ → List Tk → PR σ) (s : σ) (ts : List Tk) : PR σ :=
  (textP e [op] ts).bind fun _ ts => listL e bt en one (ts.length + 1) true s ts
abbrev oB : ByteArray := (⟨#[123]⟩ : ByteArray)
abbrev cB : ByteArray := (⟨#[125]⟩ : ByteArray)
abbrev smB : ByteArray := (⟨#[59]⟩ : ByteArray)
abbrev coB : ByteArray := (⟨#[44]⟩ : ByteArray)
abbrev oP : ByteArray := (⟨#[40]⟩ : ByteArray)
abbrev cP : ByteArray := (⟨#[41]⟩ : ByteArray)
abbrev arB : ByteArray := (⟨#[45, 62]⟩ : ByteArray)
abbrev clB : ByteArray := (⟨#[58]⟩ : ByteArray)
-- ------------------------------------------------------------------ declarations
def opP (e : Int) (l : List SOp) (ts : List Tk) : PR (List SOp) :=
  (wordP e 2 ts).bind fun t ts => (textP e [clB] ts).bind fun _ ts => (typP e ts).bind fun a ts => (textP e [arB] ts).bind fun _ ts => (typP e ts).bind fun r ts => .ok (l ++ [⟨bs t.t, a, r⟩]) ts
def effP (e : Int) (ts : List Tk) : PR SEff :=
  (textP e [(⟨#[101, 102, 102, 101, 99, 116]⟩ : ByteArray)] ts).bind fun _ ts => (wordP e 3 ts).bind fun t ts => (listP e oB smB cB (opP e) [] ts).bind fun l ts => .ok ⟨bs t.t, l⟩ ts
def fieldsP (e : Int) : Nat → List STy → List Tk → PR (List STy)
  | 0, _, _ => .bad 0 99
  | f + 1, l, ts => bif isK e ts tyWords || kdK e ts [3] then (typP e ts).bind fun t ts => fieldsP e f (l ++ [t]) ts else .ok l ts
def cnP (e : Int) (l : List SCn) (ts : List Tk) : PR (List SCn) :=
  (wordP e 3 ts).bind fun t ts => (fieldsP e (ts.length + 1) [] ts).bind fun fs ts => .ok (l ++ [⟨bs t.t, fs⟩]) ts
def datP (e : Int) (ts : List Tk) : PR SDat :=
  (textP e [(⟨#[100, 97, 116, 97]⟩ : ByteArray)] ts).bind fun _ ts => (wordP e 3 ts).bind fun t ts => (listP e oB smB cB (cnP e) [] ts).bind fun l ts => .ok ⟨bs t.t, l⟩ ts
-- ------------------------------------------------------------------ terms: ex reads what stands one deeper
section
variable (e : Int) (ex : List Tk → PR ST)
def bodyP (ts : List Tk) : PR ST := (textP e [arB] ts).bind fun _ ts => ex ts
def varsP : Nat → List ByteArray → List Tk → PR (List ByteArray)
  | 0, _, _ => .bad 0 99
  | f + 1, l, ts => bif kdK e ts [2] then varsP f (l ++ [bs (nx e ts).t]) ts.tail else .ok l ts
def wayP (ts : List Tk) : PR SA := (wordP e 3 ts).bind fun t ts => (varsP e (ts.length + 1) [] ts).bind fun vs ts => (bodyP e ex ts).bind fun b ts => .ok (.mk (bs t.t) vs b) ts
abbrev retB : ByteArray := (⟨#[114, 101, 116, 117, 114, 110]⟩ : ByteArray)
def clauseP (first : Bool) (ts : List Tk) : PR SA :=
  bif first then (textP e [retB] ts).bind fun _ ts => (namesP e 1 [] ts).bind fun vs ts => (bodyP e ex ts).bind fun b ts => .ok (.mk retB vs b) ts
  else (wordP e 2 ts).bind fun t ts => (namesP e 2 [] ts).bind fun vs ts => (bodyP e ex ts).bind fun b ts => .ok (.mk (bs t.t) vs b) ts
/-- Words, each with a term behind it. -/
def kidsP : List ByteArray → List ST → List Tk → PR (List ST)
  | [], l, ts => .ok l ts
  | s :: r, l, ts => (textP e [s] ts).bind fun _ ts => (ex ts).bind fun x ts => kidsP r (l ++ [x]) ts
def sTwo (nm : ByteArray) (x y : ST) : ST := .mk 10 x.at_ nm E0B 0 [x, y] []
def onceP (side : List Tk → PR ST) (ss : List ByteArray) (ts : List Tk) : PR ST :=
  (side ts).bind fun x ts => bif isK e ts ss then (side ts.tail).bind fun y us => .ok (sTwo (bs (nx e ts).t) x y) us else .ok x ts
def manyL (side : List Tk → PR ST) (ss : List ByteArray) : Nat → ST → List Tk → PR ST
  | 0, _, _ => .bad 0 99
  | f + 1, x, ts => bif isK e ts ss then (side ts.tail).bind fun y us => manyL side ss f (sTwo (bs (nx e ts).t) x y) us else .ok x ts
def manyP (side : List Tk → PR ST) (ss : List ByteArray) (ts : List Tk) : PR ST := (side ts).bind fun x ts => manyL e side ss (ts.length + 1) x ts
def listOne (one : List Tk → PR ST) (l : List ST) (ts : List Tk) : PR (List ST) := (one ts).bind fun x ts => .ok (l ++ [x]) ts
abbrev trB : ByteArray := (⟨#[116, 114, 117, 101]⟩ : ByteArray)
abbrev faB : ByteArray := (⟨#[102, 97, 108, 115, 101]⟩ : ByteArray)
abbrev rdB : ByteArray := (⟨#[114, 101, 97, 100]⟩ : ByteArray)
def atomP (ts : List Tk) : PR ST :=
  bif kdK e ts [1] then .ok (.mk 2 (nx e ts).a E0B E0B (nx e ts).n [] []) ts.tail
  else bif isK e ts [trB, faB] then .ok (.mk 3 (nx e ts).a E0B E0B (bif decide (bs (nx e ts).t = trB) then 1 else 0) [] []) ts.tail
  else bif kdK e ts [2] then .ok (.mk 1 (nx e ts).a (bs (nx e ts).t) E0B 0 [] []) ts.tail
  else bif isK e ts [rdB] then (textP e [rdB, oP, cP] ts).bind fun _ us => .ok (.mk 10 (nx e ts).a rdB E0B 0 [] []) us
  else bif kdK e ts [3] then
    (bif isK e ts.tail [oP] then (listP e oP coB cP (listOne ex) [] ts.tail).bind fun l us => .ok (.mk 11 (nx e ts).a (bs (nx e ts).t) E0B 0 l []) us
     else .ok (.mk 11 (nx e ts).a (bs (nx e ts).t) E0B 0 [] []) ts.tail)
  else bif isK e ts [oP] then
    (bif isK e ts.tail [cP] then .ok (.mk 4 (nx e ts).a E0B E0B 0 [] []) ts.tail.tail
     else (ex ts.tail).bind fun x us => (textP e [cP] us).bind fun _ us => .ok x us)
  else failP e ts
def appB (ts : List Tk) : Bool := kdK e ts [1, 2, 3] || isK e ts [trB, faB, oP, rdB]
def appL : Nat → ST → List Tk → PR ST
  | 0, _, _ => .bad 0 99
  | f + 1, x, ts => bif appB e ts then (atomP e ex ts).bind fun y us => appL f (.mk 6 x.at_ E0B E0B 0 [x, y] []) us else .ok x ts
def appP (ts : List Tk) : PR ST := (atomP e ex ts).bind fun x ts => appL e ex (ts.length + 1) x ts
abbrev unB : List ByteArray := [(⟨#[112, 114, 105, 110, 116]⟩ : ByteArray), (⟨#[114, 101, 102]⟩ : ByteArray), (⟨#[33]⟩ : ByteArray)]
def preB' (ts : List Tk) : Bool := isK e ts unB || kdK e ts [6]
def preP : Nat → List Tk → List Tk → PR (List Tk)
  | 0, _, _ => .bad 0 99
  | f + 1, l, ts => bif preB' e ts then preP f (l ++ [nx e ts]) ts.tail else .ok l ts
def sUn (t : Tk) (x : ST) : ST := .mk (if t.k = 6 then 13 else 10) t.a (bs t.t) E0B 0 [x] []
def unaryP (ts : List Tk) : PR ST := (preP e (ts.length + 1) [] ts).bind fun l ts => (appP e ex ts).bind fun x ts => .ok (l.foldr sUn x) ts
def prodP (ts : List Tk) : PR ST := manyP e (unaryP e ex) [(⟨#[42]⟩ : ByteArray), (⟨#[47]⟩ : ByteArray)] ts
def sumP (ts : List Tk) : PR ST := manyP e (prodP e ex) [(⟨#[43]⟩ : ByteArray), (⟨#[45]⟩ : ByteArray)] ts
def cmpP (ts : List Tk) : PR ST := onceP e (sumP e ex) [(⟨#[60]⟩ : ByteArray), (⟨#[61]⟩ : ByteArray)] ts
def assignP (ts : List Tk) : PR ST := onceP e (cmpP e ex) [(⟨#[58, 61]⟩ : ByteArray)] ts
def clausesP : Nat → List SA → List Tk → PR (List SA)
  | 0, _, _ => .bad 0 99
  | f + 1, l, ts => bif isK e ts [smB] then (clauseP e ex false ts.tail).bind fun a us => clausesP f (l ++ [a]) us else .ok l ts
def wayOne (l : List SA) (ts : List Tk) : PR (List SA) := (wayP e ex ts).bind fun x ts => .ok (l ++ [x]) ts
abbrev funB : ByteArray := (⟨#[102, 117, 110]⟩ : ByteArray)
abbrev letWB : ByteArray := (⟨#[108, 101, 116]⟩ : ByteArray)
abbrev recB : ByteArray := (⟨#[114, 101, 99]⟩ : ByteArray)
abbrev ifB : ByteArray := (⟨#[105, 102]⟩ : ByteArray)
abbrev thenB : ByteArray := (⟨#[116, 104, 101, 110]⟩ : ByteArray)
abbrev elseB : ByteArray := (⟨#[101, 108, 115, 101]⟩ : ByteArray)
abbrev matB : ByteArray := (⟨#[109, 97, 116, 99, 104]⟩ : ByteArray)
abbrev hanB : ByteArray := (⟨#[104, 97, 110, 100, 108, 101]⟩ : ByteArray)
abbrev eqB' : ByteArray := (⟨#[61]⟩ : ByteArray)
abbrev inB : ByteArray := (⟨#[105, 110]⟩ : ByteArray)
def exB (ts : List Tk) : PR ST :=
  bif isK e ts [funB] then (namesP e 1 [] ts.tail).bind fun l us => (kidsP e ex [arB] [] us).bind fun ks us => .ok (.mk 5 (nx e ts).a (l.getD 0 E0B) E0B 0 ks []) us
  else bif isK e ts [letWB] then (namesP e 1 [] ts.tail).bind fun l us => (kidsP e ex [eqB', inB] [] us).bind fun ks us => .ok (.mk 7 (nx e ts).a (l.getD 0 E0B) E0B 0 ks []) us
  else bif isK e ts [recB] then (namesP e 2 [] ts.tail).bind fun l us => (kidsP e ex [eqB', inB] [] us).bind fun ks us => .ok (.mk 8 (nx e ts).a (l.getD 0 E0B) (l.getD 1 E0B) 0 ks []) us
  else bif isK e ts [ifB] then (kidsP e ex [ifB, thenB, elseB] [] ts).bind fun ks us => .ok (.mk 9 (nx e ts).a E0B E0B 0 ks []) us
  else bif isK e ts [matB] then (kidsP e ex [matB] [] ts).bind fun ks us => (listP e oB smB cB (wayOne e ex) [] us).bind fun zs us => .ok (.mk 12 (nx e ts).a E0B E0B 0 ks zs) us
  else bif isK e ts [hanB] then (wordP e 3 ts.tail).bind fun t us => (ex us).bind fun x us => (textP e [oB] us).bind fun _ us => (clauseP e ex true us).bind fun a us =>
    (clausesP e ex (us.length + 1) [a] us).bind fun zs us => (textP e [cB] us).bind fun _ us => .ok (.mk 14 (nx e ts).a (bs t.t) E0B 0 [x] zs) us
  else assignP e ex ts
end
/-- An expression, where so many more may stand in one another. -/
def exprP (e : Int) : Nat → List Tk → PR ST
  | 0, ts => .bad (nx e ts).a 6
  | n + 1, ts => exB e (exprP e n) ts
abbrev effW0 : ByteArray := (⟨#[101, 102, 102, 101, 99, 116]⟩ : ByteArray)
abbrev datW0 : ByteArray := (⟨#[100, 97, 116, 97]⟩ : ByteArray)
def declP (e : Int) : Nat → List SEff → List SDat → List Tk → PR (List SEff × List SDat)
  | 0, _, _, _ => .bad 0 99
  | f + 1, xs, ds, ts => bif isK e ts [effW0, datW0] then
      (bif isK e ts [effW0] then (effP e ts).bind fun x us => declP e f (xs ++ [x]) ds us else (datP e ts).bind fun d us => declP e f xs (ds ++ [d]) us)
    else .ok (xs, ds) ts
def programP (e : Int) (ts : List Tk) : PR SPr :=
  (declP e (ts.length + 1) [] [] ts).bind fun p us => (exprP e 201 us).bind fun b us => bif decide (us = []) then .ok ⟨p.1, p.2, b⟩ us else failP e us
-- ------------------------------------------------------------------ what is left is shorter
theorem tail_lt {ts : List Tk} {u : Tk} {r : List Tk} (h : ts = u :: r) : ts.tail.length < ts.length := by subst h; simp
theorem word_sh (e k : Int) (hk : k ≠ 0) (ts : List Tk) : (wordP e k ts).Sh ts.length := by
  unfold wordP
  cases h : kdK e ts [k] with
  | true =>
    obtain ⟨u, r, rfl⟩ := kd_some h (by simpa using hk)
    exact tail_lt rfl
  | false => trivial
theorem text_le (e : Int) : ∀ (ss : List ByteArray) (ts : List Tk), (textP e ss ts).Le ts.length := by
  intro ss
  induction ss with
  | nil => intro ts; exact Nat.le_refl _
  | cons s r ih =>
    intro ts
    rw [textP]
    cases h : isK e ts [s] with
    | true =>
      obtain ⟨u, q, rfl⟩ := is_some h
      have := ih q
      show (textP e r q).Le _
      cases hh : textP e r q with
      | ok x us => rw [hh] at this; have this : us.length ≤ q.length := this; show us.length ≤ (u :: q).length; simp; omega
      | bad a c => trivial
    | false => trivial
theorem text_sh (e : Int) (s : ByteArray) (r : List ByteArray) (ts : List Tk) : (textP e (s :: r) ts).Sh ts.length := by
  rw [textP]
  cases h : isK e ts [s] with
  | true =>
    obtain ⟨u, q, rfl⟩ := is_some h
    have := text_le e r q
    show (textP e r q).Sh _
    cases hh : textP e r q with
    | ok x us => rw [hh] at this; have this : us.length ≤ q.length := this; show us.length < (u :: q).length; simp; omega
    | bad a c => trivial
  | false => trivial
end Go.Proofs.Ytkjmjnddanhapaa
