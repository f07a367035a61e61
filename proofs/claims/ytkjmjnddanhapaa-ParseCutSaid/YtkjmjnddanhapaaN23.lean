/-
  Two readings side by side: terms and programs. Plain lemmas; no condition beyond those that stand in each statement.
-/
import Derived.Test.YtkjmjnddanhapaaN22
namespace Go.Proofs.Ytkjmjnddanhapaa
open Go.RowKit

def aN (t : Tk) (ts : List Tk) : PR ST := .ok (.mk 2 t.a E0B E0B t.n [] []) ts
def aB (t : Tk) (ts : List Tk) : PR ST := .ok (.mk 3 t.a E0B E0B (bif decide (bs t.t = trB) then 1 else 0) [] []) ts
def aV (t : Tk) (ts : List Tk) : PR ST := .ok (.mk 1 t.a (bs t.t) E0B 0 [] []) ts
def aU (t _ : Tk) (ts : List Tk) : PR ST := .ok (.mk 4 t.a E0B E0B 0 [] []) ts
def aR (e : Int) (t : Tk) (ts : List Tk) : PR ST := (textP e [oP, cP] ts).bind fun _ us => .ok (.mk 10 t.a rdB E0B 0 [] []) us
section
variable (e : Int) (ex : List Tk → PR ST)
def aC (t : Tk) (ts : List Tk) : PR ST := bif isK e ts [oP] then (listP e oP coB cP (listOne ex) [] ts).bind fun l us => .ok (.mk 11 t.a (bs t.t) E0B 0 l []) us else .ok (.mk 11 t.a (bs t.t) E0B 0 [] []) ts
def aP (t : Tk) (ts : List Tk) : PR ST := bif isK e ts [cP] then aU t (nx e ts) ts.tail else (ex ts).bind fun x us => (textP e [cP] us).bind fun _ us => .ok x us
/-- An atom, as what it takes first. -/
def atomQ (ts : List Tk) : PR ST :=
  bif kdK e ts [1] then aN (nx e ts) ts.tail
  else bif isK e ts [trB, faB] then aB (nx e ts) ts.tail
  else bif kdK e ts [2] then aV (nx e ts) ts.tail
  else bif isK e ts [rdB] then aR e (nx e ts) ts.tail
  else bif kdK e ts [3] then aC e ex (nx e ts) ts.tail
  else bif isK e ts [oP] then aP e ex (nx e ts) ts.tail
  else failP e ts
def eF (t : Tk) (us : List Tk) : PR ST := (namesP e 1 [] us).bind fun l us => (kidsP e ex [arB] [] us).bind fun ks us => .ok (.mk 5 t.a (l.getD 0 E0B) E0B 0 ks []) us
def eL (t : Tk) (us : List Tk) : PR ST := (namesP e 1 [] us).bind fun l us => (kidsP e ex [eqB', inB] [] us).bind fun ks us => .ok (.mk 7 t.a (l.getD 0 E0B) E0B 0 ks []) us
def eR (t : Tk) (us : List Tk) : PR ST := (namesP e 2 [] us).bind fun l us => (kidsP e ex [eqB', inB] [] us).bind fun ks us => .ok (.mk 8 t.a (l.getD 0 E0B) (l.getD 1 E0B) 0 ks []) us
def eI (t : Tk) (us : List Tk) : PR ST := (ex us).bind fun x us => (kidsP e ex [thenB, elseB] [x] us).bind fun ks us => .ok (.mk 9 t.a E0B E0B 0 ks []) us
def eM (t : Tk) (us : List Tk) : PR ST := (ex us).bind fun x us => (listP e oB smB cB (wayOne e ex) [] us).bind fun zs us => .ok (.mk 12 t.a E0B E0B 0 [x] zs) us
def eH (t0 : Tk) (us : List Tk) : PR ST := (wordP e 3 us).bind fun t us => (ex us).bind fun x us => (textP e [oB] us).bind fun _ us => (clauseP e ex true us).bind fun a us =>
    (clausesP e ex (us.length + 1) [a] us).bind fun zs us => (textP e [cB] us).bind fun _ us => .ok (.mk 14 t0.a (bs t.t) E0B 0 [x] zs) us
def exQ (ts : List Tk) : PR ST :=
  bif isK e ts [funB] then eF e ex (nx e ts) ts.tail
  else bif isK e ts [letWB] then eL e ex (nx e ts) ts.tail
  else bif isK e ts [recB] then eR e ex (nx e ts) ts.tail
  else bif isK e ts [ifB] then eI e ex (nx e ts) ts.tail
  else bif isK e ts [matB] then eM e ex (nx e ts) ts.tail
  else bif isK e ts [hanB] then eH e ex (nx e ts) ts.tail
  else assignP e ex ts
end
theorem atom_q (e : Int) (ex : List Tk → PR ST) (ts : List Tk) : atomP e ex ts = atomQ e ex ts := by
  unfold atomP atomQ
  cases h : isK e ts [rdB] with
  | false => rfl
  | true =>
    have : textP e [rdB, oP, cP] ts = textP e [oP, cP] ts.tail := by rw [textP, h]; rfl
    rw [this]; rfl
theorem PR.bind_assoc {α β γ : Type} (r : PR α) (f : α → List Tk → PR β) (g : β → List Tk → PR γ) : (r.bind f).bind g = r.bind fun x ts => (f x ts).bind g := by cases r <;> rfl
theorem kids_q {e : Int} {ex : List Tk → PR ST} {ts : List Tk} {s : ByteArray} (r : List ByteArray) (h : isK e ts [s] = true) : kidsP e ex (s :: r) [] ts = (ex ts.tail).bind fun x us => kidsP e ex r [x] us := by
  rw [kidsP, textP, h]; rfl
theorem ex_q (e : Int) (ex : List Tk → PR ST) (ts : List Tk) : exB e ex ts = exQ e ex ts := by
  unfold exB exQ
  cases h : isK e ts [ifB] with
  | true => rw [kids_q _ h, PR.bind_assoc]; rfl
  | false =>
    cases h2 : isK e ts [matB] with
    | true => rw [kids_q _ h2, PR.bind_assoc]; rfl
    | false => rfl
theorem fold_un {l m : List Tk} {x y : ST} (h : VP l m) (k : VT x y) : VT (l.foldr sUn x) (m.foldr sUn y) := by
  induction l generalizing m with
  | nil => cases m with
    | nil => exact k
    | cons b m => simp [VP] at h
  | cons a l ih => cases m with
    | nil => simp [VP] at h
    | cons b m =>
      have h : ktT a :: l.map ktT = ktT b :: m.map ktT := h
      injection h with h1 h2
      have h3 : a.k = b.k := congrArg Prod.fst h1
      have h4 : a.t = b.t := congrArg Prod.snd h1
      rw [List.foldr_cons, List.foldr_cons]
      exact VT.mk (by rw [h3]) (by rw [h4]) rfl rfl (VL.one (ih h2)) VA.nil
namespace Lg
variable (S : Lg)
section
variable {x1 x2 : List Tk → PR ST} (hx1 : ∀ ts, (x1 ts).Sh ts.length) (hx2 : ∀ ts, (x2 ts).Sh ts.length) (hJ : ∀ n, S.J n VT x1 x2)
include hx1 hx2 hJ
theorem atom (n : Nat) : S.J n VT (atomP S.e1 x1) (atomP S.e2 x2) := by
  cases n with
  | zero => exact S.zero
  | succ n =>
    refine S.congr (P' := atomQ S.e1 x1) (Q' := atomQ S.e2 x2) ?_ (fun ts _ => atom_q _ _ ts) (fun ts _ => atom_q _ _ ts)
    refine S.takeKd [1] rfl aN aN (Or.inl rfl) (fun t u h => ?_) ?_
    · exact S.pure (VT.mk rfl rfl rfl (S.rt h).2.2 VL.nil VA.nil)
    refine S.takeIs [trB, faB] aB aB (Or.inl rfl) (fun t u h => ?_) ?_
    · exact S.pure (VT.mk rfl rfl rfl (by rw [(S.rt h).2.1]) VL.nil VA.nil)
    refine S.takeKd [2] rfl aV aV (Or.inl rfl) (fun t u h => ?_) ?_
    · exact S.pure (VT.mk rfl (by rw [(S.rt h).2.1]) rfl rfl VL.nil VA.nil)
    refine S.takeIs [rdB] (aR S.e1) (aR S.e2) (Or.inl rfl) (fun t u h => ?_) ?_
    · exact S.bindS (S.text [oP, cP] n) (text_sh _ _ _) (text_sh _ _ _) fun _ _ _ => S.pure (VT.mk rfl rfl rfl rfl VL.nil VA.nil)
    refine S.takeKd [3] rfl (aC S.e1 x1) (aC S.e2 x2) (Or.inl rfl) (fun t u h => ?_) ?_
    · exact S.peekIs [oP] (Or.inl rfl) (S.bindS (S.list (fun n s s' h => S.listOne hx1 hx2 hJ n s s' h) (one_sh hx1) (one_sh hx2) VL.nil n) (list_sh (one_sh hx1) _) (list_sh (one_sh hx2) _) fun l l' hl => S.pure (VT.mk rfl (by rw [(S.rt h).2.1]) rfl rfl hl VA.nil)) (S.pure (VT.mk rfl (by rw [(S.rt h).2.1]) rfl rfl VL.nil VA.nil))
    refine S.takeIs [oP] (aP S.e1 x1) (aP S.e2 x2) (Or.inl rfl) (fun t u h => ?_) S.fail
    cases n with
    | zero => exact S.zero
    | succ n =>
      refine S.takeIs [cP] (aU t) (aU u) (Or.inr ?_) (fun t u h => S.pure (VT.mk rfl rfl rfl rfl VL.nil VA.nil)) ?_
      · exact (hx1 []).bindLe fun x us _ => (text_sh _ cP [] us).le.bind fun y vs h => h
      · exact S.bindS (hJ _) hx1 hx2 fun x y hv => S.bindS (S.text [cP] _) (text_sh _ _ _) (text_sh _ _ _) fun _ _ _ => S.pure hv
theorem app' : ∀ (n : Nat) (x y : ST), VT x y → S.J n VT (appL S.e1 x1 n x) (appL S.e2 x2 n y) := by
  intro n
  induction n with
  | zero => intro _ _ _; exact S.zero
  | succ n ih =>
    intro x y h
    exact S.peek (φ := fun k t => ([1, 2, 3].any fun x : Int => decide (x = k)) || ((decide (k = 4) || decide (k = 5)) && memB (bs t) [trB, faB, oP, rdB])) rfl (Or.inl rfl)
      (S.bindSh (S.atom hx1 hx2 hJ _) (atom_sh hx1) (atom_sh hx2) fun a b hw => ih _ _ (VT.mk rfl rfl rfl rfl (VL.two h hw) VA.nil)) (S.pure h)
theorem app (n : Nat) : S.J n VT (appP S.e1 x1) (appP S.e2 x2) :=
  S.bindS (S.atom hx1 hx2 hJ n) (atom_sh hx1) (atom_sh hx2) fun x y h => S.congr (S.app' hx1 hx2 hJ n x y h) (fun ts ht => app_fuel hx1 _ _ _ _ (by omega) ht) (fun ts ht => app_fuel hx2 _ _ _ _ (by omega) ht)
omit hx1 hx2 hJ in
theorem pre' : ∀ (n : Nat) (l m : List Tk), VP l m → S.J n VP (preP S.e1 n l) (preP S.e2 n m) := by
  intro n
  induction n with
  | zero => intro _ _ _; exact S.zero
  | succ n ih =>
    intro l m h
    exact S.take (φ := fun k t => ((decide (k = 4) || decide (k = 5)) && memB (bs t) unB) || ([6].any fun x : Int => decide (x = k))) (K := fun t ts => preP S.e1 n (l ++ [t]) ts) (M := fun t ts => preP S.e2 n (m ++ [t]) ts) rfl (Or.inl rfl)
      (fun t u ht => ih _ _ (by
        have h1 : ktT t = ktT u := by unfold ktT; rw [(S.rt ht).1, (S.rt ht).2.1]
        unfold VP at *; rw [List.map_append, List.map_append, h]; simp [h1])) (S.pure h)
theorem unary (n : Nat) : S.J n VT (unaryP S.e1 x1) (unaryP S.e2 x2) := by
  refine S.bindLe (V := VP) (P := fun ts => preP S.e1 (ts.length + 1) [] ts) (Q := fun ts => preP S.e2 (ts.length + 1) [] ts) (S.congr (S.pre' n [] [] rfl) (fun ts ht => pre_fuel _ _ _ _ (by omega) ht) (fun ts ht => pre_fuel _ _ _ _ (by omega) ht)) (fun ts => pre_le _ _ ts) (fun ts => pre_le _ _ ts) fun l m hl => ?_
  exact S.bindS (S.app hx1 hx2 hJ n) (app_sh hx1) (app_sh hx2) fun x y h => S.pure (fold_un hl h)
theorem prod (n : Nat) : S.J n VT (prodP S.e1 x1) (prodP S.e2 x2) := S.many (unary_sh hx1) (unary_sh hx2) (S.unary hx1 hx2 hJ) _ rfl n
theorem sum (n : Nat) : S.J n VT (sumP S.e1 x1) (sumP S.e2 x2) := S.many (prod_sh hx1) (prod_sh hx2) (S.prod hx1 hx2 hJ) _ rfl n
theorem cmp (n : Nat) : S.J n VT (cmpP S.e1 x1) (cmpP S.e2 x2) := S.once (sum_sh hx1) (sum_sh hx2) (S.sum hx1 hx2 hJ) _ rfl n
theorem assign (n : Nat) : S.J n VT (assignP S.e1 x1) (assignP S.e2 x2) := S.once (cmp_sh hx1) (cmp_sh hx2) (S.cmp hx1 hx2 hJ) _ rfl n
theorem clauses' : ∀ (n : Nat) (l m : List SA), VA l m → S.J n VA (clausesP S.e1 x1 n l) (clausesP S.e2 x2 n m) := by
  intro n
  induction n with
  | zero => intro _ _ _; exact S.zero
  | succ n ih =>
    intro l m h
    exact S.takeIs [smB] (fun _ ts => (clauseP S.e1 x1 false ts).bind fun a us => clausesP S.e1 x1 n (l ++ [a]) us) (fun _ ts => (clauseP S.e2 x2 false ts).bind fun a us => clausesP S.e2 x2 n (m ++ [a]) us) (Or.inl rfl)
      (fun t u ht => S.bindS (S.clause hx1 hx2 hJ false n) (clause_sh hx1 _) (clause_sh hx2 _) fun a b hab => ih _ _ (h.snoc hab)) (S.pure h)
theorem wayOne' (n : Nat) (l m : List SA) (h : VA l m) : S.J n VA (wayOne S.e1 x1 l) (wayOne S.e2 x2 m) :=
  S.bindS (S.way hx1 hx2 hJ n) (way_sh hx1) (way_sh hx2) fun a b hab => S.pure (h.snoc hab)
theorem exB' (n : Nat) : S.J n VT (exB S.e1 x1) (exB S.e2 x2) := by
  cases n with
  | zero => exact S.zero
  | succ n =>
    refine S.congr (P' := exQ S.e1 x1) (Q' := exQ S.e2 x2) ?_ (fun ts _ => ex_q _ _ ts) (fun ts _ => ex_q _ _ ts)
    have hk := S.kids hx1 hx2 hJ n
    refine S.takeIs [funB] (eF S.e1 x1) (eF S.e2 x2) (Or.inl rfl) (fun t u h => ?_) ?_
    · exact S.bindLe (S.names n 1 [] [] rfl) (names_le _ _ _) (names_le _ _ _) fun l l' hl => S.bindLe (hk [arB] [] [] VL.nil) (kids_le hx1 _ _) (kids_le hx2 _ _) fun ks ks' h2 => S.pure (VT.mk rfl (by rw [hl]) rfl rfl h2 VA.nil)
    refine S.takeIs [letWB] (eL S.e1 x1) (eL S.e2 x2) (Or.inl rfl) (fun t u h => ?_) ?_
    · exact S.bindLe (S.names n 1 [] [] rfl) (names_le _ _ _) (names_le _ _ _) fun l l' hl => S.bindLe (hk [eqB', inB] [] [] VL.nil) (kids_le hx1 _ _) (kids_le hx2 _ _) fun ks ks' h2 => S.pure (VT.mk rfl (by rw [hl]) rfl rfl h2 VA.nil)
    refine S.takeIs [recB] (eR S.e1 x1) (eR S.e2 x2) (Or.inl rfl) (fun t u h => ?_) ?_
    · exact S.bindLe (S.names n 2 [] [] rfl) (names_le _ _ _) (names_le _ _ _) fun l l' hl => S.bindLe (hk [eqB', inB] [] [] VL.nil) (kids_le hx1 _ _) (kids_le hx2 _ _) fun ks ks' h2 => S.pure (VT.mk rfl (by rw [hl]) (by rw [hl]) rfl h2 VA.nil)
    refine S.takeIs [ifB] (eI S.e1 x1) (eI S.e2 x2) (Or.inl rfl) (fun t u h => ?_) ?_
    · exact S.bindS (hJ n) hx1 hx2 fun x y hv => S.bindLe (hk [thenB, elseB] _ _ (VL.one hv)) (kids_le hx1 _ _) (kids_le hx2 _ _) fun ks ks' h2 => S.pure (VT.mk rfl rfl rfl rfl h2 VA.nil)
    refine S.takeIs [matB] (eM S.e1 x1) (eM S.e2 x2) (Or.inl rfl) (fun t u h => ?_) ?_
    · exact S.bindS (hJ n) hx1 hx2 fun x y hv => S.bindS (S.list (fun n s s' h => S.wayOne' hx1 hx2 hJ n s s' h) (wayOne_sh hx1) (wayOne_sh hx2) VA.nil n) (list_sh (wayOne_sh hx1) _) (list_sh (wayOne_sh hx2) _) fun zs zs' h2 => S.pure (VT.mk rfl rfl rfl rfl (VL.one hv) h2)
    refine S.takeIs [hanB] (eH S.e1 x1) (eH S.e2 x2) (Or.inl rfl) (fun t0 u0 h0 => ?_) (S.assign hx1 hx2 hJ _)
    refine S.bindS (S.word n 3 rfl) (word_sh _ 3 (by decide)) (word_sh _ 3 (by decide)) fun t u ht => ?_
    refine S.bindS (hJ n) hx1 hx2 fun x y hv => ?_
    refine S.bindS (S.text [oB] n) (text_sh _ _ _) (text_sh _ _ _) fun _ _ _ => ?_
    refine S.bindS (S.clause hx1 hx2 hJ true n) (clause_sh hx1 _) (clause_sh hx2 _) fun a b hab => ?_
    refine S.bindLe (V := VA) (P := fun ts => clausesP S.e1 x1 (ts.length + 1) [a] ts) (Q := fun ts => clausesP S.e2 x2 (ts.length + 1) [b] ts) (S.congr (S.clauses' hx1 hx2 hJ n [a] [b] (VA.nil.snoc hab)) (fun ts ht => clauses_fuel hx1 _ _ _ _ (by omega) ht) (fun ts ht => clauses_fuel hx2 _ _ _ _ (by omega) ht)) (fun ts => clauses_le hx1 _ _ ts) (fun ts => clauses_le hx2 _ _ ts) fun zs zs' hz => ?_
    exact S.bindS (S.text [cB] n) (text_sh _ _ _) (text_sh _ _ _) fun _ _ _ => S.pure (VT.mk rfl (by rw [(S.rt ht).2.1]) rfl rfl (VL.one hv) hz)
end
end Lg
end Go.Proofs.Ytkjmjnddanhapaa
