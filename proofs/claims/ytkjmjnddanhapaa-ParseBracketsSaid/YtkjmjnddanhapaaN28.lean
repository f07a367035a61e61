/-
  The same words with more brackets around them: the same term, or too deep. Plain lemmas; no condition beyond those that stand in each statement.
-/
import Derived.Test.YtkjmjnddanhapaaN22
import Derived.Test.YtkjmjnddanhapaaN29
namespace Go.Proofs.Ytkjmjnddanhapaa
open Go.RowKit

theorem SmT.all {t u : Tk} (h : SmT t u) : t.k = u.k ∧ t.t = u.t ∧ t.n = u.n := h
theorem Al.add (d : Nat) : ∀ l, Al SmT l (l.map (Tk.add d))
  | [] => .nil
  | _ :: l => .cons ⟨rfl, rfl, rfl⟩ (Al.add d l)
def BkO (s : List Tk) {α : Type} (V : α → α → Prop) (r1 r2 : PR α) : Prop := ∀ x us, r1 = .ok x us → (∃ y b, V x y ∧ Al SmT us b ∧ r2 = .ok y (b ++ s)) ∨ ∃ p, r2 = .bad p 6
def BkJ (s : List Tk) (n : Nat) {α : Type} (V : α → α → Prop) (P Q : List Tk → PR α) : Prop := ∀ a b, Al SmT a b → a.length < n → (b ++ s).length < n → BkO s V (P a) (Q (b ++ s))
theorem sh_nil {α : Type} {r : PR α} {x : α} {us : List Tk} (h : r.Sh 0) (e : r = .ok x us) : False := by
  rw [e] at h; exact absurd (show us.length < 0 from h) (Nat.not_lt_zero _)
def brackLg (p : Int) (s : List Tk) (e1 e2 : Int) : Lg where
  e1 := e1
  e2 := e2
  Rt := SmT
  J := fun n {_} V P Q => BkJ (⟨5, [41], 0, p⟩ :: s) n V P Q
  rt := fun h => h
  zero := fun a b _ h => absurd h (Nat.not_lt_zero _)
  congr := fun h hP hQ a b hab h1 h2 => by rw [hP a h1, hQ _ h2]; exact h a b hab h1 h2
  pure := fun {n α V x y} hv a b hab _ _ z us hz => by injection hz with h1 h2; subst h1; subst h2; exact Or.inl ⟨y, b, hv, hab, rfl⟩
  bind := fun {n m α β V W P Q f g} h hP hQ k a b hab h1 h2 z us hz => by
    have sP := hP a h1; have sQ := hQ _ h2
    show (∃ y b', W z y ∧ Al SmT us b' ∧ (Q (b ++ _)).bind g = _) ∨ ∃ p, (Q (b ++ _)).bind g = _
    have hz : (P a).bind f = .ok z us := hz
    cases hp : P a with
    | bad p c => rw [hp] at hz; cases hz
    | ok x a' =>
      rw [hp] at hz sP
      rcases h a b hab h1 h2 x a' hp with ⟨y, b', hv, hab', hq⟩ | ⟨q, hq⟩
      · rw [hq] at sQ ⊢; exact k x y hv a' b' hab' sP sQ z us hz
      · rw [hq]; exact Or.inr ⟨q, rfl⟩
  fail := fun a b hab _ _ x us h => by cases h
  take := fun {n α V φ K M G H} h0 hc h h2 a b hab l1 l2 => by
    cases hab with
    | nil =>
      show BkO _ V (bif φ 0 [] then _ else G []) (bif φ 5 [41] then _ else H _)
      rw [h0]
      rcases hc with hc | hc
      · rw [hc]; exact h2 _ _ .nil l1 l2
      · exact fun x us hx => (sh_nil hc hx).elim
    | @cons t u a b ht hab =>
      show BkO _ V (bif φ t.k t.t then K t a else G (t :: a)) (bif φ u.k u.t then M u (b ++ _) else H (u :: b ++ _))
      rw [← ht.1, ← ht.2.1]
      cases φ t.k t.t with
      | true => exact h t u ht _ _ hab (by simp only [List.length_cons] at l1; omega) (by simp only [List.cons_append, List.length_cons] at l2; omega)
      | false => exact h2 _ _ (.cons ht hab) l1 l2
  peek := fun {n α V φ K M G H} h0 hc h h2 a b hab l1 l2 => by
    cases hab with
    | nil =>
      show BkO _ V (bif φ 0 [] then _ else G []) (bif φ 5 [41] then _ else H _)
      rw [h0]
      rcases hc with hc | hc
      · rw [hc]; exact h2 _ _ .nil l1 l2
      · exact fun x us hx => (sh_nil hc hx).elim
    | @cons t u a b ht hab =>
      show BkO _ V (bif φ t.k t.t then K (t :: a) else G (t :: a)) (bif φ u.k u.t then M (u :: b ++ _) else H (u :: b ++ _))
      rw [← ht.1, ← ht.2.1]
      cases φ t.k t.t with
      | true => exact h _ _ (.cons ht hab) l1 l2
      | false => exact h2 _ _ (.cons ht hab) l1 l2
theorem brack_expr (p : Int) (s : List Tk) (e1 e2 : Int) : ∀ k k', k ≤ k' → ∀ n, (brackLg p s e1 e2).J n VT (exprP e1 k') (exprP e2 k) := by
  intro k
  induction k with
  | zero => intro k' _ n a b _ _ _ x us _; exact Or.inr ⟨_, rfl⟩
  | succ k ih =>
    intro k' hk n
    obtain ⟨j, rfl⟩ : ∃ j, k' = j + 1 := ⟨k' - 1, by omega⟩
    exact (brackLg p s e1 e2).exB' (expr_sh e1 j) (expr_sh e2 k) (ih j (by omega)) n
-- ------------------------------------------------------------------ brackets
/-- Nothing behind, or a bracket that closes. -/
def Cls (s : List Tk) : Prop := s = [] ∨ ∃ p r, s = ⟨5, [41], 0, p⟩ :: r
theorem Cls.cl {e : Int} {s : List Tk} (h : Cls s) : Cl e s := by
  rcases h with rfl | ⟨p, r, rfl⟩ <;> exact ⟨rfl, rfl, rfl, rfl, rfl⟩
theorem op_kw {e a : Int} {r : List Tk} : NoKw e (⟨5, [40], 0, a⟩ :: r) := ⟨rfl, rfl, rfl, rfl, rfl, rfl⟩
/-- A term never begins with a bracket that closes. -/
theorem expr_cl {e : Int} {k : Nat} {ts us : List Tk} {x : ST} (h : exprP e k ts = .ok x us) : isK e ts [cP] = false := by
  cases hc : isK e ts [cP] with
  | false => rfl
  | true =>
    exfalso
    obtain ⟨u, r, rfl⟩ := is_some hc
    have hb : bs u.t = cP ∧ (u.k = 4 ∨ u.k = 5) := by
      have hc : ((decide (u.k = 4) || decide (u.k = 5)) && memB (bs u.t) [cP]) = true := hc
      simp only [Bool.and_eq_true, Bool.or_eq_true, decide_eq_true_eq] at hc
      exact ⟨by have := memB_iff.1 hc.2; simpa using this, hc.1⟩
    have hi : ∀ ss, memB cP ss = false → isK e (u :: r) ss = false := fun ss hs => by
      show ((decide (u.k = 4) || decide (u.k = 5)) && memB (bs u.t) ss) = false
      rw [hb.1, hs, Bool.and_false]
    have hk : ∀ ks : List Int, ks.any (fun x => decide (x = 4)) = false → ks.any (fun x => decide (x = 5)) = false → kdK e (u :: r) ks = false := fun ks h4 h5 => by
      show ks.any (fun x => decide (x = u.k)) = false
      rcases hb.2 with h | h
      · rw [h]; exact h4
      · rw [h]; exact h5
    cases k with
    | zero => cases h
    | succ k =>
      have hno : NoKw e (u :: r) := ⟨hi _ rfl, hi _ rfl, hi _ rfl, hi _ rfl, hi _ rfl, hi _ rfl⟩
      rw [exprP, exB_assign hno] at h
      have ha : atomP e (exprP e k) (u :: r) = .bad u.a 3 := by
        unfold atomP
        rw [hk [1] rfl rfl, hi [trB, faB] rfl, hk [2] rfl rfl, hi [rdB] rfl, hk [3] rfl rfl, hi [oP] rfl]; rfl
      have hp : preB' e (u :: r) = false := by unfold preB'; rw [hi _ rfl, hk _ rfl rfl]; rfl
      simp only [assignP, onceP, cmpP, sumP, manyP, prodP, unaryP, preP, hp, cond_false, PR.bind_ok, appP, ha, PR.bind_bad] at h
      cases h
theorem brack_step {e a p : Int} {ex : List Tk → PR ST} {ts r : List Tk} {x : ST} (h1 : isK e ts [cP] = false) (h : ex ts = .ok x (⟨5, [41], 0, p⟩ :: r)) (hr : Cls r) : exB e ex (⟨5, [40], 0, a⟩ :: ts) = .ok x r := by
  rw [exB_assign op_kw]
  refine atom_assign ?_ rfl hr.cl
  show (bif isK e ts [cP] then _ else (ex ts).bind fun x us => (textP e [cP] us).bind fun _ us => PR.ok x us) = _
  rw [h1, cond_false, h]; rfl
theorem brack_bad {e a p q : Int} {ex : List Tk → PR ST} {ts : List Tk} (h1 : isK e ts [cP] = false) (h : ex ts = .bad p q) : exB e ex (⟨5, [40], 0, a⟩ :: ts) = .bad p q := by
  rw [exB_assign op_kw]
  have ha : atomP e ex (⟨5, [40], 0, a⟩ :: ts) = .bad p q := by
    show (bif isK e ts [cP] then _ else (ex ts).bind fun x us => (textP e [cP] us).bind fun _ us => PR.ok x us) = _
    rw [h1, cond_false, h]; rfl
  have hp : preB' e (⟨5, [40], 0, a⟩ :: ts) = false := rfl
  simp only [assignP, onceP, cmpP, sumP, manyP, prodP, unaryP, preP, hp, cond_false, PR.bind_ok, appP, ha, PR.bind_bad]
theorem Sg.snoc {b : UInt8} {n : Nat} {l : List Tk} (h : Sg b (n + 1) l) : ∃ l' p, Sg b n l' ∧ l = l' ++ [⟨5, [b], 0, p⟩] := by
  induction n generalizing l with
  | zero => cases h with | cons a h => cases h; exact ⟨[], a, .nil, rfl⟩
  | succ n ih => cases h with | cons a h => obtain ⟨l', p, h1, rfl⟩ := ih h; exact ⟨_ :: l', p, .cons a h1, rfl⟩
/-- So many brackets around a term. -/
theorem brack_nest {e1 e2 : Int} {a b : List Tk} {x : ST} (hab : Al SmT a b) (hx : exprP e1 201 a = .ok x []) : ∀ (m k : Nat) (os cs s : List Tk), k ≤ 201 → Sg 40 m os → Sg 41 m cs → Cls s → (m = 0 → s ≠ []) →
    (∃ y, VT x y ∧ m < k ∧ exprP e2 k (os ++ (b ++ (cs ++ s))) = .ok y s) ∨ ∃ p, exprP e2 k (os ++ (b ++ (cs ++ s))) = .bad p 6 := by
  have hcb : isK e1 a [cP] = false := expr_cl hx
  intro m
  induction m with
  | zero =>
    intro k os cs s hk ho hc hs h0
    cases ho; cases hc
    rcases hs with rfl | ⟨p, r, rfl⟩
    · exact absurd rfl (h0 rfl)
    · cases k with
      | zero => exact Or.inr ⟨_, rfl⟩
      | succ k =>
        rcases brack_expr p r e1 e2 (k + 1) 201 hk (a.length + (b ++ (⟨5, [41], 0, p⟩ :: r)).length + 1) a b hab (by omega) (by omega) x [] hx with ⟨y, b', hv, h1, h2⟩ | h
        · cases h1; exact Or.inl ⟨y, hv, Nat.succ_pos _, h2⟩
        · exact Or.inr h
  | succ m ih =>
    intro k os cs s hk ho hc hs _
    cases ho with
    | @cons _ os a0 ho =>
      obtain ⟨cs, p, hc', rfl⟩ := hc.snoc
      have e : (⟨5, [40], 0, a0⟩ :: os) ++ (b ++ (cs ++ [⟨5, [41], 0, p⟩] ++ s)) = ⟨5, [40], 0, a0⟩ :: (os ++ (b ++ (cs ++ (⟨5, [41], 0, p⟩ :: s)))) := by simp
      rw [e]
      cases k with
      | zero => exact Or.inr ⟨_, rfl⟩
      | succ k =>
        have hn : isK e2 (os ++ (b ++ (cs ++ (⟨5, [41], 0, p⟩ :: s)))) [cP] = false := by
          cases ho with
          | cons => rfl
          | nil =>
            cases hab with
            | nil => have := expr_sh e1 201 []; rw [hx] at this; exact absurd (show ([] : List Tk).length < 0 from this) (Nat.not_lt_zero _)
            | @cons t u a b ht _ =>
              show ((decide (u.k = 4) || decide (u.k = 5)) && memB (bs u.t) [cP]) = false
              rw [← ht.1, ← ht.2.1]; exact hcb
        rcases ih k os cs (⟨5, [41], 0, p⟩ :: s) (by omega) ho hc' (Or.inr ⟨p, s, rfl⟩) (fun _ => by simp) with ⟨y, hv, hm, h⟩ | ⟨q, h⟩
        · exact Or.inl ⟨y, hv, by omega, by rw [exprP]; exact brack_step hn h hs⟩
        · exact Or.inr ⟨q, by rw [exprP]; exact brack_bad hn h⟩
mutual
theorem dS_er : ∀ x : ST, dS (erT x) = dS x
  | .mk _ _ _ _ _ ks zs => by rw [erT, dS, dS, dSL_er ks, dSA_er zs]
theorem dSL_er : ∀ l : List ST, dSL (erL l) = dSL l
  | [] => rfl
  | x :: l => by rw [erL, dSL, dSL, dS_er x, dSL_er l]
theorem dSA_er : ∀ l : List SA, dSA (erA l) = dSA l
  | [] => rfl
  | .mk _ _ b :: l => by rw [erA, dSA, dSA, dS_er b, dSA_er l]
end
theorem VT.dS {x y : ST} (h : VT x y) : dS x = dS y := by rw [← dS_er x, ← dS_er y, h]
theorem decl_grow {e : Int} : ∀ (f : Nat) (xs : List SEff) (ds : List SDat) (ts us : List Tk) (p : List SEff × List SDat), declP e f xs ds ts = .ok p us → xs.length ≤ p.1.length ∧ ds.length ≤ p.2.length ∧ (p.1.length + p.2.length = xs.length + ds.length → us = ts) := by
  intro f
  induction f with
  | zero => intro xs ds ts us p h; cases h
  | succ f ih =>
    intro xs ds ts us p h
    rw [declP] at h
    cases h1 : isK e ts [effW0, datW0] with
    | false => rw [h1] at h; cases h; exact ⟨Nat.le_refl _, Nat.le_refl _, fun _ => rfl⟩
    | true =>
      rw [h1, cond_true] at h
      cases h2 : isK e ts [effW0] with
      | true =>
        rw [h2, cond_true] at h
        cases h3 : effP e ts with
        | bad a c => rw [h3] at h; cases h
        | ok x vs => rw [h3] at h; have := ih _ _ _ _ _ h; simp only [List.length_append, List.length_cons, List.length_nil] at this; exact ⟨by omega, by omega, fun _ => by omega⟩
      | false =>
        rw [h2, cond_false] at h
        cases h3 : datP e ts with
        | bad a c => rw [h3] at h; cases h
        | ok x vs => rw [h3] at h; have := ih _ _ _ _ _ h; simp only [List.length_append, List.length_cons, List.length_nil] at this; exact ⟨by omega, by omega, fun _ => by omega⟩
/-- A program without declarations is its body. -/
theorem program_body {e : Int} {ts us : List Tk} {p : SPr} (h : programP e ts = .ok p us) (h1 : p.effs = []) (h2 : p.dats = []) : exprP e 201 ts = .ok p.body [] := by
  have hu := program_end h
  subst hu
  unfold programP at h
  cases h3 : declP e (ts.length + 1) [] [] ts with
  | bad a c => rw [h3] at h; cases h
  | ok q vs =>
    rw [h3, PR.bind_ok] at h
    have hg := decl_grow _ _ _ _ _ _ h3
    cases h4 : exprP e 201 vs with
    | bad a c => rw [h4] at h; cases h
    | ok b ws =>
      rw [h4, PR.bind_ok] at h
      by_cases hw : ws = []
      · subst hw
        cases h
        have h1 : q.1 = [] := h1
        have h2 : q.2 = [] := h2
        have := hg.2.2 (by rw [h1, h2])
        subst this; exact h4
      · have : decide (ws = []) = false := by simp [hw]
        rw [this] at h; cases h
def bkS (l : List UInt8) (n : Nat) : List UInt8 := List.replicate n 40 ++ (l ++ 10 :: List.replicate n 41)
theorem brack_parse {l : List UInt8} (hl : l.length ≤ 500) {n : Nat} (hn : n ≤ 230) {x : SPr} (hp : parseR l = (some x, 0, 0)) (hx : x.effs = []) (hy : x.dats = []) :
    (∃ y, parseR (bkS l n) = (some y, 0, 0) ∧ VT x.body y.body ∧ n ≤ 200) ∨ (0 < n ∧ ∃ p, parseR (bkS l n) = (none, p, 6)) := by
  obtain ⟨hE, x', us, hp', hr⟩ := parse_zero (l := l) (by rw [hp])
  rw [hp] at hp'
  have : x = x' := by injection hp' with h _; injection h
  subst this
  have hd : ¬ 200 < dS x.body := by
    intro hd; rw [parseR_deep hE hr hd] at hp; cases hp
  cases hw : lexW 0 l with
  | bad q => exfalso; have := lex_bad (by omega) hw; rw [this.2.2] at hE; exact absurd hE (by decide)
  | ok ts =>
    obtain ⟨e1, _, _⟩ := lex_ok (by omega) hw
    rw [e1] at hr
    have hb : exprP (l.length : Int) 201 ts = .ok x.body [] := program_body hr hx hy
    have hlx : Lx (bkS l n) (fun us => ∃ os d cs, us = os ++ (ts.map (Tk.add d) ++ cs) ∧ Sg 40 n os ∧ Sg 41 n cs) :=
      lx_ops n ((Lx.behind hw (lx_cls n)).mono fun us ⟨d, cs, h1, h2⟩ os ho => ⟨os, d, cs, by rw [h1], ho, h2⟩)
    obtain ⟨hE2, os, d, cs, hu, ho, hc⟩ := hlx.parse (by unfold bkS; simp only [List.length_append, List.length_cons, List.length_replicate]; omega)
    cases n with
    | zero =>
      cases ho; cases hc
      rw [List.append_nil, List.nil_append] at hu
      rcases words_program (R := SmT) SmT.all (l.length : Int) ((bkS l 0).length : Int) (Al.add d ts) with ⟨p, q, a', b', hv, ha, h1, h2⟩ | ⟨p, q, c, h1, _⟩
      · rw [hr] at h1; cases h1
        rw [← hu] at h2
        exact Or.inl ⟨q, parseR_ok hE2 h2 (by rw [← hv.2.2.dS]; exact hd), hv.2.2, by omega⟩
      · rw [hr] at h1; cases h1
    | succ n =>
      have hk := brack_nest (e1 := (l.length : Int)) (e2 := ((bkS l (n + 1)).length : Int)) (Al.add d ts) hb (n + 1) 201 os cs [] (Nat.le_refl _) ho hc (Or.inl rfl) (fun h => by omega)
      rw [List.append_nil, ← hu] at hk
      have hdcl : isK ((bkS l (n + 1)).length : Int) (lexT (bkS l (n + 1))) [effW0, datW0] = false := by rw [hu]; cases ho; rfl
      rcases hk with ⟨y, hv, hm, h⟩ | ⟨p, h⟩
      · refine Or.inl ⟨⟨[], [], y⟩, parseR_ok hE2 (us := []) ?_ (by show ¬ 200 < dS y; rw [← hv.dS]; exact hd), hv, by omega⟩
        simp only [programP, declP, hdcl, cond_false, PR.bind_ok, h]; rfl
      · exact Or.inr ⟨Nat.succ_pos _, p, parseR_bad hE2 (by simp only [programP, declP, hdcl, cond_false, PR.bind_ok, h, PR.bind_bad])⟩
end Go.Proofs.Ytkjmjnddanhapaa
