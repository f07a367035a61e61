/-
  The same words elsewhere: the same program, or wrong with the same word. Plain lemmas; no condition beyond those that stand in each statement.
-/
import Derived.Test.YtkjmjnddanhapaaN23
namespace Go.Proofs.Ytkjmjnddanhapaa
open Go.RowKit

/-- Word for word. -/
inductive Al (R : Tk → Tk → Prop) : List Tk → List Tk → Prop
  | nil : Al R [] []
  | cons {t u : Tk} {a b : List Tk} (h : R t u) (k : Al R a b) : Al R (t :: a) (u :: b)
theorem Al.self {R : Tk → Tk → Prop} (h : ∀ t, R t t) : ∀ l, Al R l l
  | [] => .nil
  | t :: l => .cons (h t) (Al.self h l)
def PsR (R : Tk → Tk → Prop) (e1 e2 p q : Int) : Prop := (p = e1 ∧ q = e2) ∨ ∃ t u, R t u ∧ p = t.a ∧ q = u.a
def WdO (R : Tk → Tk → Prop) (e1 e2 : Int) {α : Type} (V : α → α → Prop) (r1 r2 : PR α) : Prop :=
  (∃ x y a b, V x y ∧ Al R a b ∧ r1 = .ok x a ∧ r2 = .ok y b) ∨ ∃ p q c, r1 = .bad p c ∧ r2 = .bad q c ∧ (c = 3 ∨ c = 6) ∧ PsR R e1 e2 p q
theorem nx_al {R : Tk → Tk → Prop} {a b : List Tk} (h : Al R a b) (e1 e2 : Int) : PsR R e1 e2 (nx e1 a).a (nx e2 b).a := by
  cases h with
  | nil => exact Or.inl ⟨rfl, rfl⟩
  | cons h k => exact Or.inr ⟨_, _, h, rfl, rfl⟩
def wordsLg (R : Tk → Tk → Prop) (hR : ∀ {t u : Tk}, R t u → t.k = u.k ∧ t.t = u.t ∧ t.n = u.n) (e1 e2 : Int) : Lg where
  e1 := e1
  e2 := e2
  Rt := R
  J := fun n {_} V P Q => ∀ a b, Al R a b → a.length < n → b.length < n → WdO R e1 e2 V (P a) (Q b)
  rt := hR
  zero := fun a b _ h => absurd h (Nat.not_lt_zero _)
  congr := fun h hP hQ a b hab h1 h2 => by rw [hP a h1, hQ b h2]; exact h a b hab h1 h2
  pure := fun hv a b hab _ _ => Or.inl ⟨_, _, a, b, hv, hab, rfl, rfl⟩
  bind := fun {n m α β V W P Q f g} h hP hQ k a b hab h1 h2 => by
    have sP := hP a h1; have sQ := hQ b h2
    show WdO R e1 e2 W ((P a).bind f) ((Q b).bind g)
    rcases h a b hab h1 h2 with ⟨x, y, a', b', hv, hab', e1, e2⟩ | ⟨p, q, c, e1, e2, hc⟩
    · rw [e1] at sP ⊢; rw [e2] at sQ ⊢; exact k x y hv a' b' hab' sP sQ
    · rw [e1, e2]; exact Or.inr ⟨p, q, c, rfl, rfl, hc⟩
  fail := fun a b hab _ _ => Or.inr ⟨_, _, 3, rfl, rfl, Or.inl rfl, nx_al hab e1 e2⟩
  take := fun {n α V φ K M G H} h0 _ h h2 a b hab l1 l2 => by
    cases hab with
    | nil =>
      show WdO R e1 e2 V (bif φ 0 [] then _ else G []) (bif φ 0 [] then _ else H [])
      rw [h0]; exact h2 _ _ .nil l1 l2
    | @cons t u a b ht hab =>
      show WdO R e1 e2 V (bif φ t.k t.t then K t a else G (t :: a)) (bif φ u.k u.t then M u b else H (u :: b))
      rw [← (hR ht).1, ← (hR ht).2.1]
      cases φ t.k t.t with
      | true => exact h t u ht _ _ hab (by simp only [List.length_cons] at l1; omega) (by simp only [List.length_cons] at l2; omega)
      | false => exact h2 _ _ (.cons ht hab) l1 l2
  peek := fun {n α V φ K M G H} h0 _ h h2 a b hab l1 l2 => by
    cases hab with
    | nil =>
      show WdO R e1 e2 V (bif φ 0 [] then _ else G []) (bif φ 0 [] then _ else H [])
      rw [h0]; exact h2 _ _ .nil l1 l2
    | @cons t u a b ht hab =>
      show WdO R e1 e2 V (bif φ t.k t.t then K (t :: a) else G (t :: a)) (bif φ u.k u.t then M (u :: b) else H (u :: b))
      rw [← (hR ht).1, ← (hR ht).2.1]
      cases φ t.k t.t with
      | true => exact h _ _ (.cons ht hab) l1 l2
      | false => exact h2 _ _ (.cons ht hab) l1 l2
section
variable {R : Tk → Tk → Prop} (hR : ∀ {t u : Tk}, R t u → t.k = u.k ∧ t.t = u.t ∧ t.n = u.n) (e1 e2 : Int)
include hR
theorem words_expr : ∀ k n, (wordsLg R hR e1 e2).J n VT (exprP e1 k) (exprP e2 k) := by
  intro k
  induction k with
  | zero => intro n a b hab _ _; exact Or.inr ⟨_, _, 6, rfl, rfl, Or.inr rfl, nx_al hab e1 e2⟩
  | succ k ih => intro n; exact (wordsLg R hR e1 e2).exB' (expr_sh e1 k) (expr_sh e2 k) ih n
def VPr (p q : SPr) : Prop := p.effs = q.effs ∧ p.dats = q.dats ∧ VT p.body q.body
theorem words_program {a b : List Tk} (h : Al R a b) : WdO R e1 e2 VPr (programP e1 a) (programP e2 b) := by
  have hd : ∀ e ts, (declP e (ts.length + 1) [] [] ts).Le ts.length := fun e ts => decl_le e _ _ _ ts
  refine (wordsLg R hR e1 e2).bindLe (n := a.length + b.length + 1) (V := Eq) ((wordsLg R hR e1 e2).decl _) (hd e1) (hd e2) (fun p q hpq => ?_) a b h (by omega) (by omega)
  refine (wordsLg R hR e1 e2).bindS (V := VT) (words_expr hR e1 e2 201 _) (expr_sh e1 201) (expr_sh e2 201) fun x y hv => ?_
  intro a b hab _ _
  cases hab with
  | nil => exact Or.inl ⟨⟨p.1, p.2, x⟩, ⟨q.1, q.2, y⟩, [], [], ⟨by rw [hpq], by rw [hpq], hv⟩, .nil, rfl, rfl⟩
  | cons ht hab => exact Or.inr ⟨_, _, 3, rfl, rfl, Or.inl rfl, nx_al (.cons ht hab) e1 e2⟩
end
theorem program_code {e : Int} {ts : List Tk} {a c : Int} (h : programP e ts = .bad a c) : c = 3 ∨ c = 6 := by
  rcases words_program (R := Eq) (fun h => by subst h; exact ⟨rfl, rfl, rfl⟩) e e (Al.self (fun _ => rfl) ts) with ⟨x, y, a', b', _, _, h1, _⟩ | ⟨p, q, c', h1, _, hc, _⟩
  · rw [h1] at h; cases h
  · rw [h1] at h; injection h with _ h3; rw [← h3]; exact hc
end Go.Proofs.Ytkjmjnddanhapaa
