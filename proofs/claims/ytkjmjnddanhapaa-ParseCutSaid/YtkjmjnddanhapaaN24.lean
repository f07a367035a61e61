/-
  A program cut short: what reading the words ahead of the cut comes to. Plain lemmas; no condition beyond those that stand in each statement.
-/
import Derived.Test.YtkjmjnddanhapaaN23
namespace Go.Proofs.Ytkjmjnddanhapaa
open Go.RowKit

/-- All is read; or more is wanted; or it is too deep. -/
def EndR {α : Type} (e : Int) (V : α → α → Prop) (r : PR α) : Prop := (∃ x y, V x y ∧ r = .ok y []) ∨ r = .bad e 3 ∨ ∃ a, r = .bad a 6
def CutO {α : Type} (vs : List Tk) (e : Int) (V : α → α → Prop) (r1 r2 : PR α) : Prop := ∀ x us, r1 = .ok x us → (∃ y ws, V x y ∧ ws ≠ [] ∧ us = ws ++ vs ∧ r2 = .ok y ws) ∨ EndR e V r2
def CutJ (vs : List Tk) (e : Int) (n : Nat) {α : Type} (V : α → α → Prop) (P Q : List Tk → PR α) : Prop := (∀ b, b ≠ [] → (b ++ vs).length < n → CutO vs e V (P (b ++ vs)) (Q b)) ∧ (0 < n → EndR e V (Q []))
theorem EndR.bind {α β : Type} {e : Int} {V : α → α → Prop} {W : β → β → Prop} {r : PR α} {g : α → List Tk → PR β} (h : EndR e V r) (k : ∀ x y, V x y → r = .ok y [] → EndR e W (g y [])) : EndR e W (r.bind g) := by
  rcases h with ⟨x, y, hv, rfl⟩ | rfl | ⟨a, rfl⟩
  · exact k x y hv rfl
  · exact Or.inr (Or.inl rfl)
  · exact Or.inr (Or.inr ⟨a, rfl⟩)
def cutLg (vs : List Tk) (e1 e2 : Int) : Lg where
  e1 := e1
  e2 := e2
  Rt := Eq
  J := CutJ vs e2
  rt := fun h => by subst h; exact ⟨rfl, rfl, rfl⟩
  zero := ⟨fun b _ h => absurd h (Nat.not_lt_zero _), fun h => absurd h (Nat.not_lt_zero _)⟩
  congr := fun {n α V P P' Q Q'} h hP hQ => ⟨fun b hb hl => by
    rw [hP _ hl, hQ b (by rw [List.length_append] at hl; omega)]; exact h.1 b hb hl, fun hn => by rw [hQ [] hn]; exact h.2 hn⟩
  pure := fun {n α V x y} hv => ⟨fun b hb hl z us hz => by
    injection hz with h1 h2; subst h1; exact Or.inl ⟨y, b, hv, hb, h2.symm, rfl⟩, fun _ => Or.inl ⟨x, y, hv, rfl⟩⟩
  bind := fun {n m α β V W P Q f g} h hP hQ k => by
    refine ⟨fun b hb hl z us hz => ?_, fun hn => (h.2 hn).bind fun x y hv hy => ?_⟩
    · show _ ∨ EndR e2 W ((Q b).bind g)
      show (∃ y ws, W z y ∧ ws ≠ [] ∧ us = ws ++ vs ∧ (Q b).bind g = .ok y ws) ∨ _
      have hz : (P (b ++ vs)).bind f = .ok z us := hz
      have hb2 : b.length < n := by rw [List.length_append] at hl; omega
      cases hp : P (b ++ vs) with
      | bad a c => rw [hp] at hz; cases hz
      | ok x us' =>
        rw [hp] at hz
        have hs := hP _ hl
        rw [hp] at hs
        rcases h.1 b hb hl x us' hp with ⟨y, ws, hv, hw, rfl, hq⟩ | he
        · rw [hq]; exact (k x y hv).1 ws hw hs z us hz
        · refine Or.inr (he.bind fun x y hv hy => (k x y hv).2 ?_)
          have := hQ b hb2; rw [hy] at this; exact this
    · have := hQ [] hn; rw [hy] at this; exact (k x y hv).2 this
  fail := fun {n α V} => ⟨fun b hb hl z us hz => (by cases hz), fun _ => Or.inr (Or.inl rfl)⟩
  take := fun {n α V φ K M G H} h0 _ h h2 => by
    refine ⟨fun b hb hl => ?_, fun hn => ?_⟩
    · cases b with
      | nil => exact absurd rfl hb
      | cons t b =>
        show CutO vs e2 V (bif φ t.k t.t then K t (b ++ vs) else G (t :: b ++ vs)) (bif φ t.k t.t then M t b else H (t :: b))
        cases φ t.k t.t with
        | false => exact h2.1 _ hb hl
        | true =>
          have hl2 : (b ++ vs).length < n := by rw [List.cons_append, List.length_cons] at hl; omega
          cases b with
          | nil => exact fun x us hx => Or.inr ((h t t rfl).2 (by omega))
          | cons u b => exact (h t t rfl).1 _ (by simp) hl2
    · show EndR e2 V (bif φ 0 [] then M _ [] else H [])
      rw [h0]; exact h2.2 hn
  peek := fun {n α V φ K M G H} h0 _ h h2 => by
    refine ⟨fun b hb hl => ?_, fun hn => ?_⟩
    · cases b with
      | nil => exact absurd rfl hb
      | cons t b =>
        show CutO vs e2 V (bif φ t.k t.t then K (t :: b ++ vs) else G (t :: b ++ vs)) (bif φ t.k t.t then M (t :: b) else H (t :: b))
        cases φ t.k t.t with
        | false => exact h2.1 _ hb hl
        | true => exact h.1 _ hb hl
    · show EndR e2 V (bif φ 0 [] then M [] else H [])
      rw [h0]; exact h2.2 hn
theorem cut_expr (vs : List Tk) (e1 e2 : Int) : ∀ k n, CutJ vs e2 n VT (exprP e1 k) (exprP e2 k) := by
  intro k
  induction k with
  | zero => intro n; exact ⟨fun b _ _ z us hz => (by cases hz), fun _ => Or.inr (Or.inr ⟨_, rfl⟩)⟩
  | succ k ih => intro n; exact (cutLg vs e1 e2).exB' (expr_sh e1 k) (expr_sh e2 k) ih n
theorem cut_program {us vs : List Tk} {e1 e2 : Int} {p : SPr} {ws : List Tk} (h : programP e1 (us ++ vs) = .ok p ws) : (∃ q, programP e2 us = .ok q []) ∨ programP e2 us = .bad e2 3 ∨ ∃ a, programP e2 us = .bad a 6 := by
  have hd : ∀ e ts, (declP e (ts.length + 1) [] [] ts).Le ts.length := fun e ts => decl_le e _ _ _ ts
  have hj : CutJ vs e2 ((us ++ vs).length + 1) (fun _ _ : SPr => True) (programP e1) (programP e2) := by
    refine (cutLg vs e1 e2).bindLe (V := Eq) ((cutLg vs e1 e2).decl _) (hd e1) (hd e2) fun p q hpq => ?_
    refine (cutLg vs e1 e2).bindS (V := VT) (cut_expr vs e1 e2 201 _) (expr_sh e1 201) (expr_sh e2 201) fun x y hv => ?_
    refine ⟨fun b hb hl z us hz => ?_, fun _ => Or.inl ⟨⟨q.1, q.2, y⟩, _, trivial, rfl⟩⟩
    have : decide (b ++ vs = []) = false := by cases b with | nil => exact absurd rfl hb | cons t b => rfl
    have hz : (bif decide (b ++ vs = []) then PR.ok (⟨p.1, p.2, x⟩ : SPr) (b ++ vs) else failP e1 (b ++ vs)) = .ok z us := hz
    rw [this] at hz; cases hz
  have hend : ∀ {r : PR SPr}, EndR e2 (fun _ _ : SPr => True) r → (∃ q, r = .ok q []) ∨ r = .bad e2 3 ∨ ∃ a, r = .bad a 6 := by
    intro r hr
    rcases hr with ⟨_, y, _, h⟩ | h | h
    · exact Or.inl ⟨y, h⟩
    · exact Or.inr (Or.inl h)
    · exact Or.inr (Or.inr h)
  cases us with
  | nil => exact hend (hj.2 (by omega))
  | cons u us =>
    rcases hj.1 (u :: us) (by simp) (by omega) p ws h with ⟨y, w, _, hw, _, hq⟩ | he
    · exfalso
      have := program_end hq
      exact hw this
    · exact hend he
end Go.Proofs.Ytkjmjnddanhapaa
