/-
  What the reference of the layer scope computes: the same. Plain definitions and lemmas; no condition.
-/
import Derived.Test.YtkclfcdppnlkbaaS4
namespace Go.Proofs.Ytkclfcdppnlkbaa
open Go.RowKit

theorem decide_comm {α : Type} [DecidableEq α] (a b : α) : decide (a = b) = decide (b = a) := decide_eq_decide.2 eq_comm
theorem memB_cons (s x : ByteArray) (l : List ByteArray) : memB s (x :: l) = (decide (x = s) || memB s l) := rfl
theorem memB_append (s : ByteArray) (a b : List ByteArray) : memB s (a ++ b) = (memB s a || memB s b) := by simp [memB]
theorem memB_con (s : ByteArray) (l : List ByteArray) : memB s ([con_] ++ l) = (decide (s = con_) || memB s l) := by
  rw [memB_append, memB_cons, decide_comm]; simp [memB]
theorem memB_fold {u : ByteArray} (hu : ¬ u = (⟨#[95]⟩ : ByteArray)) : ∀ (l acc : List ByteArray), memB u (l.foldl accN acc) = (memB u acc || memB u l) := by
  intro l
  induction l with
  | nil => intro acc; simp [memB]
  | cons a l ih =>
    intro acc
    rw [List.foldl_cons, ih, memB_cons, accN]
    by_cases ha : a = (⟨#[95]⟩ : ByteArray)
    · subst ha
      have h1 : decide ((⟨#[95]⟩ : ByteArray) = u) = false := decide_eq_false fun e => hu e.symm
      rw [h1]; simp
    · simp only [ha, decide_false, Bool.not_false, if_true]
      rw [memB_append, memB_cons, Bool.or_assoc]
      simp [memB]
theorem twice_same {l : List ByteArray} {k : Nat} {u : ByteArray} : ((!decide (u = (⟨#[95]⟩ : ByteArray))) && memB u ((l.take k).foldl accN [])) = ((!decide (u = (⟨#[95]⟩ : ByteArray))) && memB u (l.take k)) := by
  by_cases hu : u = (⟨#[95]⟩ : ByteArray)
  · simp [hu]
  · rw [memB_fold hu]; simp [memB]

theorem armOk_no1 {k : Cn} {a : Am} (h : ¬ a.nm = k.nm) : armOk k a = false := by
  unfold armOk; rw [decide_eq_false fun e => h e.symm]; rfl
theorem armOk_no2 {k : Cn} {a : Am} (h : ¬ (a.vars.length : Int) = (k.fields.length : Int)) : armOk k a = false := by
  unfold armOk; rw [decide_eq_false (p := (k.fields.length : Int) = _) fun e => h e.symm]; simp
theorem armOk_go {k : Cn} {a : Am} (h : a.nm = k.nm) (h2 : (a.vars.length : Int) = (k.fields.length : Int)) : armOk k a = !twiceFrom [] a.vars := by
  unfold armOk; rw [decide_eq_true h.symm, decide_eq_true h2.symm]; rfl

/-- Which names are bound more in a kid. -/
def boundB (k : Int) (nm pm : ByteArray) (i : Nat) : List ByteArray :=
  if decide (k = 5) then [nm]
  else if decide (k = 7) then (if decide ((i : Int) = 1) then [nm] else [])
  else if decide (k = 8) then (if decide ((i : Int) = 0) then [nm, pm] else [nm])
  else []
def oneR (p : Pr) (t : Tm) (bound : List ByteArray) : Bool :=
  if (!decide (kidsN t.k = (t.kids.length : Int))) && (!decide (kidsN t.k = (-1))) then false
  else if decide (t.k = 14) then handlerOk p.effs t
  else if decide (t.k = 12) then matchOk p.dats t
  else if decide (0 < (t.arms.length : Int)) then false
  else if decide (t.k = 1) then (!decide (t.nm = (⟨#[95]⟩ : ByteArray))) && memB t.nm bound
  else if decide (t.k = 10) then (primN t.nm).2 && decide ((primN t.nm).1 = (t.kids.length : Int))
  else if decide (t.k = 11) then (findCon p.dats t.nm).isSome && decide (((cnE (findCon p.dats t.nm)).fields.length : Int) = (t.kids.length : Int))
  else if decide (t.k = 13) then (findEff p.effs t.nm).isSome
  else true
theorem oneR_eq (p : Pr) (t : Tm) (bound : List ByteArray) : oneR p t bound = oneB p t bound := by
  unfold oneR oneB kidsN
  by_cases h14 : t.k = 14
  · simp [h14]; by_cases hk : (t.kids.length : Int) = 1
    · simp [show t.kids.length = 1 by omega]
    · simp [show ¬ t.kids.length = 1 by omega, show ¬ (1 : Int) = (t.kids.length : Int) by omega]
      first | (intro e; exact absurd e hk) | (intro _ e; exact absurd e hk)
  by_cases h12 : t.k = 12
  · simp [h12]; by_cases hk : (t.kids.length : Int) = 1
    · simp [show t.kids.length = 1 by omega]
    · simp [show ¬ t.kids.length = 1 by omega, show ¬ (1 : Int) = (t.kids.length : Int) by omega]
      first | (intro e; exact absurd e hk) | (intro _ e; exact absurd e hk)
  by_cases ha : 0 < (t.arms.length : Int)
  · simp [h14, h12, show 0 < t.arms.length by omega]
  have ha' : ¬ 0 < t.arms.length := by omega
  by_cases h1 : t.k = 1
  · simp [h1, ha']; by_cases hk : t.kids.length = 0
    · simp [List.eq_nil_of_length_eq_zero hk]
    · have : ¬ t.kids = [] := fun e => hk (by rw [e]; rfl)
      simp [this, show ¬ (0 : Int) = (t.kids.length : Int) by omega]
  by_cases h2 : t.k = 2 ∨ t.k = 3 ∨ t.k = 4
  · rcases h2 with h | h | h <;> (simp [h, ha']; first | omega | (by_cases hk : t.kids = [] <;> simp [hk]; all_goals (have : t.kids.length ≠ 0 := fun e => hk (List.eq_nil_of_length_eq_zero e)); omega))
  by_cases h5 : t.k = 5
  · simp [h5, ha']; omega
  by_cases h6 : t.k = 6 ∨ t.k = 7 ∨ t.k = 8
  · rcases h6 with h | h | h <;> (simp [h, ha']; omega)
  by_cases h9 : t.k = 9
  · simp [h9, ha']; omega
  by_cases h10 : t.k = 10
  · simp [h10, ha', eq_comm]
  by_cases h11 : t.k = 11
  · simp [h11, ha', eq_comm]
  by_cases h13 : t.k = 13
  · simp [h13, ha']; by_cases hk : (t.kids.length : Int) = 1
    · simp [show t.kids.length = 1 by omega]
    · simp [show ¬ t.kids.length = 1 by omega, show ¬ (1 : Int) = (t.kids.length : Int) by omega]
      first | (intro e; exact absurd e hk) | (intro _ e; exact absurd e hk)
  have h2' : ¬ t.k = 2 ∧ ¬ t.k = 3 ∧ ¬ t.k = 4 := ⟨fun e => h2 (.inl e), fun e => h2 (.inr (.inl e)), fun e => h2 (.inr (.inr e))⟩
  have h6' : ¬ t.k = 6 ∧ ¬ t.k = 7 ∧ ¬ t.k = 8 := ⟨fun e => h6 (.inl e), fun e => h6 (.inr (.inl e)), fun e => h6 (.inr (.inr e))⟩
  simp [h14, h12, ha', h1, h2', h5, h6', h9, h10, h11, h13]
theorem kids_two {p : Pr} {t : Tm} {bound : List ByteArray} (h : oneB p t bound = true) (h8 : t.k = 8) : t.kids.length = 2 := by
  unfold oneB at h
  simp [h8] at h
  omega
theorem bound_inside {p : Pr} {t : Tm} {bound : List ByteArray} (h : oneB p t bound = true) {i : Nat} (hi : i < t.kids.length) : bound ++ boundB t.k t.nm t.pm i = insideB t.k t.nm t.pm i bound := by
  unfold boundB insideB
  by_cases h5 : t.k = 5
  · simp [h5]
  by_cases h7 : t.k = 7
  · simp [h7]; split <;> simp
  by_cases h8 : t.k = 8
  · have := kids_two h h8
    have : i = 0 ∨ i = 1 := by omega
    rcases this with rfl | rfl <;> simp [h8]
  · simp [h5, h7, h8]
theorem boundB_len (k : Int) (nm pm : ByteArray) (i : Nat) : (boundB k nm pm i).length ≤ 2 := by
  unfold boundB; repeat' split
  all_goals simp
def okE (r : Option Int) : Bool := match r with | some _ => false | none => true
def termF (r : Option Int) : Value := .tuple #[.int .i64 (atE r), .bool (okE r)]
theorem okE_er {r : Option Int} : okE r = decide (erE r = 0) := by cases r <;> rfl
def declR (p : Pr) : Int := if decide (65534 < (p.effs.length : Int)) then 6 else if effsB p.dats [con_] [] p.effs && datsB p.dats [con_] [] p.dats then 0 else 4
theorem check_same (p : Pr) : checkP p = if declR p = 0 then (atE (termS p [] p.body), erE (termS p [] p.body)) else (0, declR p) := by
  unfold checkP declR
  by_cases h : 65534 < (p.effs.length : Int)
  · simp [h]
  · simp only [h, decide_false, Bool.false_eq_true, if_false]
    cases effsB p.dats [con_] [] p.effs <;> cases datsB p.dats [con_] [] p.dats <;> simp

section
variable {T : TypeId} {w w' : World} {u v v' : Value} {ss ys : List ByteArray}
theorem AppR.apart (hA : AppR w w' v v') (hu : OwnS T w u ss) (ap : Apart u v) : OwnS T w' u ss :=
  hA.own hu (by
    cases h : u.ownBlock with
    | none => exact .inl rfl
    | some g => exact .inr fun e => ap g h e.symm)
theorem Apart.app (ap : Apart v u) (hA : AppR w w' v v') (hu : OwnS T w u ss) : Apart v' u := by
  intro g hv hg
  rcases hA.blk with h1 | ⟨g', h1, h2⟩
  · exact ap g (by rw [← h1]; exact hv) hg
  · rw [h1] at hv; cases hv
    have := Own.lt hu hg; omega
end
end Go.Proofs.Ytkclfcdppnlkbaa
