/-
  The walk's own small calculus: known slots as a list, one lemma for each kind of operation. Plain lemmas over any program; no condition beyond those that stand in each statement.
-/
import Derived.Test.YtkjmjnddanhapaaRows
import Derived.WalkKit
import Derived.WalkSpells
import Derived.WalkLawsBesides
namespace Go.Proofs.Ytkjmjnddanhapaa
open Go.RowKit

theorem beqF {a b : Nat} (h : ¬ a = b) : Nat.beq a b = false := by
  cases e : Nat.beq a b
  · rfl
  · exact absurd (Nat.eq_of_beq_eq_true e) h
theorem beqT {a b : Nat} (h : a = b) : Nat.beq a b = true := by subst h; exact Nat.beq_refl a
theorem neB {a b : Nat} (h : Nat.beq a b = false) : ¬ a = b := fun e => by rw [beqT e] at h; cases h

/-- The first entry of a slot. -/
def look : List (Nat × Value) → Nat → Option Value
  | [], _ => none
  | p :: r, t => bif Nat.beq p.1 t then some p.2 else look r t

/-- An operand's value, as far as the known slots give it. -/
def ev (L : List (Nat × Value)) : Operand → Option Value
  | .tmp t => look L t
  | .const v => some v
  | .global g => some (.pointer (some ⟨g, 0, none⟩))
  | .func f => some (.func (.func f) #[] #[])

def evs (L : List (Nat × Value)) : List Operand → Option (List Value)
  | [] => some []
  | x :: r => match ev L x, evs L r with
    | some v, some vs => some (v :: vs)
    | _, _ => none

structure Is (N : Nat) (ds : List Deferred) (L : List (Nat × Value)) (a : Act) : Prop where
  size : a.tmps.size = N
  defers : a.defers = ds
  get : ∀ t v, look L t = some v → a.tmps.getD t undef = v

/-- G holds of every frame with these known slots. -/
def At (N : Nat) (ds : List Deferred) (L : List (Nat × Value)) (G : Act → World → Prop) (w : World) : Prop := ∀ a, Is N ds L a → G a w

section
variable {P : Program} {N : Nat} {ds : List Deferred} {L : List (Nat × Value)} {a : Act} {w w' : World} {ops : Array Oper} {Q : Exit → Act → World → Prop} {rest : List Oper}

theorem Is.ev (h : Is N ds L a) {x : Operand} {v : Value} (hx : ev L x = some v) : a.eval x = v := by
  cases x with
  | tmp t => exact h.get t v hx
  | const c => simpa [Act.eval, Ytkjmjnddanhapaa.ev] using hx
  | global g => simpa [Act.eval, Ytkjmjnddanhapaa.ev] using hx
  | func f => simpa [Act.eval, Ytkjmjnddanhapaa.ev] using hx

theorem Is.evs (h : Is N ds L a) : ∀ {l : List Operand} {vs : List Value}, Ytkjmjnddanhapaa.evs L l = some vs → l.map a.eval = vs := by
  intro l
  induction l with
  | nil => intro vs hv; simpa [Ytkjmjnddanhapaa.evs] using hv
  | cons x r ih =>
    intro vs hv
    unfold Ytkjmjnddanhapaa.evs at hv
    split at hv
    · rename_i v vs' hx hr
      obtain rfl := Option.some.inj hv
      simp [h.ev hx, ih hr]
    · cases hv

theorem Is.put (h : Is N ds L a) {d : Nat} {v : Value} (hd : Nat.blt d N = true) : Is N ds ((d, v) :: L) (a.put (some d) v) := by
  have hd' : d < N := by simpa [Nat.blt_eq] using hd
  refine ⟨by simp [Act.put, h.size], by simp [Act.put, h.defers], fun t u hu => ?_⟩
  simp only [look] at hu
  by_cases e : d = t
  · subst e
    simp at hu
    subst hu
    simp [Act.put, h.size, hd']
  · have : Nat.beq d t = false := beqF e
    rw [this] at hu
    have := h.get t u hu
    simpa [Act.put, Array.getElem?_setIfInBounds_ne e] using this

/-- Entries of slots that nobody asks for any more may go; all that is kept must be there. -/
theorem At.less {G : Act → World → Prop} (L' : List (Nat × Value)) (hL : ∀ p ∈ L', look L p.1 = some p.2) (h : At N ds L' G w) : At N ds L G w := by
  intro a ha
  refine h a ⟨ha.size, ha.defers, fun t v hv => ?_⟩
  have key : ∀ M : List (Nat × Value), look M t = some v → (t, v) ∈ M := by
    intro M
    induction M with
    | nil => intro h; simp [look] at h
    | cons p r ih =>
      intro h
      simp only [look] at h
      by_cases e : p.1 = t
      · have : Nat.beq p.1 t = true := beqT e
        rw [this] at h
        simp at h
        cases p; simp_all
      · have : Nat.beq p.1 t = false := beqF e
        rw [this] at h
        exact List.mem_cons_of_mem _ (ih h)
  exact ha.get t v (hL (t, v) (key L' hv))

def Sub (L L' : List (Nat × Value)) : Prop := ∀ p ∈ L', look L p.1 = some p.2
theorem Sub.nil : Sub L [] := fun _ h => by cases h
theorem Sub.cons {d : Nat} {v : Value} {L' : List (Nat × Value)} (h : look L d = some v) (k : Sub L L') : Sub L ((d, v) :: L') := fun p hp => by
  cases List.mem_cons.1 hp with
  | inl e => subst e; exact h
  | inr e => exact k p e
theorem Is.sub {L' : List (Nat × Value)} (h : Is N ds L a) (hL : Sub L L') : Is N ds L' a := by
  have := At.less (G := fun a _ => Is N ds L' a) (w := (default : World)) (N := N) (ds := ds) (L := L) L' hL (fun a h => h)
  exact this a h
theorem At.sub {G : Act → World → Prop} {L' : List (Nat × Value)} (hL : Sub L L') (h : At N ds L' G w) : At N ds L G w := At.less L' hL h

/-- A known slot spelt otherwise. -/
theorem At.set {G : Act → World → Prop} {d : Nat} {v u : Value} (hv : look L d = some v) (e : v = u) (h : At N ds ((d, u) :: L) G w) : At N ds L G w := by
  intro a ha
  subst e
  refine h a ⟨ha.size, ha.defers, fun t x hx => ?_⟩
  simp only [look] at hx
  by_cases q : d = t
  · subst q; simp at hx; subst hx; exact ha.get d v hv
  · have : Nat.beq d t = false := beqF q
    rw [this] at hx; exact ha.get t x hx

theorem At.cases {G : Act → World → Prop} (b : Bool) (ht : b = true → At N ds L G w) (hf : b = false → At N ds L G w) : At N ds L G w := by
  cases b
  · exact hf rfl
  · exact ht rfl

-- ------------------------------------------------------------------ code
theorem At.enter {f : FuncId} {fn : Func} {c : Code} {args : List Value} {R : Ending → World → Prop} (hf : P.funcs[f]? = some fn) (hb : fn.body = some c)
    (hn : fn.ntmps = N) (hl : args.length ≤ N) (L : List (Nat × Value)) (hL : ∀ p ∈ L, args[p.1]? = some p.2) (h : At N [] L (c.wp P (bodyPost P fn R)) w) :
    Calls P f args.toArray w R := by
  refine calls_of_wp hf hb (h _ ⟨?_, rfl, fun t v hv => ?_⟩)
  · simp [hn]; omega
  · have key : ∀ M : List (Nat × Value), (∀ p ∈ M, args[p.1]? = some p.2) → look M t = some v → args[t]? = some v := by
      intro M
      induction M with
      | nil => intro _ h; simp [look] at h
      | cons p r ih =>
        intro hM h
        simp only [look] at h
        by_cases e : p.1 = t
        · have : Nat.beq p.1 t = true := beqT e
          rw [this] at h; simp at h
          have := hM p (by simp)
          rw [e, h] at this; exact this
        · have : Nat.beq p.1 t = false := beqF e
          rw [this] at h
          exact ih (fun p hp => hM p (List.mem_cons_of_mem _ hp)) h
    have h1 := key L hL hv
    have hlt : t < args.length := (List.getElem?_eq_some_iff.1 h1).1
    have h2 := (List.getElem?_eq_some_iff.1 h1).2
    simp [Array.getElem?_append, hlt, h2]

theorem At.seq {x y : Code} (h : At N ds L (x.wp P (Exit.then (y.wp P Q) Q)) w) : At N ds L ((Code.seq x y).wp P Q) w := fun a ha => wp_seq (h a ha)
theorem At.skip (h : At N ds L (Q .normal) w) : At N ds L (Code.skip.wp P Q) w := fun a ha => wp_skip (h a ha)
theorem At.exit {id : Nat} (h : At N ds L (Q (.exit id)) w) : At N ds L ((Code.exit id).wp P Q) w := fun a ha => wp_exit (h a ha)
theorem At.retc (h : At N ds L (Q .ret) w) : At N ds L (Code.ret.wp P Q) w := fun a ha => wp_ret (h a ha)
theorem At.block {id : Nat} {c : Code} (h : At N ds L (c.wp P (Exit.inBlock id Q)) w) : At N ds L ((Code.block id c).wp P Q) w := fun a ha => wp_block (h a ha)
theorem At.condT {c : Operand} {x y : Code} (hc : ev L c = some (.bool true)) (h : At N ds L (x.wp P Q) w) : At N ds L ((Code.cond c x y).wp P Q) w :=
  fun a ha => wp_cond_true (ha.ev hc) (h a ha)
theorem At.condF {c : Operand} {x y : Code} (hc : ev L c = some (.bool false)) (h : At N ds L (y.wp P Q) w) : At N ds L ((Code.cond c x y).wp P Q) w :=
  fun a ha => wp_cond_false (ha.ev hc) (h a ha)
theorem At.cond {c : Operand} {x y : Code} {b : Bool} (hc : ev L c = some (.bool b)) (ht : b = true → At N ds L (x.wp P Q) w) (hf : b = false → At N ds L (y.wp P Q) w) :
    At N ds L ((Code.cond c x y).wp P Q) w :=
  fun a ha => wp_cond_split (ha.ev hc) (fun e => ht e a ha) (fun e => hf e a ha)
theorem At.region {id : Nat} {l : List Oper} (h : At N ds L (wpList P l.toArray Q l) w) : At N ds L ((Code.region id l.toArray false).wp P Q) w := fun a ha => wp_region_lit (h a ha)
theorem At.thenN {K : Act → World → Prop} (h : At N ds L K w) : At N ds L (Exit.then K Q .normal) w := h
theorem At.thenE {K : Act → World → Prop} {id : Nat} (h : At N ds L (Q (.exit id)) w) : At N ds L (Exit.then K Q (.exit id)) w := h
theorem At.thenR {K : Act → World → Prop} (h : At N ds L (Q .ret) w) : At N ds L (Exit.then K Q .ret) w := h
theorem At.inN {id : Nat} (h : At N ds L (Q .normal) w) : At N ds L (Exit.inBlock id Q .normal) w := h
theorem At.inR {id : Nat} (h : At N ds L (Q .ret) w) : At N ds L (Exit.inBlock id Q .ret) w := h
theorem At.inE {id : Nat} (h : At N ds L (Q .normal) w) : At N ds L (Exit.inBlock id Q (.exit id)) w := fun a ha => by
  simp only [Exit.inBlock, if_true]; exact h a ha
theorem At.ops0 (h : At N ds L (Q .normal) w) : At N ds L (wpList P ops Q []) w := h

/-- A loop: I is what is known of the slots and the world at each round's head. -/
theorem At.loop {c : Code} (ι : Type) (T : ι → List (Nat × Value)) (I : ι → World → Prop) (μ : ι → Nat) (i0 : ι) (hs : Sub L (T i0)) (h0 : I i0 w)
    (round : ∀ i w, I i w → At N ds (T i) (c.wp P (Exit.then (fun a' w' => ∃ i', Is N ds (T i') a' ∧ I i' w' ∧ μ i' < μ i) Q)) w) :
    At N ds L ((Code.loop c).wp P Q) w := by
  intro a ha b k cs
  have key : ∀ n i, μ i = n → ∀ a w, Is N ds (T i) a → I i w →
      ∃ e a' w', Q e a' w' ∧ Arrives P (lone (b.at a (.code c :: .inLoop c :: k)) cs w) b k cs e a' w' := by
    intro n
    induction n using Nat.strongRecOn with
    | _ n ih =>
      intro i hn a w hI hw
      obtain ⟨e, a₁, w₁, hq, harr⟩ := round i w hw a hI b (.inLoop c :: k) cs
      cases e with
      | normal =>
        obtain ⟨i', h1, h2, hlt⟩ := hq
        obtain ⟨e₂, a₂, w₂, hq₂, harr₂⟩ := ih (μ i') (hn ▸ hlt) i' rfl a₁ w₁ h1 h2
        exact ⟨e₂, a₂, w₂, hq₂, .of_steps (Steps.trans harr (.one step_inLoop)) harr₂⟩
      | exit id => exact ⟨_, a₁, w₁, hq, .pass (x := .inLoop c) rfl (fun _ _ => .inl (by simp)) harr⟩
      | goto l => exact ⟨_, a₁, w₁, hq, .pass (x := .inLoop c) rfl (fun _ _ => .inl (by simp)) harr⟩
      | ret => exact ⟨_, a₁, w₁, hq, .pass (x := .inLoop c) rfl (fun _ _ => .inl (by simp)) harr⟩
      | panic ch => exact ⟨_, a₁, w₁, hq, .pass (x := .inLoop c) rfl (fun _ _ => .inl (by simp)) harr⟩
      | outgrown => exact ⟨_, a₁, w₁, hq, .pass (x := .inLoop c) rfl (fun _ _ => .inl (by simp)) harr⟩
  obtain ⟨e, a', w', hq, harr⟩ := key _ i0 rfl a w (ha.sub hs) h0
  exact ⟨e, a', w', hq, .of_steps (.one step_loop) harr⟩
end
end Go.Proofs.Ytkjmjnddanhapaa
