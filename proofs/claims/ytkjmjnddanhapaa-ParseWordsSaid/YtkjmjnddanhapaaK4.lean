/-
  The walk's own small calculus: statements whose order is open. Plain lemmas over any program; no condition beyond those that stand in each statement.
-/
import Derived.Test.YtkjmjnddanhapaaK3
import Derived.Orders
namespace Go.Proofs.Ytkjmjnddanhapaa
open Go.RowKit

section
variable {P : Program} {N : Nat} {ds : List Deferred} {ops : Array Oper} {Q : Exit → Act → World → Prop}

/-- Q, with something else where it goes on. -/
def onNormal (K : Act → World → Prop) (Q : Exit → Act → World → Prop) : Exit → Act → World → Prop
  | .normal, a, w => K a w
  | e, a, w => Q e a w

theorem wp_of_onNormal {o : Oper} {a : Act} {w : World} {K K' : Act → World → Prop} (hK : ∀ a w, K a w → K' a w) (h : o.wp P a w K (onNormal K Q)) : o.wp P a w K' Q := by
  unfold Oper.wp at *
  generalize (execOp a.eval o).run P w = r at *
  cases r with
  | ok n w' =>
    cases n <;> simp only [Oper.upon] at h ⊢ <;>
      first
        | exact hK _ _ h
        | exact Calls.mono h (fun e w'' he => by cases e <;> first | exact hK _ _ he | exact he | (obtain ⟨a0, w0, h0⟩ := he; exact ⟨a0, w0, h0⟩))
        | exact Rows.mono h (fun _ _ he => hK _ _ he)
        | exact h
  | halt x w' => cases x <;> simp only [Oper.upon] at h ⊢ <;> exact h

theorem wpOp_of_list {i : Nat} {o : Oper} (ho : ops[i]? = some o) {a : Act} {w : World} {K : Act → World → Prop} (h : wpList P ops (onNormal K Q) [o] a w) : wpOp P ops Q i K a w := by
  unfold wpOp
  rw [ho]
  simp only
  unfold wpList at h
  by_cases hw : Region.wanted o (yielded ops a.tmps) = true
  · rw [if_pos hw] at h ⊢
    rcases h with h | ⟨h1, a0, w0, h2⟩
    · exact .inl (wp_of_onNormal (fun a w h => h) h)
    · exact .inr ⟨h1, a0, w0, h2⟩
  · rw [if_neg hw] at h ⊢
    exact h

/-- One slot more, if there is one. -/
def dcons (d : Option Nat) (v : Value) (L : List (Nat × Value)) : List (Nat × Value) := match d with | some d => (d, v) :: L | none => L

/-- The operations ahead of which an operation's own facts stand. -/
def predsOf (o : Oper) : List Nat := o.after.toList.filterMap fun e => if Region.binds .any e then some e.on else none
/-- What is known of the slots that those wrote. -/
def predSlots (l : List Oper) (vals : Nat → Value) : List Nat → List (Nat × Value)
  | [] => []
  | j :: r => match (l[j]?).bind (·.dst) with | some d => (d, vals j) :: predSlots l vals r | none => predSlots l vals r

/-- Each operation by itself, wherever it comes. -/
def Steps1 (P : Program) (N : Nat) (ds : List Deferred) (l : List Oper) (Q : Exit → Act → World → Prop) (L0 : List (Nat × Value)) (w0 : World) (R : World → World → Prop) (F : Nat → Value → World → Prop) : Nat → List Oper → Prop
  | _, [] => True
  | i, o :: r => (∀ (vals : Nat → Value) (Lx : List (Nat × Value)) (w : World), R w0 w → (∀ j ∈ predsOf o, F j (vals j) w) →
      At N ds (predSlots l vals (predsOf o) ++ (L0 ++ Lx)) (wpList P l.toArray (onNormal (fun a' w' => ∃ v, Is N ds (dcons o.dst v (predSlots l vals (predsOf o) ++ (L0 ++ Lx))) a' ∧ R w w' ∧ F i v w') Q) [o]) w) ∧
    Steps1 P N ds l Q L0 w0 R F (i + 1) r

theorem Steps1.get {l : List Oper} {L0 : List (Nat × Value)} {w0 : World} {R : World → World → Prop} {F : Nat → Value → World → Prop} : ∀ {r : List Oper} {i : Nat}, Steps1 P N ds l Q L0 w0 R F i r → ∀ {j : Nat} {o : Oper}, r[j]? = some o →
    ∀ (vals : Nat → Value) (Lx : List (Nat × Value)) (w : World), R w0 w → (∀ k ∈ predsOf o, F k (vals k) w) →
      At N ds (predSlots l vals (predsOf o) ++ (L0 ++ Lx)) (wpList P l.toArray (onNormal (fun a' w' => ∃ v, Is N ds (dcons o.dst v (predSlots l vals (predsOf o) ++ (L0 ++ Lx))) a' ∧ R w w' ∧ F (i + j) v w') Q) [o]) w := by
  intro r
  induction r with
  | nil => intro i _ j o h; simp at h
  | cons o r ih =>
    intro i h j o' ho
    cases j with
    | zero => simp at ho; subst ho; exact h.1
    | succ j =>
      have := ih h.2 (j := j) (o := o') (by simpa using ho)
      rw [show i + (j + 1) = i + 1 + j from by omega]
      exact this

theorem look_append (A B : List (Nat × Value)) (t : Nat) : look (A ++ B) t = match look A t with | some v => some v | none => look B t := by
  induction A with
  | nil => rfl
  | cons p r ih =>
    simp only [List.cons_append, look]
    cases Nat.beq p.1 t <;> simp [ih]

/-- A frame whole. -/
def whole (a : Act) : List (Nat × Value) := (List.range a.tmps.size).map fun t => (t, a.tmps.getD t undef)
theorem look_map_range (f : Nat → Value) (t : Nat) : ∀ (l : List Nat), t ∈ l → look (l.map fun t => (t, f t)) t = some (f t) := by
  intro l
  induction l with
  | nil => intro h; cases h
  | cons x r ih =>
    intro h
    simp only [List.map_cons, look]
    by_cases e : x = t
    · rw [beqT e, e]; rfl
    · rw [beqF e]
      exact ih (by rcases List.mem_cons.1 h with h | h; exact absurd h.symm e; exact h)
theorem look_map_some (f : Nat → Value) (t : Nat) (v : Value) : ∀ (l : List Nat), look (l.map fun t => (t, f t)) t = some v → f t = v := by
  intro l
  induction l with
  | nil => intro h; simp [look] at h
  | cons x r ih =>
    intro h
    simp only [List.map_cons, look] at h
    by_cases e : x = t
    · rw [beqT e, e] at h; simpa using h
    · rw [beqF e] at h; exact ih h
theorem look_whole (a : Act) {t : Nat} (h : t < a.tmps.size) : look (whole a) t = some (a.tmps.getD t undef) := look_map_range _ t _ (by simpa using h)
theorem is_whole (a : Act) : Is a.tmps.size a.defers (whole a) a := ⟨rfl, rfl, fun t v h => look_map_some _ t v _ h⟩

/-- Every edge goes back, and every written slot is there and is written once; none is among the known ones. -/
def drawOk (N : Nat) (l : List Oper) (L0 : List (Nat × Value)) : Bool :=
  (List.range l.length).all fun i => match l[i]? with
    | some o => (predsOf o).all (fun j => Nat.blt j i) && (match o.dst with
      | some d => Nat.blt d N && (L0.all fun p => !Nat.beq p.1 d) && ((List.range l.length).all fun j => Nat.beq i j || match (l[j]?).bind (·.dst) with | some e => !Nat.beq e d | none => true)
      | none => true)
    | none => true

theorem drawOk.at {l : List Oper} {L0 : List (Nat × Value)} (h : drawOk N l L0 = true) {i : Nat} {o : Oper} (ho : l[i]? = some o) :
    (∀ j ∈ predsOf o, j < i) ∧ ∀ d, o.dst = some d → d < N ∧ look L0 d = none ∧ ∀ j o', l[j]? = some o' → j ≠ i → o'.dst ≠ some d := by
  have hi : i < l.length := (List.getElem?_eq_some_iff.1 ho).1
  have h1 := List.all_eq_true.1 h i (by simpa using hi)
  rw [ho] at h1
  simp only [Bool.and_eq_true] at h1
  obtain ⟨h2, h3⟩ := h1
  refine ⟨fun j hj => by have := List.all_eq_true.1 h2 j hj; simpa [Nat.blt_eq] using this, fun d hd => ?_⟩
  rw [hd] at h3
  simp only [Bool.and_eq_true] at h3
  obtain ⟨⟨h4, h5⟩, h6⟩ := h3
  refine ⟨by simpa [Nat.blt_eq] using h4, ?_, fun j o' hj hne he => ?_⟩
  · clear h6 h4 h2 h hd
    induction L0 with
    | nil => rfl
    | cons p r ih =>
      simp only [List.all_cons, Bool.and_eq_true, Bool.not_eq_true'] at h5
      simp only [look, h5.1]
      exact ih h5.2
  · have hjl : j < l.length := (List.getElem?_eq_some_iff.1 hj).1
    have h7 := List.all_eq_true.1 h6 j (by simpa using hjl)
    rw [hj] at h7
    simp only [Option.bind_some, he, Bool.or_eq_true] at h7
    rcases h7 with h7 | h7
    · exact hne (Nat.eq_of_beq_eq_true h7).symm
    · rw [Nat.beq_refl] at h7; cases h7

structure DInv (N : Nat) (ds : List Deferred) (l : List Oper) (L0 : List (Nat × Value)) (w0 : World) (R : World → World → Prop) (F : Nat → Value → World → Prop) (listed : Array Bool) (vals : Nat → Value) (a : Act) (w : World) : Prop where
  len : listed.size = l.length
  size : a.tmps.size = N
  defers : a.defers = ds
  base : ∀ t v, look L0 t = some v → a.tmps.getD t undef = v
  rel : R w0 w
  done : ∀ i o, l[i]? = some o → listed[i]? = some true → F i (vals i) w ∧ ∀ d, o.dst = some d → a.tmps.getD d undef = vals i

theorem predSlots_is {l : List Oper} {vals : Nat → Value} {a : Act} : ∀ {js : List Nat}, (∀ j ∈ js, ∀ o, l[j]? = some o → ∀ d, o.dst = some d → a.tmps.getD d undef = vals j) → ∀ t v, look (predSlots l vals js) t = some v → a.tmps.getD t undef = v := by
  intro js
  induction js with
  | nil => intro _ t v h; simp [predSlots, look] at h
  | cons j r ih =>
    intro h t v hl
    unfold predSlots at hl
    split at hl
    · rename_i d hd
      simp only [look] at hl
      by_cases e : d = t
      · rw [beqT e] at hl
        simp at hl
        cases ho : l[j]? with
        | none => simp [ho] at hd
        | some o =>
          simp [ho] at hd
          rw [← e, ← hl]
          exact h j (by simp) o ho d hd
      · rw [beqF e] at hl
        exact ih (fun k hk => h k (List.mem_cons_of_mem _ hk)) t v hl
    · exact ih (fun k hk => h k (List.mem_cons_of_mem _ hk)) t v hl

theorem At.draw {id : Nat} {l : List Oper} {L : List (Nat × Value)} {w : World} (hm : P.follows .mixedOrders = true) (L0 : List (Nat × Value)) (hL : Sub L L0) (hok : drawOk N l L0 = true)
    (R : World → World → Prop) (F : Nat → Value → World → Prop) (hrefl : R w w.drew) (htrans : ∀ a b c, R a b → R b c → R a c) (stab : ∀ i v a b, R a b → F i v a → F i v b)
    (steps : Steps1 P N ds l Q L0 w R F 0 l)
    (fin : ∀ (vals : Nat → Value) (w' : World), R w w' → (∀ i, i < l.length → F i (vals i) w') → At N ds (predSlots l vals (List.range l.length) ++ L0) (Q .normal) w') :
    At N ds L ((Code.region id l.toArray true).wp P Q) w := by
  intro a ha
  refine wp_region_any hm ?_
  have key : ∀ (fuel : Nat) (listed : Array Bool) (vals : Nat → Value) (a : Act) (w' : World), DInv N ds l L0 w R F listed vals a w' → (listed.toList.filter (fun b => !b)).length = fuel →
      wpAny P .any l.toArray Q fuel listed a w' := by
    intro fuel
    induction fuel with
    | zero =>
      intro listed vals a w' hI hc
      have hall : ∀ i, i < l.length → listed[i]? = some true := by
        intro i hi
        have hlt : i < listed.size := by rw [hI.len]; exact hi
        rw [Array.getElem?_eq_getElem hlt]
        have hnil : listed.toList.filter (fun b => !b) = [] := List.eq_nil_of_length_eq_zero hc
        have := List.filter_eq_nil_iff.1 hnil listed[i] (by simp)
        simpa using this
      have hQ : Q .normal a w' := by
        refine fin vals w' hI.rel (fun i hi => ?_) a ⟨hI.size, hI.defers, fun t v hv => ?_⟩
        · obtain ⟨o, ho⟩ : ∃ o, l[i]? = some o := ⟨l[i], List.getElem?_eq_getElem hi⟩
          exact (hI.done i o ho (hall i hi)).1
        · rw [look_append] at hv
          split at hv
          · rename_i u hu
            cases hv
            exact predSlots_is (fun j hj o ho d hd => (hI.done j o ho (hall j (by simpa using hj))).2 d hd) t _ hu
          · exact hI.base t v hv
      refine ⟨?_, hQ⟩
      unfold Region.ready
      rw [List.filter_eq_nil_iff]
      intro i hi
      have hi' : i < l.length := by simpa using hi
      have := hall i hi'
      simp [Array.getD_eq_getD_getElem?, this]
    | succ fuel ih =>
      intro listed vals a w' hI hc
      have hready : ∀ i, i ∈ Region.ready .any l.toArray listed → ∃ o, l[i]? = some o ∧ listed[i]? = some false ∧ ∀ j ∈ predsOf o, listed[j]? = some true := by
        intro i hi
        unfold Region.ready at hi
        rw [List.mem_filter] at hi
        obtain ⟨hi1, hi2⟩ := hi
        have hil : i < l.length := by simpa using hi1
        have hill : i < listed.size := by rw [hI.len]; exact hil
        simp only [Bool.and_eq_true, Bool.not_eq_true'] at hi2
        obtain ⟨h1, h2⟩ := hi2
        refine ⟨l[i], List.getElem?_eq_getElem hil, ?_, ?_⟩
        · rw [Array.getElem?_eq_getElem hill]
          simpa [Array.getD_eq_getD_getElem?, hill] using h1
        · intro j hj
          simp only [List.getElem?_toArray, List.getElem?_eq_getElem hil, Option.map_some, Option.getD_some] at h2
          unfold predsOf at hj
          rw [List.mem_filterMap] at hj
          obtain ⟨e, he, hej⟩ := hj
          split at hej
          · rename_i hb
            have hee := Array.all_eq_true'.1 h2 e (by simpa using he)
            simp only [hb, Bool.not_true, Bool.false_or] at hee
            have hje : e.on = j := by simpa using hej
            rw [hje] at hee
            cases hlj : listed[j]? with
            | none => simp [Array.getD_eq_getD_getElem?, hlj] at hee
            | some b => simp [Array.getD_eq_getD_getElem?, hlj] at hee; rw [hee]
          · cases hej
      constructor
      · intro hnil
        exfalso
        -- the least that is not listed is ready
        have hex : ∃ i, i < l.length ∧ listed[i]? = some false := by
          have hne : listed.toList.filter (fun b => !b) ≠ [] := by intro e; rw [e] at hc; simp at hc
          obtain ⟨b, hb⟩ := List.exists_mem_of_ne_nil _ hne
          rw [List.mem_filter] at hb
          obtain ⟨i, hi⟩ := List.getElem?_of_mem hb.1
          have hlt : i < listed.toList.length := (List.getElem?_eq_some_iff.1 hi).1
          refine ⟨i, by rw [← hI.len]; simpa using hlt, ?_⟩
          have : b = false := by simpa using hb.2
          rw [← this]; simpa using hi
        have hmin : ∀ m, ∀ i, i ≤ m → i < l.length → listed[i]? = some false → False := by
          intro m
          induction m with
          | zero =>
            intro i him hil hf
            have hmem : i ∈ Region.ready .any l.toArray listed := by
              unfold Region.ready
              rw [List.mem_filter]
              refine ⟨by simpa using hil, ?_⟩
              simp only [List.getElem?_toArray, List.getElem?_eq_getElem hil, Option.map_some, Option.getD_some, Array.getD_eq_getD_getElem?, hf, Bool.not_false, Bool.true_and]
              rw [Array.all_eq_true']
              intro e he
              by_cases hb : Region.binds .any e = true
              · have := (drawOk.at hok (List.getElem?_eq_getElem hil)).1 e.on (by unfold predsOf; rw [List.mem_filterMap]; exact ⟨e, by simpa using he, by simp [hb]⟩)
                omega
              · simp [hb]
            rw [hnil] at hmem; cases hmem
          | succ m ihm =>
            intro i him hil hf
            have hmem : i ∈ Region.ready .any l.toArray listed := by
              unfold Region.ready
              rw [List.mem_filter]
              refine ⟨by simpa using hil, ?_⟩
              simp only [List.getElem?_toArray, List.getElem?_eq_getElem hil, Option.map_some, Option.getD_some, Array.getD_eq_getD_getElem?, hf, Bool.not_false, Bool.true_and]
              rw [Array.all_eq_true']
              intro e he
              by_cases hb : Region.binds .any e = true
              · have hlt := (drawOk.at hok (List.getElem?_eq_getElem hil)).1 e.on (by unfold predsOf; rw [List.mem_filterMap]; exact ⟨e, by simpa using he, by simp [hb]⟩)
                have hel : e.on < l.length := by omega
                have hell : e.on < listed.size := by rw [hI.len]; exact hel
                cases hv : listed[e.on] with
                | false => exact (ihm e.on (by omega) hel (by rw [Array.getElem?_eq_getElem hell, hv])).elim
                | true => simp [hell, hv]
              · simp [hb]
            rw [hnil] at hmem; cases hmem
        obtain ⟨i, hi, hf⟩ := hex
        exact hmin i i (Nat.le_refl _) hi hf
      · intro i hi
        obtain ⟨o, ho, hf, hp⟩ := hready i hi
        have hil : i < l.length := (List.getElem?_eq_some_iff.1 ho).1
        have hd := drawOk.at hok ho
        have hpd : ∀ j ∈ predsOf o, ∀ o', l[j]? = some o' → ∀ d, o'.dst = some d → a.tmps.getD d undef = vals j := fun j hj o' ho' d hdd => (hI.done j o' ho' (hp j hj)).2 d hdd
        refine wpOp_of_list (o := o) (by simpa using ho) ?_
        have hst := Steps1.get steps ho vals (whole a) w' hI.rel (fun j hj => by
          have hjl : j < l.length := Nat.lt_trans (hd.1 j hj) hil
          exact (hI.done j l[j] (List.getElem?_eq_getElem hjl) (hp j hj)).1)
        have his : Is N ds (predSlots l vals (predsOf o) ++ (L0 ++ whole a)) a := ⟨hI.size, hI.defers, fun t v hv => by
          rw [look_append] at hv
          split at hv
          · rename_i u hu; cases hv; exact predSlots_is hpd t _ hu
          · rw [look_append] at hv
            split at hv
            · rename_i u hu; cases hv; exact hI.base t _ hu
            · exact (is_whole a).get t v hv⟩
        have hgo := hst a his
        -- what stands behind the step
        have hmono : ∀ (e : Exit) (a' : Act) (w'' : World), onNormal (fun a' w'' => ∃ v, Is N ds (dcons o.dst v (predSlots l vals (predsOf o) ++ (L0 ++ whole a))) a' ∧ R w' w'' ∧ F (0 + i) v w'') Q e a' w'' →
            onNormal (fun a' w'' => wpAny P .any l.toArray Q fuel (listed.setIfInBounds i true) a' w'') Q e a' w'' := by
          intro e a' w'' he
          cases e with
          | normal =>
            obtain ⟨v, h1, h2, h3⟩ := he
            rw [Nat.zero_add] at h3
            have hsame : ∀ t, t < N → (∀ d, o.dst = some d → t ≠ d) → a'.tmps.getD t undef = a.tmps.getD t undef := by
              intro t ht hne
              refine h1.get t _ ?_
              have hlk : look (predSlots l vals (predsOf o) ++ (L0 ++ whole a)) t = some (a.tmps.getD t undef) := by
                rw [look_append]
                split
                · rename_i u hu; rw [predSlots_is hpd t _ hu]
                · rw [look_append]
                  split
                  · rename_i u hu; rw [hI.base t _ hu]
                  · exact look_whole a (by rw [hI.size]; exact ht)
              cases hdd : o.dst with
              | none => simpa [dcons] using hlk
              | some d =>
                simp only [dcons, look]
                rw [beqF (fun e => hne d hdd e.symm)]
                exact hlk
            refine ih (listed.setIfInBounds i true) (fun j => if j = i then v else vals j) a' w'' ⟨by simp [hI.len], h1.size, h1.defers, fun t u hu => ?_, htrans _ _ _ hI.rel h2, fun j o' ho' hj => ?_⟩ ?_
            · have hb := hI.base t u hu
              by_cases ht : t < N
              · rw [hsame t ht (fun d hdd e => by subst e; rw [(hd.2 t hdd).2.1] at hu; cases hu)]; exact hb
              · have : a'.tmps.getD t undef = undef := by simp [Array.getD_eq_getD_getElem?, h1.size, ht]
                have h2 : a.tmps.getD t undef = undef := by simp [Array.getD_eq_getD_getElem?, hI.size, ht]
                rw [this, ← h2]; exact hb
            · by_cases e : j = i
              · subst e
                rw [ho] at ho'; cases ho'
                refine ⟨by simpa using h3, fun d hdd => ?_⟩
                rw [if_pos rfl]
                refine h1.get d v ?_
                simp [dcons, hdd, look, Nat.beq_refl]
              · rw [if_neg e]
                have hj' : listed[j]? = some true := by
                  rw [Array.getElem?_setIfInBounds_ne (fun h => e h.symm)] at hj; exact hj
                have hdn := hI.done j o' ho' hj'
                refine ⟨stab _ _ _ _ h2 hdn.1, fun d hdd => ?_⟩
                have hdj := drawOk.at hok ho'
                rw [hsame d (hdj.2 d hdd).1 (fun d' hd' hee => by subst hee; exact (hd.2 d hd').2.2 j o' ho' e hdd)]
                exact hdn.2 d hdd
            · have hlt : i < listed.toList.length := by rw [Array.length_toList, hI.len]; exact hil
              have hfi : listed.toList[i]? = some false := by simpa using hf
              rw [Array.toList_setIfInBounds]
              have hcount : ∀ (b : List Bool) (i : Nat), b[i]? = some false → ((b.set i true).filter (fun b => !b)).length + 1 = (b.filter (fun b => !b)).length := by
                intro b
                induction b with
                | nil => intro i h; simp at h
                | cons x r ihb =>
                  intro i h
                  cases i with
                  | zero => simp at h; subst h; simp
                  | succ i =>
                    have := ihb i (by simpa using h)
                    cases x <;> simp [this]
              have := hcount _ _ hfi
              omega
          | _ => exact he
        have hmonoL : ∀ a w, wpList P l.toArray (onNormal (fun a' w'' => ∃ v, Is N ds (dcons o.dst v (predSlots l vals (predsOf o) ++ (L0 ++ whole a))) a' ∧ R w' w'' ∧ F (0 + i) v w'') Q) [o] a w → True := fun _ _ _ => trivial
        unfold wpList at hgo ⊢
        by_cases hw : Region.wanted o (yielded l.toArray a.tmps) = true
        · rw [if_pos hw] at hgo ⊢
          rcases hgo with hgo | ⟨q1, q2, q3, q4⟩
          · left
            unfold Oper.wp at *
            generalize (execOp a.eval o).run P w' = r at *
            cases r with
            | ok n w2 =>
              cases n <;> simp only [Oper.upon] at hgo ⊢ <;>
                first
                  | exact hmono .normal _ _ hgo
                  | exact Calls.mono hgo (fun e w'' he => by cases e <;> first | exact hmono .normal _ _ he | exact he | (obtain ⟨a0, w0, h0⟩ := he; exact ⟨a0, w0, h0⟩))
                  | exact Rows.mono hgo (fun _ _ he => hmono .normal _ _ he)
                  | exact hgo
            | halt x w2 => cases x <;> simp only [Oper.upon] at hgo ⊢ <;> exact hgo
          · exact .inr ⟨q1, q2, q3, q4⟩
        · rw [if_neg hw] at hgo ⊢
          exact hmono .normal _ _ hgo
  have h0 : ((Array.replicate l.toArray.size false).toList.filter (fun b => !b)).length = l.toArray.size := by simp
  refine key _ _ (fun _ => undef) a w.drew ⟨by simp, ha.size, ha.defers, fun t v hv => ?_, hrefl, fun i o ho h => ?_⟩ h0
  · exact (ha.sub hL).get t v hv
  · simp [Array.getElem?_replicate] at h

theorem Is.drop2 {d e : Nat} {v u : Value} {X : List (Nat × Value)} {a : Act} (h : Is N ds ((d, v) :: (e, u) :: X) a) (hx : look X e = some u) : Is N ds ((d, v) :: X) a := by
  refine ⟨h.size, h.defers, fun t x hl => h.get t x ?_⟩
  simp only [look] at hl ⊢
  by_cases a1 : d = t
  · rw [beqT a1] at hl ⊢; exact hl
  · rw [beqF a1] at hl ⊢
    by_cases a2 : e = t
    · subst a2
      rw [beqT rfl]
      simp only [cond_false] at hl
      rw [hx] at hl
      exact hl
    · rw [beqF a2]; exact hl
theorem Is.drop1 {e : Nat} {u : Value} {X : List (Nat × Value)} {a : Act} (h : Is N ds ((e, u) :: X) a) (hx : look X e = some u) : Is N ds X a := by
  refine ⟨h.size, h.defers, fun t x hl => h.get t x ?_⟩
  simp only [look]
  by_cases a2 : e = t
  · subst a2; rw [beqT rfl]; rw [hx] at hl; exact hl
  · rw [beqF a2]; exact hl

/-- From one world to a later one: what was there stands, but for these blocks; each of these keeps its shape, and what it is to hold once it holds it. -/
structure RS (bs : List (Nat × Obj)) (w1 w2 : World) : Prop where
  os : w2.os = w1.os
  tape : w2.tape = w1.tape
  output : w2.output = w1.output
  size : w1.heap.size ≤ w2.heap.size
  old : ∀ k x, (∀ p ∈ bs, k ≠ p.1) → w1.heap[k]? = some x → w2.heap[k]? = some x
  latch : ∀ p ∈ bs, w1.heap[p.1]? = some p.2 → w2.heap[p.1]? = some p.2
  shape : ∀ p ∈ bs, ∀ c T, w1.heap[p.1]? = some (.cells c T) → ∃ c', w2.heap[p.1]? = some (.cells c' T) ∧ c'.size = c.size
theorem RS.refl (bs : List (Nat × Obj)) (w : World) : RS bs w w := ⟨rfl, rfl, rfl, Nat.le_refl _, fun _ _ _ h => h, fun _ _ h => h, fun _ _ c _ h => ⟨c, h, rfl⟩⟩
theorem RS.drew (bs : List (Nat × Obj)) (w : World) : RS bs w w.drew := ⟨rfl, rfl, rfl, Nat.le_refl _, fun _ _ _ h => h, fun _ _ h => h, fun _ _ c _ h => ⟨c, h, rfl⟩⟩
theorem RS.trans {bs : List (Nat × Obj)} (a b c : World) (h : RS bs a b) (k : RS bs b c) : RS bs a c :=
  ⟨k.os.trans h.os, k.tape.trans h.tape, k.output.trans h.output, Nat.le_trans h.size k.size, fun i x hn hx => k.old i x hn (h.old i x hn hx), fun p hp hx => k.latch p hp (h.latch p hp hx),
   fun p hp c T hx => by
     obtain ⟨c1, h1, h2⟩ := h.shape p hp c T hx
     obtain ⟨c2, h3, h4⟩ := k.shape p hp c1 T h1
     exact ⟨c2, h3, h4.trans h2⟩⟩
theorem RS.of_set {bs : List (Nat × Obj)} {a b : World} {k : Nat} {c c' : Array Value} {T : TypeId} (h : SetB a b k (.cells c' T)) (hk : (k, .cells c' T) ∈ bs) (ha : a.heap[k]? = some (.cells c T)) (hsz : c'.size = c.size) (huniq : ∀ p ∈ bs, p.1 = k → p.2 = .cells c' T) : RS bs a b := by
  refine ⟨h.grown.os, h.grown.tape, h.grown.output, h.grown.size, fun i x hn hx => h.other hx (hn _ hk), fun p hp hx => ?_, fun p hp c1 T1 hx => ?_⟩
  · by_cases e : p.1 = k
    · rw [e, huniq p hp e]; exact h.new
    · exact h.other hx e
  · by_cases e : p.1 = k
    · rw [e] at hx ⊢
      rw [ha] at hx
      simp only [Option.some.injEq, Obj.cells.injEq] at hx
      obtain ⟨rfl, rfl, _⟩ := hx
      exact ⟨c', h.new, hsz⟩
    · exact ⟨c1, h.other hx e, rfl⟩
theorem RS.below {bs : List (Nat × Obj)} {w0 a b : World} (h : RS bs a b) (hB : Below w0.heap.size w0 a) (hb : ∀ p ∈ bs, w0.heap.size ≤ p.1) : Below w0.heap.size w0 b :=
  hB.trans ⟨h.os, h.tape, h.output, h.size, fun k hk => by
    have hka : k < a.heap.size := Nat.lt_of_lt_of_le hk hB.size
    rw [Array.getElem?_eq_getElem hka]
    exact h.old k _ (fun p hp e => by have := hb p hp; omega) (Array.getElem?_eq_getElem hka)⟩

/-- What is known behind an operation: its value, or what a block holds. -/
inductive DF where
  | c (v : Value)
  | s (b : Nat) (o : Obj)
  | any
def dF (fs : List DF) (i : Nat) (v : Value) (w : World) : Prop :=
  match fs[i]? with
  | some (.c u) => v = u
  | some (.s b o) => w.heap[b]? = some o
  | _ => True
theorem dF.stab {fs : List DF} {bs : List (Nat × Obj)} (hs : ∀ f ∈ fs, match f with | .s b o => (b, o) ∈ bs | _ => True) (i : Nat) (v : Value) (a b : World) (h : RS bs a b) (hf : dF fs i v a) : dF fs i v b := by
  unfold dF at hf ⊢
  split at hf
  · exact hf
  · rename_i k o he
    have := hs _ (List.mem_of_getElem? he)
    exact h.latch (k, o) this hf
  · trivial

end
end Go.Proofs.Ytkjmjnddanhapaa
