/-
  The walk's own small calculus: statements whose order is open, with whatever operations: what only looks is done as soon as it can be; of the others every order is walked. Plain lemmas over any program; no condition beyond those that stand in each statement.
-/
import Derived.Test.YtkjmjnddanhapaaK5
namespace Go.Proofs.Ytkjmjnddanhapaa
open Go.RowKit

/-- Operations that only look: done as soon as they can be. -/
def isS (o : Oper) : Bool :=
  o.dst.isSome && match o.op with
  | .move _ | .pick .. | .fieldAddr .. | .field .. | .indexAddr .. | .index .. | .load .. | .binOp .. | .unOp .. | .extract .. | .build .. | .makeFunc .. | .nilCheck _ | .slice .. | .makeInterface .. | .convert .. => true
  | .call { callee := .builtin .len, .. } | .call { callee := .builtin .cap, .. } | .call { callee := .builtin .min, .. } | .call { callee := .builtin .max, .. } => true
  | _ => false
/-- The slots that an operation looks at. -/
def readsOf (l : List Oper) (o : Oper) : List Nat :=
  (o.op.operands.toList.filterMap fun | .tmp t => some t | _ => none) ++ (match o.guard with | some (g, _) => ((l[g]?).bind (·.dst)).toList | none => [])

/-- An operation's ancestors, up to so many steps. -/
def ancs (l : List Oper) : Nat → Nat → List Nat
  | 0, _ => []
  | f + 1, i => match l[i]? with
    | some o => predsOf o ++ (predsOf o).flatMap (ancs l f)
    | none => []
def anc (l : List Oper) (i : Nat) : List Nat := ancs l l.length i

def okC (N : Nat) (l : List Oper) : Bool :=
  (List.range l.length).all fun i => match l[i]? with
    | none => true
    | some o => (predsOf o).all (fun j => Nat.blt j i) && (match o.guard with | some (g, _) => (predsOf o).contains g | none => true) && (match o.op with | .select .. => false | _ => true) && match o.dst with
      | none => true
      | some d => Nat.blt d N && !(readsOf l o).contains d && (List.range l.length).all fun j => match l[j]? with
        | none => true
        | some p => Nat.beq j i || ((!isS o || !(p.dst == some d)) && (!isS p || !(p.dst == some d)) && (!(readsOf l p).contains d || (if isS o then (predsOf p).contains i else (!isS p || (predsOf p).contains i || (anc l i).contains j))))

def firstS (l : List Oper) (lst : Array Bool) : Option Nat :=
  (Region.ready .any l.toArray lst).find? fun i => match l[i]? with | some o => isS o | none => false
/-- Done already, whenever it was: an operation that has not only looked came behind it. -/
def sure (l : List Oper) (lst : Array Bool) (j : Nat) : Bool :=
  (List.range l.length).any fun k => lst.getD k false && (match l[k]? with | some o => !isS o | none => false) && (anc l k).contains j
def loose (l : List Oper) (lst : Array Bool) : List Nat :=
  (List.range l.length).filter fun j => lst.getD j false && (match l[j]? with | some o => isS o | none => false) && !sure l lst j

def plainOp (o : Oper) : Bool := match o.op with | .select .. => false | _ => true

section
variable {P : Program} {N : Nat} {ds : List Deferred} {Q : Exit → Act → World → Prop}

/-- It leads to this value, and nothing else happens. -/
def Pt (P : Program) (l : List Oper) (Q : Exit → Act → World → Prop) (o : Oper) (a : Act) (w : World) (v : Value) : Prop :=
  ∀ K : Act → World → Prop, K (a.put o.dst v) w → wpList P l.toArray (onNormal K Q) [o] a w

def wpC (P : Program) (l : List Oper) (Q : Exit → Act → World → Prop) : Nat → Array Bool → Act → World → Prop
  | 0, _, a, w => Q .normal a w
  | f + 1, lst, a, w =>
    match firstS l lst with
    | some i => ∀ o, l[i]? = some o → ∃ v, Pt P l Q o a w v ∧ wpC P l Q f (lst.setIfInBounds i true) (a.put o.dst v) w
    | none => ∀ i ∈ Region.ready .any l.toArray lst, ∀ o, l[i]? = some o →
        wpList P l.toArray (onNormal (fun a' w' => (∀ j ∈ loose l (lst.setIfInBounds i true), ∀ p, l[j]? = some p → Pt P l Q p a' w' (a'.tmps.getD (p.dst.getD 0) undef)) ∧ wpC P l Q f (lst.setIfInBounds i true) a' w') Q) [o] a w

/-- The way out by a panic hangs on no slot. -/
def PanicOk (Q : Exit → Act → World → Prop) : Prop := ∀ c a b w, a.defers = b.defers → Q (.panic c) b w → Q (.panic c) a w

theorem put_tmps_size (a : Act) (d : Option Nat) (v : Value) : (a.put d v).tmps.size = a.tmps.size := by cases d <;> simp [Act.put]
theorem put_defers (a : Act) (d : Option Nat) (v : Value) : (a.put d v).defers = a.defers := by cases d <;> rfl
theorem get_put_ne (a : Act) {d : Option Nat} (v : Value) {t : Nat} (h : d ≠ some t) : (a.put d v).tmps.getD t undef = a.tmps.getD t undef := by
  cases d with
  | none => rfl
  | some d =>
    have : d ≠ t := fun e => h (by rw [e])
    simp [Act.put, Array.getElem?_setIfInBounds_ne this]
theorem get_put_eq (a : Act) {d : Nat} (v : Value) (h : d < a.tmps.size) : (a.put (some d) v).tmps.getD d undef = v := by simp [Act.put, h]

theorem act_ext {a b : Act} (hs : a.tmps.size = b.tmps.size) (hd : a.defers = b.defers) (hg : ∀ t, t < a.tmps.size → a.tmps.getD t undef = b.tmps.getD t undef) : a = b := by
  obtain ⟨ta, da⟩ := a
  obtain ⟨tb, db⟩ := b
  rw [Act.mk.injEq]
  refine ⟨Array.ext hs fun i h1 h2 => ?_, hd⟩
  have := hg i h1
  have h1' : i < ta.size := h1
  have h2' : i < tb.size := h2
  simpa [h1', h2'] using this

/-- The same operation in two frames that agree on what it looks at. -/
theorem step_congr {l : List Oper} {o : Oper} {a b : Act} {w : World} {K K' : Act → World → Prop} (hq : PanicOk Q) (hp : plainOp o = true) (hdef : a.defers = b.defers) (hsz : a.tmps.size = b.tmps.size)
    (hr : ∀ t ∈ readsOf l o, a.tmps.getD t undef = b.tmps.getD t undef) (h : wpList P l.toArray (onNormal K Q) [o] b w) (hk : ∀ D v w', K (({ b with defers := D } : Act).put o.dst v) w' → K' (({ a with defers := D } : Act).put o.dst v) w') :
    wpList P l.toArray (onNormal K' Q) [o] a w := by
  have hops : ∀ x ∈ o.op.operands, a.eval x = b.eval x := by
    intro x hx
    cases x with
    | tmp t =>
      refine hr t ?_
      unfold readsOf
      refine List.mem_append_left _ ?_
      rw [List.mem_filterMap]
      exact ⟨.tmp t, by simpa using hx, rfl⟩
    | const c => rfl
    | global g => rfl
    | func f => rfl
  have hex : execOp a.eval o = execOp b.eval o := execOp_congr o (fun cs bl e => by unfold plainOp at hp; rw [e] at hp; cases hp) hops
  have hw : Region.wanted o (yielded l.toArray a.tmps) = Region.wanted o (yielded l.toArray b.tmps) := by
    unfold Region.wanted
    cases hg : o.guard with
    | none => rfl
    | some q =>
      obtain ⟨g, bl⟩ := q
      simp only
      have : yielded l.toArray a.tmps g = yielded l.toArray b.tmps g := by
        unfold yielded
        simp only [List.getElem?_toArray]
        cases hd : (l[g]?).bind (·.dst) with
        | none => rfl
        | some t =>
          have ht := hr t (by unfold readsOf; rw [hg]; simp only [hd]; exact List.mem_append_right _ (by simp))
          simp only [Option.bind_some]
          by_cases hlt : t < a.tmps.size
          · have hlt' : t < b.tmps.size := by rw [← hsz]; exact hlt
            simp only [Array.getD_eq_getD_getElem?, Array.getElem?_eq_getElem hlt, Array.getElem?_eq_getElem hlt', Option.getD_some] at ht
            rw [Array.getElem?_eq_getElem hlt, Array.getElem?_eq_getElem hlt', ht]
          · have hlt' : ¬ t < b.tmps.size := by rw [← hsz]; exact hlt
            simp [hlt, hlt']
      rw [this]
  have hasks : o.asks P b w → o.asks P a w := by
    unfold Oper.asks
    rw [hex]; exact id
  unfold wpList at h ⊢
  by_cases hwb : Region.wanted o (yielded l.toArray b.tmps) = true
  · rw [if_pos hwb] at h
    rw [if_pos (hw.trans hwb)]
    rcases h with h | ⟨h1, a0, w0, h2⟩
    · left
      have hk' : ∀ v w', K (b.put o.dst v) w' → K' (a.put o.dst v) w' := fun v w' hh => by
        have h1 : ({ b with defers := a.defers } : Act) = b := by rw [hdef]
        have := hk a.defers v w'
        rw [h1] at this
        exact this hh
      unfold Oper.wp at *
      rw [hex]
      generalize (execOp b.eval o).run P w = r at *
      cases r with
      | ok n w' =>
        cases n <;> simp only [Oper.upon] at h ⊢ <;>
          first
            | exact hk' _ _ h
            | exact Calls.mono h (fun e w'' he => by cases e <;> first | exact hk' _ _ he | exact hq _ _ _ _ hdef he | exact he)
            | exact Rows.mono h (fun _ _ he => hk' _ _ he)
            | (rw [hdef]; exact hk _ _ _ h)
            | exact h
      | halt x w' => cases x <;> simp only [Oper.upon] at h ⊢ <;> first | exact hq _ _ _ _ hdef h | exact h
    · exact .inr ⟨hasks h1, a0, w0, h2⟩
  · rw [if_neg hwb] at h
    rw [if_neg (by rw [hw]; exact hwb)]
    have h1 : ({ b with defers := a.defers } : Act) = b := by rw [hdef]
    have := hk a.defers undef w
    rw [h1] at this
    exact this h

theorem okC.at {l : List Oper} (h : okC N l = true) {i : Nat} {o : Oper} (ho : l[i]? = some o) :
    (∀ j ∈ predsOf o, j < i) ∧ plainOp o = true ∧ ∀ d, o.dst = some d → d < N ∧ d ∉ readsOf l o ∧ ∀ j p, l[j]? = some p → j ≠ i →
      ((isS o = true ∨ isS p = true) → p.dst ≠ some d) ∧ (d ∈ readsOf l p → (isS o = true → i ∈ predsOf p) ∧ (isS o = false → isS p = true → i ∈ predsOf p ∨ j ∈ anc l i)) := by
  have hi := (List.getElem?_eq_some_iff.1 ho).1
  have h1 := List.all_eq_true.1 h i (by simpa using hi)
  rw [ho] at h1
  simp only [Bool.and_eq_true] at h1
  obtain ⟨⟨⟨h2, _⟩, h3⟩, h4⟩ := h1
  refine ⟨fun j hj => by have := List.all_eq_true.1 h2 j hj; simpa [Nat.blt_eq] using this, ?_, fun d hd => ?_⟩
  · unfold plainOp; exact h3
  · rw [hd] at h4
    simp only [Bool.and_eq_true] at h4
    obtain ⟨⟨h5, h5'⟩, h6⟩ := h4
    refine ⟨by simpa [Nat.blt_eq] using h5, by simpa using h5', fun j p hp hne => ?_⟩
    have hj := (List.getElem?_eq_some_iff.1 hp).1
    have h7 := List.all_eq_true.1 h6 j (by simpa using hj)
    rw [hp] at h7
    simp only [Bool.or_eq_true, Bool.and_eq_true, Bool.not_eq_true'] at h7
    rcases h7 with h7 | ⟨⟨h8, h9⟩, h10⟩
    · exact absurd (Nat.eq_of_beq_eq_true h7) hne
    · refine ⟨fun hs he => ?_, fun hr => ⟨fun hs => ?_, fun hs hps => ?_⟩⟩
      · rw [he] at h8 h9
        simp only [beq_self_eq_true, Bool.true_eq_false, or_false] at h8 h9
        rcases hs with hs | hs
        · rw [hs] at h8; cases h8
        · rw [hs] at h9; cases h9
      · rcases h10 with h10 | h10
        · rw [← List.contains_iff_mem, h10] at hr; cases hr
        · rw [if_pos hs] at h10; exact List.contains_iff_mem.1 h10
      · rcases h10 with h10 | h10
        · rw [← List.contains_iff_mem, h10] at hr; cases hr
        · rw [if_neg (by rw [hs]; simp), hps] at h10
          simp only [Bool.not_true, Bool.false_or, Bool.or_eq_true] at h10
          rcases h10 with h10 | h10
          · exact .inl (List.contains_iff_mem.1 h10)
          · exact .inr (List.contains_iff_mem.1 h10)

/-- Listed with all that stands ahead of it. -/
def Closed (l : List Oper) (lst : Array Bool) : Prop := ∀ (i : Nat) (o : Oper), l[i]? = some o → lst[i]? = some true → ∀ j ∈ predsOf o, lst[j]? = some true
theorem Closed.ofAncs {l : List Oper} {lst : Array Bool} (h : Closed l lst) : ∀ (f i : Nat), lst[i]? = some true → ∀ j ∈ ancs l f i, lst[j]? = some true := by
  intro f
  induction f with
  | zero => intro i _ j hj; cases hj
  | succ f ih =>
    intro i hi j hj
    unfold ancs at hj
    split at hj
    · rename_i o ho
      rcases List.mem_append.1 hj with hj | hj
      · exact h i o ho hi j hj
      · obtain ⟨k, hk, hj⟩ := List.mem_flatMap.1 hj
        exact ih k (h i o ho hi k hk) j hj
    · cases hj
theorem ready_mem {l : List Oper} {lst : Array Bool} (hsz : lst.size = l.length) {i : Nat} : i ∈ Region.ready .any l.toArray lst ↔ ∃ o, l[i]? = some o ∧ lst[i]? = some false ∧ ∀ j ∈ predsOf o, lst[j]? = some true := by
  unfold Region.ready
  rw [List.mem_filter]
  constructor
  · rintro ⟨h1, h2⟩
    have hil : i < l.length := by simpa using h1
    have hill : i < lst.size := by omega
    simp only [Bool.and_eq_true, Bool.not_eq_true'] at h2
    obtain ⟨h3, h4⟩ := h2
    refine ⟨l[i], List.getElem?_eq_getElem hil, ?_, fun j hj => ?_⟩
    · rw [Array.getElem?_eq_getElem hill]; simpa [Array.getD_eq_getD_getElem?, hill] using h3
    · simp only [List.getElem?_toArray, List.getElem?_eq_getElem hil, Option.map_some, Option.getD_some] at h4
      unfold predsOf at hj
      rw [List.mem_filterMap] at hj
      obtain ⟨e, he, hej⟩ := hj
      split at hej
      · rename_i hb
        have hee := Array.all_eq_true'.1 h4 e (by simpa using he)
        simp only [hb, Bool.not_true, Bool.false_or] at hee
        have hje : e.on = j := by simpa using hej
        rw [hje] at hee
        cases hlj : lst[j]? with
        | none => simp [Array.getD_eq_getD_getElem?, hlj] at hee
        | some b => simp [Array.getD_eq_getD_getElem?, hlj] at hee; rw [hee]
      · cases hej
  · rintro ⟨o, ho, hf, hp⟩
    have hil := (List.getElem?_eq_some_iff.1 ho).1
    refine ⟨by simpa using hil, ?_⟩
    simp only [List.getElem?_toArray, ho, Option.map_some, Option.getD_some, Array.getD_eq_getD_getElem?, hf, Bool.not_false, Bool.true_and]
    rw [Array.all_eq_true']
    intro e he
    by_cases hb : Region.binds .any e = true
    · have := hp e.on (by unfold predsOf; rw [List.mem_filterMap]; exact ⟨e, by simpa using he, by simp [hb]⟩)
      simp [this]
    · simp [hb]
def falses (lst : Array Bool) : Nat := (lst.toList.filter fun b => !b).length
theorem falses_set {lst : Array Bool} {i : Nat} (h : lst[i]? = some false) : falses (lst.setIfInBounds i true) + 1 = falses lst := by
  unfold falses
  rw [Array.toList_setIfInBounds]
  have hcount : ∀ (b : List Bool) (i : Nat), b[i]? = some false → ((b.set i true).filter (fun b => !b)).length + 1 = (b.filter (fun b => !b)).length := by
    intro b
    induction b with
    | nil => intro i h; simp at h
    | cons x r ihb =>
      intro i h
      cases i with
      | zero => simp at h; subst h; simp
      | succ i =>
        have := ihb i (by simpa using h)
        cases x <;> simp [this]
  exact hcount _ _ (by simpa using h)
theorem falses_zero {lst : Array Bool} (h : falses lst = 0) {i : Nat} (hi : i < lst.size) : lst[i]? = some true := by
  rw [Array.getElem?_eq_getElem hi]
  have hnil : lst.toList.filter (fun b => !b) = [] := List.eq_nil_of_length_eq_zero h
  have := List.filter_eq_nil_iff.1 hnil lst[i] (by simp)
  simpa using this
/-- As long as something is left, something can be done. -/
theorem ready_some {l : List Oper} {lst : Array Bool} (hok : okC N l = true) (hsz : lst.size = l.length) (h : falses lst ≠ 0) : ∃ i, i ∈ Region.ready .any l.toArray lst := by
  have hex : ∃ i, i < l.length ∧ lst[i]? = some false := by
    have hne : lst.toList.filter (fun b => !b) ≠ [] := by intro e; unfold falses at h; rw [e] at h; simp at h
    obtain ⟨b, hb⟩ := List.exists_mem_of_ne_nil _ hne
    rw [List.mem_filter] at hb
    obtain ⟨i, hi⟩ := List.getElem?_of_mem hb.1
    have hlt : i < lst.toList.length := (List.getElem?_eq_some_iff.1 hi).1
    refine ⟨i, by rw [← hsz]; simpa using hlt, ?_⟩
    have : b = false := by simpa using hb.2
    rw [← this]; simpa using hi
  obtain ⟨i, hi, hf⟩ := hex
  have hmin : ∀ m, ∀ i, i ≤ m → i < l.length → lst[i]? = some false → ∃ i, i ∈ Region.ready .any l.toArray lst := by
    intro m
    induction m with
    | zero =>
      intro i him hil hf
      refine ⟨i, (ready_mem hsz).2 ⟨l[i], List.getElem?_eq_getElem hil, hf, fun j hj => ?_⟩⟩
      have := (okC.at hok (List.getElem?_eq_getElem hil)).1 j hj
      omega
    | succ m ihm =>
      intro i him hil hf
      by_cases hall : ∀ j ∈ predsOf l[i], lst[j]? = some true
      · exact ⟨i, (ready_mem hsz).2 ⟨l[i], List.getElem?_eq_getElem hil, hf, hall⟩⟩
      · obtain ⟨j, hj, hjl⟩ : ∃ j, j ∈ predsOf l[i] ∧ ¬ lst[j]? = some true := Classical.byContradiction fun hno => hall fun j hj => Classical.byContradiction fun hn => hno ⟨j, hj, hn⟩
        have hlt := (okC.at hok (List.getElem?_eq_getElem hil)).1 j hj
        have hjs : j < lst.size := by omega
        refine ihm j (by omega) (by omega) ?_
        rw [Array.getElem?_eq_getElem hjs] at hjl ⊢
        cases hv : lst[j] with
        | false => rfl
        | true => rw [hv] at hjl; exact absurd rfl hjl
  exact hmin i i (Nat.le_refl _) hi hf

theorem put_inj {b : Act} {D : List Deferred} {d : Nat} {u v : Value} (hd : d < b.tmps.size) (h : ({ b with defers := D } : Act).put (some d) u = b.put (some d) v) : D = b.defers ∧ u = v := by
  refine ⟨congrArg Act.defers h, ?_⟩
  have := congrArg (fun x : Act => x.tmps.getD d undef) h
  rw [get_put_eq _ _ (show d < ({ b with defers := D } : Act).tmps.size from hd), get_put_eq _ _ hd] at this
  exact this
theorem Pt.congr {l : List Oper} {o : Oper} {b b' : Act} {w : World} {v : Value} {d : Nat} (hq : PanicOk Q) (hp : plainOp o = true) (hd : o.dst = some d) (hlt : d < b.tmps.size) (hdef : b'.defers = b.defers) (hsz : b'.tmps.size = b.tmps.size)
    (hr : ∀ t ∈ readsOf l o, b'.tmps.getD t undef = b.tmps.getD t undef) (h : Pt P l Q o b w v) : Pt P l Q o b' w v := by
  intro K hK
  refine step_congr (a := b') (b := b) (K := fun x w' => x = b.put o.dst v ∧ w' = w) hq hp hdef hsz hr (h _ ⟨rfl, rfl⟩) ?_
  rintro D u w' ⟨h3, rfl⟩
  rw [hd] at h3
  obtain ⟨h4, rfl⟩ := put_inj hlt h3
  have : ({ b' with defers := D } : Act) = b' := by rw [h4, ← hdef]
  rw [this]
  exact hK

/-- The frame as it is (a), and the frame in which all that only looks is done as soon as it can be (b). -/
structure Sim (P : Program) (N : Nat) (l : List Oper) (Q : Exit → Act → World → Prop) (listed lst : Array Bool) (a b : Act) (w : World) : Prop where
  len : listed.size = l.length
  len' : lst.size = l.length
  sub : ∀ i : Nat, listed[i]? = some true → lst[i]? = some true
  only : ∀ (i : Nat) (o : Oper), l[i]? = some o → lst[i]? = some true → listed[i]? = some false → isS o = true ∧ Pt P l Q o b w (b.tmps.getD (o.dst.getD 0) undef)
  closed : Closed l listed
  closed' : Closed l lst
  sizeA : a.tmps.size = N
  sizeB : b.tmps.size = N
  defers : a.defers = b.defers
  same : ∀ t, (∀ (i : Nat) (o : Oper), l[i]? = some o → lst[i]? = some true → listed[i]? = some false → o.dst ≠ some t) → a.tmps.getD t undef = b.tmps.getD t undef

theorem isS_dst {o : Oper} (h : isS o = true) : ∃ d, o.dst = some d := by
  unfold isS at h
  cases hd : o.dst with
  | none => rw [hd] at h; simp at h
  | some d => exact ⟨d, rfl⟩

theorem Sim.falses {l : List Oper} {listed lst : Array Bool} {a b : Act} {w : World} (h : Sim P N l Q listed lst a b w) : falses lst ≤ falses listed := by
  have key : ∀ (x y : List Bool), x.length = y.length → (∀ i : Nat, x[i]? = some true → y[i]? = some true) → (y.filter (fun b => !b)).length ≤ (x.filter (fun b => !b)).length := by
    intro x
    induction x with
    | nil => intro y hl _; cases y with | nil => simp | cons _ _ => simp at hl
    | cons c x ih =>
      intro y hl hs
      cases y with
      | nil => simp at hl
      | cons e y =>
        have := ih y (by simpa using hl) (fun i hi => by have := hs (i + 1) (by simpa using hi); simpa using this)
        cases c with
        | true =>
          have h0 := hs 0 rfl
          simp at h0
          subst h0
          simpa using this
        | false => cases e <;> simp <;> omega
  exact key _ _ (by simp [h.len, h.len']) (fun i hi => by have := h.sub i (by simpa using hi); simpa using this)

theorem Sim.reads {l : List Oper} {listed lst : Array Bool} {a b : Act} {w : World} (hok : okC N l = true) (h : Sim P N l Q listed lst a b w) {i : Nat} {o : Oper} (ho : l[i]? = some o) (hp : ∀ j ∈ predsOf o, listed[j]? = some true)
    {t : Nat} (ht : t ∈ readsOf l o) : a.tmps.getD t undef = b.tmps.getD t undef := by
  refine h.same t fun j p hpj hl hnl hd => ?_
  have hS := (h.only j p hpj hl hnl).1
  by_cases e : i = j
  · subst e
    rw [ho] at hpj; cases hpj
    exact ((okC.at hok ho).2.2 t hd).2.1 ht
  · have := (((okC.at hok hpj).2.2 t hd).2.2 i o ho e).2 ht
    have := hp j (this.1 hS)
    rw [hnl] at this; cases this
theorem set_true {lst : Array Bool} {i : Nat} (hi : i < lst.size) (j : Nat) : (lst.setIfInBounds i true)[j]? = some true ↔ j = i ∨ lst[j]? = some true := by
  rw [Array.getElem?_setIfInBounds]
  by_cases e : i = j
  · subst e; simp [hi]
  · simp [e, Ne.symm e]
theorem set_false {lst : Array Bool} {i : Nat} (hi : i < lst.size) (j : Nat) : (lst.setIfInBounds i true)[j]? = some false ↔ j ≠ i ∧ lst[j]? = some false := by
  rw [Array.getElem?_setIfInBounds]
  by_cases e : i = j
  · subst e; simp [hi]
  · simp [e, Ne.symm e]
theorem bool_at {lst : Array Bool} {i : Nat} (hi : i < lst.size) (h : ¬ lst[i]? = some true) : lst[i]? = some false := by
  rw [Array.getElem?_eq_getElem hi] at h ⊢
  cases hb : lst[i] with
  | false => rfl
  | true => rw [hb] at h; exact absurd rfl h
theorem Closed.set {l : List Oper} {lst : Array Bool} {i : Nat} {o : Oper} (h : Closed l lst) (hi : i < lst.size) (ho : l[i]? = some o) (hp : ∀ j ∈ predsOf o, lst[j]? = some true) : Closed l (lst.setIfInBounds i true) := by
  intro j p hpj hj k hk
  rw [set_true hi] at hj ⊢
  right
  rcases hj with e | hj
  · subst e; rw [ho] at hpj; cases hpj; exact hp k hk
  · exact h j p hpj hj k hk

theorem sim_sound {l : List Oper} (hok : okC N l = true) (hq : PanicOk Q) :
    ∀ (n : Nat) (listed lst : Array Bool) (a b : Act) (w : World), Sim P N l Q listed lst a b w → falses listed + falses lst = n → wpC P l Q (falses lst) lst b w → wpAny P .any l.toArray Q (falses listed) listed a w := by
  intro n
  induction n using Nat.strongRecOn with
  | _ n ih =>
    intro listed lst a b w hS hn hC
    cases hf : firstS l lst with
    | some i =>
      have hi := List.mem_of_find?_eq_some hf
      have hiS := List.find?_some hf
      obtain ⟨o, ho, hfl, hpr⟩ := (ready_mem hS.len').1 hi
      have hoS : isS o = true := by rw [ho] at hiS; exact hiS
      obtain ⟨d, hd⟩ := isS_dst hoS
      have hfs := falses_set hfl
      have hdat := (okC.at hok ho).2.2 d hd
      have hCf : ∃ v, Pt P l Q o b w v ∧ wpC P l Q (falses (lst.setIfInBounds i true)) (lst.setIfInBounds i true) (b.put o.dst v) w := by
        rw [← hfs] at hC
        unfold wpC at hC
        rw [hf] at hC
        exact hC o ho
      obtain ⟨v, hv, hC'⟩ := hCf
      have hilst : i < lst.size := (Array.getElem?_eq_some_iff.1 hfl).1
      have hil : i < listed.size := by rw [hS.len, ← hS.len']; exact hilst
      have hnl : listed[i]? = some false := bool_at hil fun h => by have := hS.sub i h; rw [hfl] at this; cases this
      have hdb : d < b.tmps.size := by rw [hS.sizeB]; exact hdat.1
      refine ih _ (by omega) listed (lst.setIfInBounds i true) a (b.put o.dst v) w ⟨hS.len, by simp [hS.len'], fun j hj => ?_, fun j p hp hj hjn => ?_, hS.closed, hS.closed'.set hilst ho hpr, hS.sizeA, by rw [put_tmps_size]; exact hS.sizeB, by rw [put_defers]; exact hS.defers, fun t ht => ?_⟩ rfl hC'
      · rw [set_true hilst]; exact .inr (hS.sub j hj)
      · rw [set_true hilst] at hj
        by_cases e : j = i
        · subst e
          rw [ho] at hp; cases hp
          refine ⟨hoS, ?_⟩
          rw [hd]
          simp only [Option.getD_some]
          rw [get_put_eq b v hdb]
          exact Pt.congr hq (okC.at hok ho).2.1 hd hdb (put_defers _ _ _) (put_tmps_size _ _ _) (fun t ht => get_put_ne b v (fun e => by cases e; exact hdat.2.1 ht)) hv
        · have hj' := hj.resolve_left e
          obtain ⟨h1, h2⟩ := hS.only j p hp hj' hjn
          refine ⟨h1, ?_⟩
          obtain ⟨dp, hdp⟩ := isS_dst h1
          have hne : d ≠ dp := fun ee => by subst ee; exact ((hdat.2.2 j p hp e).1 (.inl hoS)) hdp
          have hdpl : dp < b.tmps.size := by rw [hS.sizeB]; exact ((okC.at hok hp).2.2 dp hdp).1
          have hg : (b.put o.dst v).tmps.getD (p.dst.getD 0) undef = b.tmps.getD (p.dst.getD 0) undef := by
            rw [hdp]; exact get_put_ne b v (by rw [hd]; intro ee; cases ee; exact hne rfl)
          rw [hg]
          refine Pt.congr hq (okC.at hok hp).2.1 hdp hdpl (put_defers _ _ _) (put_tmps_size _ _ _) (fun t ht => get_put_ne b v (by
            rw [hd]; intro ee; cases ee
            have := ((hdat.2.2 j p hp e).2 ht).1 hoS
            have := hS.closed' j p hp hj' i this
            rw [hfl] at this; cases this)) h2
      · have ht' := hS.same t (fun j p hp hj hjn => ht j p hp (by rw [set_true hilst]; exact .inr hj) hjn)
        have hdt : d ≠ t := fun e => by subst e; exact ht i o ho (by rw [set_true hilst]; exact .inl rfl) hnl hd
        rw [ht', get_put_ne b v (by rw [hd]; intro e; cases e; exact hdt rfl)]
    | none =>
      cases hfl : falses listed with
      | zero =>
        have hl0 : falses lst = 0 := by have := hS.falses; omega
        have hall : ∀ i : Nat, i < l.length → listed[i]? = some true := fun i hi => falses_zero hfl (by rw [hS.len]; exact hi)
        rw [hl0] at hC
        have hab : a = b := act_ext (by rw [hS.sizeA, hS.sizeB]) hS.defers (fun t _ => hS.same t (fun i o ho _ hn => by
          have := hall i (List.getElem?_eq_some_iff.1 ho).1
          rw [hn] at this; cases this))
        refine ⟨?_, by rw [hab]; exact hC⟩
        refine List.eq_nil_iff_forall_not_mem.2 fun i hi => ?_
        obtain ⟨o, ho, hff, _⟩ := (ready_mem hS.len).1 hi
        rw [hall i (List.getElem?_eq_some_iff.1 ho).1] at hff; cases hff
      | succ fuel =>
        constructor
        · intro hnil
          obtain ⟨i, hi⟩ := ready_some hok hS.len (by omega : falses listed ≠ 0)
          rw [hnil] at hi; cases hi
        · intro i hi
          obtain ⟨o, ho, hff, hpr⟩ := (ready_mem hS.len).1 hi
          have hil : i < listed.size := (Array.getElem?_eq_some_iff.1 hff).1
          have hilst : i < lst.size := by rw [hS.len', ← hS.len]; exact hil
          have hfs := falses_set hff
          have hfuel : falses (listed.setIfInBounds i true) = fuel := by omega
          refine wpOp_of_list (o := o) (by simpa using ho) ?_
          cases hoS : isS o with
          | true =>
            obtain ⟨d, hd⟩ := isS_dst hoS
            have hdat := (okC.at hok ho).2.2 d hd
            have hin : lst[i]? = some true := Classical.byContradiction fun hno => by
              have hmem : i ∈ Region.ready .any l.toArray lst := (ready_mem hS.len').2 ⟨o, ho, bool_at hilst hno, fun j hj => hS.sub j (hpr j hj)⟩
              have := List.find?_eq_none.1 hf i hmem
              rw [ho] at this
              exact this hoS
            have hpt := (hS.only i o ho hin hff).2
            have hpa := Pt.congr (b' := a) hq (okC.at hok ho).2.1 hd (by rw [hS.sizeB]; exact hdat.1) hS.defers (by rw [hS.sizeA, hS.sizeB]) (fun t ht => hS.reads hok ho hpr ht) hpt
            refine hpa _ ?_
            rw [← hfuel]
            refine ih _ (by omega) (listed.setIfInBounds i true) lst _ b w ⟨by simp [hS.len], hS.len', fun j hj => ?_, fun j p hp hj hjn => ?_, hS.closed.set hil ho hpr, hS.closed', by rw [put_tmps_size]; exact hS.sizeA, hS.sizeB, by rw [put_defers]; exact hS.defers, fun t ht => ?_⟩ rfl hC
            · rw [set_true hil] at hj
              rcases hj with e | hj
              · subst e; exact hin
              · exact hS.sub j hj
            · rw [set_false hil] at hjn; exact hS.only j p hp hj hjn.2
            · by_cases e : d = t
              · subst e
                rw [hd]
                simp only [Option.getD_some]
                exact get_put_eq a _ (by rw [hS.sizeA]; exact hdat.1)
              · rw [get_put_ne a _ (by rw [hd]; intro ee; cases ee; exact e rfl)]
                refine hS.same t fun j p hp hj hjn hdp => ?_
                by_cases ej : j = i
                · subst ej; rw [ho] at hp; cases hp; rw [hd] at hdp; cases hdp; exact e rfl
                · exact ht j p hp hj (by rw [set_false hil]; exact ⟨ej, hjn⟩) hdp
          | false =>
            have hnin : lst[i]? = some false := bool_at hilst fun h => by have := (hS.only i o ho h hff).1; rw [hoS] at this; cases this
            have hrd : i ∈ Region.ready .any l.toArray lst := (ready_mem hS.len').2 ⟨o, ho, hnin, fun j hj => hS.sub j (hpr j hj)⟩
            have hfs' := falses_set hnin
            have hstep : wpList P l.toArray (onNormal (fun a' w' => (∀ j ∈ loose l (lst.setIfInBounds i true), ∀ p, l[j]? = some p → Pt P l Q p a' w' (a'.tmps.getD (p.dst.getD 0) undef)) ∧ wpC P l Q (falses (lst.setIfInBounds i true)) (lst.setIfInBounds i true) a' w') Q) [o] b w := by
              rw [← hfs'] at hC
              unfold wpC at hC
              rw [hf] at hC
              exact hC i hrd o ho
            refine step_congr hq (okC.at hok ho).2.1 hS.defers (by rw [hS.sizeA, hS.sizeB]) (fun t ht => hS.reads hok ho hpr ht) hstep ?_
            rintro D v w' ⟨hlo, hC'⟩
            rw [← hfuel]
            refine ih _ (by omega) (listed.setIfInBounds i true) (lst.setIfInBounds i true) _ _ w' ⟨by simp [hS.len], by simp [hS.len'], fun j hj => ?_, fun j p hp hj hjn => ?_, hS.closed.set hil ho hpr, hS.closed'.set hilst ho (fun j hj => hS.sub j (hpr j hj)), by rw [put_tmps_size]; exact hS.sizeA, by rw [put_tmps_size]; exact hS.sizeB, by rw [put_defers, put_defers], fun t ht => ?_⟩ rfl hC'
            · rw [set_true hil] at hj
              rw [set_true hilst]
              exact hj.imp id (hS.sub j)
            · rw [set_false hil] at hjn
              rw [set_true hilst] at hj
              have hj' := hj.resolve_left hjn.1
              obtain ⟨h1, _⟩ := hS.only j p hp hj' hjn.2
              refine ⟨h1, hlo j ?_ p hp⟩
              unfold loose
              rw [List.mem_filter]
              refine ⟨by simpa using (List.getElem?_eq_some_iff.1 hp).1, ?_⟩
              have hjt : (lst.setIfInBounds i true)[j]? = some true := by rw [set_true hilst]; exact .inr hj'
              simp only [Array.getD_eq_getD_getElem?, hjt, Option.getD_some, hp, h1, Bool.true_and, Bool.not_eq_true']
              cases hsure : sure l (lst.setIfInBounds i true) j with
              | false => rfl
              | true =>
                exfalso
                unfold sure at hsure
                obtain ⟨k, hk, hks⟩ := List.any_eq_true.1 hsure
                simp only [Bool.and_eq_true] at hks
                obtain ⟨⟨hk1, hk2⟩, hk3⟩ := hks
                have hkt : (lst.setIfInBounds i true)[k]? = some true := by
                  cases hv : (lst.setIfInBounds i true)[k]? with
                  | none => simp [Array.getD_eq_getD_getElem?, hv] at hk1
                  | some c => simp [Array.getD_eq_getD_getElem?, hv] at hk1; rw [hk1]
                cases hlk : l[k]? with
                | none => rw [hlk] at hk2; cases hk2
                | some ok =>
                  rw [hlk] at hk2
                  have hkE : isS ok = false := by simpa using hk2
                  have hkl : (listed.setIfInBounds i true)[k]? = some true := by
                    rw [set_true hilst] at hkt
                    rw [set_true hil]
                    rcases hkt with e | hkt
                    · exact .inl e
                    · right
                      exact Classical.byContradiction fun hno => by
                        have hks : k < listed.size := by rw [hS.len]; exact (List.getElem?_eq_some_iff.1 hlk).1
                        have := (hS.only k ok hlk hkt (bool_at hks hno)).1
                        rw [hkE] at this; cases this
                  have hanc := (hS.closed.set hil ho hpr).ofAncs l.length k hkl j (List.contains_iff_mem.1 hk3)
                  rw [set_true hil] at hanc
                  rcases hanc with e | hanc
                  · exact hjn.1 e
                  · rw [hjn.2] at hanc; cases hanc
            · have hbase : ∀ x : Act, ({ x with defers := D } : Act).tmps = x.tmps := fun _ => rfl
              by_cases e : o.dst = some t
              · rw [e]
                have htN := ((okC.at hok ho).2.2 t e).1
                rw [get_put_eq _ _ (by rw [hbase, hS.sizeA]; exact htN), get_put_eq _ _ (by rw [hbase, hS.sizeB]; exact htN)]
              · rw [get_put_ne _ _ e, get_put_ne _ _ e]
                refine hS.same t fun j p hp hj hjn hdp => ?_
                by_cases ej : j = i
                · subst ej; rw [hnin] at hj; cases hj
                · exact ht j p hp (by rw [set_true hilst]; exact .inr hj) (by rw [set_false hil]; exact ⟨ej, hjn⟩) hdp
end
end Go.Proofs.Ytkjmjnddanhapaa
