/-
  Part 1 of 6 of a proof: sourceNests_holds. No condition beyond those that stand in each statement.
-/
import Derived.WalkKit
import Derived.WalkSpells
import Derived.WalkLawsBesides
import Derived.Orders
import Derived.Deep.AppendSrc
import Derived.Laws.AppendOwnNone
import Derived.Lib.AppendZeros
import Derived.Laws.Entries
import Derived.Laws.Small
import Derived.Laws.BytesArg
import Derived.Laws.Strings
import Derived.Laws.Slices
import Derived.Lib.ConvBytes
import Derived.Lib.Bytealg
import Derived.Lib.IndexMore
import Derived.Lib.Bytes2
import Derived.Defers
import Derived.Laws.Build
import Derived.RangeFuncNested
import Derived.RangeFuncLeaves
import Derived.RangeFuncCalls
import Derived.Shelf.Small.Strs
import Derived.Shelf.Strings.Search1
import Derived.Shelf.Strings.Search2
import Derived.Shelf.Strings.Search3
import Derived.Shelf.LaysM
import Derived.Shelf.Strings.Shaped
import Derived.Shelf.Strings.Prefix
import Derived.Shelf.Slices.Turned
import Derived.Test.YtfoolfecjjngpaaGreatProg
import Derived.Test.YtfoolfecjjngpaaGreatChecked
import Derived.Recover
import Derived.WideLaws
import Derived.MapKept
import Derived.Lib.SliceRun
import Derived.KernelRfl
import Derived.ProofKit
import Derived.Shelf.Vars
import Derived.Carry
import Derived.HandedShaped
set_option linter.unusedVariables false
set_option linter.unusedSimpArgs false
namespace Go.Proofs.YtfoolfecjjngpaaGreat
open Go.RowKit
theorem lR {n : Nat} : n ≤ n := Nat.le_refl n
theorem lB {m n : Nat} (h : Nat.ble m n = true) : m ≤ n := Nat.le_of_ble_eq_true h
theorem beqF {a b : Nat} (h : ¬ a = b) : Nat.beq a b = false := by
  cases e : Nat.beq a b
  · rfl
  · exact absurd (Nat.eq_of_beq_eq_true e) h
theorem beqT {a b : Nat} (h : a = b) : Nat.beq a b = true := by subst h; exact Nat.beq_refl a
theorem neB {a b : Nat} (h : Nat.beq a b = false) : ¬ a = b := fun e => by rw [beqT e] at h; cases h
def look : List (Nat × Value) → Nat → Option Value
  | [], _ => none
  | p :: r, t => bif Nat.beq p.1 t then some p.2 else look r t
def ev (L : List (Nat × Value)) : Operand → Option Value
  | .tmp t => look L t
  | .const v => some v
  | .global g => some (.pointer (some ⟨g, 0, none⟩))
  | .func f => some (.func (.func f) #[] #[])
def evs (L : List (Nat × Value)) : List Operand → Option (List Value)
  | [] => some []
  | x :: r => match ev L x, evs L r with
    | some v, some vs => some (v :: vs)
    | _, _ => none
structure Is (N : Nat) (ds : List Deferred) (L : List (Nat × Value)) (a : Act) : Prop where
  size : a.tmps.size = N
  defers : a.defers = ds
  get : ∀ t v, look L t = some v → a.tmps.getD t undef = v
def At (N : Nat) (ds : List Deferred) (L : List (Nat × Value)) (G : Act → World → Prop) (w : World) : Prop := ∀ a, Is N ds L a → G a w
section
variable {P : Program} {N : Nat} {ds : List Deferred} {L : List (Nat × Value)} {a : Act} {w w' : World} {ops : Array Oper} {Q : Exit → Act → World → Prop} {rest : List Oper}
theorem Is.ev (h : Is N ds L a) {x : Operand} {v : Value} (hx : ev L x = some v) : a.eval x = v := by
  cases x with
  | tmp t => exact h.get t v hx
  | const c => simpa [Act.eval, YtfoolfecjjngpaaGreat.ev] using hx
  | global g => simpa [Act.eval, YtfoolfecjjngpaaGreat.ev] using hx
  | func f => simpa [Act.eval, YtfoolfecjjngpaaGreat.ev] using hx
theorem Is.evs (h : Is N ds L a) : ∀ {l : List Operand} {vs : List Value}, YtfoolfecjjngpaaGreat.evs L l = some vs → l.map a.eval = vs := by
  intro l
  induction l with
  | nil => intro vs hv; simpa [YtfoolfecjjngpaaGreat.evs] using hv
  | cons x r ih =>
    intro vs hv
    unfold YtfoolfecjjngpaaGreat.evs at hv
    split at hv
    · rename_i v vs' hx hr
      obtain rfl := Option.some.inj hv
      simp [h.ev hx, ih hr]
    · cases hv
theorem Is.put (h : Is N ds L a) {d : Nat} {v : Value} (hd : Nat.blt d N = true) : Is N ds ((d, v) :: L) (a.put (some d) v) := by
  have hd' : d < N := by simpa [Nat.blt_eq] using hd
  refine ⟨by simp [Act.put, h.size], by simp [Act.put, h.defers], fun t u hu => ?_⟩
  simp only [look] at hu
  by_cases e : d = t
  · subst e
    simp at hu
    subst hu
    simp [Act.put, h.size, hd']
  · have : Nat.beq d t = false := beqF e
    rw [this] at hu
    have := h.get t u hu
    simpa [Act.put, Array.getElem?_setIfInBounds_ne e] using this
theorem At.less {G : Act → World → Prop} (L' : List (Nat × Value)) (hL : ∀ p ∈ L', look L p.1 = some p.2) (h : At N ds L' G w) : At N ds L G w := by
  intro a ha
  refine h a ⟨ha.size, ha.defers, fun t v hv => ?_⟩
  have key : ∀ M : List (Nat × Value), look M t = some v → (t, v) ∈ M := by
    intro M
    induction M with
    | nil => intro h; simp [look] at h
    | cons p r ih =>
      intro h
      simp only [look] at h
      by_cases e : p.1 = t
      · have : Nat.beq p.1 t = true := beqT e
        rw [this] at h
        simp at h
        cases p; simp_all
      · have : Nat.beq p.1 t = false := beqF e
        rw [this] at h
        exact List.mem_cons_of_mem _ (ih h)
  exact ha.get t v (hL (t, v) (key L' hv))
def Sub (L L' : List (Nat × Value)) : Prop := ∀ p ∈ L', look L p.1 = some p.2
theorem Sub.nil : Sub L [] := fun _ h => by cases h
theorem Sub.cons {d : Nat} {v : Value} {L' : List (Nat × Value)} (h : look L d = some v) (k : Sub L L') : Sub L ((d, v) :: L') := fun p hp => by
  cases List.mem_cons.1 hp with
  | inl e => subst e; exact h
  | inr e => exact k p e
theorem sC {L : List (Nat × Value)} {d : Nat} {v : Value} {L' : List (Nat × Value)} (h : look L d = some v) (k : Sub L L') : Sub L ((d, v) :: L') := Sub.cons h k
theorem sN {L : List (Nat × Value)} : Sub L [] := Sub.nil
theorem Is.sub {L' : List (Nat × Value)} (h : Is N ds L a) (hL : Sub L L') : Is N ds L' a := by
  have := At.less (G := fun a _ => Is N ds L' a) (w := (default : World)) (N := N) (ds := ds) (L := L) L' hL (fun a h => h)
  exact this a h
theorem At.sub {G : Act → World → Prop} {L' : List (Nat × Value)} (hL : Sub L L') (h : At N ds L' G w) : At N ds L G w := At.less L' hL h
theorem At.set {G : Act → World → Prop} {d : Nat} {v u : Value} (hv : look L d = some v) (e : v = u) (h : At N ds ((d, u) :: L) G w) : At N ds L G w := by
  intro a ha
  subst e
  refine h a ⟨ha.size, ha.defers, fun t x hx => ?_⟩
  simp only [look] at hx
  by_cases q : d = t
  · subst q; simp at hx; subst hx; exact ha.get d v hv
  · have : Nat.beq d t = false := beqF q
    rw [this] at hx; exact ha.get t x hx
theorem At.cases {G : Act → World → Prop} (b : Bool) (ht : b = true → At N ds L G w) (hf : b = false → At N ds L G w) : At N ds L G w := by
  cases b
  · exact hf rfl
  · exact ht rfl
theorem At.enter {f : FuncId} {fn : Func} {c : Code} {args : List Value} {R : Ending → World → Prop} (hf : P.funcs[f]? = some fn) (hb : fn.body = some c)
    (hn : fn.ntmps = N) (hl : args.length ≤ N) (L : List (Nat × Value)) (hL : ∀ p ∈ L, args[p.1]? = some p.2) (h : At N [] L (c.wp P (bodyPost P fn R)) w) :
    Calls P f args.toArray w R := by
  refine calls_of_wp hf hb (h _ ⟨?_, rfl, fun t v hv => ?_⟩)
  · simp [hn]; omega
  · have key : ∀ M : List (Nat × Value), (∀ p ∈ M, args[p.1]? = some p.2) → look M t = some v → args[t]? = some v := by
      intro M
      induction M with
      | nil => intro _ h; simp [look] at h
      | cons p r ih =>
        intro hM h
        simp only [look] at h
        by_cases e : p.1 = t
        · have : Nat.beq p.1 t = true := beqT e
          rw [this] at h; simp at h
          have := hM p (by simp)
          rw [e, h] at this; exact this
        · have : Nat.beq p.1 t = false := beqF e
          rw [this] at h
          exact ih (fun p hp => hM p (List.mem_cons_of_mem _ hp)) h
    have h1 := key L hL hv
    have hlt : t < args.length := (List.getElem?_eq_some_iff.1 h1).1
    have h2 := (List.getElem?_eq_some_iff.1 h1).2
    simp [Array.getElem?_append, hlt, h2]
theorem At.seq {x y : Code} (h : At N ds L (x.wp P (Exit.then (y.wp P Q) Q)) w) : At N ds L ((Code.seq x y).wp P Q) w := fun a ha => wp_seq (h a ha)
theorem At.skip (h : At N ds L (Q .normal) w) : At N ds L (Code.skip.wp P Q) w := fun a ha => wp_skip (h a ha)
theorem At.exit {id : Nat} (h : At N ds L (Q (.exit id)) w) : At N ds L ((Code.exit id).wp P Q) w := fun a ha => wp_exit (h a ha)
theorem At.retc (h : At N ds L (Q .ret) w) : At N ds L (Code.ret.wp P Q) w := fun a ha => wp_ret (h a ha)
theorem At.block {id : Nat} {c : Code} (h : At N ds L (c.wp P (Exit.inBlock id Q)) w) : At N ds L ((Code.block id c).wp P Q) w := fun a ha => wp_block (h a ha)
theorem At.condT {c : Operand} {x y : Code} (hc : ev L c = some (.bool true)) (h : At N ds L (x.wp P Q) w) : At N ds L ((Code.cond c x y).wp P Q) w :=
  fun a ha => wp_cond_true (ha.ev hc) (h a ha)
theorem At.condF {c : Operand} {x y : Code} (hc : ev L c = some (.bool false)) (h : At N ds L (y.wp P Q) w) : At N ds L ((Code.cond c x y).wp P Q) w :=
  fun a ha => wp_cond_false (ha.ev hc) (h a ha)
theorem At.cond {c : Operand} {x y : Code} {b : Bool} (hc : ev L c = some (.bool b)) (ht : b = true → At N ds L (x.wp P Q) w) (hf : b = false → At N ds L (y.wp P Q) w) :
    At N ds L ((Code.cond c x y).wp P Q) w :=
  fun a ha => wp_cond_split (ha.ev hc) (fun e => ht e a ha) (fun e => hf e a ha)
theorem At.region {id : Nat} {l : List Oper} (h : At N ds L (wpList P l.toArray Q l) w) : At N ds L ((Code.region id l.toArray false).wp P Q) w := fun a ha => wp_region_lit (h a ha)
theorem At.thenN {K : Act → World → Prop} (h : At N ds L K w) : At N ds L (Exit.then K Q .normal) w := h
theorem At.thenE {K : Act → World → Prop} {id : Nat} (h : At N ds L (Q (.exit id)) w) : At N ds L (Exit.then K Q (.exit id)) w := h
theorem At.thenR {K : Act → World → Prop} (h : At N ds L (Q .ret) w) : At N ds L (Exit.then K Q .ret) w := h
theorem At.inN {id : Nat} (h : At N ds L (Q .normal) w) : At N ds L (Exit.inBlock id Q .normal) w := h
theorem At.inR {id : Nat} (h : At N ds L (Q .ret) w) : At N ds L (Exit.inBlock id Q .ret) w := h
theorem At.inE {id : Nat} (h : At N ds L (Q .normal) w) : At N ds L (Exit.inBlock id Q (.exit id)) w := fun a ha => by
  simp only [Exit.inBlock, if_true]; exact h a ha
theorem At.inO {id id' : Nat} (hn : Nat.beq id' id = false) (h : At N ds L (Q (.exit id')) w) : At N ds L (Exit.inBlock id Q (.exit id')) w := fun a ha => by
  have : ¬ id' = id := neB hn
  simp only [Exit.inBlock, if_neg this]; exact h a ha
theorem At.ops0 (h : At N ds L (Q .normal) w) : At N ds L (wpList P ops Q []) w := h
theorem At.loop {c : Code} (ι : Type) (T : ι → List (Nat × Value)) (I : ι → World → Prop) (μ : ι → Nat) (i0 : ι) (hs : Sub L (T i0)) (h0 : I i0 w)
    (round : ∀ i w, I i w → At N ds (T i) (c.wp P (Exit.then (fun a' w' => ∃ i', Is N ds (T i') a' ∧ I i' w' ∧ μ i' < μ i) Q)) w) :
    At N ds L ((Code.loop c).wp P Q) w := by
  intro a ha b k cs
  have key : ∀ n i, μ i = n → ∀ a w, Is N ds (T i) a → I i w →
      ∃ e a' w', Q e a' w' ∧ Arrives P (lone (b.at a (.code c :: .inLoop c :: k)) cs w) b k cs e a' w' := by
    intro n
    induction n using Nat.strongRecOn with
    | _ n ih =>
      intro i hn a w hI hw
      obtain ⟨e, a₁, w₁, hq, harr⟩ := round i w hw a hI b (.inLoop c :: k) cs
      cases e with
      | normal =>
        obtain ⟨i', h1, h2, hlt⟩ := hq
        obtain ⟨e₂, a₂, w₂, hq₂, harr₂⟩ := ih (μ i') (hn ▸ hlt) i' rfl a₁ w₁ h1 h2
        exact ⟨e₂, a₂, w₂, hq₂, .of_steps (Steps.trans harr (.one step_inLoop)) harr₂⟩
      | exit id => exact ⟨_, a₁, w₁, hq, .pass (x := .inLoop c) rfl (fun _ _ => .inl (by simp)) harr⟩
      | goto l => exact ⟨_, a₁, w₁, hq, .pass (x := .inLoop c) rfl (fun _ _ => .inl (by simp)) harr⟩
      | ret => exact ⟨_, a₁, w₁, hq, .pass (x := .inLoop c) rfl (fun _ _ => .inl (by simp)) harr⟩
      | panic ch => exact ⟨_, a₁, w₁, hq, .pass (x := .inLoop c) rfl (fun _ _ => .inl (by simp)) harr⟩
      | outgrown => exact ⟨_, a₁, w₁, hq, .pass (x := .inLoop c) rfl (fun _ _ => .inl (by simp)) harr⟩
  obtain ⟨e, a', w', hq, harr⟩ := key _ i0 rfl a w (ha.sub hs) h0
  exact ⟨e, a', w', hq, .of_steps (.one step_loop) harr⟩
end
def aggB (P : Program) (t : TypeId) : Option Bool :=
  match P.underlying t with
  | some (.struct _) | some (.array _ _) => some true
  | some _ => some false
  | none => none
def sizeB (P : Program) (t : TypeId) : Option Nat := (P.info? t).map (·.size)
def zeroB (P : Program) (t : TypeId) : Option Value := (P.info? t).bind (·.zero)
def elemB (P : Program) (t : TypeId) : Option TypeId := match P.underlying t with | some (.slice e) => some e | _ => none
def strB (P : Program) (t : TypeId) : Bool := match P.underlying t with | some .string => true | _ => false
def fieldB (P : Program) (t : TypeId) (i : Nat) : Option (Nat × Nat) :=
  match P.underlying t with
  | some (.struct fs) => match fs[i]? with
    | some f => match (P.info? f.type).map (·.size) with
      | some (n + 1) => some (f.offset, n + 1)
      | _ => none
    | none => none
  | _ => none
def entB (P : Program) (f : FuncId) : Bool :=
  match P.funcs[f]? with
  | some fn => !(fn.name == "runtime.NumGoroutine") && fn.body.isSome
  | none => false
section tables
variable {P : Program} {t : TypeId} {w : World}
theorem run_isAgg {b : Bool} (h : aggB P t = some b) : (isAgg t).run P w = .ok b w := by
  unfold aggB at h
  unfold isAgg
  cases hu : P.underlying t with
  | none => simp [hu] at h
  | some d =>
    rw [Sem.run_bind, run_underlying hu w]
    rw [hu] at h
    cases d <;> simp_all
theorem run_sizeOf {n : Nat} (h : sizeB P t = some n) : (sizeOf t).run P w = .ok n w := by
  unfold sizeB at h
  cases hi : P.info? t with
  | none => simp [hi] at h
  | some i => simp [hi] at h; simp [sizeOf, typeInfo, hi, h]
theorem run_zero {z : Value} (h : zeroB P t = some z) : (zeroValue t).run P w = .ok z w := by
  unfold zeroB at h
  cases hi : P.info? t with
  | none => simp [hi] at h
  | some i => simp [hi] at h; simp [zeroValue, typeInfo, hi, h]
theorem underlying_elem {e : TypeId} (h : elemB P t = some e) : P.underlying t = some (.slice e) := by
  unfold elemB at h
  split at h
  · rename_i e' hu; simp at h; subst h; exact hu
  · cases h
theorem underlying_str (h : strB P t = true) : P.underlying t = some .string := by
  unfold strB at h
  split at h
  · assumption
  · cases h
end tables
theorem add_at (b o n : Nat) : (⟨b, o, none⟩ : Addr).add n = ⟨b, o + n, none⟩ := by
  unfold Addr.add; split <;> simp_all
def CellsAt (w : World) (b o : Nat) (cs : Array Value) : Prop := ∀ j v, cs[j]? = some v → w.cell? ⟨b, o + j, none⟩ = some v
theorem CellsAt.own {w : World} {b : Nat} {C : Array Value} {T : TypeId} {fr : Nat × Nat} (h : w.heap[b]? = some (.cells C T fr)) : CellsAt w b 0 C := by
  intro j v hv; simp [World.cell?, h, hv]
theorem CellsAt.sub {w : World} {b o : Nat} {C : Array Value} (h : CellsAt w b o C) (k n : Nat) : CellsAt w b (o + k) (C.extract k (k + n)) := by
  intro j v hv
  have : C[k + j]? = some v := by
    rw [Array.getElem?_extract] at hv
    split at hv
    · exact hv
    · cases hv
  have := h (k + j) v this
  rw [Nat.add_assoc]; exact this
theorem cell_own {w : World} {b o : Nat} {C : Array Value} {T : TypeId} {fr : Nat × Nat} {v : Value} (h : w.heap[b]? = some (.cells C T fr)) (hv : C[o]? = some v) : w.cell? ⟨b, o, none⟩ = some v := by
  simp [World.cell?, h, hv]
def Ld (P : Program) (w : World) (t : TypeId) (b o : Nat) (v : Value) : Prop := (loadVar t ⟨b, o, none⟩).run P w = .ok v w
theorem Ld.cell {P : Program} {w : World} {t : TypeId} {b o : Nat} {v : Value} (ha : aggB P t = some false) (h : w.cell? ⟨b, o, none⟩ = some v) : Ld P w t b o v := by
  simp [Ld, loadVar, run_isAgg ha, h]
theorem Ld.row {P : Program} {w : World} {t : TypeId} {b o : Nat} {cs : Array Value} (ha : aggB P t = some true) (hs : sizeB P t = some cs.size) (h : CellsAt w b o cs) : Ld P w t b o (.agg cs) := by
  have hl := run_loadCells_list (P := P) w ⟨b, o, none⟩ cs.toList (fun j v hv => by rw [add_at]; exact h j v (by simpa using hv))
  simp only [Array.length_toList, Array.toArray_toList] at hl
  simp [Ld, loadVar, run_isAgg ha, run_sizeOf hs, hl]
theorem Ld.own {P : Program} {w : World} {t : TypeId} {b : Nat} {C : Array Value} {T : TypeId} {fr : Nat × Nat} (ha : aggB P t = some true) (hs : sizeB P t = some C.size) (h : w.heap[b]? = some (.cells C T fr)) : Ld P w t b 0 (.agg C) :=
  .row ha hs (.own h)
theorem Ld.ownCell {P : Program} {w : World} {t : TypeId} {b o : Nat} {C : Array Value} {T : TypeId} {fr : Nat × Nat} {v : Value} (ha : aggB P t = some false) (h : w.heap[b]? = some (.cells C T fr)) (hv : C[o]? = some v) : Ld P w t b o v :=
  .cell ha (cell_own h hv)
structure Fresh (w w' : World) (b : Nat) (o : Obj) : Prop where
  eq : b = w.heap.size
  size : w'.heap.size = b + 1
  new : w'.heap[b]? = some o
  grown : w.grownBy w' none
theorem Fresh.mk' (w : World) (o : Obj) : Fresh w (w.alloc o) w.heap.size o :=
  ⟨rfl, by simp, heap_alloc_new w o, ⟨rfl, rfl, rfl, by simp, fun k hk _ => Below.heap_alloc w o k hk⟩⟩
theorem Fresh.old {w w' : World} {b : Nat} {o : Obj} (h : Fresh w w' b o) {k : Nat} {x : Obj} (hk : w.heap[k]? = some x) : w'.heap[k]? = some x := by
  have : k < w.heap.size := (Array.getElem?_eq_some_iff.1 hk).1
  rw [h.grown.block k this (by simp)]; exact hk
theorem Fresh.lt {w w' : World} {b : Nat} {o : Obj} (h : Fresh w w' b o) {k : Nat} {x : Obj} (hk : w.heap[k]? = some x) : k < b := by
  have : k < w.heap.size := (Array.getElem?_eq_some_iff.1 hk).1
  have := h.eq; omega
theorem Fresh.ne' {w w' : World} {b : Nat} {o : Obj} (h : Fresh w w' b o) {k : Nat} {x : Obj} (hk : w.heap[k]? = some x) : k ≠ b := Nat.ne_of_lt (h.lt hk)
theorem Fresh.gq {w w' : World} {b n : Nat} {o : Obj} (h : Fresh w w' b o) (k : n ≤ w.heap.size) : n ≤ b := Nat.le_trans k (Nat.le_of_eq h.eq.symm)
theorem Fresh.below {w w' : World} {b B : Nat} {o : Obj} {w0 : World} (h : Fresh w w' b o) (hB : Below B w0 w) (hl : B ≤ w.heap.size) : Below B w0 w' :=
  hB.grown h.grown hl (fun _ e => by cases e)
structure SetB (w w' : World) (b : Nat) (o : Obj) : Prop where
  new : w'.heap[b]? = some o
  size : w'.heap.size = w.heap.size
  grown : w.grownBy w' (some b)
theorem SetB.other {w w' : World} {b k : Nat} {o x : Obj} (h : SetB w w' b o) (hk : w.heap[k]? = some x) (hn : k ≠ b) : w'.heap[k]? = some x := by
  have : k < w.heap.size := (Array.getElem?_eq_some_iff.1 hk).1
  rw [h.grown.block k this (by simpa using hn)]; exact hk
theorem SetB.below {w w' : World} {b B : Nat} {o : Obj} {w0 : World} (h : SetB w w' b o) (hB : Below B w0 w) (hl : B ≤ w.heap.size) (hb : B ≤ b) : Below B w0 w' :=
  hB.grown h.grown hl (fun k e => by cases e; exact hb)
def splice (C : Array Value) (o : Nat) (vs : Array Value) : Array Value := (C.toList.take o ++ vs.toList ++ C.toList.drop (o + vs.size)).toArray
theorem splice_all {C vs : Array Value} (h : C.size = vs.size) : splice C 0 vs = vs := by
  have : C.toList.drop (0 + vs.size) = [] := by simp; omega
  simp only [splice, this, List.take_zero, List.nil_append, List.append_nil, Array.toArray_toList]
theorem splice_one {C : Array Value} {o : Nat} {v : Value} (h : o < C.size) : splice C o #[v] = C.setIfInBounds o v := by
  apply Array.ext'
  simp only [splice, Array.toList_setIfInBounds]
  rw [List.set_eq_take_append_cons_drop, if_pos (by simpa using h)]
  simp
theorem splice_size {C vs : Array Value} {o : Nat} (h : o + vs.size ≤ C.size) : (splice C o vs).size = C.size := by
  simp [splice]; omega
theorem cells_one {v : Value} (h : v.oneCell' = true) : v.cells = #[v] := by
  cases v <;> simp_all [Value.cells, Value.oneCell']
theorem SetB.of_setRow {w : World} {b : Nat} {C : Array Value} {T : TypeId} {fr : Nat × Nat} (h : w.heap[b]? = some (.cells C T fr)) (C' : Array Value) : SetB w (w.setRow b C') b (.cells C' T fr) := by
  refine ⟨setRow_heap w b C C' T fr h, by simp, rfl, rfl, rfl, by simp, fun k hk hne => ?_⟩
  exact setRow_other w b k C' (by simpa using hne)
theorem run_storeVar_at {P : Program} {w : World} {b o : Nat} {t T : TypeId} {C : Array Value} {v : Value} (hs : sizeB P t = some v.cells.size) (hb : w.heap[b]? = some (.cells C T (0, 0)))
    (hr : o + v.cells.size ≤ C.size) (h1 : ∀ c ∈ v.cells.toList, c.oneCell' = true) : (storeVar t ⟨b, o, none⟩ v).run P w = .ok () (w.setRow b (splice C o v.cells)) := by
  have hl := run_storeCells_at (P := P) b o T v.cells.toList 0 C w hb (by simpa using hr) h1
  simp only [Nat.add_zero, Array.length_toList] at hl
  simp [storeVar, run_sizeOf hs, hl, splice]
def vBlock : Value → Nat
  | .slice (some a) _ _ => a.block
  | _ => 0
def vOff : Value → Nat
  | .slice (some a) _ _ => a.off
  | _ => 0
def SlOk (v : Value) (n : Nat) : Prop := (v = .slice none 0 0 ∧ n = 0) ∨ ∃ (a : Addr) (cap : Nat), v = .slice (some a) n cap ∧ n ≤ cap ∧ (0 < n → a.spot = none)
theorem SlOk.one {v : Value} {n : Nat} (h : SlOk v n) : v.oneCell' = true := by
  rcases h with ⟨rfl, _⟩ | ⟨a, c, rfl, _⟩ <;> rfl
section ops
variable {P : Program} {N : Nat} {ds : List Deferred} {L : List (Nat × Value)} {a : Act} {w w' : World} {ops : Array Oper} {Q : Exit → Act → World → Prop} {rest : List Oper}
  {d : Nat} {ty : TypeId} {pos : String} {aft : Array Edge} {x y z : Operand}
theorem At.op {o : Oper} {v : Value} (hg : o.guard = none) (hd : o.dst = some d) (hN : Nat.blt d N = true) (run : ∀ a, Is N ds L a → (execOp a.eval o).run P w = .ok (.value v) w')
    (k : At N ds ((d, v) :: L) (wpList P ops Q rest) w') : At N ds L (wpList P ops Q (o :: rest)) w := fun a ha => by
  refine wpList_plain hg fun K hK => ?_
  unfold Oper.wp
  rw [run a ha, Oper.upon_value, hd]
  exact hK _ _ (k _ (ha.put hN))
theorem At.opS {o : Oper} (hg : o.guard = none) (hd : o.dst = none) (run : ∀ a, Is N ds L a → (execOp a.eval o).run P w = .ok .skip w')
    (k : At N ds L (wpList P ops Q rest) w') : At N ds L (wpList P ops Q (o :: rest)) w := fun a ha => by
  refine wpList_plain hg fun K hK => ?_
  unfold Oper.wp
  rw [run a ha, Oper.upon_skip, hd]
  exact hK _ _ (k _ ha)
theorem At.yes {o : Oper} {j g : Nat} {b : Bool} (hg : o.guard = some (j, b)) (hj : (ops[j]?).bind (·.dst) = some g) (hN : Nat.blt g N = true) (hv : look L g = some (.bool b))
    (k : At N ds L (wpList P ops Q ({ o with guard := none } :: rest)) w) : At N ds L (wpList P ops Q (o :: rest)) w := fun a ha => by
  have h := k a ha
  have hN' : g < a.tmps.size := by rw [ha.size]; simpa [Nat.blt_eq] using hN
  have hy : Region.wanted o (yielded ops a.tmps) = true := by
    have hgv := ha.get g _ hv
    have : a.tmps[g]? = some (.bool b) := by
      rw [Array.getElem?_eq_getElem hN']; simpa [hN'] using hgv
    simp [Region.wanted, hg, yielded, hj, this]
  unfold wpList at h ⊢
  rw [if_pos (by simp [Region.wanted])] at h
  rw [if_pos hy]
  exact h
theorem At.no {o : Oper} {j g : Nat} {b c : Bool} (hg : o.guard = some (j, b)) (hj : (ops[j]?).bind (·.dst) = some g) (hN : Nat.blt g N = true) (hv : look L g = some (.bool c)) (hc : (c == b) = false)
    (hd : o.dst = some d) (hdN : Nat.blt d N = true) (k : At N ds ((d, undef) :: L) (wpList P ops Q rest) w) : At N ds L (wpList P ops Q (o :: rest)) w := fun a ha => by
  have hN' : g < a.tmps.size := by rw [ha.size]; simpa [Nat.blt_eq] using hN
  have hy : Region.wanted o (yielded ops a.tmps) = false := by
    have hgv := ha.get g _ hv
    have : a.tmps[g]? = some (.bool c) := by
      rw [Array.getElem?_eq_getElem hN']; simpa [hN'] using hgv
    have hcb : ¬ c = b := by intro e; subst e; simp at hc
    simp [Region.wanted, hg, yielded, hj, this, hcb]
  unfold wpList
  rw [if_neg (by rw [hy]; simp), hd]
  exact k _ (ha.put hdN)
theorem At.move {v : Value} (hx : ev L x = some v) (hN : Nat.blt d N = true) (k : At N ds ((d, v) :: L) (wpList P ops Q rest) w) :
    At N ds L (wpList P ops Q (⟨some d, .move x, ty, pos, aft, none⟩ :: rest)) w :=
  At.op rfl rfl hN (fun a ha => by simp [execOp, ha.ev hx]) k
theorem At.assign {v : Value} (hx : ev L x = some v) (hN : Nat.blt d N = true) (k : At N ds ((d, v) :: L) (wpList P ops Q rest) w) :
    At N ds L (wpList P ops Q (⟨some d, .assign x, ty, pos, aft, none⟩ :: rest)) w :=
  At.op rfl rfl hN (fun a ha => by simp [execOp, ha.ev hx]) k
theorem At.pickT {v : Value} (hc : ev L x = some (.bool true)) (hy : ev L y = some v) (hN : Nat.blt d N = true) (k : At N ds ((d, v) :: L) (wpList P ops Q rest) w) :
    At N ds L (wpList P ops Q (⟨some d, .pick x y z, ty, pos, aft, none⟩ :: rest)) w :=
  At.op rfl rfl hN (fun a ha => by simp [execOp, ha.ev hc, ha.ev hy, asBool]) k
theorem At.pickF {v : Value} (hc : ev L x = some (.bool false)) (hz : ev L z = some v) (hN : Nat.blt d N = true) (k : At N ds ((d, v) :: L) (wpList P ops Q rest) w) :
    At N ds L (wpList P ops Q (⟨some d, .pick x y z, ty, pos, aft, none⟩ :: rest)) w :=
  At.op rfl rfl hN (fun a ha => by simp [execOp, ha.ev hc, ha.ev hz, asBool]) k
theorem At.not {u : TypeId} {b : Bool} (hx : ev L x = some (.bool b)) (hN : Nat.blt d N = true) (k : At N ds ((d, .bool (!b)) :: L) (wpList P ops Q rest) w) :
    At N ds L (wpList P ops Q (⟨some d, .unOp .not u x, ty, pos, aft, none⟩ :: rest)) w :=
  At.op rfl rfl hN (fun a ha => by simp [execOp, ha.ev hx, Op.unary]) k
theorem At.extract {vs : Array Value} {i : Nat} {v : Value} (hx : ev L x = some (.tuple vs)) (hi : vs[i]? = some v) (hN : Nat.blt d N = true) (k : At N ds ((d, v) :: L) (wpList P ops Q rest) w) :
    At N ds L (wpList P ops Q (⟨some d, .extract x i, ty, pos, aft, none⟩ :: rest)) w :=
  At.op rfl rfl hN (fun a ha => by simp [execOp, ha.ev hx, Instr.extract, hi]) k
theorem At.nilCheck {p : Addr} (hx : ev L x = some (.pointer (some p))) (hN : Nat.blt d N = true) (k : At N ds ((d, .pointer (some p)) :: L) (wpList P ops Q rest) w) :
    At N ds L (wpList P ops Q (⟨some d, .nilCheck x, ty, pos, aft, none⟩ :: rest)) w :=
  At.op rfl rfl hN (fun a ha => by simp only [execOp, ha.ev hx]; rfl) k
theorem At.makeFunc {fn : Fn} {cap : Array Operand} {vs : List Value} (hc : evs L cap.toList = some vs) (hN : Nat.blt d N = true) (k : At N ds ((d, .func fn #[] vs.toArray) :: L) (wpList P ops Q rest) w) :
    At N ds L (wpList P ops Q (⟨some d, .makeFunc fn #[] cap, ty, pos, aft, none⟩ :: rest)) w :=
  At.op rfl rfl hN (fun a ha => by
    have h := ha.evs hc
    have : cap.map a.eval = vs.toArray := by apply Array.ext'; rw [← h]; simp
    simp [execOp, Instr.makeFunc, this]) k
theorem At.lss {q : IntKind} {m n : Int} {u u' : TypeId} (hx : ev L x = some (.int q m)) (hy : ev L y = some (.int q n)) (hN : Nat.blt d N = true) (k : At N ds ((d, .bool (decide (m < n))) :: L) (wpList P ops Q rest) w) :
    At N ds L (wpList P ops Q (⟨some d, .binOp .lss u x y u', ty, pos, aft, none⟩ :: rest)) w :=
  At.op rfl rfl hN (fun a ha => by simp [execOp, ha.ev hx, ha.ev hy, eqGuard, binOp, Op.intCmp]) k
theorem At.leq {q : IntKind} {m n : Int} {u u' : TypeId} (hx : ev L x = some (.int q m)) (hy : ev L y = some (.int q n)) (hN : Nat.blt d N = true) (k : At N ds ((d, .bool (decide (m ≤ n))) :: L) (wpList P ops Q rest) w) :
    At N ds L (wpList P ops Q (⟨some d, .binOp .leq u x y u', ty, pos, aft, none⟩ :: rest)) w :=
  At.op rfl rfl hN (fun a ha => by simp [execOp, ha.ev hx, ha.ev hy, eqGuard, binOp, Op.intCmp]) k
theorem At.gtr {q : IntKind} {m n : Int} {u u' : TypeId} (hx : ev L x = some (.int q m)) (hy : ev L y = some (.int q n)) (hN : Nat.blt d N = true) (k : At N ds ((d, .bool (decide (n < m))) :: L) (wpList P ops Q rest) w) :
    At N ds L (wpList P ops Q (⟨some d, .binOp .gtr u x y u', ty, pos, aft, none⟩ :: rest)) w :=
  At.op rfl rfl hN (fun a ha => by simp [execOp, ha.ev hx, ha.ev hy, eqGuard, binOp, Op.intCmp]) k
theorem At.geq {q : IntKind} {m n : Int} {u u' : TypeId} (hx : ev L x = some (.int q m)) (hy : ev L y = some (.int q n)) (hN : Nat.blt d N = true) (k : At N ds ((d, .bool (decide (n ≤ m))) :: L) (wpList P ops Q rest) w) :
    At N ds L (wpList P ops Q (⟨some d, .binOp .geq u x y u', ty, pos, aft, none⟩ :: rest)) w :=
  At.op rfl rfl hN (fun a ha => by simp [execOp, ha.ev hx, ha.ev hy, eqGuard, binOp, Op.intCmp]) k
theorem At.eqI {q : IntKind} {m n : Int} {u u' : TypeId} (hx : ev L x = some (.int q m)) (hy : ev L y = some (.int q n)) (hN : Nat.blt d N = true) (k : At N ds ((d, .bool (decide (m = n))) :: L) (wpList P ops Q rest) w) :
    At N ds L (wpList P ops Q (⟨some d, .binOp .eql u x y u', ty, pos, aft, none⟩ :: rest)) w :=
  At.op rfl rfl hN (fun a ha => by
    have e : (m == n) = decide (m = n) := rfl
    simp [execOp, ha.ev hx, ha.ev hy, eqGuard, binOp, Op.intCmp, e]) k
theorem At.neI {q : IntKind} {m n : Int} {u u' : TypeId} (hx : ev L x = some (.int q m)) (hy : ev L y = some (.int q n)) (hN : Nat.blt d N = true) (k : At N ds ((d, .bool (!decide (m = n))) :: L) (wpList P ops Q rest) w) :
    At N ds L (wpList P ops Q (⟨some d, .binOp .neq u x y u', ty, pos, aft, none⟩ :: rest)) w :=
  At.op rfl rfl hN (fun a ha => by
    have e : (m != n) = !decide (m = n) := rfl
    simp [execOp, ha.ev hx, ha.ev hy, eqGuard, binOp, Op.intCmp, e]) k
theorem At.add {q : IntKind} {m n : Int} {u u' : TypeId} (hx : ev L x = some (.int q m)) (hy : ev L y = some (.int q n)) (hN : Nat.blt d N = true) (k : At N ds ((d, .int q (q.wrap (m + n))) :: L) (wpList P ops Q rest) w) :
    At N ds L (wpList P ops Q (⟨some d, .binOp .add u x y u', ty, pos, aft, none⟩ :: rest)) w :=
  At.op rfl rfl hN (fun a ha => by simp [execOp, ha.ev hx, ha.ev hy, eqGuard, binOp, Op.intArith]) k
theorem At.sub' {q : IntKind} {m n : Int} {u u' : TypeId} (hx : ev L x = some (.int q m)) (hy : ev L y = some (.int q n)) (hN : Nat.blt d N = true) (k : At N ds ((d, .int q (q.wrap (m - n))) :: L) (wpList P ops Q rest) w) :
    At N ds L (wpList P ops Q (⟨some d, .binOp .sub u x y u', ty, pos, aft, none⟩ :: rest)) w :=
  At.op rfl rfl hN (fun a ha => by simp [execOp, ha.ev hx, ha.ev hy, eqGuard, binOp, Op.intArith]) k
theorem At.mul {q : IntKind} {m n : Int} {u u' : TypeId} (hx : ev L x = some (.int q m)) (hy : ev L y = some (.int q n)) (hN : Nat.blt d N = true) (k : At N ds ((d, .int q (q.wrap (m * n))) :: L) (wpList P ops Q rest) w) :
    At N ds L (wpList P ops Q (⟨some d, .binOp .mul u x y u', ty, pos, aft, none⟩ :: rest)) w :=
  At.op rfl rfl hN (fun a ha => by simp [execOp, ha.ev hx, ha.ev hy, eqGuard, binOp, Op.intArith]) k
theorem wrap64_id (n : Int) (h : -9223372036854775808 ≤ n ∧ n ≤ 9223372036854775807) : IntKind.i64.wrap n = n := IntWalk.i64_in _ ⟨h.1, h.2⟩
theorem At.addI {m n : Int} {u u' : TypeId} (hx : ev L x = some (.int .i64 m)) (hy : ev L y = some (.int .i64 n)) (hN : Nat.blt d N = true) (hb : -9223372036854775808 ≤ m + n ∧ m + n ≤ 9223372036854775807)
    (k : At N ds ((d, .int .i64 (m + n)) :: L) (wpList P ops Q rest) w) : At N ds L (wpList P ops Q (⟨some d, .binOp .add u x y u', ty, pos, aft, none⟩ :: rest)) w :=
  At.add hx hy hN (by rw [wrap64_id _ hb]; exact k)
theorem At.subI {m n : Int} {u u' : TypeId} (hx : ev L x = some (.int .i64 m)) (hy : ev L y = some (.int .i64 n)) (hN : Nat.blt d N = true) (hb : -9223372036854775808 ≤ m - n ∧ m - n ≤ 9223372036854775807)
    (k : At N ds ((d, .int .i64 (m - n)) :: L) (wpList P ops Q rest) w) : At N ds L (wpList P ops Q (⟨some d, .binOp .sub u x y u', ty, pos, aft, none⟩ :: rest)) w :=
  At.sub' hx hy hN (by rw [wrap64_id _ hb]; exact k)
theorem toList_beq (s t : ByteArray) : (s.toList == t.toList) = decide (s = t) := by
  by_cases h : s = t
  · subst h; simp
  · have : ¬ s.toList = t.toList := fun e => h (by
      have e1 : s.data.toList = t.data.toList := by
        have := e; rwa [ByteArray.toList_eq s, ByteArray.toList_eq t] at this
      cases s; cases t; simp only [ByteArray.mk.injEq]; exact Array.ext' e1)
    simp [h, this]
theorem At.eqS {s t : ByteArray} {u u' : TypeId} (hx : ev L x = some (.string s)) (hy : ev L y = some (.string t)) (hN : Nat.blt d N = true) (k : At N ds ((d, .bool (decide (s = t))) :: L) (wpList P ops Q rest) w) :
    At N ds L (wpList P ops Q (⟨some d, .binOp .eql u x y u', ty, pos, aft, none⟩ :: rest)) w :=
  At.op rfl rfl hN (fun a ha => by
    have e := toList_beq s t
    simp [execOp, ha.ev hx, ha.ev hy, eqGuard, binOp, Op.stringOp, e]) k
theorem At.neS {s t : ByteArray} {u u' : TypeId} (hx : ev L x = some (.string s)) (hy : ev L y = some (.string t)) (hN : Nat.blt d N = true) (k : At N ds ((d, .bool (!decide (s = t))) :: L) (wpList P ops Q rest) w) :
    At N ds L (wpList P ops Q (⟨some d, .binOp .neq u x y u', ty, pos, aft, none⟩ :: rest)) w :=
  At.op rfl rfl hN (fun a ha => by
    have e := toList_beq s t
    simp [execOp, ha.ev hx, ha.ev hy, eqGuard, binOp, Op.stringOp, e]) k
theorem At.cat {s t : ByteArray} {u u' : TypeId} (hx : ev L x = some (.string s)) (hy : ev L y = some (.string t)) (hN : Nat.blt d N = true) (hl : s.size + t.size ≤ 9223372036854775807)
    (k : At N ds ((d, .string (s ++ t)) :: L) (wpList P ops Q rest) w) :
    At N ds L (wpList P ops Q (⟨some d, .binOp .add u x y u', ty, pos, aft, none⟩ :: rest)) w :=
  At.op rfl rfl hN (fun a ha => by
    have : ¬ ((s.size + t.size : Nat) : Int) > IntKind.i64.max := by
      have : IntKind.i64.max = 9223372036854775807 := by decide
      omega
    simp only [execOp, ha.ev hx, ha.ev hy, eqGuard, binOp, Op.stringOp, if_neg this]
    rfl) k
theorem At.fieldAddr {s : TypeId} {i b o off sz : Nat} (hx : ev L x = some (.pointer (some ⟨b, o, none⟩))) (hf : fieldB P s i = some (off, sz)) (hN : Nat.blt d N = true)
    (k : At N ds ((d, .pointer (some ⟨b, o + off, none⟩)) :: L) (wpList P ops Q rest) w) : At N ds L (wpList P ops Q (⟨some d, .fieldAddr s x i, ty, pos, aft, none⟩ :: rest)) w :=
  At.op rfl rfl hN (fun a ha => by
    unfold fieldB at hf
    split at hf
    · rename_i fs hu
      split at hf
      · rename_i f hfi
        split at hf
        · rename_i n hn
          simp only [Option.some.injEq, Prod.mk.injEq] at hf
          obtain ⟨rfl, rfl⟩ := hf
          have hsz : (sizeOf f.type).run P w = .ok (n + 1) w := run_sizeOf hn
          simp only [execOp, ha.ev hx, Instr.fieldAt, Sem.run_bind, run_underlying hu, Result.andThen_ok, hfi, Instr.sureAddr, Sem.run_pure, fieldPlace, hsz, Nat.succ_ne_zero, if_false, add_at]
        · cases hf
      · cases hf
    · cases hf) k
theorem At.indexAddr {t e : TypeId} {v : Value} {q : IntKind} {i n sz : Nat} (hx : ev L x = some v) (hy : ev L y = some (.int q (i : Int))) (hs : SlOk v n) (hi : i < n) (he : elemB P t = some e) (hz : sizeB P e = some sz) (hN : Nat.blt d N = true)
    (k : At N ds ((d, .pointer (some ⟨vBlock v, vOff v + i * sz, none⟩)) :: L) (wpList P ops Q rest) w) : At N ds L (wpList P ops Q (⟨some d, .indexAddr t x y, ty, pos, aft, none⟩ :: rest)) w :=
  At.op rfl rfl hN (fun a ha => by
    rcases hs with ⟨rfl, rfl⟩ | ⟨⟨b, o, sp⟩, cap, rfl, _, hsp⟩
    · omega
    obtain rfl : sp = none := hsp (by omega)
    have h0 : (0 : Int) ≤ (i : Int) ∧ (i : Int) < (n : Int) := by omega
    simp only [execOp, ha.ev hx, ha.ev hy, Instr.indexAt, asIntOf, Sem.run_bind, Sem.run_pure, Result.andThen_ok, run_underlying (underlying_elem he), if_pos h0, run_sizeOf hz, add_at, Int.toNat_natCast, vBlock, vOff]) k
theorem At.box {t : TypeId} {v : Value} (hx : ev L x = some v) (hN : Nat.blt d N = true)
    (k : ∀ b w', Fresh w w' b (.cells v.cells t) → At N ds ((d, .pointer (some ⟨b, 0, none⟩)) :: L) (wpList P ops Q rest) w') : At N ds L (wpList P ops Q (⟨some d, .box t x, ty, pos, aft, none⟩ :: rest)) w :=
  At.op rfl rfl hN (fun a ha => by simp only [execOp, ha.ev hx, Instr.box, newVar, newRow, Sem.run_bind, run_newObj, Result.andThen_ok, Sem.run_pure]; rfl) (k _ _ (Fresh.mk' w _))
theorem At.alloc {t : TypeId} {z : Value} (hz : zeroB P t = some z) (hN : Nat.blt d N = true)
    (k : ∀ b w', Fresh w w' b (.cells z.cells t) → At N ds ((d, .pointer (some ⟨b, 0, none⟩)) :: L) (wpList P ops Q rest) w') : At N ds L (wpList P ops Q (⟨some d, .alloc t, ty, pos, aft, none⟩ :: rest)) w :=
  At.op rfl rfl hN (fun a ha => by simp only [execOp, Instr.alloc, run_zero hz, newVar, newRow, Sem.run_bind, run_newObj, Result.andThen_ok, Sem.run_pure]; rfl) (k _ _ (Fresh.mk' w _))
theorem At.load {t : TypeId} {b o : Nat} {v : Value} (hx : ev L x = some (.pointer (some ⟨b, o, none⟩))) (hl : Ld P w t b o v) (hN : Nat.blt d N = true) (k : At N ds ((d, v) :: L) (wpList P ops Q rest) w) :
    At N ds L (wpList P ops Q (⟨some d, .load t x, ty, pos, aft, none⟩ :: rest)) w :=
  At.op rfl rfl hN (fun a ha => by
    unfold Ld at hl
    simp only [execOp, ha.ev hx, Instr.loadAt, Instr.sureAddr, Sem.run_bind, Sem.run_pure, Result.andThen_ok, hl]) k
theorem At.store {t T : TypeId} {b o : Nat} {v : Value} {C : Array Value} (hx : ev L x = some (.pointer (some ⟨b, o, none⟩))) (hy : ev L y = some v) (hb : w.heap[b]? = some (.cells C T)) (hs : sizeB P t = some v.cells.size)
    (hr : o + v.cells.size ≤ C.size) (h1 : v.cells.all (·.oneCell') = true) (k : ∀ w', SetB w w' b (.cells (splice C o v.cells) T) → At N ds L (wpList P ops Q rest) w') :
    At N ds L (wpList P ops Q (⟨none, .store t x y, ty, pos, aft, none⟩ :: rest)) w :=
  At.opS rfl rfl (fun a ha => by
    have hst := run_storeVar_at (P := P) (o := o) (t := t) (v := v) hs hb hr (by intro c hc; exact (Array.all_eq_true'.1 h1) c (by simpa using hc))
    simp only [execOp, ha.ev hx, ha.ev hy, Instr.storeAt, Instr.sureAddr, Sem.run_bind, Sem.run_pure, Result.andThen_ok, hst]) (k _ (SetB.of_setRow hb _))
theorem At.storeAll {t T : TypeId} {b : Nat} {C C' : Array Value} (hx : ev L x = some (.pointer (some ⟨b, 0, none⟩))) (hy : ev L y = some (.agg C')) (hb : w.heap[b]? = some (.cells C T)) (hs : sizeB P t = some C'.size)
    (hr : C.size = C'.size) (h1 : C'.all (·.oneCell') = true) (k : ∀ w', SetB w w' b (.cells C' T) → At N ds L (wpList P ops Q rest) w') :
    At N ds L (wpList P ops Q (⟨none, .store t x y, ty, pos, aft, none⟩ :: rest)) w :=
  At.store hx hy hb hs (by show 0 + C'.size ≤ _; omega) h1 (fun w' h => k w' (by
    have e : splice C 0 (Value.agg C').cells = C' := splice_all hr
    rwa [e] at h))
theorem At.store1 {t T : TypeId} {b o : Nat} {v : Value} {C : Array Value} (hx : ev L x = some (.pointer (some ⟨b, o, none⟩))) (hy : ev L y = some v) (hb : w.heap[b]? = some (.cells C T)) (hs : sizeB P t = some 1)
    (hr : o < C.size) (h1 : v.oneCell' = true) (k : ∀ w', SetB w w' b (.cells (C.setIfInBounds o v) T) → At N ds L (wpList P ops Q rest) w') :
    At N ds L (wpList P ops Q (⟨none, .store t x y, ty, pos, aft, none⟩ :: rest)) w := by
  have hc := cells_one h1
  refine At.store hx hy hb (by rw [hc]; exact hs) (by rw [hc]; exact hr) (by rw [hc]; simpa using h1) (fun w' h => k w' ?_)
  rw [hc, splice_one hr] at h
  exact h
def tmpVals (L : List (Nat × Value)) : List (Nat × Operand) → Option (List (Nat × Value))
  | [] => some []
  | (i, x) :: r => match ev L x, tmpVals L r with
    | some v, some vs => some ((i, v) :: vs)
    | _, _ => none
theorem Is.parts (h : Is N ds L a) : ∀ {l : List (Nat × Operand)} {vs : List (Nat × Value)}, tmpVals L l = some vs → l.map (fun (i, x) => (i, a.eval x)) = vs := by
  intro l
  induction l with
  | nil => intro vs hv; simpa [tmpVals] using hv
  | cons p r ih =>
    obtain ⟨i, x⟩ := p
    intro vs hv
    unfold tmpVals at hv
    split at hv
    · rename_i v vs' hx hr
      obtain rfl := Option.some.inj hv
      simp [h.ev hx, ih hr]
    · cases hv
theorem splice_get {C vs : Array Value} {o : Nat} (h : o + vs.size ≤ C.size) (j : Nat) : (splice C o vs)[j]? = if j < o then C[j]? else if j < o + vs.size then vs[j - o]? else C[j]? := by
  have h1 : (C.toList.take o).length = o := by simp; omega
  simp only [splice, List.getElem?_toArray, List.append_assoc]
  by_cases a : j < o
  · rw [if_pos a, List.getElem?_append_left (by omega), List.getElem?_take_of_lt a]; simp
  · rw [if_neg a, List.getElem?_append_right (by omega), h1]
    by_cases b : j < o + vs.size
    · rw [if_pos b, List.getElem?_append_left (by simp; omega)]; simp
    · rw [if_neg b, List.getElem?_append_right (by simp; omega), List.getElem?_drop]
      have : o + vs.size + (j - o - vs.toList.length) = j := by simp; omega
      rw [this]; simp
theorem splice_cons {C : Array Value} {o : Nat} {v : Value} {vs : List Value} (h : o + (vs.length + 1) ≤ C.size) : splice C o (v :: vs).toArray = splice (C.setIfInBounds o v) (o + 1) vs.toArray := by
  apply Array.ext_getElem?
  intro j
  rw [splice_get (by simpa using h), splice_get (by simp; omega)]
  by_cases a : j < o
  · rw [if_pos a, if_pos (by omega), Array.getElem?_setIfInBounds_ne (by omega)]
  · rw [if_neg a]
    by_cases b : j = o
    · subst b
      rw [if_pos (by simp), if_pos (by omega)]
      simp [show j < C.size from by omega]
    · rw [if_neg (by omega : ¬ j < o + 1)]
      by_cases c : j < o + (vs.length + 1)
      · rw [if_pos (by simpa using c), if_pos (by simp; omega)]
        have : j - o = (j - (o + 1)) + 1 := by omega
        rw [this]; simp
      · rw [if_neg (by simpa using c), if_neg (by simp; omega), Array.getElem?_setIfInBounds_ne (by omega)]
theorem fill_foldl (vs : List Value) : ∀ (C : Array Value) (o n : Nat), o + n + vs.length ≤ C.size →
    (vs.zipIdx n).foldl (fun cs (c, j) => cs.setIfInBounds (o + j) c) C = splice C (o + n) vs.toArray := by
  induction vs with
  | nil =>
    intro C o n _
    simp [splice]
  | cons v vs ih =>
    intro C o n h
    simp only [List.length_cons] at h
    simp only [List.zipIdx_cons, List.foldl_cons]
    rw [ih (C.setIfInBounds (o + n) v) o (n + 1) (by simp; omega), splice_cons (by omega)]
    rfl
inductive Bld (P : Program) (t : TypeId) : Array Value → List (Nat × Value) → Array Value → Prop
  | nil (C : Array Value) : Bld P t C [] C
  | cons {C C' : Array Value} {i off sz : Nat} {v : Value} {r : List (Nat × Value)} (hf : fieldB P t i = some (off, sz)) (hv : v.cells.size = sz) (hr : off + sz ≤ C.size) (h : Bld P t (splice C off v.cells) r C') : Bld P t C ((i, v) :: r) C'
end ops
theorem Bld.run {P : Program} {t : TypeId} (places : Array (Nat × Nat))
    (hp : ∀ i off sz, fieldB P t i = some (off, sz) → places[i]? = some (off, sz)) {C C' : Array Value} {l : List (Nat × Value)} (h : Bld P t C l C') :
    Instr.fill (places[·]?) C l = some C' := by
  induction h with
  | nil C => rfl
  | @cons C1 C2 i off sz v r hf hv hr _ ih =>
    unfold Instr.fill
    rw [hp _ _ _ hf]
    simp only [hv, ne_eq, not_true, decide_false, Bool.false_or]
    rw [if_neg (by simpa using hr)]
    have := fill_foldl v.cells.toList C1 off 0 (by simpa [hv] using hr)
    simp only [Nat.add_zero, Array.toArray_toList] at this
    have e : (Array.foldl (fun (cs : Array Value) (x : Value × Nat) => match x with | (c, j) => cs.setIfInBounds (off + j) c) C1 v.cells.zipIdx) = splice C1 off v.cells := by
      rw [← Array.foldl_toList, Array.toList_zipIdx]; exact this
    rw [e]; exact ih
theorem run_places {P : Program} {w : World} : ∀ (fs : List Field), (∀ f ∈ fs, ((P.info? f.type).map (·.size)).isSome = true) →
    ((fs.mapM (m := Sem) fun f => do pure (f.offset, ← sizeOf f.type)).run P w = .ok (fs.map fun f => (f.offset, ((P.info? f.type).map (·.size)).getD 0)) w) := by
  intro fs
  induction fs with
  | nil => intro _; rfl
  | cons f fs ih =>
    intro h
    have hf := h f (by simp)
    obtain ⟨n, hn⟩ := Option.isSome_iff_exists.1 hf
    have hs : (sizeOf f.type).run P w = .ok n w := run_sizeOf hn
    have := ih (fun g hg => h g (List.mem_cons_of_mem _ hg))
    simp only [List.mapM_cons, Sem.run_bind, hs, Result.andThen_ok, Sem.run_pure, this, List.map_cons, hn, Option.getD_some]
def sizedB (P : Program) (t : TypeId) : Bool :=
  match P.underlying t with
  | some (.struct fs) => fs.toList.all fun f => ((P.info? f.type).map (·.size)).isSome
  | _ => false
section ops
variable {P : Program} {N : Nat} {ds : List Deferred} {L : List (Nat × Value)} {a : Act} {w w' : World} {ops : Array Oper} {Q : Exit → Act → World → Prop} {rest : List Oper}
  {d : Nat} {ty : TypeId} {pos : String} {aft : Array Edge} {x y z : Operand}
theorem At.build {t : TypeId} {ps : Array (Nat × Operand)} {vs : List (Nat × Value)} {zv : Value} {C : Array Value} (hs : sizedB P t = true) (hz : zeroB P t = some zv) (hp : tmpVals L ps.toList = some vs) (hb : Bld P t zv.cells vs C) (hN : Nat.blt d N = true)
    (k : At N ds ((d, .agg C) :: L) (wpList P ops Q rest) w) : At N ds L (wpList P ops Q (⟨some d, .build t ps, ty, pos, aft, none⟩ :: rest)) w :=
  At.op rfl rfl hN (fun a ha => by
    unfold sizedB at hs
    split at hs
    case h_2 => cases hs
    rename_i fs hu
    have hpl := run_places (P := P) (w := w) fs.toList (by intro f hf; exact List.all_eq_true.1 hs f hf)
    have hm : (fs.mapM (m := Sem) fun f => do pure (f.offset, ← sizeOf f.type)).run P w = .ok (fs.map fun f => (f.offset, ((P.info? f.type).map (·.size)).getD 0)) w := by
      rw [← Array.toArray_toList (xs := fs), List.mapM_toArray, Sem.run_map, hpl]
      simp only [Result.andThen_ok, List.map_toArray]
    have hparts := ha.parts hp
    have hfill := Bld.run (fs.map fun f => (f.offset, ((P.info? f.type).map (·.size)).getD 0)) (fun i off sz hf => by
      unfold fieldB at hf
      rw [hu] at hf
      simp only at hf
      split at hf
      · rename_i f hfi
        split at hf
        · rename_i n hn
          simp only [Option.some.injEq, Prod.mk.injEq] at hf
          obtain ⟨rfl, rfl⟩ := hf
          simp [hfi, hn]
        · cases hf
      · cases hf) hb
    have hpe : (ps.map fun (i, x) => (i, a.eval x)).toList = vs := by rw [Array.toList_map]; exact hparts
    simp only [execOp, Instr.build, Sem.run_bind, run_zero hz, Result.andThen_ok, run_underlying hu, hm, hpe, hfill, Sem.run_pure]) k
theorem take_splice {C vs : Array Value} {o : Nat} (h : o + vs.size ≤ C.size) : (splice C o vs).toList.take (o + vs.size) = C.toList.take o ++ vs.toList := by
  have h1 : (C.toList.take o ++ vs.toList).length = o + vs.size := by simp; omega
  simp only [splice]
  rw [← h1, List.take_append_of_le_length lR, List.take_length]
theorem fill_row (sz : Nat) : ∀ (vs : List Value) (m : Nat) (C : Array Value), (∀ v ∈ vs, v.cells.size = sz) → (m + vs.length) * sz = C.size →
    Instr.fill (fun i => some (i * sz, sz)) C (vs.zipIdx m |>.map fun p => (p.2, p.1)) = some (C.toList.take (m * sz) ++ vs.flatMap (·.cells.toList)).toArray := by
  intro vs
  induction vs with
  | nil =>
    intro m C _ h
    have : C.toList.length ≤ m * sz := by simp at h ⊢; omega
    simp only [List.zipIdx_nil, List.map_nil, Instr.fill, List.flatMap_nil, List.append_nil, List.take_of_length_le this, Array.toArray_toList]
  | cons v r ih =>
    intro m C h1 h
    simp only [List.length_cons] at h
    have hc := h1 v (by simp)
    have hle : (m + 1) * sz ≤ C.size := by rw [← h]; exact Nat.mul_le_mul_right _ (by omega)
    have hle' : m * sz + sz ≤ C.size := by rw [Nat.add_mul] at hle; omega
    simp only [List.zipIdx_cons, List.map_cons, Instr.fill, hc, ne_eq, not_true, decide_false, Bool.false_or]
    rw [if_neg (by simpa using hle')]
    have hf := fill_foldl v.cells.toList C (m * sz) 0 (by simpa [hc] using hle')
    simp only [Nat.add_zero, Array.toArray_toList] at hf
    have e : (Array.foldl (fun (cs : Array Value) (x : Value × Nat) => match x with | (c, j) => cs.setIfInBounds (m * sz + j) c) C v.cells.zipIdx) = splice C (m * sz) v.cells := by
      rw [← Array.foldl_toList, Array.toList_zipIdx]; exact hf
    rw [e, ih (m + 1) _ (fun u hu => h1 u (List.mem_cons_of_mem _ hu)) (by rw [splice_size (by omega)]; rw [← h]; congr 1; omega)]
    have ht := take_splice (C := C) (vs := v.cells) (o := m * sz) (by omega)
    rw [hc] at ht
    rw [Nat.add_mul, Nat.one_mul, ht]
    simp
theorem At.buildSlice {t e : TypeId} {n sz : Nat} {ps : Array (Nat × Operand)} {xs : List Operand} {vs : List Value} {zv : Value} (hps : ps = (xs.zipIdx.map fun p => (p.2, p.1)).toArray) (hp : evs L xs = some vs) (he : elemB P t = some e) (hz : sizeB P e = some sz)
    (hzv : zeroB P e = some zv) (hcs : ∀ v ∈ vs, v.cells.size = sz) (hlen : vs.length = n) (hn : n * sz ≤ 16777216) (hN : Nat.blt d N = true)
    (k : ∀ b w', Fresh w w' b (.cells (vs.flatMap (·.cells.toList)).toArray e) → At N ds ((d, .slice (some ⟨b, 0, none⟩) n n) :: L) (wpList P ops Q rest) w') :
    At N ds L (wpList P ops Q (⟨some d, .buildSlice t n ps, ty, pos, aft, none⟩ :: rest)) w :=
  At.op rfl rfl hN (fun a ha => by
    subst hps
    have hvs := ha.evs hp
    have hpe : ((xs.zipIdx.map fun p => (p.2, p.1)).toArray.map fun (i, x) => (i, a.eval x)).toList = vs.zipIdx.map fun p => (p.2, p.1) := by
      rw [← hvs]
      simp [List.zipIdx_map, List.map_map]
    have hno : ¬ n * sz > 2 ^ 24 := by omega
    by_cases h0 : n * sz = 0
    · have hfill := fill_row sz vs 0 ((Array.range (n * sz)).map ((#[] : Array Value)[· % (#[] : Array Value).size]!)) hcs (by simp [hlen])
      simp only [Nat.zero_mul, List.take_zero, List.nil_append] at hfill
      simp only [execOp, Instr.buildSlice, Sem.run_bind, run_underlying (underlying_elem he), Result.andThen_ok, run_sizeOf hz, if_neg hno, if_pos h0, Sem.run_pure, hpe, hfill, newRow, run_newObj]
      rfl
    · have hfill := fill_row sz vs 0 ((Array.range (n * sz)).map (zv.cells[· % zv.cells.size]!)) hcs (by simp [hlen])
      simp only [Nat.zero_mul, List.take_zero, List.nil_append] at hfill
      simp only [execOp, Instr.buildSlice, Sem.run_bind, run_underlying (underlying_elem he), Result.andThen_ok, run_sizeOf hz, if_neg hno, if_neg h0, run_zero hzv, Sem.run_pure, hpe, hfill, newRow, run_newObj]
      rfl) (k _ _ (Fresh.mk' w _))
theorem At.lenSl {t e : TypeId} {v : Value} {n : Nat} (hx : ev L x = some v) (hs : SlOk v n) (he : elemB P t = some e) (hN : Nat.blt d N = true) (k : At N ds ((d, .int .i64 n) :: L) (wpList P ops Q rest) w) :
    At N ds L (wpList P ops Q (⟨some d, .call ⟨.builtin .len, #[x], #[t]⟩, ty, pos, aft, none⟩ :: rest)) w :=
  At.op rfl rfl hN (fun a ha => by
    rcases hs with ⟨rfl, rfl⟩ | ⟨b, cap, rfl, _⟩ <;>
    simp [execOp, resolve, invoke, builtin, Builtin.len_, ha.ev hx, run_underlying (underlying_elem he), goInt]) k
theorem At.lenStr {t : TypeId} {s : ByteArray} (hx : ev L x = some (.string s)) (he : strB P t = true) (hN : Nat.blt d N = true) (k : At N ds ((d, .int .i64 s.size) :: L) (wpList P ops Q rest) w) :
    At N ds L (wpList P ops Q (⟨some d, .call ⟨.builtin .len, #[x], #[t]⟩, ty, pos, aft, none⟩ :: rest)) w :=
  At.op rfl rfl hN (fun a ha => by
    simp [execOp, resolve, invoke, builtin, Builtin.len_, ha.ev hx, run_underlying (underlying_str he), goInt]) k
theorem run_callFunc {f : FuncId} (h : entB P f = true) (args : Array Value) (w : World) : (callFunc f args).run P w = .ok (.enter f args) w := by
  unfold entB at h
  split at h
  case h_2 => cases h
  rename_i fn hf
  simp only [Bool.and_eq_true, Bool.not_eq_true'] at h
  obtain ⟨h1, h2⟩ := h
  have h1' : ¬ fn.name = "runtime.NumGoroutine" := by simpa using h1
  have h3 : ¬ fn.body = none := by intro e; rw [e] at h2; cases h2
  simp [callFunc, hf, h1', h3]
theorem At.enterAs {o : Oper} {f : FuncId} {args : Array Value} {R : Ending → World → Prop} (hg : o.guard = none) (run : ∀ a, Is N ds L a → (execOp a.eval o).run P w = .ok (.enter f args) w) (hc : Calls P f args w R)
    (k : ∀ e w', R e w' → ∃ v, e = .returned v ∧ ∀ a, Is N ds L a → wpList P ops Q rest (a.put o.dst v) w') : At N ds L (wpList P ops Q (o :: rest)) w := fun a ha => by
  refine wpList_plain hg fun K hK => ?_
  unfold Oper.wp
  rw [run a ha, Oper.upon_enter]
  refine hc.mono fun e w' hR => ?_
  obtain ⟨v, rfl, hv⟩ := k e w' hR
  exact hK _ _ (hv a ha)
theorem At.call {f : FuncId} {args : Array Operand} {tys : Array TypeId} {vs : List Value} {R : Ending → World → Prop} (hent : entB P f = true) (ha : evs L args.toList = some vs) (hN : Nat.blt d N = true) (hc : Calls P f vs.toArray w R)
    (k : ∀ e w', R e w' → ∃ v, e = .returned v ∧ At N ds ((d, v) :: L) (wpList P ops Q rest) w') :
    At N ds L (wpList P ops Q (⟨some d, .call ⟨.value (.func f), args, tys⟩, ty, pos, aft, none⟩ :: rest)) w :=
  At.enterAs (f := f) (args := vs.toArray) rfl (fun a hi => by
    have h := hi.evs ha
    have : args.map a.eval = vs.toArray := by apply Array.ext'; rw [← h]; simp
    simp [execOp, resolve, Deferred.ofValue, invoke, Act.eval, run_callFunc hent, this]) hc
    (fun e w' hR => by obtain ⟨v, he, hk⟩ := k e w' hR; exact ⟨v, he, fun a hi => hk _ (hi.put hN)⟩)
theorem At.callV {f : FuncId} {cap : Array Value} {args : Array Operand} {tys : Array TypeId} {vs : List Value} {R : Ending → World → Prop} (hx : ev L x = some (.func (.func f) #[] cap)) (hent : entB P f = true) (ha : evs L args.toList = some vs) (hN : Nat.blt d N = true)
    (hc : Calls P f (vs ++ cap.toList).toArray w R)
    (k : ∀ e w', R e w' → ∃ v, e = .returned v ∧ At N ds ((d, v) :: L) (wpList P ops Q rest) w') :
    At N ds L (wpList P ops Q (⟨some d, .call ⟨.value x, args, tys⟩, ty, pos, aft, none⟩ :: rest)) w :=
  At.enterAs (f := f) (args := (vs ++ cap.toList).toArray) rfl (fun a hi => by
    have h := hi.evs ha
    have : args.map a.eval = vs.toArray := by apply Array.ext'; rw [← h]; simp
    have e : vs.toArray ++ cap = (vs ++ cap.toList).toArray := by apply Array.ext'; simp
    simp [execOp, resolve, Deferred.ofValue, invoke, hi.ev hx, run_callFunc hent, this, e]) hc
    (fun e w' hR => by obtain ⟨v, he, hk⟩ := k e w' hR; exact ⟨v, he, fun a hi => hk _ (hi.put hN)⟩)
inductive ResV (P : Program) (L : List (Nat × Value)) (w : World) : List ResultVar → List Value → Prop
  | nil : ResV P L w [] []
  | tmp {t : Nat} {v : Value} {r : List ResultVar} {vs : List Value} (h : look L t = some v) (k : ResV P L w r vs) : ResV P L w (.tmp t :: r) (v :: vs)
  | cell {t b o : Nat} {u : TypeId} {v : Value} {r : List ResultVar} {vs : List Value} (h : look L t = some (.pointer (some ⟨b, o, none⟩))) (hl : Ld P w u b o v) (k : ResV P L w r vs) : ResV P L w (.cell t u :: r) (v :: vs)
def resOne (tmps : Array Value) : ResultVar → Sem Value
  | .tmp t => pure (tmps.getD t undef)
  | .cell p t => do loadVar t (← asAddr (tmps.getD p undef))
theorem ResV.run (ha : Is N ds L a) {rs : List ResultVar} {vs : List Value} (h : ResV P L w rs vs) : (rs.mapM (resOne a.tmps)).run P w = .ok vs w := by
  induction h with
  | nil => rfl
  | tmp h _ ih => simp only [List.mapM_cons, resOne, Sem.run_bind, Sem.run_pure, Result.andThen_ok, ih, ha.get _ _ h]
  | cell h hl _ ih =>
    unfold Ld at hl
    have hx : ∀ p : Addr, (asAddr (.pointer (some p))).run P w = .ok p w := fun _ => rfl
    simp only [List.mapM_cons, resOne, Sem.run_bind, Sem.run_pure, Result.andThen_ok, ha.get _ _ h, hx, hl, ih]
def resOf : List Value → Value
  | [v] => v
  | vs => .tuple vs.toArray
theorem run_results (ha : Is N ds L a) {fn : Func} {vs : List Value} (h : ResV P L w fn.results.toList vs) : (results fn a.tmps).run P w = .ok (resOf vs) w := by
  have hr := ResV.run ha h
  have : (fn.results.mapM (resOne a.tmps)).run P w = .ok vs.toArray w := by
    rw [← Array.toArray_toList (xs := fn.results), List.mapM_toArray, Sem.run_map, hr]
    rfl
  have hfun : results fn a.tmps = (do let vs ← fn.results.mapM (resOne a.tmps); pure (if h : vs.size = 1 then vs[0] else .tuple vs)) := by
    unfold results
    congr 1
    first | done | (congr 1; funext r; cases r <;> rfl)
  rw [hfun, Sem.run_bind, this]
  simp only [Result.andThen_ok, Sem.run_pure]
  match vs with
  | [] => rfl
  | [v] => rfl
  | _ :: _ :: _ => simp [resOf]
theorem At.doneR {fn : Func} {R : Ending → World → Prop} {vs : List Value} (h : ResV P L w fn.results.toList vs) (hR : R (.returned (resOf vs)) w) : At N [] L (bodyPost P fn R .ret) w :=
  fun _ ha => ⟨ha.defers, _, run_results ha h, hR⟩
theorem At.doneN {fn : Func} {R : Ending → World → Prop} {vs : List Value} (h : ResV P L w fn.results.toList vs) (hR : R (.returned (resOf vs)) w) : At N [] L (bodyPost P fn R .normal) w :=
  fun _ ha => ⟨ha.defers, _, run_results ha h, hR⟩
theorem At.join (L' : List (Nat × Value)) (S : World → Prop) (h : At N ds L (wpList P ops (fun e a w => match e with | .normal => Is N ds L' a ∧ S w | e => Q e a w) rest) w)
    (k : ∀ w', S w' → At N ds L' (Q .normal) w') : At N ds L (wpList P ops Q rest) w := by
  intro a ha
  have key : ∀ (l : List Oper) (a : Act) (w : World), wpList P ops (fun e a w => match e with | .normal => Is N ds L' a ∧ S w | e => Q e a w) l a w → wpList P ops Q l a w := by
    intro l
    induction l with
    | nil => intro a w h; exact k w h.2 a h.1
    | cons o r ih =>
      intro a w h
      unfold wpList at h ⊢
      by_cases hw : Region.wanted o (yielded ops a.tmps) = true
      · rw [if_pos hw] at h ⊢
        rcases h with h | ⟨h1, a0, w0, h2⟩
        · left
          unfold Oper.wp at *
          generalize (execOp a.eval o).run P w = r at *
          cases r with
          | ok n w' =>
            cases n <;> simp only [Oper.upon] at h ⊢ <;>
              first
                | exact ih _ _ h
                | exact Calls.mono h (fun e w'' he => by cases e <;> first | exact ih _ _ he | exact he | (obtain ⟨a0, w0, h0⟩ := he; exact ⟨a0, w0, h0⟩))
                | exact Rows.mono h (fun _ _ he => ih _ _ he)
                | exact h
          | halt x w' => cases x <;> simp only [Oper.upon] at h ⊢ <;> exact h
        · exact .inr ⟨h1, a0, w0, h2⟩
      · rw [if_neg hw] at h ⊢
        exact ih _ _ h
  exact key rest a w (h a ha)
theorem At.joined {L' : List (Nat × Value)} {S : World → Prop} (hs : Sub L L') (h : S w) : At N ds L (wpList P ops (fun e a w => match e with | .normal => Is N ds L' a ∧ S w | e => Q e a w) []) w :=
  fun _ ha => ⟨ha.sub hs, h⟩
end ops
section
variable {P : Program} {N : Nat} {ds : List Deferred} {ops : Array Oper} {Q : Exit → Act → World → Prop}
def onNormal (K : Act → World → Prop) (Q : Exit → Act → World → Prop) : Exit → Act → World → Prop
  | .normal, a, w => K a w
  | e, a, w => Q e a w
theorem wp_of_onNormal {o : Oper} {a : Act} {w : World} {K K' : Act → World → Prop} (hK : ∀ a w, K a w → K' a w) (h : o.wp P a w K (onNormal K Q)) : o.wp P a w K' Q := by
  unfold Oper.wp at *
  generalize (execOp a.eval o).run P w = r at *
  cases r with
  | ok n w' =>
    cases n <;> simp only [Oper.upon] at h ⊢ <;>
      first
        | exact hK _ _ h
        | exact Calls.mono h (fun e w'' he => by cases e <;> first | exact hK _ _ he | exact he | (obtain ⟨a0, w0, h0⟩ := he; exact ⟨a0, w0, h0⟩))
        | exact Rows.mono h (fun _ _ he => hK _ _ he)
        | exact h
  | halt x w' => cases x <;> simp only [Oper.upon] at h ⊢ <;> exact h
theorem wpOp_of_list {i : Nat} {o : Oper} (ho : ops[i]? = some o) {a : Act} {w : World} {K : Act → World → Prop} (h : wpList P ops (onNormal K Q) [o] a w) : wpOp P ops Q i K a w := by
  unfold wpOp
  rw [ho]
  simp only
  unfold wpList at h
  by_cases hw : Region.wanted o (yielded ops a.tmps) = true
  · rw [if_pos hw] at h ⊢
    rcases h with h | ⟨h1, a0, w0, h2⟩
    · exact .inl (wp_of_onNormal (fun a w h => h) h)
    · exact .inr ⟨h1, a0, w0, h2⟩
  · rw [if_neg hw] at h ⊢
    exact h
def dcons (d : Option Nat) (v : Value) (L : List (Nat × Value)) : List (Nat × Value) := match d with | some d => (d, v) :: L | none => L
def predsOf (o : Oper) : List Nat := o.after.toList.filterMap fun e => if Region.binds .any e then some e.on else none
def predSlots (l : List Oper) (vals : Nat → Value) : List Nat → List (Nat × Value)
  | [] => []
  | j :: r => match (l[j]?).bind (·.dst) with | some d => (d, vals j) :: predSlots l vals r | none => predSlots l vals r
def Steps1 (P : Program) (N : Nat) (ds : List Deferred) (l : List Oper) (Q : Exit → Act → World → Prop) (L0 : List (Nat × Value)) (w0 : World) (R : World → World → Prop) (F : Nat → Value → World → Prop) : Nat → List Oper → Prop
  | _, [] => True
  | i, o :: r => (∀ (vals : Nat → Value) (Lx : List (Nat × Value)) (w : World), R w0 w → (∀ j ∈ predsOf o, F j (vals j) w) →
      At N ds (predSlots l vals (predsOf o) ++ (L0 ++ Lx)) (wpList P l.toArray (onNormal (fun a' w' => ∃ v, Is N ds (dcons o.dst v (predSlots l vals (predsOf o) ++ (L0 ++ Lx))) a' ∧ R w w' ∧ F i v w') Q) [o]) w) ∧
    Steps1 P N ds l Q L0 w0 R F (i + 1) r
theorem Steps1.get {l : List Oper} {L0 : List (Nat × Value)} {w0 : World} {R : World → World → Prop} {F : Nat → Value → World → Prop} : ∀ {r : List Oper} {i : Nat}, Steps1 P N ds l Q L0 w0 R F i r → ∀ {j : Nat} {o : Oper}, r[j]? = some o →
    ∀ (vals : Nat → Value) (Lx : List (Nat × Value)) (w : World), R w0 w → (∀ k ∈ predsOf o, F k (vals k) w) →
      At N ds (predSlots l vals (predsOf o) ++ (L0 ++ Lx)) (wpList P l.toArray (onNormal (fun a' w' => ∃ v, Is N ds (dcons o.dst v (predSlots l vals (predsOf o) ++ (L0 ++ Lx))) a' ∧ R w w' ∧ F (i + j) v w') Q) [o]) w := by
  intro r
  induction r with
  | nil => intro i _ j o h; simp at h
  | cons o r ih =>
    intro i h j o' ho
    cases j with
    | zero => simp at ho; subst ho; exact h.1
    | succ j =>
      have := ih h.2 (j := j) (o := o') (by simpa using ho)
      rw [show i + (j + 1) = i + 1 + j from by omega]
      exact this
theorem look_append (A B : List (Nat × Value)) (t : Nat) : look (A ++ B) t = match look A t with | some v => some v | none => look B t := by
  induction A with
  | nil => rfl
  | cons p r ih =>
    simp only [List.cons_append, look]
    cases Nat.beq p.1 t <;> simp [ih]
def whole (a : Act) : List (Nat × Value) := (List.range a.tmps.size).map fun t => (t, a.tmps.getD t undef)
theorem look_map_range (f : Nat → Value) (t : Nat) : ∀ (l : List Nat), t ∈ l → look (l.map fun t => (t, f t)) t = some (f t) := by
  intro l
  induction l with
  | nil => intro h; cases h
  | cons x r ih =>
    intro h
    simp only [List.map_cons, look]
    by_cases e : x = t
    · rw [beqT e, e]; rfl
    · rw [beqF e]
      exact ih (by rcases List.mem_cons.1 h with h | h; exact absurd h.symm e; exact h)
theorem look_map_some (f : Nat → Value) (t : Nat) (v : Value) : ∀ (l : List Nat), look (l.map fun t => (t, f t)) t = some v → f t = v := by
  intro l
  induction l with
  | nil => intro h; simp [look] at h
  | cons x r ih =>
    intro h
    simp only [List.map_cons, look] at h
    by_cases e : x = t
    · rw [beqT e, e] at h; simpa using h
    · rw [beqF e] at h; exact ih h
theorem look_whole (a : Act) {t : Nat} (h : t < a.tmps.size) : look (whole a) t = some (a.tmps.getD t undef) := look_map_range _ t _ (by simpa using h)
theorem is_whole (a : Act) : Is a.tmps.size a.defers (whole a) a := ⟨rfl, rfl, fun t v h => look_map_some _ t v _ h⟩
def drawOk (N : Nat) (l : List Oper) (L0 : List (Nat × Value)) : Bool :=
  (List.range l.length).all fun i => match l[i]? with
    | some o => (predsOf o).all (fun j => Nat.blt j i) && (match o.dst with
      | some d => Nat.blt d N && (L0.all fun p => !Nat.beq p.1 d) && ((List.range l.length).all fun j => Nat.beq i j || match (l[j]?).bind (·.dst) with | some e => !Nat.beq e d | none => true)
      | none => true)
    | none => true
theorem drawOk.at {l : List Oper} {L0 : List (Nat × Value)} (h : drawOk N l L0 = true) {i : Nat} {o : Oper} (ho : l[i]? = some o) :
    (∀ j ∈ predsOf o, j < i) ∧ ∀ d, o.dst = some d → d < N ∧ look L0 d = none ∧ ∀ j o', l[j]? = some o' → j ≠ i → o'.dst ≠ some d := by
  have hi : i < l.length := (List.getElem?_eq_some_iff.1 ho).1
  have h1 := List.all_eq_true.1 h i (by simpa using hi)
  rw [ho] at h1
  simp only [Bool.and_eq_true] at h1
  obtain ⟨h2, h3⟩ := h1
  refine ⟨fun j hj => by have := List.all_eq_true.1 h2 j hj; simpa [Nat.blt_eq] using this, fun d hd => ?_⟩
  rw [hd] at h3
  simp only [Bool.and_eq_true] at h3
  obtain ⟨⟨h4, h5⟩, h6⟩ := h3
  refine ⟨by simpa [Nat.blt_eq] using h4, ?_, fun j o' hj hne he => ?_⟩
  · clear h6 h4 h2 h hd
    induction L0 with
    | nil => rfl
    | cons p r ih =>
      simp only [List.all_cons, Bool.and_eq_true, Bool.not_eq_true'] at h5
      simp only [look, h5.1]
      exact ih h5.2
  · have hjl : j < l.length := (List.getElem?_eq_some_iff.1 hj).1
    have h7 := List.all_eq_true.1 h6 j (by simpa using hjl)
    rw [hj] at h7
    simp only [Option.bind_some, he, Bool.or_eq_true] at h7
    rcases h7 with h7 | h7
    · exact hne (Nat.eq_of_beq_eq_true h7).symm
    · rw [Nat.beq_refl] at h7; cases h7
structure DInv (N : Nat) (ds : List Deferred) (l : List Oper) (L0 : List (Nat × Value)) (w0 : World) (R : World → World → Prop) (F : Nat → Value → World → Prop) (listed : Array Bool) (vals : Nat → Value) (a : Act) (w : World) : Prop where
  len : listed.size = l.length
  size : a.tmps.size = N
  defers : a.defers = ds
  base : ∀ t v, look L0 t = some v → a.tmps.getD t undef = v
  rel : R w0 w
  done : ∀ i o, l[i]? = some o → listed[i]? = some true → F i (vals i) w ∧ ∀ d, o.dst = some d → a.tmps.getD d undef = vals i
theorem predSlots_is {l : List Oper} {vals : Nat → Value} {a : Act} : ∀ {js : List Nat}, (∀ j ∈ js, ∀ o, l[j]? = some o → ∀ d, o.dst = some d → a.tmps.getD d undef = vals j) → ∀ t v, look (predSlots l vals js) t = some v → a.tmps.getD t undef = v := by
  intro js
  induction js with
  | nil => intro _ t v h; simp [predSlots, look] at h
  | cons j r ih =>
    intro h t v hl
    unfold predSlots at hl
    split at hl
    · rename_i d hd
      simp only [look] at hl
      by_cases e : d = t
      · rw [beqT e] at hl
        simp at hl
        cases ho : l[j]? with
        | none => simp [ho] at hd
        | some o =>
          simp [ho] at hd
          rw [← e, ← hl]
          exact h j (by simp) o ho d hd
      · rw [beqF e] at hl
        exact ih (fun k hk => h k (List.mem_cons_of_mem _ hk)) t v hl
    · exact ih (fun k hk => h k (List.mem_cons_of_mem _ hk)) t v hl
theorem At.draw {id : Nat} {l : List Oper} {L : List (Nat × Value)} {w : World} (hm : P.follows .mixedOrders = true) (L0 : List (Nat × Value)) (hL : Sub L L0) (hok : drawOk N l L0 = true)
    (R : World → World → Prop) (F : Nat → Value → World → Prop) (hrefl : R w w.drew) (htrans : ∀ a b c, R a b → R b c → R a c) (stab : ∀ i v a b, R a b → F i v a → F i v b)
    (steps : Steps1 P N ds l Q L0 w R F 0 l)
    (fin : ∀ (vals : Nat → Value) (w' : World), R w w' → (∀ i, i < l.length → F i (vals i) w') → At N ds (predSlots l vals (List.range l.length) ++ L0) (Q .normal) w') :
    At N ds L ((Code.region id l.toArray true).wp P Q) w := by
  intro a ha
  refine wp_region_any hm ?_
  have key : ∀ (fuel : Nat) (listed : Array Bool) (vals : Nat → Value) (a : Act) (w' : World), DInv N ds l L0 w R F listed vals a w' → (listed.toList.filter (fun b => !b)).length = fuel →
      wpAny P .any l.toArray Q fuel listed a w' := by
    intro fuel
    induction fuel with
    | zero =>
      intro listed vals a w' hI hc
      have hall : ∀ i, i < l.length → listed[i]? = some true := by
        intro i hi
        have hlt : i < listed.size := by rw [hI.len]; exact hi
        rw [Array.getElem?_eq_getElem hlt]
        have hnil : listed.toList.filter (fun b => !b) = [] := List.eq_nil_of_length_eq_zero hc
        have := List.filter_eq_nil_iff.1 hnil listed[i] (by simp)
        simpa using this
      have hQ : Q .normal a w' := by
        refine fin vals w' hI.rel (fun i hi => ?_) a ⟨hI.size, hI.defers, fun t v hv => ?_⟩
        · obtain ⟨o, ho⟩ : ∃ o, l[i]? = some o := ⟨l[i], List.getElem?_eq_getElem hi⟩
          exact (hI.done i o ho (hall i hi)).1
        · rw [look_append] at hv
          split at hv
          · rename_i u hu
            cases hv
            exact predSlots_is (fun j hj o ho d hd => (hI.done j o ho (hall j (by simpa using hj))).2 d hd) t _ hu
          · exact hI.base t v hv
      refine ⟨?_, hQ⟩
      unfold Region.ready
      rw [List.filter_eq_nil_iff]
      intro i hi
      have hi' : i < l.length := by simpa using hi
      have := hall i hi'
      simp [Array.getD_eq_getD_getElem?, this]
    | succ fuel ih =>
      intro listed vals a w' hI hc
      have hready : ∀ i, i ∈ Region.ready .any l.toArray listed → ∃ o, l[i]? = some o ∧ listed[i]? = some false ∧ ∀ j ∈ predsOf o, listed[j]? = some true := by
        intro i hi
        unfold Region.ready at hi
        rw [List.mem_filter] at hi
        obtain ⟨hi1, hi2⟩ := hi
        have hil : i < l.length := by simpa using hi1
        have hill : i < listed.size := by rw [hI.len]; exact hil
        simp only [Bool.and_eq_true, Bool.not_eq_true'] at hi2
        obtain ⟨h1, h2⟩ := hi2
        refine ⟨l[i], List.getElem?_eq_getElem hil, ?_, ?_⟩
        · rw [Array.getElem?_eq_getElem hill]
          simpa [Array.getD_eq_getD_getElem?, hill] using h1
        · intro j hj
          simp only [List.getElem?_toArray, List.getElem?_eq_getElem hil, Option.map_some, Option.getD_some] at h2
          unfold predsOf at hj
          rw [List.mem_filterMap] at hj
          obtain ⟨e, he, hej⟩ := hj
          split at hej
          · rename_i hb
            have hee := Array.all_eq_true'.1 h2 e (by simpa using he)
            simp only [hb, Bool.not_true, Bool.false_or] at hee
            have hje : e.on = j := by simpa using hej
            rw [hje] at hee
            cases hlj : listed[j]? with
            | none => simp [Array.getD_eq_getD_getElem?, hlj] at hee
            | some b => simp [Array.getD_eq_getD_getElem?, hlj] at hee; rw [hee]
          · cases hej
      constructor
      · intro hnil
        exfalso
        -- the least that is not listed is ready
        have hex : ∃ i, i < l.length ∧ listed[i]? = some false := by
          have hne : listed.toList.filter (fun b => !b) ≠ [] := by intro e; rw [e] at hc; simp at hc
          obtain ⟨b, hb⟩ := List.exists_mem_of_ne_nil _ hne
          rw [List.mem_filter] at hb
          obtain ⟨i, hi⟩ := List.getElem?_of_mem hb.1
          have hlt : i < listed.toList.length := (List.getElem?_eq_some_iff.1 hi).1
          refine ⟨i, by rw [← hI.len]; simpa using hlt, ?_⟩
          have : b = false := by simpa using hb.2
          rw [← this]; simpa using hi
        have hmin : ∀ m, ∀ i, i ≤ m → i < l.length → listed[i]? = some false → False := by
          intro m
          induction m with
          | zero =>
            intro i him hil hf
            have hmem : i ∈ Region.ready .any l.toArray listed := by
              unfold Region.ready
              rw [List.mem_filter]
              refine ⟨by simpa using hil, ?_⟩
              simp only [List.getElem?_toArray, List.getElem?_eq_getElem hil, Option.map_some, Option.getD_some, Array.getD_eq_getD_getElem?, hf, Bool.not_false, Bool.true_and]
              rw [Array.all_eq_true']
              intro e he
              by_cases hb : Region.binds .any e = true
              · have := (drawOk.at hok (List.getElem?_eq_getElem hil)).1 e.on (by unfold predsOf; rw [List.mem_filterMap]; exact ⟨e, by simpa using he, by simp [hb]⟩)
                omega
              · simp [hb]
            rw [hnil] at hmem; cases hmem
          | succ m ihm =>
            intro i him hil hf
            have hmem : i ∈ Region.ready .any l.toArray listed := by
              unfold Region.ready
              rw [List.mem_filter]
              refine ⟨by simpa using hil, ?_⟩
              simp only [List.getElem?_toArray, List.getElem?_eq_getElem hil, Option.map_some, Option.getD_some, Array.getD_eq_getD_getElem?, hf, Bool.not_false, Bool.true_and]
              rw [Array.all_eq_true']
              intro e he
              by_cases hb : Region.binds .any e = true
              · have hlt := (drawOk.at hok (List.getElem?_eq_getElem hil)).1 e.on (by unfold predsOf; rw [List.mem_filterMap]; exact ⟨e, by simpa using he, by simp [hb]⟩)
                have hel : e.on < l.length := by omega
                have hell : e.on < listed.size := by rw [hI.len]; exact hel
                cases hv : listed[e.on] with
                | false => exact (ihm e.on (by omega) hel (by rw [Array.getElem?_eq_getElem hell, hv])).elim
                | true => simp [hell, hv]
              · simp [hb]
            rw [hnil] at hmem; cases hmem
        obtain ⟨i, hi, hf⟩ := hex
        exact hmin i i lR hi hf
      · intro i hi
        obtain ⟨o, ho, hf, hp⟩ := hready i hi
        have hil : i < l.length := (List.getElem?_eq_some_iff.1 ho).1
        have hd := drawOk.at hok ho
        have hpd : ∀ j ∈ predsOf o, ∀ o', l[j]? = some o' → ∀ d, o'.dst = some d → a.tmps.getD d undef = vals j := fun j hj o' ho' d hdd => (hI.done j o' ho' (hp j hj)).2 d hdd
        refine wpOp_of_list (o := o) (by simpa using ho) ?_
        have hst := Steps1.get steps ho vals (whole a) w' hI.rel (fun j hj => by
          have hjl : j < l.length := Nat.lt_trans (hd.1 j hj) hil
          exact (hI.done j l[j] (List.getElem?_eq_getElem hjl) (hp j hj)).1)
        have his : Is N ds (predSlots l vals (predsOf o) ++ (L0 ++ whole a)) a := ⟨hI.size, hI.defers, fun t v hv => by
          rw [look_append] at hv
          split at hv
          · rename_i u hu; cases hv; exact predSlots_is hpd t _ hu
          · rw [look_append] at hv
            split at hv
            · rename_i u hu; cases hv; exact hI.base t _ hu
            · exact (is_whole a).get t v hv⟩
        have hgo := hst a his
        -- what stands behind the step
        have hmono : ∀ (e : Exit) (a' : Act) (w'' : World), onNormal (fun a' w'' => ∃ v, Is N ds (dcons o.dst v (predSlots l vals (predsOf o) ++ (L0 ++ whole a))) a' ∧ R w' w'' ∧ F (0 + i) v w'') Q e a' w'' →
            onNormal (fun a' w'' => wpAny P .any l.toArray Q fuel (listed.setIfInBounds i true) a' w'') Q e a' w'' := by
          intro e a' w'' he
          cases e with
          | normal =>
            obtain ⟨v, h1, h2, h3⟩ := he
            rw [Nat.zero_add] at h3
            have hsame : ∀ t, t < N → (∀ d, o.dst = some d → t ≠ d) → a'.tmps.getD t undef = a.tmps.getD t undef := by
              intro t ht hne
              refine h1.get t _ ?_
              have hlk : look (predSlots l vals (predsOf o) ++ (L0 ++ whole a)) t = some (a.tmps.getD t undef) := by
                rw [look_append]
                split
                · rename_i u hu; rw [predSlots_is hpd t _ hu]
                · rw [look_append]
                  split
                  · rename_i u hu; rw [hI.base t _ hu]
                  · exact look_whole a (by rw [hI.size]; exact ht)
              cases hdd : o.dst with
              | none => simpa [dcons] using hlk
              | some d =>
                simp only [dcons, look]
                rw [beqF (fun e => hne d hdd e.symm)]
                exact hlk
            refine ih (listed.setIfInBounds i true) (fun j => if j = i then v else vals j) a' w'' ⟨by simp [hI.len], h1.size, h1.defers, fun t u hu => ?_, htrans _ _ _ hI.rel h2, fun j o' ho' hj => ?_⟩ ?_
            · have hb := hI.base t u hu
              by_cases ht : t < N
              · rw [hsame t ht (fun d hdd e => by subst e; rw [(hd.2 t hdd).2.1] at hu; cases hu)]; exact hb
              · have : a'.tmps.getD t undef = undef := by simp [Array.getD_eq_getD_getElem?, h1.size, ht]
                have h2 : a.tmps.getD t undef = undef := by simp [Array.getD_eq_getD_getElem?, hI.size, ht]
                rw [this, ← h2]; exact hb
            · by_cases e : j = i
              · subst e
                rw [ho] at ho'; cases ho'
                refine ⟨by simpa using h3, fun d hdd => ?_⟩
                rw [if_pos rfl]
                refine h1.get d v ?_
                simp [dcons, hdd, look, Nat.beq_refl]
              · rw [if_neg e]
                have hj' : listed[j]? = some true := by
                  rw [Array.getElem?_setIfInBounds_ne (fun h => e h.symm)] at hj; exact hj
                have hdn := hI.done j o' ho' hj'
                refine ⟨stab _ _ _ _ h2 hdn.1, fun d hdd => ?_⟩
                have hdj := drawOk.at hok ho'
                rw [hsame d (hdj.2 d hdd).1 (fun d' hd' hee => by subst hee; exact (hd.2 d hd').2.2 j o' ho' e hdd)]
                exact hdn.2 d hdd
            · have hlt : i < listed.toList.length := by rw [Array.length_toList, hI.len]; exact hil
              have hfi : listed.toList[i]? = some false := by simpa using hf
              rw [Array.toList_setIfInBounds]
              have hcount : ∀ (b : List Bool) (i : Nat), b[i]? = some false → ((b.set i true).filter (fun b => !b)).length + 1 = (b.filter (fun b => !b)).length := by
                intro b
                induction b with
                | nil => intro i h; simp at h
                | cons x r ihb =>
                  intro i h
                  cases i with
                  | zero => simp at h; subst h; simp
                  | succ i =>
                    have := ihb i (by simpa using h)
                    cases x <;> simp [this]
              have := hcount _ _ hfi
              omega
          | _ => exact he
        have hmonoL : ∀ a w, wpList P l.toArray (onNormal (fun a' w'' => ∃ v, Is N ds (dcons o.dst v (predSlots l vals (predsOf o) ++ (L0 ++ whole a))) a' ∧ R w' w'' ∧ F (0 + i) v w'') Q) [o] a w → True := fun _ _ _ => trivial
        unfold wpList at hgo ⊢
        by_cases hw : Region.wanted o (yielded l.toArray a.tmps) = true
        · rw [if_pos hw] at hgo ⊢
          rcases hgo with hgo | ⟨q1, q2, q3, q4⟩
          · left
            unfold Oper.wp at *
            generalize (execOp a.eval o).run P w' = r at *
            cases r with
            | ok n w2 =>
              cases n <;> simp only [Oper.upon] at hgo ⊢ <;>
                first
                  | exact hmono .normal _ _ hgo
                  | exact Calls.mono hgo (fun e w'' he => by cases e <;> first | exact hmono .normal _ _ he | exact he | (obtain ⟨a0, w0, h0⟩ := he; exact ⟨a0, w0, h0⟩))
                  | exact Rows.mono hgo (fun _ _ he => hmono .normal _ _ he)
                  | exact hgo
            | halt x w2 => cases x <;> simp only [Oper.upon] at hgo ⊢ <;> exact hgo
          · exact .inr ⟨q1, q2, q3, q4⟩
        · rw [if_neg hw] at hgo ⊢
          exact hmono .normal _ _ hgo
  have h0 : ((Array.replicate l.toArray.size false).toList.filter (fun b => !b)).length = l.toArray.size := by simp
  refine key _ _ (fun _ => undef) a w.drew ⟨by simp, ha.size, ha.defers, fun t v hv => ?_, hrefl, fun i o ho h => ?_⟩ h0
  · exact (ha.sub hL).get t v hv
  · simp [Array.getElem?_replicate] at h
theorem Is.drop2 {d e : Nat} {v u : Value} {X : List (Nat × Value)} {a : Act} (h : Is N ds ((d, v) :: (e, u) :: X) a) (hx : look X e = some u) : Is N ds ((d, v) :: X) a := by
  refine ⟨h.size, h.defers, fun t x hl => h.get t x ?_⟩
  simp only [look] at hl ⊢
  by_cases a1 : d = t
  · rw [beqT a1] at hl ⊢; exact hl
  · rw [beqF a1] at hl ⊢
    by_cases a2 : e = t
    · subst a2
      rw [beqT rfl]
      simp only [cond_false] at hl
      rw [hx] at hl
      exact hl
    · rw [beqF a2]; exact hl
theorem Is.drop1 {e : Nat} {u : Value} {X : List (Nat × Value)} {a : Act} (h : Is N ds ((e, u) :: X) a) (hx : look X e = some u) : Is N ds X a := by
  refine ⟨h.size, h.defers, fun t x hl => h.get t x ?_⟩
  simp only [look]
  by_cases a2 : e = t
  · subst a2; rw [beqT rfl]; rw [hx] at hl; exact hl
  · rw [beqF a2]; exact hl
structure RS (bs : List (Nat × Obj)) (w1 w2 : World) : Prop where
  os : w2.os = w1.os
  tape : w2.tape = w1.tape
  output : w2.output = w1.output
  size : w1.heap.size ≤ w2.heap.size
  old : ∀ k x, (∀ p ∈ bs, k ≠ p.1) → w1.heap[k]? = some x → w2.heap[k]? = some x
  latch : ∀ p ∈ bs, w1.heap[p.1]? = some p.2 → w2.heap[p.1]? = some p.2
  shape : ∀ p ∈ bs, ∀ c T, w1.heap[p.1]? = some (.cells c T) → ∃ c', w2.heap[p.1]? = some (.cells c' T) ∧ c'.size = c.size
theorem RS.refl (bs : List (Nat × Obj)) (w : World) : RS bs w w := ⟨rfl, rfl, rfl, Nat.le_refl _, fun _ _ _ h => h, fun _ _ h => h, fun _ _ c _ h => ⟨c, h, rfl⟩⟩
theorem RS.drew (bs : List (Nat × Obj)) (w : World) : RS bs w w.drew := ⟨rfl, rfl, rfl, Nat.le_refl _, fun _ _ _ h => h, fun _ _ h => h, fun _ _ c _ h => ⟨c, h, rfl⟩⟩
theorem RS.trans {bs : List (Nat × Obj)} (a b c : World) (h : RS bs a b) (k : RS bs b c) : RS bs a c :=
  ⟨k.os.trans h.os, k.tape.trans h.tape, k.output.trans h.output, Nat.le_trans h.size k.size, fun i x hn hx => k.old i x hn (h.old i x hn hx), fun p hp hx => k.latch p hp (h.latch p hp hx),
   fun p hp c T hx => by
     obtain ⟨c1, h1, h2⟩ := h.shape p hp c T hx
     obtain ⟨c2, h3, h4⟩ := k.shape p hp c1 T h1
     exact ⟨c2, h3, h4.trans h2⟩⟩
theorem RS.of_set {bs : List (Nat × Obj)} {a b : World} {k : Nat} {c c' : Array Value} {T : TypeId} (h : SetB a b k (.cells c' T)) (hk : (k, .cells c' T) ∈ bs) (ha : a.heap[k]? = some (.cells c T)) (hsz : c'.size = c.size) (huniq : ∀ p ∈ bs, p.1 = k → p.2 = .cells c' T) : RS bs a b := by
  refine ⟨h.grown.os, h.grown.tape, h.grown.output, h.grown.size, fun i x hn hx => h.other hx (hn _ hk), fun p hp hx => ?_, fun p hp c1 T1 hx => ?_⟩
  · by_cases e : p.1 = k
    · rw [e, huniq p hp e]; exact h.new
    · exact h.other hx e
  · by_cases e : p.1 = k
    · rw [e] at hx ⊢
      rw [ha] at hx
      simp only [Option.some.injEq, Obj.cells.injEq] at hx
      obtain ⟨rfl, rfl, _⟩ := hx
      exact ⟨c', h.new, hsz⟩
    · exact ⟨c1, h.other hx e, rfl⟩
theorem RS.below {bs : List (Nat × Obj)} {w0 a b : World} (h : RS bs a b) (hB : Below w0.heap.size w0 a) (hb : ∀ p ∈ bs, w0.heap.size ≤ p.1) : Below w0.heap.size w0 b :=
  hB.trans ⟨h.os, h.tape, h.output, h.size, fun k hk => by
    have hka : k < a.heap.size := Nat.lt_of_lt_of_le hk hB.size
    rw [Array.getElem?_eq_getElem hka]
    exact h.old k _ (fun p hp e => by have := hb p hp; omega) (Array.getElem?_eq_getElem hka)⟩
inductive DF where
  | c (v : Value)
  | s (b : Nat) (o : Obj)
  | any
def dF (fs : List DF) (i : Nat) (v : Value) (w : World) : Prop :=
  match fs[i]? with
  | some (.c u) => v = u
  | some (.s b o) => w.heap[b]? = some o
  | _ => True
theorem dF.stab {fs : List DF} {bs : List (Nat × Obj)} (hs : ∀ f ∈ fs, match f with | .s b o => (b, o) ∈ bs | _ => True) (i : Nat) (v : Value) (a b : World) (h : RS bs a b) (hf : dF fs i v a) : dF fs i v b := by
  unfold dF at hf ⊢
  split at hf
  · exact hf
  · rename_i k o he
    have := hs _ (List.mem_of_getElem? he)
    exact h.latch (k, o) this hf
  · trivial
theorem At.joinC {L : List (Nat × Value)} {w : World} {c : Code} (L' : List (Nat × Value)) (S : World → Prop) (h : At N ds L (c.wp P (onNormal (fun a w => Is N ds L' a ∧ S w) Q)) w)
    (k : ∀ w', S w' → At N ds L' (Q .normal) w') : At N ds L (c.wp P Q) w := fun a ha =>
  Code.wp_mono (fun e a w he => by cases e <;> first | exact k w he.2 a he.1 | exact he) (h a ha)
theorem At.joinedC {L L' : List (Nat × Value)} {w : World} {S : World → Prop} (hs : Sub L L') (h : S w) : At N ds L (onNormal (fun a w => Is N ds L' a ∧ S w) Q .normal) w :=
  fun _ ha => ⟨ha.sub hs, h⟩
end
def bytesB (P : Program) (t : TypeId) : Option Nat := (P.info? t).map (·.bytes)
def Own (w : World) (e : TypeId) (sz : Nat) (v : Value) (n : Nat) (xs : List Value) : Prop := w.ownsRow 0 e sz v n xs
structure AppR (w w' : World) (v v' : Value) : Prop where
  grown : w.grownBy w' v.ownBlock
  blk : v'.ownBlock = v.ownBlock ∨ ∃ g, v'.ownBlock = some g ∧ w.heap.size ≤ g
section
variable {w w' : World} {e : TypeId} {sz n : Nat} {v v' : Value} {xs : List Value}
theorem Own.nil (w : World) (e : TypeId) (sz : Nat) : Own w e sz (.slice none 0 0) 0 [] := World.ownsRow_nil w 0 e sz
theorem Own.lt (h : Own w e sz v n xs) {g : Nat} (hg : v.ownBlock = some g) : g < w.heap.size := (World.ownsRow.lt h g hg).2
theorem Own.len (h : Own w e sz v n xs) : xs.length = n * sz := h.1
theorem Own.slOk (h : Own w e sz v n xs) : SlOk v n := by
  rcases h.2 with ⟨rfl, rfl⟩ | ⟨g, cap, cur, rfl, _, _, hc, _⟩
  · exact .inl ⟨rfl, rfl⟩
  · exact .inr ⟨⟨g, 0, none⟩, cap, rfl, hc, fun _ => rfl⟩
theorem Own.one (h : Own w e sz v n xs) : v.oneCell' = true := h.slOk.one
theorem Own.keep (h : Own w e sz v n xs) (hk : ∀ g, v.ownBlock = some g → w'.heap[g]? = w.heap[g]?) : Own w' e sz v n xs := by
  refine ⟨h.1, ?_⟩
  rcases h.2 with h2 | ⟨g, cap, cur, rfl, h3, h4, h5⟩
  · exact .inl h2
  · exact .inr ⟨g, cap, cur, rfl, h3, by rw [hk g rfl]; exact h4, h5⟩
theorem Own.below (h : Own w e sz v n xs) (hB : Below w.heap.size w w') : Own w' e sz v n xs := h.keep fun g hg => hB.block g (h.lt hg)
theorem Own.fresh {b : Nat} {o : Obj} (h : Own w e sz v n xs) (hF : Fresh w w' b o) : Own w' e sz v n xs := h.keep fun g hg => hF.grown.block g (h.lt hg) (by simp)
theorem Own.set {b : Nat} {o : Obj} (h : Own w e sz v n xs) (hS : SetB w w' b o) (hne : some b ≠ v.ownBlock) : Own w' e sz v n xs := h.keep fun g hg => hS.grown.block g (h.lt hg) (by rw [← hg]; exact fun e => hne e.symm)
theorem Own.neT (h : Own w e sz v n xs) {k : Nat} {C : Array Value} {T : TypeId} {fr : Nat × Nat} (hk : w.heap[k]? = some (.cells C T fr)) (hT : Nat.beq T e = false) : some k ≠ v.ownBlock := by
  intro hv
  rcases h.2 with ⟨rfl, _⟩ | ⟨g, cap, cur, rfl, h3, h4, h5⟩
  · simp [Value.ownBlock] at hv
  · simp only [Value.ownBlock, Option.some.injEq] at hv
    subst hv
    rw [hk] at h4
    simp only [Option.some.injEq, Obj.cells.injEq] at h4
    exact neB hT h4.2.1
theorem AppR.old (h : AppR w w' v v') {k : Nat} {x : Obj} (hk : w.heap[k]? = some x) (hne : some k ≠ v.ownBlock) : w'.heap[k]? = some x := by
  have : k < w.heap.size := (Array.getElem?_eq_some_iff.1 hk).1
  rw [h.grown.block k this hne]; exact hk
theorem AppR.own {u : Value} {e2 : TypeId} {s2 m : Nat} {ys : List Value} (h : AppR w w' v v') (hu : Own w e2 s2 u m ys) (hne : u.ownBlock = none ∨ u.ownBlock ≠ v.ownBlock) : Own w' e2 s2 u m ys :=
  hu.keep fun g hg => h.grown.block g (hu.lt hg) (by
    rcases hne with h0 | h0
    · rw [h0] at hg; cases hg
    · rw [← hg]; exact h0)
theorem AppR.below {w0 : World} {B : Nat} (h : AppR w w' v v') (hB : Below B w0 w) (hl : B ≤ w.heap.size) (hb : ∀ g, v.ownBlock = some g → B ≤ g) : Below B w0 w' := hB.grown h.grown hl hb
theorem AppR.ge {B : Nat} (h : AppR w w' v v') (hl : B ≤ w.heap.size) (hb : ∀ g, v.ownBlock = some g → B ≤ g) : ∀ g, v'.ownBlock = some g → B ≤ g := by
  intro g hg
  rcases h.blk with h1 | ⟨g', h1, h2⟩
  · exact hb g (by rw [← h1]; exact hg)
  · rw [h1] at hg; cases hg; omega
theorem AppR.ne {k : Nat} {x : Obj} (h : AppR w w' v v') (hk : w.heap[k]? = some x) (hne : some k ≠ v.ownBlock) : some k ≠ v'.ownBlock := by
  have : k < w.heap.size := (Array.getElem?_eq_some_iff.1 hk).1
  rcases h.blk with h1 | ⟨g', h1, h2⟩
  · rw [h1]; exact hne
  · rw [h1]; intro e; cases e; omega
end
theorem flat_get {sz : Nat} : ∀ {rows : List (Array Value)}, (∀ r ∈ rows, r.size = sz) → ∀ {i j : Nat} {cs : Array Value} {x : Value}, rows[i]? = some cs → cs[j]? = some x → (rows.flatMap (·.toList))[i * sz + j]? = some x := by
  intro rows
  induction rows with
  | nil => intro _ i j cs x h; simp at h
  | cons r rs ih =>
    intro hs i j cs x hi hj
    have hr := hs r (by simp)
    have hjl : j < cs.size := (Array.getElem?_eq_some_iff.1 hj).1
    cases i with
    | zero =>
      simp at hi
      subst hi
      simp only [List.flatMap_cons, Nat.zero_mul, Nat.zero_add]
      rw [List.getElem?_append_left (by simpa using hjl)]
      simpa using hj
    | succ i =>
      simp only [List.flatMap_cons]
      rw [List.getElem?_append_right (by simp [hr, Nat.succ_mul]; omega)]
      have := ih (fun q hq => hs q (List.mem_cons_of_mem _ hq)) (i := i) (j := j) (cs := cs) (x := x) (by simpa using hi) hj
      rw [← this]
      congr 1
      simp [hr, Nat.succ_mul]; omega
section
variable {P : Program} {N : Nat} {ds : List Deferred} {L : List (Nat × Value)} {w : World} {ops : Array Oper} {Q : Exit → Act → World → Prop} {rest : List Oper}
  {d : Nat} {ty : TypeId} {pos : String} {aft : Array Edge} {x y : Operand}
theorem run_appendS {t tx e : TypeId} {sz by_ : Nat} {z : Value} (ty : TypeId) (ht : elemB P t = some e) (hs : sizeB P e = some sz) (hb : bytesB P e = some by_) (hz : zeroB P e = some z) (hzs : z.cells.size = sz)
    {v xv : Value} {n m : Nat} {xs news : List Value} (hO : Own w e sz v n xs) (hS : Src P sz tx xv m news w) (h63 : n + m ≤ maxLen) (hby : (n + m) * by_ ≤ 140737488355328) :
    ∃ v' w', (Builtin.append_ #[t, tx] ty #[v, xv]).run P w = .ok v' w' ∧ Own w' e sz v' (n + m) (xs ++ news) ∧ AppR w w' v v' := by
  have hu := underlying_elem ht
  cases hi : P.info? e with
  | none => simp [sizeB, hi] at hs
  | some i =>
    have hsz : i.size = sz := by simpa [sizeB, hi] using hs
    have hbb : i.bytes = by_ := by simpa [bytesB, hi] using hb
    have hzz : i.zero = some z := by simpa [zeroB, hi] using hz
    subst hsz hbb
    have hlen : (xs ++ news).length = (n + m) * i.size := by rw [List.length_append, hO.1, hS.newsLen, Nat.add_mul]
    have h63i : ((n + m : Nat) : Int) ≤ 9223372036854775807 := by simp only [maxLen] at h63; omega
    have grown : ∀ (old : Nat), old < n + m → ∀ (v : Value), (∀ g, v.ownBlock = some g → g < w.heap.size) →
        Own (w.drew.alloc (.cells ((xs ++ news).toArray ++ Builtin.zeroCells z.cells (grownCap w (n + m) old e - (n + m))) e)) e i.size (.slice (some ⟨w.heap.size, 0, none⟩) (n + m) (grownCap w (n + m) old e)) (n + m) (xs ++ news) ∧
        AppR w (w.drew.alloc (.cells ((xs ++ news).toArray ++ Builtin.zeroCells z.cells (grownCap w (n + m) old e - (n + m))) e)) v (.slice (some ⟨w.heap.size, 0, none⟩) (n + m) (grownCap w (n + m) old e)) := by
      intro old ho v hv
      have hge := grownCap_ge w (n + m) old e
      have hcm : grownCap w (n + m) old e ≤ maxLen := grownCap_le_maxLen w (n + m) old e h63
      refine ⟨⟨hlen, .inr ⟨w.heap.size, _, _, rfl, Nat.zero_le _, heap_alloc_new w.drew _, hge, hcm, ?_, ?_⟩⟩, ⟨⟨rfl, rfl, rfl, by simp, fun k hk _ => Below.heap_alloc w.drew _ k hk⟩, .inr ⟨_, rfl, Nat.le_refl _⟩⟩⟩
      · simp only [Array.size_append, List.size_toArray, size_zeroCells, hzs, hlen, ← Nat.add_mul]
        congr 1
        omega
      · simp only [Array.toList_append]
        rw [← hlen]
        exact List.take_left
    rcases hO.2 with ⟨rfl, rfl⟩ | ⟨g, cap, cur, rfl, hbg, hg, hnc, hcm, hcs, htake⟩
    · have hx : xs = [] := List.eq_nil_of_length_eq_zero (by simpa using hO.1)
      subst hx
      by_cases hm : m = 0
      · subst hm
        have hn : news = [] := List.eq_nil_of_length_eq_zero (by simpa using hS.newsLen)
        subst hn
        refine ⟨.slice none 0 0, w, ?_, Own.nil w e i.size, ⟨⟨rfl, rfl, rfl, Nat.le_refl _, fun _ _ _ => rfl⟩, .inl rfl⟩⟩
        rcases hS.kind with ⟨e', hk⟩ | hk <;> simp [Builtin.append_, run_underlying hu, run_underlying hk, sizeOf, typeInfo, hi, hS.len, hS.cells]
      · have hr := run_append_grow_src (P := P) w t tx ty e i z hu hi hzz none 0 0 [] (by simp [Builtin.firstCells]) xv m news hS (by omega) (by simpa using h63i) (by have hb := growslice_fits (show 0 < 0 + m by omega) hby; exact hb)
        have hgr := grown 0 (by omega) (.slice none 0 0) (by simp [Value.ownBlock])
        exact ⟨_, _, hr, hgr.1, hgr.2⟩
    · by_cases hroom : n + m ≤ cap
      · have hfit : n * i.size + news.length ≤ cur.size := by rw [hS.newsLen, hcs, ← Nat.add_mul]; exact Nat.mul_le_mul_right _ hroom
        have hst := run_storeCells_at (P := P) g (n * i.size) e news 0 cur w hg (by simpa using hfit) hS.one
        simp only [Nat.add_zero] at hst
        have hr : (Builtin.append_ #[t, tx] ty #[.slice (some ⟨g, 0, none⟩) n cap, xv]).run P w = .ok (.slice (some ⟨g, 0, none⟩) (n + m) cap) (w.setRow g (cur.toList.take (n * i.size) ++ news ++ cur.toList.drop (n * i.size + news.length)).toArray) := by
          rcases hS.kind with ⟨e', hk⟩ | hk <;> simp [Builtin.append_, run_underlying hu, run_underlying hk, sizeOf, typeInfo, hi, hS.len, hroom, hS.cells, Addr.add_lit, hst]
        refine ⟨_, _, hr, ⟨hlen, .inr ⟨g, cap, _, rfl, hbg, setRow_heap w g cur _ e _ hg, hroom, hcm, ?_, ?_⟩⟩, ⟨⟨rfl, rfl, rfl, by simp, fun k _ hk => setRow_other w g k _ (fun e => hk (by simp [Value.ownBlock, e]))⟩, .inl rfl⟩⟩
        · simp only [List.size_toArray, List.length_append, List.length_take, List.length_drop, Array.length_toList]
          omega
        · rw [htake, ← hlen]
          exact List.take_left
      · have holds : ∀ j u, xs[j]? = some u → w.cell? ((⟨g, 0, none⟩ : Addr).add j) = some u := World.ownsRow.cells (g := g) hO rfl
        have hold : (Builtin.firstCells i.size n (.slice (some ⟨g, 0, none⟩) n cap)).run P w.drew = .ok xs.toArray w.drew := run_firstCells_some w.drew i.size n ⟨g, 0, none⟩ n cap xs hO.1 (by simpa using holds)
        have hr := run_append_grow_src (P := P) w t tx ty e i z hu hi hzz (some ⟨g, 0, none⟩) n cap xs hold xv m news hS (by omega) h63i (growslice_fits (by omega) hby)
        have hgr := grown cap (by omega) (.slice (some ⟨g, 0, none⟩) n cap) (by intro k hk; simp [Value.ownBlock] at hk; subst hk; exact (Array.getElem?_eq_some_iff.1 hg).1)
        exact ⟨_, _, hr, hgr.1, hgr.2⟩
theorem At.append {t tx e : TypeId} {sz by_ : Nat} {z v xv : Value} {n m : Nat} {xs news : List Value} (hx : ev L x = some v) (hy : ev L y = some xv) (ht : elemB P t = some e) (hs : sizeB P e = some sz) (hb : bytesB P e = some by_) (hz : zeroB P e = some z) (hzs : z.cells.size = sz)
    (hO : Own w e sz v n xs) (hS : Src P sz tx xv m news w) (h63 : n + m ≤ maxLen) (hby : (n + m) * by_ ≤ 140737488355328) (hN : Nat.blt d N = true)
    (k : ∀ v' w', Own w' e sz v' (n + m) (xs ++ news) → AppR w w' v v' → At N ds ((d, v') :: L) (wpList P ops Q rest) w') :
    At N ds L (wpList P ops Q (⟨some d, .call ⟨.builtin .append, #[x, y], #[t, tx]⟩, ty, pos, aft, none⟩ :: rest)) w := by
  obtain ⟨v', w', hr, h1, h2⟩ := run_appendS (P := P) ty ht hs hb hz hzs hO hS h63 hby
  refine At.op (v := v') (w' := w') rfl rfl hN (fun a ha => ?_) (k v' w' h1 h2)
  simp only [execOp, resolve, invoke, builtin, Sem.run_bind, Sem.run_pure, Result.andThen_ok, List.map_toArray, List.map_cons, List.map_nil, ha.ev hx, ha.ev hy, hr]
end
def isS (o : Oper) : Bool :=
  o.dst.isSome && match o.op with
  | .move _ | .pick .. | .fieldAddr .. | .field .. | .indexAddr .. | .index .. | .load .. | .binOp .. | .unOp .. | .extract .. | .build .. | .makeFunc .. | .nilCheck _ | .slice .. | .makeInterface .. | .convert .. => true
  | .call { callee := .builtin .len, .. } | .call { callee := .builtin .cap, .. } | .call { callee := .builtin .min, .. } | .call { callee := .builtin .max, .. } => true
  | _ => false
def readsOf (l : List Oper) (o : Oper) : List Nat :=
  (o.op.operands.toList.filterMap fun | .tmp t => some t | _ => none) ++ (match o.guard with | some (g, _) => ((l[g]?).bind (·.dst)).toList | none => [])
def ancs (l : List Oper) : Nat → Nat → List Nat
  | 0, _ => []
  | f + 1, i => match l[i]? with
    | some o => predsOf o ++ (predsOf o).flatMap (ancs l f)
    | none => []
def anc (l : List Oper) (i : Nat) : List Nat := ancs l l.length i
def okC (N : Nat) (l : List Oper) : Bool :=
  (List.range l.length).all fun i => match l[i]? with
    | none => true
    | some o => (predsOf o).all (fun j => Nat.blt j i) && (match o.guard with | some (g, _) => (predsOf o).contains g | none => true) && (match o.op with | .select .. => false | _ => true) && match o.dst with
      | none => true
      | some d => Nat.blt d N && !(readsOf l o).contains d && (List.range l.length).all fun j => match l[j]? with
        | none => true
        | some p => Nat.beq j i || ((!isS o || !(p.dst == some d)) && (!isS p || !(p.dst == some d)) && (!(readsOf l p).contains d || (if isS o then (predsOf p).contains i else (!isS p || (predsOf p).contains i || (anc l i).contains j))))
def firstS (l : List Oper) (lst : Array Bool) : Option Nat :=
  (Region.ready .any l.toArray lst).find? fun i => match l[i]? with | some o => isS o | none => false
def sure (l : List Oper) (lst : Array Bool) (j : Nat) : Bool :=
  (List.range l.length).any fun k => lst.getD k false && (match l[k]? with | some o => !isS o | none => false) && (anc l k).contains j
def loose (l : List Oper) (lst : Array Bool) : List Nat :=
  (List.range l.length).filter fun j => lst.getD j false && (match l[j]? with | some o => isS o | none => false) && !sure l lst j
def plainOp (o : Oper) : Bool := match o.op with | .select .. => false | _ => true
section
variable {P : Program} {N : Nat} {ds : List Deferred} {Q : Exit → Act → World → Prop}
def Pt (P : Program) (l : List Oper) (Q : Exit → Act → World → Prop) (o : Oper) (a : Act) (w : World) (v : Value) : Prop :=
  ∀ K : Act → World → Prop, K (a.put o.dst v) w → wpList P l.toArray (onNormal K Q) [o] a w
def wpC (P : Program) (l : List Oper) (Q : Exit → Act → World → Prop) : Nat → Array Bool → Act → World → Prop
  | 0, _, a, w => Q .normal a w
  | f + 1, lst, a, w =>
    match firstS l lst with
    | some i => ∀ o, l[i]? = some o → ∃ v, Pt P l Q o a w v ∧ wpC P l Q f (lst.setIfInBounds i true) (a.put o.dst v) w
    | none => ∀ i ∈ Region.ready .any l.toArray lst, ∀ o, l[i]? = some o →
        wpList P l.toArray (onNormal (fun a' w' => (∀ j ∈ loose l (lst.setIfInBounds i true), ∀ p, l[j]? = some p → Pt P l Q p a' w' (a'.tmps.getD (p.dst.getD 0) undef)) ∧ wpC P l Q f (lst.setIfInBounds i true) a' w') Q) [o] a w
def PanicOk (Q : Exit → Act → World → Prop) : Prop := ∀ c a b w, a.defers = b.defers → Q (.panic c) b w → Q (.panic c) a w
theorem put_tmps_size (a : Act) (d : Option Nat) (v : Value) : (a.put d v).tmps.size = a.tmps.size := by cases d <;> simp [Act.put]
theorem put_defers (a : Act) (d : Option Nat) (v : Value) : (a.put d v).defers = a.defers := by cases d <;> rfl
theorem get_put_ne (a : Act) {d : Option Nat} (v : Value) {t : Nat} (h : d ≠ some t) : (a.put d v).tmps.getD t undef = a.tmps.getD t undef := by
  cases d with
  | none => rfl
  | some d =>
    have : d ≠ t := fun e => h (by rw [e])
    simp [Act.put, Array.getElem?_setIfInBounds_ne this]
theorem get_put_eq (a : Act) {d : Nat} (v : Value) (h : d < a.tmps.size) : (a.put (some d) v).tmps.getD d undef = v := by simp [Act.put, h]
theorem act_ext {a b : Act} (hs : a.tmps.size = b.tmps.size) (hd : a.defers = b.defers) (hg : ∀ t, t < a.tmps.size → a.tmps.getD t undef = b.tmps.getD t undef) : a = b := by
  obtain ⟨ta, da⟩ := a
  obtain ⟨tb, db⟩ := b
  rw [Act.mk.injEq]
  refine ⟨Array.ext hs fun i h1 h2 => ?_, hd⟩
  have := hg i h1
  have h1' : i < ta.size := h1
  have h2' : i < tb.size := h2
  simpa [h1', h2'] using this
theorem step_congr {l : List Oper} {o : Oper} {a b : Act} {w : World} {K K' : Act → World → Prop} (hq : PanicOk Q) (hp : plainOp o = true) (hdef : a.defers = b.defers) (hsz : a.tmps.size = b.tmps.size)
    (hr : ∀ t ∈ readsOf l o, a.tmps.getD t undef = b.tmps.getD t undef) (h : wpList P l.toArray (onNormal K Q) [o] b w) (hk : ∀ D v w', K (({ b with defers := D } : Act).put o.dst v) w' → K' (({ a with defers := D } : Act).put o.dst v) w') :
    wpList P l.toArray (onNormal K' Q) [o] a w := by
  have hops : ∀ x ∈ o.op.operands, a.eval x = b.eval x := by
    intro x hx
    cases x with
    | tmp t =>
      refine hr t ?_
      unfold readsOf
      refine List.mem_append_left _ ?_
      rw [List.mem_filterMap]
      exact ⟨.tmp t, by simpa using hx, rfl⟩
    | const c => rfl
    | global g => rfl
    | func f => rfl
  have hex : execOp a.eval o = execOp b.eval o := execOp_congr o (fun cs bl e => by unfold plainOp at hp; rw [e] at hp; cases hp) hops
  have hw : Region.wanted o (yielded l.toArray a.tmps) = Region.wanted o (yielded l.toArray b.tmps) := by
    unfold Region.wanted
    cases hg : o.guard with
    | none => rfl
    | some q =>
      obtain ⟨g, bl⟩ := q
      simp only
      have : yielded l.toArray a.tmps g = yielded l.toArray b.tmps g := by
        unfold yielded
        simp only [List.getElem?_toArray]
        cases hd : (l[g]?).bind (·.dst) with
        | none => rfl
        | some t =>
          have ht := hr t (by unfold readsOf; rw [hg]; simp only [hd]; exact List.mem_append_right _ (by simp))
          simp only [Option.bind_some]
          by_cases hlt : t < a.tmps.size
          · have hlt' : t < b.tmps.size := by rw [← hsz]; exact hlt
            simp only [Array.getD_eq_getD_getElem?, Array.getElem?_eq_getElem hlt, Array.getElem?_eq_getElem hlt', Option.getD_some] at ht
            rw [Array.getElem?_eq_getElem hlt, Array.getElem?_eq_getElem hlt', ht]
          · have hlt' : ¬ t < b.tmps.size := by rw [← hsz]; exact hlt
            simp [hlt, hlt']
      rw [this]
  have hasks : o.asks P b w → o.asks P a w := by
    unfold Oper.asks
    rw [hex]; exact id
  unfold wpList at h ⊢
  by_cases hwb : Region.wanted o (yielded l.toArray b.tmps) = true
  · rw [if_pos hwb] at h
    rw [if_pos (hw.trans hwb)]
    rcases h with h | ⟨h1, a0, w0, h2⟩
    · left
      have hk' : ∀ v w', K (b.put o.dst v) w' → K' (a.put o.dst v) w' := fun v w' hh => by
        have h1 : ({ b with defers := a.defers } : Act) = b := by rw [hdef]
        have := hk a.defers v w'
        rw [h1] at this
        exact this hh
      unfold Oper.wp at *
      rw [hex]
      generalize (execOp b.eval o).run P w = r at *
      cases r with
      | ok n w' =>
        cases n <;> simp only [Oper.upon] at h ⊢ <;>
          first
            | exact hk' _ _ h
            | exact Calls.mono h (fun e w'' he => by cases e <;> first | exact hk' _ _ he | exact hq _ _ _ _ hdef he | exact he)
            | exact Rows.mono h (fun _ _ he => hk' _ _ he)
            | (rw [hdef]; exact hk _ _ _ h)
            | exact h
      | halt x w' => cases x <;> simp only [Oper.upon] at h ⊢ <;> first | exact hq _ _ _ _ hdef h | exact h
    · exact .inr ⟨hasks h1, a0, w0, h2⟩
  · rw [if_neg hwb] at h
    rw [if_neg (by rw [hw]; exact hwb)]
    have h1 : ({ b with defers := a.defers } : Act) = b := by rw [hdef]
    have := hk a.defers undef w
    rw [h1] at this
    exact this h
theorem okC.at {l : List Oper} (h : okC N l = true) {i : Nat} {o : Oper} (ho : l[i]? = some o) :
    (∀ j ∈ predsOf o, j < i) ∧ plainOp o = true ∧ ∀ d, o.dst = some d → d < N ∧ d ∉ readsOf l o ∧ ∀ j p, l[j]? = some p → j ≠ i →
      ((isS o = true ∨ isS p = true) → p.dst ≠ some d) ∧ (d ∈ readsOf l p → (isS o = true → i ∈ predsOf p) ∧ (isS o = false → isS p = true → i ∈ predsOf p ∨ j ∈ anc l i)) := by
  have hi := (List.getElem?_eq_some_iff.1 ho).1
  have h1 := List.all_eq_true.1 h i (by simpa using hi)
  rw [ho] at h1
  simp only [Bool.and_eq_true] at h1
  obtain ⟨⟨⟨h2, _⟩, h3⟩, h4⟩ := h1
  refine ⟨fun j hj => by have := List.all_eq_true.1 h2 j hj; simpa [Nat.blt_eq] using this, ?_, fun d hd => ?_⟩
  · unfold plainOp; exact h3
  · rw [hd] at h4
    simp only [Bool.and_eq_true] at h4
    obtain ⟨⟨h5, h5'⟩, h6⟩ := h4
    refine ⟨by simpa [Nat.blt_eq] using h5, by simpa using h5', fun j p hp hne => ?_⟩
    have hj := (List.getElem?_eq_some_iff.1 hp).1
    have h7 := List.all_eq_true.1 h6 j (by simpa using hj)
    rw [hp] at h7
    simp only [Bool.or_eq_true, Bool.and_eq_true, Bool.not_eq_true'] at h7
    rcases h7 with h7 | ⟨⟨h8, h9⟩, h10⟩
    · exact absurd (Nat.eq_of_beq_eq_true h7) hne
    · refine ⟨fun hs he => ?_, fun hr => ⟨fun hs => ?_, fun hs hps => ?_⟩⟩
      · rw [he] at h8 h9
        simp only [beq_self_eq_true, Bool.true_eq_false, or_false] at h8 h9
        rcases hs with hs | hs
        · rw [hs] at h8; cases h8
        · rw [hs] at h9; cases h9
      · rcases h10 with h10 | h10
        · rw [← List.contains_iff_mem, h10] at hr; cases hr
        · rw [if_pos hs] at h10; exact List.contains_iff_mem.1 h10
      · rcases h10 with h10 | h10
        · rw [← List.contains_iff_mem, h10] at hr; cases hr
        · rw [if_neg (by rw [hs]; simp), hps] at h10
          simp only [Bool.not_true, Bool.false_or, Bool.or_eq_true] at h10
          rcases h10 with h10 | h10
          · exact .inl (List.contains_iff_mem.1 h10)
          · exact .inr (List.contains_iff_mem.1 h10)
def Closed (l : List Oper) (lst : Array Bool) : Prop := ∀ (i : Nat) (o : Oper), l[i]? = some o → lst[i]? = some true → ∀ j ∈ predsOf o, lst[j]? = some true
theorem Closed.ofAncs {l : List Oper} {lst : Array Bool} (h : Closed l lst) : ∀ (f i : Nat), lst[i]? = some true → ∀ j ∈ ancs l f i, lst[j]? = some true := by
  intro f
  induction f with
  | zero => intro i _ j hj; cases hj
  | succ f ih =>
    intro i hi j hj
    unfold ancs at hj
    split at hj
    · rename_i o ho
      rcases List.mem_append.1 hj with hj | hj
      · exact h i o ho hi j hj
      · obtain ⟨k, hk, hj⟩ := List.mem_flatMap.1 hj
        exact ih k (h i o ho hi k hk) j hj
    · cases hj
theorem ready_mem {l : List Oper} {lst : Array Bool} (hsz : lst.size = l.length) {i : Nat} : i ∈ Region.ready .any l.toArray lst ↔ ∃ o, l[i]? = some o ∧ lst[i]? = some false ∧ ∀ j ∈ predsOf o, lst[j]? = some true := by
  unfold Region.ready
  rw [List.mem_filter]
  constructor
  · rintro ⟨h1, h2⟩
    have hil : i < l.length := by simpa using h1
    have hill : i < lst.size := by omega
    simp only [Bool.and_eq_true, Bool.not_eq_true'] at h2
    obtain ⟨h3, h4⟩ := h2
    refine ⟨l[i], List.getElem?_eq_getElem hil, ?_, fun j hj => ?_⟩
    · rw [Array.getElem?_eq_getElem hill]; simpa [Array.getD_eq_getD_getElem?, hill] using h3
    · simp only [List.getElem?_toArray, List.getElem?_eq_getElem hil, Option.map_some, Option.getD_some] at h4
      unfold predsOf at hj
      rw [List.mem_filterMap] at hj
      obtain ⟨e, he, hej⟩ := hj
      split at hej
      · rename_i hb
        have hee := Array.all_eq_true'.1 h4 e (by simpa using he)
        simp only [hb, Bool.not_true, Bool.false_or] at hee
        have hje : e.on = j := by simpa using hej
        rw [hje] at hee
        cases hlj : lst[j]? with
        | none => simp [Array.getD_eq_getD_getElem?, hlj] at hee
        | some b => simp [Array.getD_eq_getD_getElem?, hlj] at hee; rw [hee]
      · cases hej
  · rintro ⟨o, ho, hf, hp⟩
    have hil := (List.getElem?_eq_some_iff.1 ho).1
    refine ⟨by simpa using hil, ?_⟩
    simp only [List.getElem?_toArray, ho, Option.map_some, Option.getD_some, Array.getD_eq_getD_getElem?, hf, Bool.not_false, Bool.true_and]
    rw [Array.all_eq_true']
    intro e he
    by_cases hb : Region.binds .any e = true
    · have := hp e.on (by unfold predsOf; rw [List.mem_filterMap]; exact ⟨e, by simpa using he, by simp [hb]⟩)
      simp [this]
    · simp [hb]
def falses (lst : Array Bool) : Nat := (lst.toList.filter fun b => !b).length
theorem falses_set {lst : Array Bool} {i : Nat} (h : lst[i]? = some false) : falses (lst.setIfInBounds i true) + 1 = falses lst := by
  unfold falses
  rw [Array.toList_setIfInBounds]
  have hcount : ∀ (b : List Bool) (i : Nat), b[i]? = some false → ((b.set i true).filter (fun b => !b)).length + 1 = (b.filter (fun b => !b)).length := by
    intro b
    induction b with
    | nil => intro i h; simp at h
    | cons x r ihb =>
      intro i h
      cases i with
      | zero => simp at h; subst h; simp
      | succ i =>
        have := ihb i (by simpa using h)
        cases x <;> simp [this]
  exact hcount _ _ (by simpa using h)
theorem falses_zero {lst : Array Bool} (h : falses lst = 0) {i : Nat} (hi : i < lst.size) : lst[i]? = some true := by
  rw [Array.getElem?_eq_getElem hi]
  have hnil : lst.toList.filter (fun b => !b) = [] := List.eq_nil_of_length_eq_zero h
  have := List.filter_eq_nil_iff.1 hnil lst[i] (by simp)
  simpa using this
theorem ready_some {l : List Oper} {lst : Array Bool} (hok : okC N l = true) (hsz : lst.size = l.length) (h : falses lst ≠ 0) : ∃ i, i ∈ Region.ready .any l.toArray lst := by
  have hex : ∃ i, i < l.length ∧ lst[i]? = some false := by
    have hne : lst.toList.filter (fun b => !b) ≠ [] := by intro e; unfold falses at h; rw [e] at h; simp at h
    obtain ⟨b, hb⟩ := List.exists_mem_of_ne_nil _ hne
    rw [List.mem_filter] at hb
    obtain ⟨i, hi⟩ := List.getElem?_of_mem hb.1
    have hlt : i < lst.toList.length := (List.getElem?_eq_some_iff.1 hi).1
    refine ⟨i, by rw [← hsz]; simpa using hlt, ?_⟩
    have : b = false := by simpa using hb.2
    rw [← this]; simpa using hi
  obtain ⟨i, hi, hf⟩ := hex
  have hmin : ∀ m, ∀ i, i ≤ m → i < l.length → lst[i]? = some false → ∃ i, i ∈ Region.ready .any l.toArray lst := by
    intro m
    induction m with
    | zero =>
      intro i him hil hf
      refine ⟨i, (ready_mem hsz).2 ⟨l[i], List.getElem?_eq_getElem hil, hf, fun j hj => ?_⟩⟩
      have := (okC.at hok (List.getElem?_eq_getElem hil)).1 j hj
      omega
    | succ m ihm =>
      intro i him hil hf
      by_cases hall : ∀ j ∈ predsOf l[i], lst[j]? = some true
      · exact ⟨i, (ready_mem hsz).2 ⟨l[i], List.getElem?_eq_getElem hil, hf, hall⟩⟩
      · obtain ⟨j, hj, hjl⟩ : ∃ j, j ∈ predsOf l[i] ∧ ¬ lst[j]? = some true := Classical.byContradiction fun hno => hall fun j hj => Classical.byContradiction fun hn => hno ⟨j, hj, hn⟩
        have hlt := (okC.at hok (List.getElem?_eq_getElem hil)).1 j hj
        have hjs : j < lst.size := by omega
        refine ihm j (by omega) (by omega) ?_
        rw [Array.getElem?_eq_getElem hjs] at hjl ⊢
        cases hv : lst[j] with
        | false => rfl
        | true => rw [hv] at hjl; exact absurd rfl hjl
  exact hmin i i lR hi hf
theorem put_inj {b : Act} {D : List Deferred} {d : Nat} {u v : Value} (hd : d < b.tmps.size) (h : ({ b with defers := D } : Act).put (some d) u = b.put (some d) v) : D = b.defers ∧ u = v := by
  refine ⟨congrArg Act.defers h, ?_⟩
  have := congrArg (fun x : Act => x.tmps.getD d undef) h
  rw [get_put_eq _ _ (show d < ({ b with defers := D } : Act).tmps.size from hd), get_put_eq _ _ hd] at this
  exact this
theorem Pt.congr {l : List Oper} {o : Oper} {b b' : Act} {w : World} {v : Value} {d : Nat} (hq : PanicOk Q) (hp : plainOp o = true) (hd : o.dst = some d) (hlt : d < b.tmps.size) (hdef : b'.defers = b.defers) (hsz : b'.tmps.size = b.tmps.size)
    (hr : ∀ t ∈ readsOf l o, b'.tmps.getD t undef = b.tmps.getD t undef) (h : Pt P l Q o b w v) : Pt P l Q o b' w v := by
  intro K hK
  refine step_congr (a := b') (b := b) (K := fun x w' => x = b.put o.dst v ∧ w' = w) hq hp hdef hsz hr (h _ ⟨rfl, rfl⟩) ?_
  rintro D u w' ⟨h3, rfl⟩
  rw [hd] at h3
  obtain ⟨h4, rfl⟩ := put_inj hlt h3
  have : ({ b' with defers := D } : Act) = b' := by rw [h4, ← hdef]
  rw [this]
  exact hK
structure Sim (P : Program) (N : Nat) (l : List Oper) (Q : Exit → Act → World → Prop) (listed lst : Array Bool) (a b : Act) (w : World) : Prop where
  len : listed.size = l.length
  len' : lst.size = l.length
  sub : ∀ i : Nat, listed[i]? = some true → lst[i]? = some true
  only : ∀ (i : Nat) (o : Oper), l[i]? = some o → lst[i]? = some true → listed[i]? = some false → isS o = true ∧ Pt P l Q o b w (b.tmps.getD (o.dst.getD 0) undef)
  closed : Closed l listed
  closed' : Closed l lst
  sizeA : a.tmps.size = N
  sizeB : b.tmps.size = N
  defers : a.defers = b.defers
  same : ∀ t, (∀ (i : Nat) (o : Oper), l[i]? = some o → lst[i]? = some true → listed[i]? = some false → o.dst ≠ some t) → a.tmps.getD t undef = b.tmps.getD t undef
theorem isS_dst {o : Oper} (h : isS o = true) : ∃ d, o.dst = some d := by
  unfold isS at h
  cases hd : o.dst with
  | none => rw [hd] at h; simp at h
  | some d => exact ⟨d, rfl⟩
theorem Sim.falses {l : List Oper} {listed lst : Array Bool} {a b : Act} {w : World} (h : Sim P N l Q listed lst a b w) : falses lst ≤ falses listed := by
  have key : ∀ (x y : List Bool), x.length = y.length → (∀ i : Nat, x[i]? = some true → y[i]? = some true) → (y.filter (fun b => !b)).length ≤ (x.filter (fun b => !b)).length := by
    intro x
    induction x with
    | nil => intro y hl _; cases y with | nil => simp | cons _ _ => simp at hl
    | cons c x ih =>
      intro y hl hs
      cases y with
      | nil => simp at hl
      | cons e y =>
        have := ih y (by simpa using hl) (fun i hi => by have := hs (i + 1) (by simpa using hi); simpa using this)
        cases c with
        | true =>
          have h0 := hs 0 rfl
          simp at h0
          subst h0
          simpa using this
        | false => cases e <;> simp <;> omega
  exact key _ _ (by simp [h.len, h.len']) (fun i hi => by have := h.sub i (by simpa using hi); simpa using this)
theorem Sim.reads {l : List Oper} {listed lst : Array Bool} {a b : Act} {w : World} (hok : okC N l = true) (h : Sim P N l Q listed lst a b w) {i : Nat} {o : Oper} (ho : l[i]? = some o) (hp : ∀ j ∈ predsOf o, listed[j]? = some true)
    {t : Nat} (ht : t ∈ readsOf l o) : a.tmps.getD t undef = b.tmps.getD t undef := by
  refine h.same t fun j p hpj hl hnl hd => ?_
  have hS := (h.only j p hpj hl hnl).1
  by_cases e : i = j
  · subst e
    rw [ho] at hpj; cases hpj
    exact ((okC.at hok ho).2.2 t hd).2.1 ht
  · have := (((okC.at hok hpj).2.2 t hd).2.2 i o ho e).2 ht
    have := hp j (this.1 hS)
    rw [hnl] at this; cases this
theorem set_true {lst : Array Bool} {i : Nat} (hi : i < lst.size) (j : Nat) : (lst.setIfInBounds i true)[j]? = some true ↔ j = i ∨ lst[j]? = some true := by
  rw [Array.getElem?_setIfInBounds]
  by_cases e : i = j
  · subst e; simp [hi]
  · simp [e, Ne.symm e]
theorem set_false {lst : Array Bool} {i : Nat} (hi : i < lst.size) (j : Nat) : (lst.setIfInBounds i true)[j]? = some false ↔ j ≠ i ∧ lst[j]? = some false := by
  rw [Array.getElem?_setIfInBounds]
  by_cases e : i = j
  · subst e; simp [hi]
  · simp [e, Ne.symm e]
theorem bool_at {lst : Array Bool} {i : Nat} (hi : i < lst.size) (h : ¬ lst[i]? = some true) : lst[i]? = some false := by
  rw [Array.getElem?_eq_getElem hi] at h ⊢
  cases hb : lst[i] with
  | false => rfl
  | true => rw [hb] at h; exact absurd rfl h
theorem Closed.set {l : List Oper} {lst : Array Bool} {i : Nat} {o : Oper} (h : Closed l lst) (hi : i < lst.size) (ho : l[i]? = some o) (hp : ∀ j ∈ predsOf o, lst[j]? = some true) : Closed l (lst.setIfInBounds i true) := by
  intro j p hpj hj k hk
  rw [set_true hi] at hj ⊢
  right
  rcases hj with e | hj
  · subst e; rw [ho] at hpj; cases hpj; exact hp k hk
  · exact h j p hpj hj k hk
theorem sim_sound {l : List Oper} (hok : okC N l = true) (hq : PanicOk Q) :
    ∀ (n : Nat) (listed lst : Array Bool) (a b : Act) (w : World), Sim P N l Q listed lst a b w → falses listed + falses lst = n → wpC P l Q (falses lst) lst b w → wpAny P .any l.toArray Q (falses listed) listed a w := by
  intro n
  induction n using Nat.strongRecOn with
  | _ n ih =>
    intro listed lst a b w hS hn hC
    cases hf : firstS l lst with
    | some i =>
      have hi := List.mem_of_find?_eq_some hf
      have hiS := List.find?_some hf
      obtain ⟨o, ho, hfl, hpr⟩ := (ready_mem hS.len').1 hi
      have hoS : isS o = true := by rw [ho] at hiS; exact hiS
      obtain ⟨d, hd⟩ := isS_dst hoS
      have hfs := falses_set hfl
      have hdat := (okC.at hok ho).2.2 d hd
      have hCf : ∃ v, Pt P l Q o b w v ∧ wpC P l Q (falses (lst.setIfInBounds i true)) (lst.setIfInBounds i true) (b.put o.dst v) w := by
        rw [← hfs] at hC
        unfold wpC at hC
        rw [hf] at hC
        exact hC o ho
      obtain ⟨v, hv, hC'⟩ := hCf
      have hilst : i < lst.size := (Array.getElem?_eq_some_iff.1 hfl).1
      have hil : i < listed.size := by rw [hS.len, ← hS.len']; exact hilst
      have hnl : listed[i]? = some false := bool_at hil fun h => by have := hS.sub i h; rw [hfl] at this; cases this
      have hdb : d < b.tmps.size := by rw [hS.sizeB]; exact hdat.1
      refine ih _ (by omega) listed (lst.setIfInBounds i true) a (b.put o.dst v) w ⟨hS.len, by simp [hS.len'], fun j hj => ?_, fun j p hp hj hjn => ?_, hS.closed, hS.closed'.set hilst ho hpr, hS.sizeA, by rw [put_tmps_size]; exact hS.sizeB, by rw [put_defers]; exact hS.defers, fun t ht => ?_⟩ rfl hC'
      · rw [set_true hilst]; exact .inr (hS.sub j hj)
      · rw [set_true hilst] at hj
        by_cases e : j = i
        · subst e
          rw [ho] at hp; cases hp
          refine ⟨hoS, ?_⟩
          rw [hd]
          simp only [Option.getD_some]
          rw [get_put_eq b v hdb]
          exact Pt.congr hq (okC.at hok ho).2.1 hd hdb (put_defers _ _ _) (put_tmps_size _ _ _) (fun t ht => get_put_ne b v (fun e => by cases e; exact hdat.2.1 ht)) hv
        · have hj' := hj.resolve_left e
          obtain ⟨h1, h2⟩ := hS.only j p hp hj' hjn
          refine ⟨h1, ?_⟩
          obtain ⟨dp, hdp⟩ := isS_dst h1
          have hne : d ≠ dp := fun ee => by subst ee; exact ((hdat.2.2 j p hp e).1 (.inl hoS)) hdp
          have hdpl : dp < b.tmps.size := by rw [hS.sizeB]; exact ((okC.at hok hp).2.2 dp hdp).1
          have hg : (b.put o.dst v).tmps.getD (p.dst.getD 0) undef = b.tmps.getD (p.dst.getD 0) undef := by
            rw [hdp]; exact get_put_ne b v (by rw [hd]; intro ee; cases ee; exact hne rfl)
          rw [hg]
          refine Pt.congr hq (okC.at hok hp).2.1 hdp hdpl (put_defers _ _ _) (put_tmps_size _ _ _) (fun t ht => get_put_ne b v (by
            rw [hd]; intro ee; cases ee
            have := ((hdat.2.2 j p hp e).2 ht).1 hoS
            have := hS.closed' j p hp hj' i this
            rw [hfl] at this; cases this)) h2
      · have ht' := hS.same t (fun j p hp hj hjn => ht j p hp (by rw [set_true hilst]; exact .inr hj) hjn)
        have hdt : d ≠ t := fun e => by subst e; exact ht i o ho (by rw [set_true hilst]; exact .inl rfl) hnl hd
        rw [ht', get_put_ne b v (by rw [hd]; intro e; cases e; exact hdt rfl)]
    | none =>
      cases hfl : falses listed with
      | zero =>
        have hl0 : falses lst = 0 := by have := hS.falses; omega
        have hall : ∀ i : Nat, i < l.length → listed[i]? = some true := fun i hi => falses_zero hfl (by rw [hS.len]; exact hi)
        rw [hl0] at hC
        have hab : a = b := act_ext (by rw [hS.sizeA, hS.sizeB]) hS.defers (fun t _ => hS.same t (fun i o ho _ hn => by
          have := hall i (List.getElem?_eq_some_iff.1 ho).1
          rw [hn] at this; cases this))
        refine ⟨?_, by rw [hab]; exact hC⟩
        refine List.eq_nil_iff_forall_not_mem.2 fun i hi => ?_
        obtain ⟨o, ho, hff, _⟩ := (ready_mem hS.len).1 hi
        rw [hall i (List.getElem?_eq_some_iff.1 ho).1] at hff; cases hff
      | succ fuel =>
        constructor
        · intro hnil
          obtain ⟨i, hi⟩ := ready_some hok hS.len (by omega : falses listed ≠ 0)
          rw [hnil] at hi; cases hi
        · intro i hi
          obtain ⟨o, ho, hff, hpr⟩ := (ready_mem hS.len).1 hi
          have hil : i < listed.size := (Array.getElem?_eq_some_iff.1 hff).1
          have hilst : i < lst.size := by rw [hS.len', ← hS.len]; exact hil
          have hfs := falses_set hff
          have hfuel : falses (listed.setIfInBounds i true) = fuel := by omega
          refine wpOp_of_list (o := o) (by simpa using ho) ?_
          cases hoS : isS o with
          | true =>
            obtain ⟨d, hd⟩ := isS_dst hoS
            have hdat := (okC.at hok ho).2.2 d hd
            have hin : lst[i]? = some true := Classical.byContradiction fun hno => by
              have hmem : i ∈ Region.ready .any l.toArray lst := (ready_mem hS.len').2 ⟨o, ho, bool_at hilst hno, fun j hj => hS.sub j (hpr j hj)⟩
              have := List.find?_eq_none.1 hf i hmem
              rw [ho] at this
              exact this hoS
            have hpt := (hS.only i o ho hin hff).2
            have hpa := Pt.congr (b' := a) hq (okC.at hok ho).2.1 hd (by rw [hS.sizeB]; exact hdat.1) hS.defers (by rw [hS.sizeA, hS.sizeB]) (fun t ht => hS.reads hok ho hpr ht) hpt
            refine hpa _ ?_
            rw [← hfuel]
            refine ih _ (by omega) (listed.setIfInBounds i true) lst _ b w ⟨by simp [hS.len], hS.len', fun j hj => ?_, fun j p hp hj hjn => ?_, hS.closed.set hil ho hpr, hS.closed', by rw [put_tmps_size]; exact hS.sizeA, hS.sizeB, by rw [put_defers]; exact hS.defers, fun t ht => ?_⟩ rfl hC
            · rw [set_true hil] at hj
              rcases hj with e | hj
              · subst e; exact hin
              · exact hS.sub j hj
            · rw [set_false hil] at hjn; exact hS.only j p hp hj hjn.2
            · by_cases e : d = t
              · subst e
                rw [hd]
                simp only [Option.getD_some]
                exact get_put_eq a _ (by rw [hS.sizeA]; exact hdat.1)
              · rw [get_put_ne a _ (by rw [hd]; intro ee; cases ee; exact e rfl)]
                refine hS.same t fun j p hp hj hjn hdp => ?_
                by_cases ej : j = i
                · subst ej; rw [ho] at hp; cases hp; rw [hd] at hdp; cases hdp; exact e rfl
                · exact ht j p hp hj (by rw [set_false hil]; exact ⟨ej, hjn⟩) hdp
          | false =>
            have hnin : lst[i]? = some false := bool_at hilst fun h => by have := (hS.only i o ho h hff).1; rw [hoS] at this; cases this
            have hrd : i ∈ Region.ready .any l.toArray lst := (ready_mem hS.len').2 ⟨o, ho, hnin, fun j hj => hS.sub j (hpr j hj)⟩
            have hfs' := falses_set hnin
            have hstep : wpList P l.toArray (onNormal (fun a' w' => (∀ j ∈ loose l (lst.setIfInBounds i true), ∀ p, l[j]? = some p → Pt P l Q p a' w' (a'.tmps.getD (p.dst.getD 0) undef)) ∧ wpC P l Q (falses (lst.setIfInBounds i true)) (lst.setIfInBounds i true) a' w') Q) [o] b w := by
              rw [← hfs'] at hC
              unfold wpC at hC
              rw [hf] at hC
              exact hC i hrd o ho
            refine step_congr hq (okC.at hok ho).2.1 hS.defers (by rw [hS.sizeA, hS.sizeB]) (fun t ht => hS.reads hok ho hpr ht) hstep ?_
            rintro D v w' ⟨hlo, hC'⟩
            rw [← hfuel]
            refine ih _ (by omega) (listed.setIfInBounds i true) (lst.setIfInBounds i true) _ _ w' ⟨by simp [hS.len], by simp [hS.len'], fun j hj => ?_, fun j p hp hj hjn => ?_, hS.closed.set hil ho hpr, hS.closed'.set hilst ho (fun j hj => hS.sub j (hpr j hj)), by rw [put_tmps_size]; exact hS.sizeA, by rw [put_tmps_size]; exact hS.sizeB, by rw [put_defers, put_defers], fun t ht => ?_⟩ rfl hC'
            · rw [set_true hil] at hj
              rw [set_true hilst]
              exact hj.imp id (hS.sub j)
            · rw [set_false hil] at hjn
              rw [set_true hilst] at hj
              have hj' := hj.resolve_left hjn.1
              obtain ⟨h1, _⟩ := hS.only j p hp hj' hjn.2
              refine ⟨h1, hlo j ?_ p hp⟩
              unfold loose
              rw [List.mem_filter]
              refine ⟨by simpa using (List.getElem?_eq_some_iff.1 hp).1, ?_⟩
              have hjt : (lst.setIfInBounds i true)[j]? = some true := by rw [set_true hilst]; exact .inr hj'
              simp only [Array.getD_eq_getD_getElem?, hjt, Option.getD_some, hp, h1, Bool.true_and, Bool.not_eq_true']
              cases hsure : sure l (lst.setIfInBounds i true) j with
              | false => rfl
              | true =>
                exfalso
                unfold sure at hsure
                obtain ⟨k, hk, hks⟩ := List.any_eq_true.1 hsure
                simp only [Bool.and_eq_true] at hks
                obtain ⟨⟨hk1, hk2⟩, hk3⟩ := hks
                have hkt : (lst.setIfInBounds i true)[k]? = some true := by
                  cases hv : (lst.setIfInBounds i true)[k]? with
                  | none => simp [Array.getD_eq_getD_getElem?, hv] at hk1
                  | some c => simp [Array.getD_eq_getD_getElem?, hv] at hk1; rw [hk1]
                cases hlk : l[k]? with
                | none => rw [hlk] at hk2; cases hk2
                | some ok =>
                  rw [hlk] at hk2
                  have hkE : isS ok = false := by simpa using hk2
                  have hkl : (listed.setIfInBounds i true)[k]? = some true := by
                    rw [set_true hilst] at hkt
                    rw [set_true hil]
                    rcases hkt with e | hkt
                    · exact .inl e
                    · right
                      exact Classical.byContradiction fun hno => by
                        have hks : k < listed.size := by rw [hS.len]; exact (List.getElem?_eq_some_iff.1 hlk).1
                        have := (hS.only k ok hlk hkt (bool_at hks hno)).1
                        rw [hkE] at this; cases this
                  have hanc := (hS.closed.set hil ho hpr).ofAncs l.length k hkl j (List.contains_iff_mem.1 hk3)
                  rw [set_true hil] at hanc
                  rcases hanc with e | hanc
                  · exact hjn.1 e
                  · rw [hjn.2] at hanc; cases hanc
            · have hbase : ∀ x : Act, ({ x with defers := D } : Act).tmps = x.tmps := fun _ => rfl
              by_cases e : o.dst = some t
              · rw [e]
                have htN := ((okC.at hok ho).2.2 t e).1
                rw [get_put_eq _ _ (by rw [hbase, hS.sizeA]; exact htN), get_put_eq _ _ (by rw [hbase, hS.sizeB]; exact htN)]
              · rw [get_put_ne _ _ e, get_put_ne _ _ e]
                refine hS.same t fun j p hp hj hjn hdp => ?_
                by_cases ej : j = i
                · subst ej; rw [hnin] at hj; cases hj
                · exact ht j p hp (by rw [set_true hilst]; exact .inr hj) (by rw [set_false hil]; exact ⟨ej, hjn⟩) hdp
end
section
variable {P : Program} {N : Nat} {ds : List Deferred} {Q : Exit → Act → World → Prop}
theorem PanicOk.body {fn : Func} {R : Ending → World → Prop} : PanicOk (bodyPost P fn R) := fun _ _ _ _ hd h => ⟨hd.trans h.1, h.2⟩
theorem PanicOk.then {K : Act → World → Prop} (h : PanicOk Q) : PanicOk (Exit.then K Q) := fun c a b w hd hh => h c a b w hd hh
theorem PanicOk.block {id : Nat} (h : PanicOk Q) : PanicOk (Exit.inBlock id Q) := fun c a b w hd hh => h c a b w hd hh
theorem PanicOk.norm {K : Act → World → Prop} (h : PanicOk Q) : PanicOk (onNormal K Q) := fun c a b w hd hh => h c a b w hd hh
def Sees (P : Program) (N : Nat) (ds : List Deferred) (l : List Oper) (Q : Exit → Act → World → Prop) (o : Oper) (L : List (Nat × Value)) (v : Value) (w : World) : Prop :=
  ∀ Lx : List (Nat × Value), At N ds (L ++ Lx) (wpList P l.toArray (onNormal (fun a' w' => Is N ds (dcons o.dst v (L ++ Lx)) a' ∧ w = w') Q) [o]) w
theorem wpList_mono {l : List Oper} {o : Oper} {a : Act} {w : World} {K K' : Act → World → Prop} (h : wpList P l.toArray (onNormal K Q) [o] a w) (hk : ∀ a w, K a w → K' a w) : wpList P l.toArray (onNormal K' Q) [o] a w := by
  unfold wpList at h ⊢
  have hq : ∀ e a w, onNormal K Q e a w → onNormal K' Q e a w := fun e a w he => by cases e <;> first | exact hk _ _ he | exact he
  by_cases hw : Region.wanted o (yielded l.toArray a.tmps) = true
  · rw [if_pos hw] at h ⊢
    rcases h with h | ⟨h1, a0, w0, h2⟩
    · left
      unfold Oper.wp at *
      generalize (execOp a.eval o).run P w = r at *
      cases r with
      | ok n w' =>
        cases n <;> simp only [Oper.upon] at h ⊢ <;>
          first
            | exact hk _ _ h
            | exact Calls.mono h (fun e w'' he => by cases e <;> first | exact hk _ _ he | exact he | (obtain ⟨a0, w0, h0⟩ := he; exact ⟨a0, w0, h0⟩))
            | exact Rows.mono h (fun _ _ he => hk _ _ he)
            | exact h
      | halt x w' => cases x <;> simp only [Oper.upon] at h ⊢ <;> exact h
    · exact .inr ⟨h1, a0, w0, h2⟩
  · rw [if_neg hw] at h ⊢
    exact hk _ _ h
theorem Sees.pt {l : List Oper} {o : Oper} {L : List (Nat × Value)} {v : Value} {w : World} {a : Act} {d : Nat} (hd : o.dst = some d) (h : Sees P N ds l Q o L v w) (hN : d < N) (ha : Is N ds L a) : Pt P l Q o a w v := by
  intro K hK
  have his : Is N ds (L ++ whole a) a := ⟨ha.size, ha.defers, fun t u hu => by
    rw [look_append] at hu
    split at hu
    · rename_i x hx; cases hu; exact ha.get t _ hx
    · exact (is_whole a).get t u hu⟩
  refine wpList_mono (h (whole a) a his) ?_
  rintro a' w' ⟨h1, rfl⟩
  have : a' = a.put o.dst v := by
    refine act_ext (by rw [put_tmps_size, h1.size, ha.size]) (by rw [put_defers, h1.defers, ha.defers]) fun t ht => ?_
    rw [h1.size] at ht
    rw [hd] at h1 ⊢
    by_cases e : d = t
    · subst e
      rw [get_put_eq _ _ (by rw [ha.size]; exact ht)]
      exact h1.get _ v (by simp [dcons, look, Nat.beq_refl])
    · rw [get_put_ne _ _ (by intro q; cases q; exact e rfl)]
      refine h1.get t _ ?_
      simp only [dcons, look]
      rw [beqF e]
      simp only [cond_false]
      rw [look_append]
      split
      · rename_i x hx; rw [ha.get t _ hx]
      · exact look_whole a (by rw [ha.size]; exact ht)
  rw [this]
  exact hK
theorem At.wpcZ {l : List Oper} {lst : Array Bool} {L : List (Nat × Value)} {w : World} (h : At N ds L (Q .normal) w) : At N ds L (wpC P l Q 0 lst) w := h
theorem At.wpcS {l : List Oper} {lst : Array Bool} {f : Nat} {L : List (Nat × Value)} {w : World} {i : Nat} {o : Oper} {d : Nat} (v : Value) (hf : firstS l lst = some i) (ho : l[i]? = some o) (hd : o.dst = some d) (hN : Nat.blt d N = true)
    (hs : Sees P N ds l Q o L v w) (k : At N ds ((d, v) :: L) (wpC P l Q f (lst.setIfInBounds i true)) w) : At N ds L (wpC P l Q (f + 1) lst) w := by
  intro a ha
  unfold wpC
  rw [hf]
  intro o' ho'
  rw [ho] at ho'; cases ho'
  have hN' : d < N := by simpa [Nat.blt_eq] using hN
  refine ⟨v, hs.pt hd hN' ha, ?_⟩
  rw [hd]
  exact k _ (ha.put hN)
inductive Checks (P : Program) (N : Nat) (ds : List Deferred) (l : List Oper) (Q : Exit → Act → World → Prop) (L : List (Nat × Value)) (w : World) : List Nat → Prop
  | nil : Checks P N ds l Q L w []
  | cons {j : Nat} {r : List Nat} {o : Oper} {d : Nat} {v : Value} : l[j]? = some o → o.dst = some d → Nat.blt d N = true → look L d = some v → Sees P N ds l Q o L v w → Checks P N ds l Q L w r → Checks P N ds l Q L w (j :: r)
theorem Checks.get {l : List Oper} {L : List (Nat × Value)} {w : World} {js : List Nat} (h : Checks P N ds l Q L w js) {a : Act} (ha : Is N ds L a) : ∀ j ∈ js, ∀ p, l[j]? = some p → Pt P l Q p a w (a.tmps.getD (p.dst.getD 0) undef) := by
  induction h with
  | nil => intro j hj; cases hj
  | cons ho hd hN hl hs hr ih =>
    intro j hj p hp
    rcases List.mem_cons.1 hj with e | hj
    · subst e
      rw [ho] at hp; cases hp
      rw [hd]
      simp only [Option.getD_some]
      rw [ha.get _ _ hl]
      exact hs.pt hd (by simpa [Nat.blt_eq] using hN) ha
    · exact ih j hj p hp
def AfterC (P : Program) (l : List Oper) (Q : Exit → Act → World → Prop) (f : Nat) (lst : Array Bool) (js : List Nat) : Act → World → Prop :=
  fun a' w' => (∀ j ∈ js, ∀ p, l[j]? = some p → Pt P l Q p a' w' (a'.tmps.getD (p.dst.getD 0) undef)) ∧ wpC P l Q f lst a' w'
inductive Each (P : Program) (N : Nat) (ds : List Deferred) (l : List Oper) (Q : Exit → Act → World → Prop) (f : Nat) (lst : Array Bool) (L : List (Nat × Value)) (w : World) : List Nat → Prop
  | nil : Each P N ds l Q f lst L w []
  | cons {i : Nat} {r : List Nat} {o : Oper} (js : List Nat) : l[i]? = some o → loose l (lst.setIfInBounds i true) = js →
      At N ds L (wpList P l.toArray (onNormal (AfterC P l Q f (lst.setIfInBounds i true) js) Q) [o]) w → Each P N ds l Q f lst L w r → Each P N ds l Q f lst L w (i :: r)
theorem At.wpcE {l : List Oper} {lst : Array Bool} {f : Nat} {L : List (Nat × Value)} {w : World} (is : List Nat) (hf : firstS l lst = none) (hr : Region.ready .any l.toArray lst = is) (h : Each P N ds l Q f lst L w is) : At N ds L (wpC P l Q (f + 1) lst) w := by
  intro a ha
  unfold wpC
  rw [hf]
  simp only
  rw [hr]
  clear hr
  induction h with
  | nil => intro i hi; cases hi
  | cons js ho hl hat _ ih =>
    intro i hi o' ho'
    rcases List.mem_cons.1 hi with e | hi
    · subst e
      rw [ho] at ho'; cases ho'
      have := hat a ha
      unfold AfterC at this
      rw [← hl] at this
      exact this
    · exact ih i hi o' ho'
theorem At.wpcN {l : List Oper} {lst : Array Bool} {f : Nat} {js : List Nat} {L : List (Nat × Value)} {w : World} (hc : Checks P N ds l Q L w js) (k : At N ds L (wpC P l Q f lst) w) : At N ds L (onNormal (AfterC P l Q f lst js) Q .normal) w :=
  fun a ha => ⟨hc.get ha, k a ha⟩
theorem At.drawG {id : Nat} {l : List Oper} {L : List (Nat × Value)} {w : World} {n : Nat} (hm : P.follows .mixedOrders = true) (hok : okC N l = true) (hn : l.length = n) (hq : PanicOk Q) (h : At N ds L (wpC P l Q n (Array.replicate n false)) w.drew) :
    At N ds L ((Code.region id l.toArray true).wp P Q) w := by
  intro a ha
  subst hn
  refine wp_region_any hm ?_
  have hfl : falses (Array.replicate l.length false) = l.length := by simp [falses]
  have := sim_sound hok hq (P := P) _ (Array.replicate l.length false) (Array.replicate l.length false) a a w.drew ⟨by simp, by simp, fun _ h => h, (fun i o ho h1 h2 => by rw [h1] at h2; cases h2),
    (fun i o _ hi => by simp [Array.getElem?_replicate] at hi), (fun i o _ hi => by simp [Array.getElem?_replicate] at hi), ha.size, ha.size, rfl, fun _ _ => rfl⟩ rfl (by rw [hfl]; exact h a ha)
  rw [hfl] at this
  simpa using this
theorem At.joinG {L : List (Nat × Value)} {w : World} {c : Code} {ι : Type} (L' : ι → List (Nat × Value)) (S : ι → World → Prop) (h : At N ds L (c.wp P (onNormal (fun a w => ∃ i, Is N ds (L' i) a ∧ S i w) Q)) w)
    (k : ∀ i w', S i w' → At N ds (L' i) (Q .normal) w') : At N ds L (c.wp P Q) w := fun a ha =>
  Code.wp_mono (fun e a w he => by cases e <;> first | (obtain ⟨i, h1, h2⟩ := he; exact k i w h2 a h1) | exact he) (h a ha)
theorem At.joinedG {ι : Type} {L : List (Nat × Value)} {L' : ι → List (Nat × Value)} {w : World} {S : ι → World → Prop} (i : ι) (hs : Sub L (L' i)) (h : S i w) : At N ds L (onNormal (fun a w => ∃ i, Is N ds (L' i) a ∧ S i w) Q .normal) w :=
  fun _ ha => ⟨i, ha.sub hs, h⟩
theorem Below.drewB {B : Nat} {w0 w : World} (h : Below B w0 w) : Below B w0 w.drew := ⟨h.os, h.tape, h.output, h.size, h.block⟩
theorem Own.drew {w : World} {e : TypeId} {sz n : Nat} {v : Value} {xs : List Value} (h : Own w e sz v n xs) : Own w.drew e sz v n xs := h.keep fun _ _ => rfl
end
theorem Below.old {w w' : World} (h : Below w.heap.size w w') {k : Nat} {x : Obj} (hk : w.heap[k]? = some x) : w'.heap[k]? = some x := by
  have : k < w.heap.size := (Array.getElem?_eq_some_iff.1 hk).1
  rw [h.block k this]; exact hk
theorem Below.andThen {w0 w w' : World} (h : Below w0.heap.size w0 w) (k : Below w.heap.size w w') : Below w0.heap.size w0 w' := h.trans (k.mono h.size)
theorem Fresh.below' {w w' w0 : World} {b : Nat} {o : Obj} (h : Fresh w w' b o) (hB : Below w0.heap.size w0 w) : Below w0.heap.size w0 w' := h.below hB hB.size
theorem Fresh.ge {w w' w0 : World} {b : Nat} {o : Obj} (h : Fresh w w' b o) (hB : Below w0.heap.size w0 w) : w0.heap.size ≤ b := by have := hB.size; have := h.eq; omega
theorem SetB.below' {w w' w0 : World} {b : Nat} {o : Obj} (h : SetB w w' b o) (hB : Below w0.heap.size w0 w) (hb : w0.heap.size ≤ b) : Below w0.heap.size w0 w' := h.below hB hB.size hb
theorem cell_lt {w : World} {a : Addr} {v : Value} (h : w.cell? a = some v) : a.block < w.heap.size := block_lt_of_cell h
theorem CellsAt.keep {w w' : World} {b o : Nat} {cs : Array Value} (h : CellsAt w b o cs) (hB : Below w.heap.size w w') : CellsAt w' b o cs := fun j v hv => by
  have := h j v hv
  rw [hB.cell (cell_lt this)]; exact this
theorem cell_keep {w w' : World} {a : Addr} {v : Value} (h : w.cell? a = some v) (hB : Below w.heap.size w w') : w'.cell? a = some v := by
  rw [hB.cell (cell_lt h)]; exact h
structure RowsAt (w : World) (v : Value) (sz : Nat) (rows : List (Array Value)) : Prop where
  ok : SlOk v rows.length
  size : ∀ (i : Nat) (cs : Array Value), rows[i]? = some cs → cs.size = sz
  at_ : ∀ (i : Nat) (cs : Array Value), rows[i]? = some cs → CellsAt w (vBlock v) (vOff v + i * sz) cs
  len : rows.length ≤ 9223372036854775807
theorem RowsAt.keep {w w' : World} {v : Value} {sz : Nat} {rows : List (Array Value)} (h : RowsAt w v sz rows) (hB : Below w.heap.size w w') : RowsAt w' v sz rows :=
  ⟨h.ok, h.size, fun i cs hi => (h.at_ i cs hi).keep hB, h.len⟩
theorem RowsAt.nil (w : World) (sz : Nat) : RowsAt w (.slice none 0 0) sz [] := ⟨.inl ⟨rfl, rfl⟩, fun i cs h => by simp at h, fun i cs h => by simp at h, by simp⟩
def StrsAt (w : World) (v : Value) (ss : List ByteArray) : Prop := RowsAt w v 1 (ss.map fun s => #[.string s])
theorem StrsAt.keep {w w' : World} {v : Value} {ss : List ByteArray} (h : StrsAt w v ss) (hB : Below w.heap.size w w') : StrsAt w' v ss := RowsAt.keep h hB
theorem StrsAt.ok {w : World} {v : Value} {ss : List ByteArray} (h : StrsAt w v ss) : SlOk v ss.length := by have := RowsAt.ok h; simpa using this
theorem StrsAt.get {w : World} {v : Value} {ss : List ByteArray} (h : StrsAt w v ss) {i : Nat} {s : ByteArray} (hi : ss[i]? = some s) : w.cell? ⟨vBlock v, vOff v + i * 1, none⟩ = some (.string s) := by
  have := RowsAt.at_ h i #[.string s] (by simp [hi]) 0 (.string s) rfl
  simpa using this
theorem StrsAt.len {w : World} {v : Value} {ss : List ByteArray} (h : StrsAt w v ss) : ss.length ≤ 9223372036854775807 := by have := RowsAt.len h; simpa using this
theorem StrsAt.nil (w : World) : StrsAt w (.slice none 0 0) [] := RowsAt.nil w 1
theorem RowsAt.row {α : Type} {w : World} {v : Value} {sz : Nat} {l : List α} {f : α → Array Value} (h : RowsAt w v sz (l.map f)) {i : Nat} {x : α} (hi : l[i]? = some x) : CellsAt w (vBlock v) (vOff v + i * sz) (f x) :=
  h.at_ i (f x) (by simp [hi])
theorem RowsAt.okL {α : Type} {w : World} {v : Value} {sz : Nat} {l : List α} {f : α → Array Value} (h : RowsAt w v sz (l.map f)) : SlOk v l.length := by have := h.ok; simpa using this
theorem RowsAt.lenL {α : Type} {w : World} {v : Value} {sz : Nat} {l : List α} {f : α → Array Value} (h : RowsAt w v sz (l.map f)) : l.length ≤ 9223372036854775807 := by have := h.len; simpa using this
theorem CellsAt.get {w : World} {b o : Nat} {cs : Array Value} (h : CellsAt w b o cs) {j : Nat} {v : Value} (hv : cs[j]? = some v) : w.cell? ⟨b, o + j, none⟩ = some v := h j v hv
theorem CellsAt.part {w : World} {b o n : Nat} {C cs : Array Value} (h : CellsAt w b o C) (k : Nat) (e : C.extract k (k + n) = cs) : CellsAt w b (o + k) cs := e ▸ h.sub k n
theorem Ld.ownPart {P : Program} {w : World} {t : TypeId} {b o n : Nat} {C cs : Array Value} {T : TypeId} {fr : Nat × Nat} (ha : aggB P t = some true) (hs : sizeB P t = some cs.size) (h : w.heap[b]? = some (.cells C T fr)) (e : C.extract o (o + n) = cs) :
    Ld P w t b o (.agg cs) := by
  have := (CellsAt.own h).part o e
  rw [Nat.zero_add] at this
  exact .row ha hs this
theorem some_of_lt {α : Type} {l : List α} {i : Nat} (h : i < l.length) : ∃ x, l[i]? = some x := ⟨l[i], List.getElem?_eq_getElem h⟩
structure Ty where
  cs : Array Value
  k : Int
  nm : ByteArray
  var : Int
  av : Value
  args : Nat
  lv : Value
  labels : Nat
  rvar : Int
structure TyOk (t : Ty) : Prop where
  size : t.cs.size = 6
  one : t.cs.all (·.oneCell') = true
  c0 : t.cs[0]? = some (.int .i64 t.k)
  c1 : t.cs[1]? = some (.string t.nm)
  c2 : t.cs[2]? = some (.int .i64 t.var)
  c3 : t.cs[3]? = some t.av
  c4 : t.cs[4]? = some t.lv
  c5 : t.cs[5]? = some (.int .i64 t.rvar)
  argsOk : SlOk t.av t.args
  labelsOk : SlOk t.lv t.labels
structure Op where
  cs : Array Value
  nm : ByteArray
  arg : Ty
  res : Ty
structure OpOk (o : Op) : Prop where
  size : o.cs.size = 13
  one : o.cs.all (·.oneCell') = true
  c0 : o.cs[0]? = some (.string o.nm)
  argCs : o.cs.extract 1 (1 + 6) = o.arg.cs
  resCs : o.cs.extract 7 (7 + 6) = o.res.cs
  argOk : TyOk o.arg
  resOk : TyOk o.res
structure Eff where
  cs : Array Value
  nm : ByteArray
  ov : Value
  ops : List Op
structure EffOk (w : World) (e : Eff) : Prop where
  size : e.cs.size = 2
  one : e.cs.all (·.oneCell') = true
  c0 : e.cs[0]? = some (.string e.nm)
  c1 : e.cs[1]? = some e.ov
  opsAt : RowsAt w e.ov 13 (e.ops.map Op.cs)
  opOk : ∀ o ∈ e.ops, OpOk o
structure Cn where
  cs : Array Value
  nm : ByteArray
  fv : Value
  fields : List Ty
structure CnOk (w : World) (c : Cn) : Prop where
  size : c.cs.size = 2
  one : c.cs.all (·.oneCell') = true
  c0 : c.cs[0]? = some (.string c.nm)
  c1 : c.cs[1]? = some c.fv
  fieldsAt : RowsAt w c.fv 6 (c.fields.map Ty.cs)
  fieldOk : ∀ t ∈ c.fields, TyOk t
structure Dat where
  cs : Array Value
  nm : ByteArray
  cv : Value
  cons : List Cn
structure DatOk (w : World) (d : Dat) : Prop where
  size : d.cs.size = 2
  one : d.cs.all (·.oneCell') = true
  c0 : d.cs[0]? = some (.string d.nm)
  c1 : d.cs[1]? = some d.cv
  consAt : RowsAt w d.cv 2 (d.cons.map Cn.cs)
  conOk : ∀ c ∈ d.cons, CnOk w c
mutual
inductive Tm where
  | mk (cs : Array Value) (k at_ : Int) (nm pm : ByteArray) (n : Int) (kv av : Value) (kids : List Tm) (arms : List Am)
inductive Am where
  | mk (cs : Array Value) (nm : ByteArray) (vv : Value) (vars : List ByteArray) (body : Tm)
end
namespace Tm
def cs : Tm → Array Value | .mk cs .. => cs
def k : Tm → Int | .mk _ k .. => k
def at_ : Tm → Int | .mk _ _ a .. => a
def nm : Tm → ByteArray | .mk _ _ _ s .. => s
def pm : Tm → ByteArray | .mk _ _ _ _ s .. => s
def n : Tm → Int | .mk _ _ _ _ _ n .. => n
def kv : Tm → Value | .mk _ _ _ _ _ _ v .. => v
def av : Tm → Value | .mk _ _ _ _ _ _ _ v .. => v
def kids : Tm → List Tm | .mk _ _ _ _ _ _ _ _ l _ => l
def arms : Tm → List Am | .mk _ _ _ _ _ _ _ _ _ l => l
end Tm
namespace Am
def cs : Am → Array Value | .mk cs .. => cs
def nm : Am → ByteArray | .mk _ s .. => s
def vv : Am → Value | .mk _ _ v .. => v
def vars : Am → List ByteArray | .mk _ _ _ l _ => l
def body : Am → Tm | .mk _ _ _ _ t => t
end Am
structure TmC (w : World) (t : Tm) : Prop where
  size : t.cs.size = 21
  one : t.cs.all (·.oneCell') = true
  c0 : t.cs[0]? = some (.int .i64 t.k)
  c1 : t.cs[1]? = some (.int .i64 t.at_)
  c2 : t.cs[2]? = some (.string t.nm)
  c3 : t.cs[3]? = some (.string t.pm)
  c4 : t.cs[4]? = some (.int .i64 t.n)
  c5 : t.cs[5]? = some t.kv
  c6 : t.cs[6]? = some t.av
  kidsAt : RowsAt w t.kv 21 (t.kids.map Tm.cs)
  armsAt : RowsAt w t.av 23 (t.arms.map Am.cs)
structure AmC (w : World) (a : Am) : Prop where
  size : a.cs.size = 23
  one : a.cs.all (·.oneCell') = true
  c0 : a.cs[0]? = some (.string a.nm)
  c1 : a.cs[1]? = some a.vv
  varsAt : StrsAt w a.vv a.vars
  bodyCs : a.cs.extract 2 (2 + 21) = a.body.cs
mutual
inductive TmOk (w : World) : Tm → Prop
  | mk {t : Tm} (c : TmC w t) (kids : ∀ u ∈ t.kids, TmOk w u) (arms : ∀ a ∈ t.arms, AmOk w a) : TmOk w t
inductive AmOk (w : World) : Am → Prop
  | mk {a : Am} (c : AmC w a) (body : TmOk w a.body) : AmOk w a
end
section
variable {w w' : World} {t : Tm} {a : Am}
theorem TmOk.c (h : TmOk w t) : TmC w t := by cases h; assumption
theorem TmOk.kids (h : TmOk w t) : ∀ u ∈ t.kids, TmOk w u := by cases h; assumption
theorem TmOk.arms (h : TmOk w t) : ∀ u ∈ t.arms, AmOk w u := by cases h; assumption
theorem AmOk.c (h : AmOk w a) : AmC w a := by cases h; assumption
theorem AmOk.body (h : AmOk w a) : TmOk w a.body := by cases h; assumption
theorem TmOk.size (h : TmOk w t) : t.cs.size = 21 := h.c.size
theorem TmOk.one (h : TmOk w t) : t.cs.all (·.oneCell') = true := h.c.one
theorem TmOk.c0 (h : TmOk w t) : t.cs[0]? = some (.int .i64 t.k) := h.c.c0
theorem TmOk.c1 (h : TmOk w t) : t.cs[1]? = some (.int .i64 t.at_) := h.c.c1
theorem TmOk.c2 (h : TmOk w t) : t.cs[2]? = some (.string t.nm) := h.c.c2
theorem TmOk.c3 (h : TmOk w t) : t.cs[3]? = some (.string t.pm) := h.c.c3
theorem TmOk.c4 (h : TmOk w t) : t.cs[4]? = some (.int .i64 t.n) := h.c.c4
theorem TmOk.c5 (h : TmOk w t) : t.cs[5]? = some t.kv := h.c.c5
theorem TmOk.c6 (h : TmOk w t) : t.cs[6]? = some t.av := h.c.c6
theorem TmOk.kidsAt (h : TmOk w t) : RowsAt w t.kv 21 (t.kids.map Tm.cs) := h.c.kidsAt
theorem TmOk.armsAt (h : TmOk w t) : RowsAt w t.av 23 (t.arms.map Am.cs) := h.c.armsAt
theorem TmOk.kid (h : TmOk w t) {i : Nat} {u : Tm} (hu : t.kids[i]? = some u) : TmOk w u := h.kids u (List.mem_of_getElem? hu)
theorem TmOk.arm (h : TmOk w t) {i : Nat} {u : Am} (hu : t.arms[i]? = some u) : AmOk w u := h.arms u (List.mem_of_getElem? hu)
theorem AmOk.size (h : AmOk w a) : a.cs.size = 23 := h.c.size
theorem AmOk.one (h : AmOk w a) : a.cs.all (·.oneCell') = true := h.c.one
theorem AmOk.c0 (h : AmOk w a) : a.cs[0]? = some (.string a.nm) := h.c.c0
theorem AmOk.c1 (h : AmOk w a) : a.cs[1]? = some a.vv := h.c.c1
theorem AmOk.varsAt (h : AmOk w a) : StrsAt w a.vv a.vars := h.c.varsAt
theorem AmOk.bodyCs (h : AmOk w a) : a.cs.extract 2 (2 + 21) = a.body.cs := h.c.bodyCs
theorem EffOk.op {e : Eff} (h : EffOk w e) {i : Nat} {o : Op} (ho : e.ops[i]? = some o) : OpOk o := h.opOk o (List.mem_of_getElem? ho)
theorem CnOk.field {c : Cn} (h : CnOk w c) {i : Nat} {o : Ty} (ho : c.fields[i]? = some o) : TyOk o := h.fieldOk o (List.mem_of_getElem? ho)
theorem TmC.keep (h : TmC w t) (hB : Below w.heap.size w w') : TmC w' t := { h with kidsAt := h.kidsAt.keep hB, armsAt := h.armsAt.keep hB }
theorem AmC.keep (h : AmC w a) (hB : Below w.heap.size w w') : AmC w' a := { h with varsAt := StrsAt.keep h.varsAt hB }
mutual
theorem TmOk.keep' (hB : Below w.heap.size w w') : ∀ (t : Tm), TmOk w t → TmOk w' t
  | .mk cs k at_ nm pm n kv av kids arms, h => .mk (h.c.keep hB) (TmOk.keepL hB kids h.kids) (AmOk.keepL hB arms h.arms)
theorem AmOk.keep' (hB : Below w.heap.size w w') : ∀ (a : Am), AmOk w a → AmOk w' a
  | .mk cs nm vv vars body, h => .mk (h.c.keep hB) (TmOk.keep' hB body h.body)
theorem TmOk.keepL (hB : Below w.heap.size w w') : ∀ (l : List Tm), (∀ u ∈ l, TmOk w u) → ∀ u ∈ l, TmOk w' u
  | [], _, _, hu => by cases hu
  | t :: l, h, u, hu => by
    rcases List.mem_cons.1 hu with e | e
    · rw [e]; exact TmOk.keep' hB t (h t (by simp))
    · exact TmOk.keepL hB l (fun u hu => h u (List.mem_cons_of_mem _ hu)) u e
theorem AmOk.keepL (hB : Below w.heap.size w w') : ∀ (l : List Am), (∀ u ∈ l, AmOk w u) → ∀ u ∈ l, AmOk w' u
  | [], _, _, hu => by cases hu
  | t :: l, h, u, hu => by
    rcases List.mem_cons.1 hu with e | e
    · rw [e]; exact AmOk.keep' hB t (h t (by simp))
    · exact AmOk.keepL hB l (fun u hu => h u (List.mem_cons_of_mem _ hu)) u e
end
theorem TmOk.keep (h : TmOk w t) (hB : Below w.heap.size w w') : TmOk w' t := TmOk.keep' hB t h
theorem AmOk.keep (h : AmOk w a) (hB : Below w.heap.size w w') : AmOk w' a := AmOk.keep' hB a h
end
structure Pr where
  cs : Array Value
  ev : Value
  dv : Value
  effs : List Eff
  dats : List Dat
  body : Tm
structure PrOk (w : World) (p : Pr) : Prop where
  size : p.cs.size = 23
  one : p.cs.all (·.oneCell') = true
  c0 : p.cs[0]? = some p.ev
  c1 : p.cs[1]? = some p.dv
  effsAt : RowsAt w p.ev 2 (p.effs.map Eff.cs)
  datsAt : RowsAt w p.dv 2 (p.dats.map Dat.cs)
  effOk : ∀ e ∈ p.effs, EffOk w e
  datOk : ∀ d ∈ p.dats, DatOk w d
  bodyCs : p.cs.extract 2 (2 + 21) = p.body.cs
  bodyOk : TmOk w p.body
section
variable {w w' : World}
theorem EffOk.keep {e : Eff} (h : EffOk w e) (hB : Below w.heap.size w w') : EffOk w' e := { h with opsAt := h.opsAt.keep hB }
theorem CnOk.keep {c : Cn} (h : CnOk w c) (hB : Below w.heap.size w w') : CnOk w' c := { h with fieldsAt := h.fieldsAt.keep hB }
theorem DatOk.keep {d : Dat} (h : DatOk w d) (hB : Below w.heap.size w w') : DatOk w' d := { h with consAt := h.consAt.keep hB, conOk := fun c hc => (h.conOk c hc).keep hB }
theorem PrOk.keep {p : Pr} (h : PrOk w p) (hB : Below w.heap.size w w') : PrOk w' p :=
  { h with effsAt := h.effsAt.keep hB, datsAt := h.datsAt.keep hB, effOk := fun e he => (h.effOk e he).keep hB, datOk := fun d hd => (h.datOk d hd).keep hB, bodyOk := h.bodyOk.keep hB }
end
theorem SlOk.nil : SlOk (.slice none 0 0) 0 := .inl ⟨rfl, rfl⟩
theorem lt_of_some {α : Type} {l : List α} {i : Nat} {x : α} (h : l[i]? = some x) : i < l.length := (List.getElem?_eq_some_iff.1 h).1
theorem StrsAt.own {w : World} {b n c : Nat} {ss : List ByteArray} {T : TypeId} {fr : Nat × Nat} (h : w.heap[b]? = some (.cells (ss.map Value.string).toArray T fr)) (hn : n = ss.length) (hc : n ≤ c) (hm : n ≤ 9223372036854775807 := by decide) : StrsAt w (.slice (some ⟨b, 0, none⟩) n c) ss := by
  subst hn
  refine ⟨.inr ⟨⟨b, 0, none⟩, c, by simp, by simpa using hc, fun _ => rfl⟩, fun i cs hi => ?_, fun i cs hi => ?_, by simpa using hm⟩
  · simp only [List.getElem?_map, Option.map_eq_some_iff] at hi
    obtain ⟨s, _, rfl⟩ := hi; rfl
  · simp only [List.getElem?_map, Option.map_eq_some_iff] at hi
    obtain ⟨s, hs, rfl⟩ := hi
    intro j v hv
    have hj : j = 0 := by have : j < 1 := by have := (Array.getElem?_eq_some_iff.1 hv).1; simpa using this
                          omega
    subst hj
    simp at hv
    subst hv
    simp [World.cell?, h, vBlock, vOff, hs]
def memB (s : ByteArray) (ss : List ByteArray) : Bool := ss.any fun x => decide (x = s)
def idxI {α : Type} (p : α → Bool) (l : List α) : Int := match l.findIdx? p with | some i => (i : Int) | none => -1
theorem idxI_yes {α : Type} {p : α → Bool} {l : List α} {k : Nat} {u : α} (hu : l[k]? = some u) (h : p u = true) (hn : ∀ j x, j < k → l[j]? = some x → p x = false) : idxI p l = (k : Int) := by
  have : l.findIdx? p = some k := by
    rw [List.findIdx?_eq_some_iff_getElem]
    have hk := lt_of_some hu
    refine ⟨hk, ?_, fun j hj => ?_⟩
    · have := (List.getElem?_eq_some_iff.1 hu).2; rw [this]; exact h
    · have := hn j l[j] hj (List.getElem?_eq_getElem (by omega)); simpa using this
  simp [idxI, this]
theorem idxI_no {α : Type} {p : α → Bool} {l : List α} {k : Nat} (hk : l.length ≤ k) (hn : ∀ j x, j < k → l[j]? = some x → p x = false) : idxI p l = -1 := by
  have : l.findIdx? p = none := by
    rw [List.findIdx?_eq_none_iff]
    intro x hx
    obtain ⟨j, hj⟩ := List.getElem?_of_mem hx
    exact hn j x (by have := lt_of_some hj; omega) hj
  simp [idxI, this]
theorem next_no {α : Type} {p : α → Bool} {l : List α} {k : Nat} {u : α} (hn : ∀ j x, j < k → l[j]? = some x → p x = false) (hu : l[k]? = some u) (h : p u = false) : ∀ j x, j < k + 1 → l[j]? = some x → p x = false := by
  intro j x hj hx
  by_cases e : j = k
  · subst e; rw [hu] at hx; cases hx; exact h
  · exact hn j x (by omega) hx
theorem idxI_neg {α : Type} (p : α → Bool) (l : List α) : decide (idxI p l < 0) = !(l.any p) := by
  unfold idxI
  split
  · rename_i i h
    obtain ⟨h1, h2, _⟩ := List.findIdx?_eq_some_iff_getElem.1 h
    have : l.any p = true := List.any_eq_true.2 ⟨l[i], List.getElem_mem h1, h2⟩
    rw [this]; simp
  · rename_i h
    have : l.any p = false := by rw [List.findIdx?_eq_none_iff] at h; simpa using h
    rw [this]; simp
theorem idxI_geq {α : Type} (p : α → Bool) (l : List α) : decide (0 ≤ idxI p l) = l.any p := by
  have := idxI_neg p l
  by_cases h : idxI p l < 0
  · have h' : ¬ 0 ≤ idxI p l := by omega
    simp [h, h'] at this ⊢; exact this
  · have h' : 0 ≤ idxI p l := by omega
    simp [h, h'] at this ⊢; exact this
def emp : ByteArray := ⟨#[]⟩
section
variable {w : World} {p : Pr}
end
def OwnS (T : TypeId) (w : World) (v : Value) (ss : List ByteArray) : Prop := Own w T 1 v ss.length (ss.map Value.string)
section
variable {T : TypeId} {w w' : World} {v : Value} {ss : List ByteArray}
theorem OwnS.strs (h : OwnS T w v ss) : StrsAt w v ss := by
  refine ⟨by have := Own.slOk h; simpa using this, fun i cs hi => ?_, fun i cs hi => ?_, ?_⟩
  rotate_left 2
  · rcases h.2 with ⟨_, h0⟩ | ⟨_, cap, _, _, _, _, hnc, hcm, _⟩
    · simp [h0]
    · have : maxLen = 9223372036854775807 := rfl
      simp only [List.length_map]; omega
  · simp only [List.getElem?_map, Option.map_eq_some_iff] at hi
    obtain ⟨s, _, rfl⟩ := hi; rfl
  · simp only [List.getElem?_map, Option.map_eq_some_iff] at hi
    obtain ⟨s, hs, rfl⟩ := hi
    intro j x hx
    have hj : j = 0 := by have : j < 1 := by have := (Array.getElem?_eq_some_iff.1 hx).1; simpa using this
                          omega
    subst hj
    simp at hx
    subst hx
    have hlt := lt_of_some hs
    rcases h.2 with ⟨rfl, h0⟩ | ⟨g, cap, cur, rfl, _, hg, hnc, hcm, hcs, htake⟩
    · omega
    · simp only [Nat.mul_one] at htake hcs
      have : cur.toList[i]? = some (.string s) := by
        have h1 : (cur.toList.take ss.length)[i]? = some (Value.string s) := by rw [htake]; simp [hs]
        rwa [List.getElem?_take_of_lt hlt] at h1
      simp only [vBlock, vOff, Nat.zero_add, Nat.mul_one, Nat.add_zero]
      have h2 : cur[i]? = some (.string s) := by simpa using this
      simp [World.cell?, hg, h2]
theorem OwnS.nil (T : TypeId) (w : World) : OwnS T w (.slice none 0 0) [] := Own.nil w T 1
theorem OwnS.drew (h : OwnS T w v ss) : OwnS T w.drew v ss := Own.drew h
theorem OwnS.one (h : OwnS T w v ss) : v.oneCell' = true := Own.one h
theorem OwnS.fresh {b : Nat} {o : Obj} (h : OwnS T w v ss) (hF : Fresh w w' b o) : OwnS T w' v ss := Own.fresh h hF
theorem OwnS.below (h : OwnS T w v ss) (hB : Below w.heap.size w w') : OwnS T w' v ss := Own.below h hB
theorem OwnS.set {b : Nat} {o : Obj} (h : OwnS T w v ss) (hS : SetB w w' b o) (hne : some b ≠ v.ownBlock) : OwnS T w' v ss := Own.set h hS hne
theorem OwnS.neT (h : OwnS T w v ss) {k : Nat} {C : Array Value} {T' : TypeId} {fr : Nat × Nat} (hk : w.heap[k]? = some (.cells C T' fr)) (hT : Nat.beq T' T = false) : some k ≠ v.ownBlock := Own.neT h hk hT
theorem OwnS.made {b n : Nat} (h : w.heap[b]? = some (.cells (ss.map Value.string).toArray T)) (hn : n = ss.length) (hm : n ≤ maxLen) : OwnS T w (.slice (some ⟨b, 0, none⟩) n n) ss := by
  subst hn
  exact ⟨by simp, .inr ⟨b, _, _, rfl, Nat.zero_le _, h, Nat.le_refl _, hm, by simp, by rw [Nat.mul_one]; exact List.take_of_length_le (by simp)⟩⟩
end
theorem Src.strs {P : Program} {w : World} {t e : TypeId} {v : Value} {ss : List ByteArray} (he : elemB P t = some e) (h : StrsAt w v ss) : Src P 1 t v ss.length (ss.map Value.string) w := by
  rcases h.ok with ⟨rfl, h0⟩ | ⟨⟨b, o, sp⟩, cap, rfl, hc, hsp⟩
  · have : ss = [] := List.eq_nil_of_length_eq_zero h0
    subst this
    exact Src.ofNil w (underlying_elem he) 0
  · refine Src.ofSlice w (underlying_elem he) ⟨b, o, sp⟩ ss.length cap _ (by simp) (fun j u hu => ?_) (fun u hu => by obtain ⟨_, _, rfl⟩ := List.mem_map.1 hu; rfl)
    simp only [List.getElem?_map, Option.map_eq_some_iff] at hu
    obtain ⟨s, hs, rfl⟩ := hu
    obtain rfl : sp = none := hsp (by have := lt_of_some hs; omega)
    have := h.get hs
    rw [add_at]
    simpa [vBlock, vOff] using this
theorem At.appendS {P : Program} {N : Nat} {ds : List Deferred} {L : List (Nat × Value)} {w : World} {ops : Array Oper} {Q : Exit → Act → World → Prop} {rest : List Oper} {d : Nat} {ty : TypeId} {pos : String} {aft : Array Edge} {x y : Operand}
    {t tx T : TypeId} {v xv z : Value} {ss ss' : List ByteArray} (hx : ev L x = some v) (hy : ev L y = some xv) (ht : elemB P t = some T) (htx : elemB P tx = some T) (hs : sizeB P T = some 1) (hb : bytesB P T = some 16) (hz : zeroB P T = some z) (hzs : z.cells.size = 1)
    (hO : OwnS T w v ss) (hS : StrsAt w xv ss') (hl : ss.length + ss'.length ≤ 8796093022208) (hN : Nat.blt d N = true)
    (k : ∀ v' w', OwnS T w' v' (ss ++ ss') → AppR w w' v v' → At N ds ((d, v') :: L) (wpList P ops Q rest) w') :
    At N ds L (wpList P ops Q (⟨some d, .call ⟨.builtin .append, #[x, y], #[t, tx]⟩, ty, pos, aft, none⟩ :: rest)) w :=
  At.append hx hy ht hs hb hz hzs hO (Src.strs htx hS) (by unfold maxLen; omega) (by omega) hN (fun v' w' h1 h2 => k v' w' (by unfold OwnS; rw [List.length_append, List.map_append]; exact h1) h2)
structure Fr (S : Nat → Prop) (w w' : World) : Prop where
  os : w'.os = w.os
  tape : w'.tape = w.tape
  output : w'.output = w.output
  size : w.heap.size ≤ w'.heap.size
  old : ∀ k x, ¬ S k → w.heap[k]? = some x → w'.heap[k]? = some x
section
variable {S : Nat → Prop} {w0 w w' : World}
theorem Fr.refl (S : Nat → Prop) (w : World) : Fr S w w := ⟨rfl, rfl, rfl, Nat.le_refl _, fun _ _ _ h => h⟩
theorem Fr.freshF {b : Nat} {o : Obj} (h : Fr S w0 w) (hF : Fresh w w' b o) : Fr S w0 w' :=
  ⟨hF.grown.os.trans h.os, hF.grown.tape.trans h.tape, hF.grown.output.trans h.output, Nat.le_trans h.size hF.grown.size, fun k x hk hx => hF.old (h.old k x hk hx)⟩
theorem Fr.setF {b : Nat} {o : Obj} (h : Fr S w0 w) (hS : SetB w w' b o) (hb : S b ∨ w0.heap.size ≤ b) : Fr S w0 w' :=
  ⟨hS.grown.os.trans h.os, hS.grown.tape.trans h.tape, hS.grown.output.trans h.output, Nat.le_trans h.size hS.grown.size, fun k x hk hx => hS.other (h.old k x hk hx) (by
    intro e; subst e
    rcases hb with hb | hb
    · exact hk hb
    · have := (Array.getElem?_eq_some_iff.1 hx).1; omega)⟩
theorem Fr.appF {v v' : Value} (h : Fr S w0 w) (hA : AppR w w' v v') (hb : ∀ g, v.ownBlock = some g → S g ∨ w0.heap.size ≤ g) : Fr S w0 w' :=
  ⟨hA.grown.os.trans h.os, hA.grown.tape.trans h.tape, hA.grown.output.trans h.output, Nat.le_trans h.size hA.grown.size, fun k x hk hx => hA.old (h.old k x hk hx) (by
    intro e
    rcases hb k e.symm with hb | hb
    · exact hk hb
    · have := (Array.getElem?_eq_some_iff.1 hx).1; omega)⟩
theorem Fr.drewF (h : Fr S w0 w) : Fr S w0 w.drew := ⟨h.os, h.tape, h.output, h.size, h.old⟩
theorem Fr.callF (h : Fr S w0 w) (hB : Below w.heap.size w w') : Fr S w0 w' :=
  ⟨hB.os.trans h.os, hB.tape.trans h.tape, hB.output.trans h.output, Nat.le_trans h.size hB.size, fun k x hk hx => Below.old hB (h.old k x hk hx)⟩
theorem Fr.below {B : Nat} (h : Fr S w w') (hB : Below B w0 w) (hl : B ≤ w.heap.size) (hb : ∀ k, S k → B ≤ k) : Below B w0 w' :=
  hB.trans ⟨h.os, h.tape, h.output, h.size, fun k hk => by
    have hkl : k < w.heap.size := by omega
    rw [Array.getElem?_eq_getElem hkl]
    exact h.old k _ (fun hs => by have := hb k hs; omega) (Array.getElem?_eq_getElem hkl)⟩
theorem Fr.own {T : TypeId} {u : Value} {ys : List ByteArray} (h : Fr S w w') (hu : OwnS T w u ys) (hne : ∀ g, u.ownBlock = some g → ¬ S g) : OwnS T w' u ys :=
  Own.keep hu fun g hg => by
    have hlt := Own.lt hu hg
    rw [Array.getElem?_eq_getElem hlt]
    exact h.old g _ (hne g hg) (Array.getElem?_eq_getElem hlt)
end
def Moved (w : World) (v v' : Value) : Prop := v'.ownBlock = v.ownBlock ∨ ∃ g, v'.ownBlock = some g ∧ w.heap.size ≤ g
theorem Moved.ge {w : World} {v v' : Value} {B : Nat} (h : Moved w v v') (hl : B ≤ w.heap.size) (hb : ∀ g, v.ownBlock = some g → B ≤ g) : ∀ g, v'.ownBlock = some g → B ≤ g := by
  intro g hg
  rcases h with h1 | ⟨g', h1, h2⟩
  · exact hb g (by rw [← h1]; exact hg)
  · rw [h1] at hg; cases hg; omega
theorem Moved.ne {w : World} {v v' : Value} (h : Moved w v v') {g : Nat} (hg : g < w.heap.size) (hne : some g ≠ v.ownBlock) : some g ≠ v'.ownBlock := by
  rcases h with h1 | ⟨g', h1, h2⟩
  · rw [h1]; exact hne
  · rw [h1]; intro e; cases e; omega
theorem Fr.then {S S' : Nat → Prop} {w0 w w' : World} (h : Fr S w0 w) (k : Fr S' w w') (hS : ∀ k, S' k → S k ∨ w0.heap.size ≤ k) : Fr S w0 w' :=
  ⟨k.os.trans h.os, k.tape.trans h.tape, k.output.trans h.output, Nat.le_trans h.size k.size, fun i x hi hx => k.old i x (fun hs => by
    rcases hS i hs with h1 | h1
    · exact hi h1
    · have := (Array.getElem?_eq_some_iff.1 hx).1; omega) (h.old i x hi hx)⟩
theorem drop_cons {α : Type} {l : List α} {k : Nat} {u : α} (hu : l[k]? = some u) : l.drop k = u :: l.drop (k + 1) := by
  have hk := lt_of_some hu
  rw [List.drop_eq_getElem_cons hk, (List.getElem?_eq_some_iff.1 hu).2]
section
variable {P : Program} {N : Nat} {ds : List Deferred} {L : List (Nat × Value)} {w : World} {ops : Array Oper} {Q : Exit → Act → World → Prop} {rest : List Oper}
  {d : Nat} {ty : TypeId} {pos : String} {aft : Array Edge} {x y : Operand}
theorem elem_eq {P : Program} {t e : TypeId} (h : elemB P t = some e) : P.underlying t = some (.slice (P.elem t)) ∧ P.elem t = e := by
  have hu := underlying_elem h
  have : P.elem t = e := by simp [Program.elem, hu]
  exact ⟨by rw [this]; exact hu, this⟩
theorem At.noU {o : Oper} {j g : Nat} {b : Bool} (hg : o.guard = some (j, b)) (hj : (ops[j]?).bind (·.dst) = some g) (hN : Nat.blt g N = true) (hv : look L g = some undef)
    (hd : o.dst = some d) (hdN : Nat.blt d N = true) (k : At N ds ((d, undef) :: L) (wpList P ops Q rest) w) : At N ds L (wpList P ops Q (o :: rest)) w := fun a ha => by
  have hN' : g < a.tmps.size := by rw [ha.size]; simpa [Nat.blt_eq] using hN
  have hy : Region.wanted o (yielded ops a.tmps) = false := by
    have hgv := ha.get g _ hv
    have : a.tmps[g]? = some undef := by
      rw [Array.getElem?_eq_getElem hN']; simpa [hN'] using hgv
    simp [Region.wanted, hg, yielded, hj, this, undef]
  unfold wpList
  rw [if_neg (by rw [hy]; simp), hd]
  exact k _ (ha.put hdN)
def boolB (P : Program) (t : TypeId) : Bool := match P.underlying t with | some .bool => true | _ => false
theorem underlying_bool {P : Program} {t : TypeId} (h : boolB P t = true) : P.underlying t = some .bool := by
  unfold boolB at h
  split at h
  · assumption
  · cases h
theorem At.eqB {m n : Bool} {u u' : TypeId} (hx : ev L x = some (.bool m)) (hy : ev L y = some (.bool n)) (hb : boolB P u = true) (hN : Nat.blt d N = true) (k : At N ds ((d, .bool (decide (m = n))) :: L) (wpList P ops Q rest) w) :
    At N ds L (wpList P ops Q (⟨some d, .binOp .eql u x y u', ty, pos, aft, none⟩ :: rest)) w :=
  At.op rfl rfl hN (fun a ha => by
    have e : (m == n) = decide (m = n) := by cases m <;> cases n <;> rfl
    have h : (Op.equal u (.bool m) (.bool n)).run P w = .ok (m == n) w := run_equalIn_bool w 9999 u m n (underlying_bool hb)
    simp [execOp, ha.ev hx, ha.ev hy, eqGuard, binOp, h, e]) k
theorem At.neB {m n : Bool} {u u' : TypeId} (hx : ev L x = some (.bool m)) (hy : ev L y = some (.bool n)) (hb : boolB P u = true) (hN : Nat.blt d N = true) (k : At N ds ((d, .bool (!decide (m = n))) :: L) (wpList P ops Q rest) w) :
    At N ds L (wpList P ops Q (⟨some d, .binOp .neq u x y u', ty, pos, aft, none⟩ :: rest)) w :=
  At.op rfl rfl hN (fun a ha => by
    have e : (m == n) = decide (m = n) := by cases m <;> cases n <;> rfl
    have h : (Op.equal u (.bool m) (.bool n)).run P w = .ok (m == n) w := run_equalIn_bool w 9999 u m n (underlying_bool hb)
    simp [execOp, ha.ev hx, ha.ev hy, eqGuard, binOp, h, e]) k
end
section
variable {T : TypeId} {w w' : World} {v : Value} {ss : List ByteArray}
theorem Fresh.belowSelf {b : Nat} {o : Obj} (h : Fresh w w' b o) : Below w.heap.size w w' := h.below (Below.refl _ _) lR
theorem StrsAt.fresh {b : Nat} {o : Obj} (h : StrsAt w v ss) (hF : Fresh w w' b o) : StrsAt w' v ss := h.keep hF.belowSelf
theorem StrsAt.below (h : StrsAt w v ss) (hB : Below w.heap.size w w') : StrsAt w' v ss := h.keep hB
theorem StrsAt.drew (h : StrsAt w v ss) : StrsAt w.drew v ss := h.keep (Below.drewB (Below.refl w.heap.size w))
theorem Bld.one {P : Program} {t : TypeId} {C C' : Array Value} {i off : Nat} {v : Value} {r : List (Nat × Value)} (hf : fieldB P t i = some (off, 1)) (h1 : v.oneCell' = true) (hr : off + 1 ≤ C.size) (h : Bld P t (C.setIfInBounds off v) r C') : Bld P t C ((i, v) :: r) C' :=
  Bld.cons hf (by rw [cells_one h1]; rfl) hr (by rw [cells_one h1, splice_one (by omega)]; exact h)
theorem RowsAt.own {w : World} {b n c sz : Nat} {rows : List (Array Value)} {T : TypeId} {fr : Nat × Nat} (h : w.heap[b]? = some (.cells (rows.flatMap (·.toList)).toArray T fr)) (hs : ∀ r ∈ rows, r.size = sz) (hn : n = rows.length) (hc : n ≤ c) (hm : n ≤ 9223372036854775807 := by decide) : RowsAt w (.slice (some ⟨b, 0, none⟩) n c) sz rows := by
  subst hn
  refine ⟨.inr ⟨⟨b, 0, none⟩, c, rfl, hc, fun _ => rfl⟩, fun i cs hi => hs cs (List.mem_of_getElem? hi), fun i cs hi j v hv => ?_, hm⟩
  have := flat_get hs hi hv
  simp only [vBlock, vOff, Nat.zero_add]
  have h2 : (rows.flatMap (·.toList)).toArray[i * sz + j]? = some v := by simpa using this
  exact cell_own h h2
theorem Bld.whole {P : Program} {t : TypeId} {C cs : Array Value} {i n : Nat} (hf : fieldB P t i = some (0, n)) (h1 : cs.size = n) (h2 : C.size = n) : Bld P t C [(i, .agg cs)] cs :=
  Bld.cons hf h1 (by omega) (by rw [show Value.cells (.agg cs) = cs from rfl, splice_all (by omega)]; exact Bld.nil _)
def Apart (u v : Value) : Prop := ∀ g, u.ownBlock = some g → v.ownBlock ≠ some g
theorem Apart.symm {u v : Value} (h : Apart u v) : Apart v u := fun g hv hu => h g hu hv
theorem Apart.nil (v : Value) : Apart v (.slice none 0 0) := fun g _ h => by cases h
theorem OwnS.apart {u : Value} {b0 : Nat} {C : Array Value} {T' : TypeId} {fr : Nat × Nat} (hu : OwnS T w u ss) (hF : Fr (fun k => k = b0 ∨ some k = v.ownBlock) w w') (hb : w.heap[b0]? = some (.cells C T' fr)) (hT : Nat.beq T' T = false) (ha : Apart u v) : OwnS T w' u ss :=
  hF.own hu fun g hg hS => by
    rcases hS with rfl | h
    · exact hu.neT hb hT hg.symm
    · exact ha g hg h.symm
end
def takeV (v : Value) (h : Nat) : Value := match v with | .slice b _ c => .slice b h c | v => v
section
variable {P : Program} {N : Nat} {ds : List Deferred} {L : List (Nat × Value)} {w : World} {ops : Array Oper} {Q : Exit → Act → World → Prop} {rest : List Oper} {d : Nat}
  {ty : TypeId} {pos : String} {aft : Array Edge} {x y : Operand}
end
theorem SlOk.take {v : Value} {n h : Nat} (hv : SlOk v n) (hh : h ≤ n) : SlOk (takeV v h) h := by
  rcases hv with ⟨rfl, h0⟩ | ⟨a, cap, rfl, hc, hsp⟩
  · exact .inl ⟨by simp [takeV]; omega, by omega⟩
  · exact .inr ⟨a, cap, rfl, by omega, fun h0 => hsp (by omega)⟩
theorem takeV_block {v : Value} {n h : Nat} (hv : SlOk v n) : vBlock (takeV v h) = vBlock v ∧ vOff (takeV v h) = vOff v := by
  rcases hv with ⟨rfl, h0⟩ | ⟨a, cap, rfl, hc, hsp⟩ <;> exact ⟨rfl, rfl⟩
theorem RowsAt.take {w : World} {v : Value} {sz : Nat} {rows : List (Array Value)} (hr : RowsAt w v sz rows) {h : Nat} (hh : h ≤ rows.length) : RowsAt w (takeV v h) sz (rows.take h) := by
  have hl : (rows.take h).length = h := by simp; omega
  refine ⟨by rw [hl]; exact hr.ok.take hh, fun i cs hi => ?_, fun i cs hi => ?_, ?_⟩
  · by_cases hk : i < h
    · rw [List.getElem?_take_of_lt hk] at hi; exact hr.size i cs hi
    · rw [List.getElem?_eq_none (by omega)] at hi; cases hi
  · have := takeV_block (h := h) hr.ok
    rw [this.1, this.2]
    by_cases hk : i < h
    · rw [List.getElem?_take_of_lt hk] at hi; exact hr.at_ i cs hi
    · rw [List.getElem?_eq_none (by omega)] at hi; cases hi
  · have := hr.len; omega
theorem StrsAt.take {w : World} {v : Value} {ss : List ByteArray} (h : StrsAt w v ss) {k : Nat} (hk : k ≤ ss.length) : StrsAt w (takeV v k) (ss.take k) := by
  have := RowsAt.take h (h := k) (by simpa using hk)
  rw [← List.map_take] at this
  exact this
def OwnR {α : Type} (T : TypeId) (sz : Nat) (f : α → Array Value) (w : World) (v : Value) (l : List α) : Prop := Own w T sz v l.length ((l.map f).flatMap (·.toList))
section
variable {α : Type} {T : TypeId} {sz : Nat} {f : α → Array Value} {w w' : World} {v : Value} {l : List α}
theorem flat_at {rows : List (Array Value)} {sz i j : Nat} {cs : Array Value} {u : Value} (hs : ∀ r ∈ rows, r.size = sz) (hi : rows[i]? = some cs) (hj : cs[j]? = some u) : (rows.flatMap (·.toList))[i * sz + j]? = some u := by
  have := flat_get hs hi hj; simpa using this
theorem OwnR.nil (T : TypeId) (sz : Nat) (f : α → Array Value) (w : World) : OwnR T sz f w (.slice none 0 0) [] := Own.nil w T sz
theorem OwnR.drew (h : OwnR T sz f w v l) : OwnR T sz f w.drew v l := Own.drew h
theorem OwnR.one (h : OwnR T sz f w v l) : v.oneCell' = true := Own.one h
theorem OwnR.fresh {b : Nat} {o : Obj} (h : OwnR T sz f w v l) (hF : Fresh w w' b o) : OwnR T sz f w' v l := Own.fresh h hF
theorem OwnR.below (h : OwnR T sz f w v l) (hB : Below w.heap.size w w') : OwnR T sz f w' v l := Own.below h hB
theorem OwnR.set {b : Nat} {o : Obj} (h : OwnR T sz f w v l) (hS : SetB w w' b o) (hne : some b ≠ v.ownBlock) : OwnR T sz f w' v l := Own.set h hS hne
theorem OwnR.neT (h : OwnR T sz f w v l) {k : Nat} {C : Array Value} {T' : TypeId} {fr : Nat × Nat} (hk : w.heap[k]? = some (.cells C T' fr)) (hT : Nat.beq T' T = false) : some k ≠ v.ownBlock := Own.neT h hk hT
theorem OwnR.made {b : Nat} (h : w.heap[b]? = some (.cells #[] T)) : OwnR T sz f w (.slice (some ⟨b, 0, none⟩) 0 0) [] :=
  ⟨by simp, .inr ⟨b, _, _, rfl, Nat.zero_le _, h, Nat.le_refl _, Nat.zero_le _, by simp, by simp⟩⟩
theorem OwnR.len (h : OwnR T sz f w v l) : l.length ≤ 9223372036854775807 := by
  rcases h.2 with ⟨_, h0⟩ | ⟨_, cap, _, _, _, _, hnc, hcm, _⟩
  · omega
  · have : maxLen = 9223372036854775807 := rfl
    omega
theorem OwnR.rows (h : OwnR T sz f w v l) (hs : ∀ u ∈ l, (f u).size = sz) : RowsAt w v sz (l.map f) := by
  have hs' : ∀ r ∈ l.map f, r.size = sz := fun r hr => by obtain ⟨u, hu, rfl⟩ := List.mem_map.1 hr; exact hs u hu
  refine ⟨by have := Own.slOk h; simpa using this, fun i cs hi => hs' cs (List.mem_of_getElem? hi), fun i cs hi j x hx => ?_, by have := OwnR.len h; simpa using this⟩
  rcases h.2 with ⟨_, h0⟩ | ⟨g, cap, cur, rfl, _, _, _, _, _, _⟩
  · have : l = [] := List.eq_nil_of_length_eq_zero h0
    subst this; simp at hi
  · have := World.ownsRow.cells (g := g) h rfl _ _ (flat_at hs' hi hx)
    rw [add_at] at this
    show w.cell? ⟨g, 0 + i * sz + j, none⟩ = some x
    rw [Nat.add_assoc]; exact this
theorem Src.rows {P : Program} {t e : TypeId} {xv : Value} (he : elemB P t = some e) (h : RowsAt w xv sz (l.map f)) (hp : 0 < sz) (h1 : ∀ u ∈ l, (f u).all (·.oneCell') = true) : Src P sz t xv l.length ((l.map f).flatMap (·.toList)) w := by
  have hs : ∀ r ∈ l.map f, r.size = sz := fun r hr => by obtain ⟨i, hi⟩ := List.mem_iff_getElem?.1 hr; exact h.size i r hi
  have hlen : ∀ rows : List (Array Value), (∀ r ∈ rows, r.size = sz) → (rows.flatMap (·.toList)).length = rows.length * sz := by
    intro rows
    induction rows with
    | nil => intro _; simp
    | cons a r ih =>
      intro hr
      rw [List.flatMap_cons, List.length_append, ih (fun x hx => hr x (List.mem_cons_of_mem _ hx)), List.length_cons, Nat.add_mul]
      have := hr a (by simp); simp only [Array.length_toList]; omega
  rcases h.okL with ⟨rfl, h0⟩ | ⟨⟨b, o, sp⟩, cap, rfl, hc, hsp⟩
  · have : l = [] := List.eq_nil_of_length_eq_zero h0
    subst this
    exact Src.ofNil w (underlying_elem he) 0
  · refine Src.ofSlice w (underlying_elem he) ⟨b, o, sp⟩ l.length cap _ (by have := hlen _ hs; simpa using this) (fun j u hu => ?_) (fun u hu => ?_)
    · have hj : j < l.length * sz := by have := lt_of_some hu; have h2 := hlen _ hs; simp only [List.length_map] at h2; omega
      have hi : j / sz < (l.map f).length := by rw [List.length_map]; exact (Nat.div_lt_iff_lt_mul hp).2 hj
      obtain ⟨cs, hcs⟩ := some_of_lt hi
      have hsz := h.size _ _ hcs
      have hm : j % sz < cs.size := by rw [hsz]; exact Nat.mod_lt _ hp
      have hx : cs[j % sz]? = some cs[j % sz] := Array.getElem?_eq_getElem hm
      have h3 := flat_at hs hcs hx
      rw [Nat.mul_comm, Nat.div_add_mod] at h3
      rw [h3] at hu
      cases hu
      obtain rfl : sp = none := hsp (by have : l.length ≠ 0 := fun e => by rw [e] at hj; omega
                                        omega)
      have h4 := h.at_ _ _ hcs _ _ hx
      simp only [vBlock, vOff] at h4
      rw [add_at]
      rw [Nat.add_assoc, Nat.mul_comm, Nat.div_add_mod] at h4
      exact h4
    · obtain ⟨cs, hcs, hu'⟩ := List.mem_flatMap.1 hu
      obtain ⟨x, hx, rfl⟩ := List.mem_map.1 hcs
      have := h1 x hx
      rw [← Array.toArray_toList (xs := f x), List.all_toArray] at this
      exact List.all_eq_true.1 this u hu'
end
theorem At.appendR {α : Type} {P : Program} {N : Nat} {ds : List Deferred} {L : List (Nat × Value)} {w : World} {ops : Array Oper} {Q : Exit → Act → World → Prop} {rest : List Oper} {d : Nat} {ty : TypeId} {pos : String} {aft : Array Edge} {x y : Operand}
    {t tx T : TypeId} {v xv z : Value} {f : α → Array Value} {sz by_ : Nat} {l l' : List α} (hx : ev L x = some v) (hy : ev L y = some xv) (ht : elemB P t = some T) (htx : elemB P tx = some T) (hs : sizeB P T = some sz) (hb : bytesB P T = some by_) (hz : zeroB P T = some z) (hzs : z.cells.size = sz)
    (hO : OwnR T sz f w v l) (hS : RowsAt w xv sz (l'.map f)) (hp : 0 < sz) (h1 : ∀ u ∈ l', (f u).all (·.oneCell') = true) (hl : (l.length + l'.length) * by_ ≤ 140737488355328) (hl2 : l.length + l'.length ≤ 9223372036854775807) (hN : Nat.blt d N = true)
    (k : ∀ v' w', OwnR T sz f w' v' (l ++ l') → AppR w w' v v' → At N ds ((d, v') :: L) (wpList P ops Q rest) w') :
    At N ds L (wpList P ops Q (⟨some d, .call ⟨.builtin .append, #[x, y], #[t, tx]⟩, ty, pos, aft, none⟩ :: rest)) w :=
  At.append hx hy ht hs hb hz hzs hO (Src.rows htx hS hp h1) (by unfold maxLen; omega) hl hN (fun v' w' h2 h3 => k v' w' (by unfold OwnR; rw [List.length_append, List.map_append, List.flatMap_append]; exact h2) h3)
theorem rows_own {α : Type} {f : α → Array Value} {w : World} {b m sz : Nat} {ks : List α} {T : TypeId} {fr : Nat × Nat} (h : w.heap[b]? = some (.cells ((ks.map f).flatMap (·.toList)).toArray T fr)) (hk : ∀ u ∈ ks, (f u).size = sz) (hm : m = ks.length) (hl : m ≤ 9223372036854775807) :
    RowsAt w (.slice (some ⟨b, 0, none⟩) m m) sz (ks.map f) :=
  RowsAt.own (rows := ks.map f) h (by intro r hr; obtain ⟨u, hu, rfl⟩ := List.mem_map.1 hr; exact hk u hu) (by simpa using hm) lR hl
theorem Own.neFresh {w w' : World} {e : TypeId} {sz n b : Nat} {v : Value} {xs : List Value} {o : Obj} (h : Own w e sz v n xs) (hF : Fresh w w' b o) : some b ≠ v.ownBlock := fun e => by
  have := h.lt e.symm
  have := hF.eq
  omega
theorem Own.keepT {w w' : World} {e e' : TypeId} {sz sz' n n' : Nat} {v v' u : Value} {xs ys : List Value} (hA : AppR w w' v v') (hv : Own w e sz v n xs) (hu : Own w e' sz' u n' ys) (hT : Nat.beq e e' = false) : Own w' e' sz' u n' ys := by
  refine hA.own hu ?_
  cases h : u.ownBlock with
  | none => exact .inl rfl
  | some g =>
    refine .inr fun e1 => ?_
    rcases hv.2 with ⟨rfl, _⟩ | ⟨g1, cap, cur, rfl, h3, h4, h5⟩
    · cases e1
    · cases e1
      exact hu.neT h4 hT h.symm
theorem all_nil {α : Type} {Q : α → Prop} : ∀ u ∈ ([] : List α), Q u := fun _ h => by cases h
theorem all_app {α : Type} {Q : α → Prop} {a b : List α} (ha : ∀ u ∈ a, Q u) (hb : ∀ u ∈ b, Q u) : ∀ u ∈ a ++ b, Q u := fun u hu => (List.mem_append.1 hu).elim (ha u) (hb u)
def dropV (sz : Nat) (v : Value) (l : Nat) : Value := match v with | .slice a n c => .slice (if c = l then a else a.map (·.add (l * sz))) (n - l) (c - l) | v => v
section
variable {P : Program} {N : Nat} {ds : List Deferred} {L : List (Nat × Value)} {w : World} {ops : Array Oper} {Q : Exit → Act → World → Prop} {rest : List Oper} {d : Nat}
  {ty : TypeId} {pos : String} {aft : Array Edge} {x y : Operand}
theorem At.sliceFrom {t e : TypeId} {sz n h : Nat} {v : Value} (hx : ev L x = some v) (hy : ev L y = some (.int .i64 (h : Int))) (hv : SlOk v n) (he : elemB P t = some e) (hs : sizeB P e = some sz) (hh : h ≤ n) (hN : Nat.blt d N = true)
    (k : At N ds ((d, dropV sz v h) :: L) (wpList P ops Q rest) w) :
    At N ds L (wpList P ops Q (⟨some d, .slice t x (some y) none none, ty, pos, aft, none⟩ :: rest)) w := by
  have key : ∀ (a : Option Addr) (c : Nat), v = .slice a n c → At N ds L (wpList P ops Q (⟨some d, .slice t x (some y) none none, ty, pos, aft, none⟩ :: rest)) w := by
    rintro a c rfl
    exact At.op rfl rfl hN (fun b ha => by
      obtain ⟨h1, h2⟩ := elem_eq he
      have := run_slice_l (P := P) w t a n c h1 .i64 (h : Int) (by omega) (by omega)
      rw [h2, run_sizeOf hs] at this
      simp only [execOp, ha.ev hx, ha.ev hy, Option.map_some, Option.map_none, run_sliceAt_slice (P := P) w t _ _ _ _ h1, Sem.run_bind, this, Result.andThen_ok, Sem.run_pure]
      simp [sliced, dropV]) k
  rcases hv with ⟨rfl, rfl⟩ | ⟨a, cap, rfl, hc, hsp⟩
  · exact key none 0 rfl
  · exact key (some a) cap rfl
theorem At.andI {q : IntKind} {m n : Int} {u u' : TypeId} (hx : ev L x = some (.int q m)) (hy : ev L y = some (.int q n)) (hN : Nat.blt d N = true) (k : At N ds ((d, .int q (bits .and q m n)) :: L) (wpList P ops Q rest) w) :
    At N ds L (wpList P ops Q (⟨some d, .binOp .and u x y u', ty, pos, aft, none⟩ :: rest)) w :=
  At.op rfl rfl hN (fun a ha => by simp [execOp, ha.ev hx, ha.ev hy, eqGuard, binOp, intBits_and]) k
end
theorem and_range (m : Int) {n : Nat} (hn : n ≤ 4611686018427387904) : 0 ≤ bits .and .i64 m (n : Int) ∧ bits .and .i64 m (n : Int) ≤ (n : Int) := by
  have h1 : (BitVec.ofInt 64 m &&& BitVec.ofInt 64 (n : Int)).toNat ≤ n := by
    rw [BitVec.toNat_and]
    refine Nat.le_trans Nat.and_le_right ?_
    rw [BitVec.toNat_ofInt]
    omega
  have h2 : bits .and .i64 m (n : Int) = ((BitVec.ofInt 64 m &&& BitVec.ofInt 64 (n : Int)).toNat : Int) := by
    show IntKind.i64.wrap ((BitVec.ofInt 64 m &&& BitVec.ofInt 64 (n : Int)).toNat : Int) = _
    exact wrap64_id _ (by constructor <;> omega)
  rw [h2]; omega
theorem SlOk.drop {v : Value} {n h sz : Nat} (hv : SlOk v n) (hh : h ≤ n) : SlOk (dropV sz v h) (n - h) := by
  rcases hv with ⟨rfl, rfl⟩ | ⟨a, cap, rfl, hc, hsp⟩
  · obtain rfl : h = 0 := by omega
    exact .inl ⟨rfl, rfl⟩
  · simp only [dropV]
    by_cases hcap : cap = h
    · rw [if_pos hcap]; exact .inr ⟨a, _, rfl, by omega, fun h0 => hsp (by omega)⟩
    · rw [if_neg hcap]
      exact .inr ⟨a.add (h * sz), _, rfl, by omega, fun h0 => by
        have := hsp (by omega)
        obtain ⟨b, o, sp⟩ := a
        simp only at this
        subst this
        rw [add_at]⟩
theorem RowsAt.drop {w : World} {v : Value} {sz : Nat} {rows : List (Array Value)} (hr : RowsAt w v sz rows) {h : Nat} (hh : h ≤ rows.length) : RowsAt w (dropV sz v h) sz (rows.drop h) := by
  refine ⟨by rw [List.length_drop]; exact hr.ok.drop hh, fun i cs hi => ?_, fun i cs hi => ?_, ?_⟩
  · rw [List.getElem?_drop] at hi; exact hr.size _ cs hi
  · rw [List.getElem?_drop] at hi
    have hlt := lt_of_some hi
    have h3 := hr.at_ _ cs hi
    rcases hr.ok with ⟨_, h0⟩ | ⟨⟨b, o, sp⟩, cap, rfl, hc, hsp⟩
    · omega
    · obtain rfl : sp = none := hsp (by omega)
      have hcap : ¬ cap = h := by omega
      simp only [dropV, if_neg hcap, Option.map_some, add_at, vBlock, vOff] at h3 ⊢
      rw [show o + h * sz + i * sz = o + (h + i) * sz by rw [Nat.add_mul, Nat.add_assoc]]
      exact h3
  · have := hr.len; simp; omega
theorem StrsAt.drop {w : World} {v : Value} {ss : List ByteArray} (h : StrsAt w v ss) {k : Nat} (hk : k ≤ ss.length) : StrsAt w (dropV 1 v k) (ss.drop k) := by
  have := RowsAt.drop h (h := k) (by simpa using hk)
  rw [← List.map_drop] at this
  exact this
def ApartS (u : Value) (ss : List ByteArray) (v : Value) : Prop := ss = [] ∨ ∀ g, v.ownBlock = some g → g ≠ vBlock u
section
variable {w w' : World} {u v v' : Value} {ss : List ByteArray}
theorem StrsAt.lt (h : StrsAt w u ss) (hne : ss ≠ []) : vBlock u < w.heap.size := by
  obtain ⟨s, r, rfl⟩ := List.exists_cons_of_ne_nil hne
  exact cell_lt (StrsAt.get h (i := 0) (s := s) rfl)
theorem ApartS.fresh {b n c : Nat} {o : Obj} (h : StrsAt w u ss) (hF : Fresh w w' b o) : ApartS u ss (.slice (some ⟨b, 0, none⟩) n c) := by
  by_cases hne : ss = []
  · exact .inl hne
  · refine .inr fun g hg => ?_
    cases hg
    have := StrsAt.lt h hne
    have := hF.eq
    show b ≠ _
    omega
theorem ApartS.nil : ApartS u ss (.slice none 0 0) := .inr fun g hg => by cases hg
theorem ApartS.app (ap : ApartS u ss v) (hA : AppR w w' v v') (h : StrsAt w u ss) : ApartS u ss v' := by
  rcases ap with h0 | h0
  · exact .inl h0
  · by_cases hne : ss = []
    · exact .inl hne
    · refine .inr fun g hg => ?_
      rcases hA.blk with h1 | ⟨g', h1, h2⟩
      · exact h0 g (by rw [← h1]; exact hg)
      · rw [h1] at hg; cases hg
        have := StrsAt.lt h hne
        omega
theorem AppR.strs (hA : AppR w w' v v') (h : StrsAt w u ss) (ap : ApartS u ss v) : StrsAt w' u ss := by
  refine ⟨RowsAt.ok h, RowsAt.size h, fun i cs hi j x hx => ?_, RowsAt.len h⟩
  have h1 := RowsAt.at_ h i cs hi j x hx
  rcases ap with h0 | h0
  · subst h0; simp at hi
  · have hlt := cell_lt h1
    have hb := hA.grown.block _ hlt fun e => h0 _ e.symm rfl
    simp only [World.cell?] at h1 ⊢
    rw [hb]; exact h1
end
structure Kd (α : Type) where
  ok : World → α → Prop
  blk : α → Nat → Prop
  lt : ∀ {w : World} {u : α} {b : Nat}, ok w u → blk u b → b < w.heap.size
  keep : ∀ {w w' : World} {u : α}, ok w u → (∀ b, blk u b → w'.heap[b]? = w.heap[b]?) → ok w' u
def Xs {α : Type} (K : Kd α) (M : List (Option Nat)) (w : World) (l : List α) : Prop := ∀ u ∈ l, K.ok w u ∧ ∀ b, K.blk u b → some b ∉ M
def MOk (lo : Nat) (M : List (Option Nat)) : Prop := ∀ g, some g ∈ M → lo ≤ g
def MLt (hi : Nat) (M : List (Option Nat)) : Prop := ∀ g, some g ∈ M → g < hi
theorem MOk.nil (lo : Nat) : MOk lo [] := fun _ h => by cases h
theorem MOk.blk {lo b : Nat} {M : List (Option Nat)} (h : lo ≤ b) (t : MOk lo M) : MOk lo (some b :: M) := fun g hg => by
  rcases List.mem_cons.1 hg with e | e
  · cases e; exact h
  · exact t g e
theorem MOk.own {lo : Nat} {v : Value} {M : List (Option Nat)} (h : ∀ g, v.ownBlock = some g → lo ≤ g) (t : MOk lo M) : MOk lo (v.ownBlock :: M) := fun g hg => by
  rcases List.mem_cons.1 hg with e | e
  · exact h g e.symm
  · exact t g e
theorem MLt.nil (hi : Nat) : MLt hi [] := fun _ h => by cases h
theorem MLt.blk {w : World} {b : Nat} {x : Obj} {M : List (Option Nat)} (h : w.heap[b]? = some x) (t : MLt w.heap.size M) : MLt w.heap.size (some b :: M) := fun g hg => by
  rcases List.mem_cons.1 hg with e | e
  · cases e; exact (Array.getElem?_eq_some_iff.1 h).1
  · exact t g e
theorem MLt.own {w : World} {e : TypeId} {sz n : Nat} {v : Value} {xs : List Value} {M : List (Option Nat)} (h : Own w e sz v n xs) (t : MLt w.heap.size M) : MLt w.heap.size (v.ownBlock :: M) := fun g hg => by
  rcases List.mem_cons.1 hg with e1 | e1
  · exact h.lt e1.symm
  · exact t g e1
section
variable {α : Type} {K : Kd α} {M : List (Option Nat)} {w w' : World} {l m : List α}
theorem Xs.ok (h : Xs K M w l) : ∀ u ∈ l, K.ok w u := fun u hu => (h u hu).1
theorem Xs.nil (K : Kd α) (M : List (Option Nat)) (w : World) : Xs K M w [] := fun _ h => by cases h
theorem Xs.append (h : Xs K M w l) (k : Xs K M w m) : Xs K M w (l ++ m) := fun u hu => (List.mem_append.1 hu).elim (h u) (k u)
theorem Xs.weaken {M' : List (Option Nat)} (h : Xs K M w l) (hM : ∀ o ∈ M', o ∈ M) : Xs K M' w l := fun u hu => ⟨(h u hu).1, fun b hb hm => (h u hu).2 b hb (hM _ hm)⟩
theorem Xs.grown {row : Option Nat} (h : Xs K M w l) (hg : w.grownBy w' row) (hr : row = none ∨ row ∈ M) : Xs K M w' l := fun u hu =>
  ⟨K.keep (h u hu).1 fun b hb => hg.block b (K.lt (h u hu).1 hb) fun e => by
    rcases hr with h0 | h0
    · rw [h0] at e; cases e
    · exact (h u hu).2 b hb (e ▸ h0), (h u hu).2⟩
theorem Xs.fresh {b : Nat} {o : Obj} (h : Xs K M w l) (hF : Fresh w w' b o) : Xs K (some b :: M) w' l := fun u hu =>
  ⟨((h.grown hF.grown (.inl rfl)) u hu).1, fun c hc hm => by
    rcases List.mem_cons.1 hm with e | e
    · cases e
      have := K.lt (h u hu).1 hc
      have := hF.eq
      omega
    · exact (h u hu).2 c hc e⟩
theorem Xs.set {b : Nat} {o : Obj} (h : Xs K M w l) (hS : SetB w w' b o) (hb : some b ∈ M) : Xs K M w' l := h.grown hS.grown (.inr hb)
theorem Xs.app {v v' : Value} (h : Xs K M w l) (hA : AppR w w' v v') (hv : v.ownBlock = none ∨ v.ownBlock ∈ M) : Xs K (v'.ownBlock :: M) w' l := fun u hu =>
  ⟨((h.grown hA.grown hv) u hu).1, fun c hc hm => by
    rcases List.mem_cons.1 hm with e | e
    · rcases hA.blk with h1 | ⟨g, h1, h2⟩
      · rcases hv with h0 | h0
        · rw [h1, h0] at e; cases e
        · exact (h u hu).2 c hc (by rw [e, h1]; exact h0)
      · rw [h1] at e; cases e
        have := K.lt (h u hu).1 hc
        omega
    · exact (h u hu).2 c hc e⟩
theorem Xs.below (h : Xs K M w l) (hB : Below w.heap.size w w') : Xs K M w' l := fun u hu => ⟨K.keep (h u hu).1 fun b hb => hB.block b (K.lt (h u hu).1 hb), (h u hu).2⟩
theorem Xs.drew (h : Xs K M w l) : Xs K M w.drew l := fun u hu => ⟨K.keep (h u hu).1 fun b _ => rfl, (h u hu).2⟩
theorem Xs.of_new {B s : Nat} {u : α} (h : K.ok w u) (hb : ∀ b, K.blk u b → b < B ∨ s ≤ b) (hM : MOk B M) (hM2 : MLt s M) : Xs K M w [u] := fun x hx => by
  obtain rfl := List.mem_singleton.1 hx
  exact ⟨h, fun b hb' hm => by have := hM b hm; have := hM2 b hm; rcases hb b hb' with h1 | h1 <;> omega⟩
theorem Xs.one {u : α} (h : Xs K M w [u]) : K.ok w u := (h u (by simp)).1
end
theorem OwnS.keepT {w w' : World} {e e' : TypeId} {sz n : Nat} {v v' u : Value} {xs : List Value} {ss : List ByteArray} (hA : AppR w w' v v') (hv : Own w e sz v n xs) (hu : OwnS e' w u ss) (hT : Nat.beq e e' = false) : OwnS e' w' u ss := Own.keepT hA hv hu hT
theorem OwnR.keepT {α : Type} {f : α → Array Value} {w w' : World} {e e' : TypeId} {sz sz' n : Nat} {v v' u : Value} {xs : List Value} {l : List α} (hA : AppR w w' v v') (hv : Own w e sz v n xs) (hu : OwnR e' sz' f w u l) (hT : Nat.beq e e' = false) : OwnR e' sz' f w' u l := Own.keepT hA hv hu hT
theorem RowsAt.blkLt {α : Type} {w : World} {v : Value} {sz : Nat} {l : List α} {f : α → Array Value} (h : RowsAt w v sz (l.map f)) (hp : 0 < sz) (hne : l ≠ []) : vBlock v < w.heap.size := by
  obtain ⟨s, r, rfl⟩ := List.exists_cons_of_ne_nil hne
  have h1 := h.at_ 0 (f s) rfl
  have h2 : 0 < (f s).size := by rw [h.size 0 (f s) rfl]; exact hp
  exact cell_lt (h1 0 _ (Array.getElem?_eq_getElem h2))
theorem RowsAt.keepB {w w' : World} {v : Value} {sz : Nat} {rows : List (Array Value)} (h : RowsAt w v sz rows) (hb : rows ≠ [] → w'.heap[vBlock v]? = w.heap[vBlock v]?) : RowsAt w' v sz rows := by
  refine ⟨h.ok, h.size, fun i cs hi j x hx => ?_, h.len⟩
  have h1 := h.at_ i cs hi j x hx
  have hne : rows ≠ [] := fun e => by rw [e] at hi; simp at hi
  simp only [World.cell?] at h1 ⊢
  rw [hb hne]; exact h1
mutual
def tmBlk : Tm → Nat → Prop
  | .mk _ _ _ _ _ _ kv av kids arms, b => (kids ≠ [] ∧ b = vBlock kv) ∨ (arms ≠ [] ∧ b = vBlock av) ∨ tmBlkL kids b ∨ amBlkL arms b
def tmBlkL : List Tm → Nat → Prop
  | [], _ => False
  | t :: r, b => tmBlk t b ∨ tmBlkL r b
def amBlk : Am → Nat → Prop
  | .mk _ _ vv vars body, b => (vars ≠ [] ∧ b = vBlock vv) ∨ tmBlk body b
def amBlkL : List Am → Nat → Prop
  | [], _ => False
  | a :: r, b => amBlk a b ∨ amBlkL r b
end
theorem tmBlkL_iff {l : List Tm} {b : Nat} : tmBlkL l b ↔ ∃ u ∈ l, tmBlk u b := by
  induction l with
  | nil => simp [tmBlkL]
  | cons a l ih => rw [tmBlkL, ih]; simp
theorem amBlkL_iff {l : List Am} {b : Nat} : amBlkL l b ↔ ∃ u ∈ l, amBlk u b := by
  induction l with
  | nil => simp [amBlkL]
  | cons a l ih => rw [amBlkL, ih]; simp
theorem tmBlk_eq (t : Tm) (b : Nat) : tmBlk t b ↔ (t.kids ≠ [] ∧ b = vBlock t.kv) ∨ (t.arms ≠ [] ∧ b = vBlock t.av) ∨ (∃ u ∈ t.kids, tmBlk u b) ∨ ∃ u ∈ t.arms, amBlk u b := by
  cases t; rw [tmBlk, tmBlkL_iff, amBlkL_iff]; rfl
theorem amBlk_eq (a : Am) (b : Nat) : amBlk a b ↔ (a.vars ≠ [] ∧ b = vBlock a.vv) ∨ tmBlk a.body b := by cases a; rw [amBlk]; rfl
mutual
theorem tm_lt {w : World} : ∀ (t : Tm) (b : Nat), TmOk w t → tmBlk t b → b < w.heap.size
  | .mk cs k at_ nm pm n kv av kids arms, b, h, hb => by
    rw [tmBlk] at hb
    rcases hb with ⟨h1, rfl⟩ | ⟨h1, rfl⟩ | h1 | h1
    · exact h.kidsAt.blkLt (by decide) h1
    · exact h.armsAt.blkLt (by decide) h1
    · exact tmL_lt kids b h.kids h1
    · exact amL_lt arms b h.arms h1
theorem tmL_lt {w : World} : ∀ (l : List Tm) (b : Nat), (∀ u ∈ l, TmOk w u) → tmBlkL l b → b < w.heap.size
  | [], _, _, hb => by rw [tmBlkL] at hb; cases hb
  | t :: l, b, h, hb => by
    rw [tmBlkL] at hb
    rcases hb with h1 | h1
    · exact tm_lt t b (h t (by simp)) h1
    · exact tmL_lt l b (fun u hu => h u (List.mem_cons_of_mem _ hu)) h1
theorem am_lt {w : World} : ∀ (a : Am) (b : Nat), AmOk w a → amBlk a b → b < w.heap.size
  | .mk cs nm vv vars body, b, h, hb => by
    rw [amBlk] at hb
    rcases hb with ⟨h1, rfl⟩ | h1
    · exact StrsAt.lt h.varsAt h1
    · exact tm_lt body b h.body h1
theorem amL_lt {w : World} : ∀ (l : List Am) (b : Nat), (∀ u ∈ l, AmOk w u) → amBlkL l b → b < w.heap.size
  | [], _, _, hb => by rw [amBlkL] at hb; cases hb
  | t :: l, b, h, hb => by
    rw [amBlkL] at hb
    rcases hb with h1 | h1
    · exact am_lt t b (h t (by simp)) h1
    · exact amL_lt l b (fun u hu => h u (List.mem_cons_of_mem _ hu)) h1
end
theorem map_ne {α β : Type} {f : α → β} {l : List α} (h : l.map f ≠ []) : l ≠ [] := fun e => h (by rw [e]; rfl)
mutual
theorem tm_keep {w w' : World} : ∀ (t : Tm), TmOk w t → (∀ b, tmBlk t b → w'.heap[b]? = w.heap[b]?) → TmOk w' t
  | .mk cs k at_ nm pm n kv av kids arms, h, hb =>
    .mk { h.c with kidsAt := h.kidsAt.keepB fun hne => hb _ (by rw [tmBlk]; exact .inl ⟨map_ne hne, rfl⟩), armsAt := h.armsAt.keepB fun hne => hb _ (by rw [tmBlk]; exact .inr (.inl ⟨map_ne hne, rfl⟩)) }
      (tmL_keep kids h.kids fun b hx => hb b (by rw [tmBlk]; exact .inr (.inr (.inl hx)))) (amL_keep arms h.arms fun b hx => hb b (by rw [tmBlk]; exact .inr (.inr (.inr hx))))
theorem tmL_keep {w w' : World} : ∀ (l : List Tm), (∀ u ∈ l, TmOk w u) → (∀ b, tmBlkL l b → w'.heap[b]? = w.heap[b]?) → ∀ u ∈ l, TmOk w' u
  | [], _, _, _, hu => by cases hu
  | t :: l, h, hb, u, hu => by
    rcases List.mem_cons.1 hu with e | e
    · rw [e]; exact tm_keep t (h t (by simp)) fun b hx => hb b (by rw [tmBlkL]; exact .inl hx)
    · exact tmL_keep l (fun u hu => h u (List.mem_cons_of_mem _ hu)) (fun b hx => hb b (by rw [tmBlkL]; exact .inr hx)) u e
theorem am_keep {w w' : World} : ∀ (a : Am), AmOk w a → (∀ b, amBlk a b → w'.heap[b]? = w.heap[b]?) → AmOk w' a
  | .mk cs nm vv vars body, h, hb =>
    .mk { h.c with varsAt := RowsAt.keepB h.varsAt fun hne => hb _ (by rw [amBlk]; exact .inl ⟨map_ne hne, rfl⟩) } (tm_keep body h.body fun b hx => hb b (by rw [amBlk]; exact .inr hx))
theorem amL_keep {w w' : World} : ∀ (l : List Am), (∀ u ∈ l, AmOk w u) → (∀ b, amBlkL l b → w'.heap[b]? = w.heap[b]?) → ∀ u ∈ l, AmOk w' u
  | [], _, _, _, hu => by cases hu
  | t :: l, h, hb, u, hu => by
    rcases List.mem_cons.1 hu with e | e
    · rw [e]; exact am_keep t (h t (by simp)) fun b hx => hb b (by rw [amBlkL]; exact .inl hx)
    · exact amL_keep l (fun u hu => h u (List.mem_cons_of_mem _ hu)) (fun b hx => hb b (by rw [amBlkL]; exact .inr hx)) u e
end
def kTm : Kd Tm := ⟨TmOk, tmBlk, fun h hb => tm_lt _ _ h hb, fun h hb => tm_keep _ h hb⟩
def kAm : Kd Am := ⟨AmOk, amBlk, fun h hb => am_lt _ _ h hb, fun h hb => am_keep _ h hb⟩
def kCn : Kd Cn := ⟨CnOk, fun c b => c.fields ≠ [] ∧ b = vBlock c.fv, fun h hb => by rw [hb.2]; exact h.fieldsAt.blkLt (by decide) hb.1,
  fun h hb => { h with fieldsAt := h.fieldsAt.keepB fun hne => hb _ ⟨map_ne hne, rfl⟩ }⟩
def kDat : Kd Dat := ⟨DatOk, fun d b => (d.cons ≠ [] ∧ b = vBlock d.cv) ∨ ∃ c ∈ d.cons, kCn.blk c b, fun h hb => by
    rcases hb with h1 | ⟨c, hc, h1⟩
    · rw [h1.2]; exact h.consAt.blkLt (by decide) h1.1
    · exact kCn.lt (h.conOk c hc) h1,
  fun h hb => { h with consAt := h.consAt.keepB fun hne => hb _ (.inl ⟨map_ne hne, rfl⟩), conOk := fun c hc => kCn.keep (h.conOk c hc) fun b hx => hb b (.inr ⟨c, hc, hx⟩) }⟩
def kEff : Kd Eff := ⟨EffOk, fun d b => d.ops ≠ [] ∧ b = vBlock d.ov, fun h hb => by rw [hb.2]; exact h.opsAt.blkLt (by decide) hb.1,
  fun h hb => { h with opsAt := h.opsAt.keepB fun hne => hb _ ⟨map_ne hne, rfl⟩ }⟩
def intKB (P : Program) (t : TypeId) : Option IntKind := match P.underlying t with | some (.int k) => some k | _ => none
theorem underlying_intK {P : Program} {t : TypeId} {k : IntKind} (h : intKB P t = some k) : P.underlying t = some (.int k) := by
  unfold intKB at h
  split at h
  · rename_i k' hk; cases h; exact hk
  · cases h
section
variable {P : Program} {N : Nat} {ds : List Deferred} {L : List (Nat × Value)} {w : World} {ops : Array Oper} {Q : Exit → Act → World → Prop} {rest : List Oper} {d : Nat}
  {ty : TypeId} {pos : String} {aft : Array Edge} {x y : Operand}
theorem At.minI {t t' : TypeId} {q q' : IntKind} {m n : Int} (hx : ev L x = some (.int q m)) (hy : ev L y = some (.int q' n)) (hN : Nat.blt d N = true) (k : At N ds ((d, .int q (if n < m then n else m)) :: L) (wpList P ops Q rest) w) :
    At N ds L (wpList P ops Q (⟨some d, .call ⟨.builtin .min, #[x, y], #[t, t']⟩, ty, pos, aft, none⟩ :: rest)) w :=
  At.op rfl rfl hN (fun a ha => by
    simp only [execOp, resolve, invoke, builtin, Sem.run_bind, Sem.run_pure, Result.andThen_ok, List.map_toArray, List.map_cons, List.map_nil, ha.ev hx, ha.ev hy, run_min_int2]) k
theorem At.convI {s t : TypeId} {q q' : IntKind} {n : Int} (hx : ev L x = some (.int q n)) (hs : intKB P s = some q) (ht : intKB P t = some q') (hN : Nat.blt d N = true) (k : At N ds ((d, .int q' (q'.wrap n)) :: L) (wpList P ops Q rest) w) :
    At N ds L (wpList P ops Q (⟨some d, .convert s t x, ty, pos, aft, none⟩ :: rest)) w :=
  At.op rfl rfl hN (fun a ha => by
    simp [execOp, ha.ev hx, convert, run_underlying (underlying_intK hs), run_underlying (underlying_intK ht), Conv.intToInt]) k
end
theorem flat_len' {α : Type} {f : α → Array Value} {sz : Nat} : ∀ {l : List α}, (∀ u ∈ l, (f u).size = sz) → ((l.map f).flatMap (·.toList)).length = l.length * sz := by
  intro l
  induction l with
  | nil => intro _; simp
  | cons a l ih =>
    intro h
    rw [List.map_cons, List.flatMap_cons, List.length_append, ih (fun u hu => h u (List.mem_cons_of_mem _ hu)), List.length_cons, Nat.add_mul]
    have := h a (by simp); simp only [Array.length_toList]; omega
theorem flat_set {α : Type} {f : α → Array Value} {sz : Nat} {l : List α} {i off : Nat} {x0 x1 : α} {cs : Array Value} {tail : List Value} (hl : ∀ u ∈ l, (f u).size = sz) (hi : l[i]? = some x0) (hcs : f x1 = splice (f x0) off cs) (ho : off + cs.size ≤ sz) :
    (((l.map f).flatMap (·.toList) ++ tail).take (i * sz + off) ++ cs.toList ++ ((l.map f).flatMap (·.toList) ++ tail).drop (i * sz + off + cs.size)) = ((l.set i x1).map f).flatMap (·.toList) ++ tail := by
  have hlt := lt_of_some hi
  have hx0 := hl x0 (List.mem_of_getElem? hi)
  have e0 : l = l.take i ++ x0 :: l.drop (i + 1) := by
    rw [← (List.getElem?_eq_some_iff.1 hi).2, List.getElem_cons_drop, List.take_append_drop]
  have e1 : l.set i x1 = l.take i ++ x1 :: l.drop (i + 1) := by rw [List.set_eq_take_append_cons_drop, if_pos hlt]
  have hA : (((l.take i).map f).flatMap (·.toList)).length = i * sz := by
    rw [flat_len' (fun u hu => hl u (List.mem_of_mem_take hu)), List.length_take]; congr 1; omega
  have hf1 : (f x1).toList = (f x0).toList.take off ++ cs.toList ++ (f x0).toList.drop (off + cs.size) := by rw [hcs]; rfl
  rw [e1]
  conv => lhs; rw [e0]
  simp only [List.map_append, List.map_cons, List.flatMap_append, List.flatMap_cons, hf1, List.append_assoc]
  generalize ((l.take i).map f).flatMap (·.toList) = A at hA ⊢
  generalize ((l.drop (i + 1)).map f).flatMap (·.toList) = B
  have hF : (f x0).toList.length = sz := by simpa using hx0
  generalize (f x0).toList = F at hF ⊢
  rw [List.take_append, List.take_of_length_le (by omega), hA, Nat.add_sub_cancel_left, List.take_append_of_le_length (by omega)]
  rw [List.drop_append, List.drop_eq_nil_of_le (by omega), hA, List.nil_append, show i * sz + off + cs.size - i * sz = off + cs.size by omega, List.drop_append_of_le_length (by omega)]
  simp [List.append_assoc]
theorem At.storeRow {α : Type} {P : Program} {N : Nat} {ds : List Deferred} {L : List (Nat × Value)} {w : World} {ops : Array Oper} {Q : Exit → Act → World → Prop} {rest : List Oper} {ty : TypeId} {pos : String} {aft : Array Edge} {x y : Operand}
    {t T : TypeId} {v u : Value} {f : α → Array Value} {sz i off o : Nat} {l : List α} {x0 : α} (x1 : α) (hx : ev L x = some (.pointer (some ⟨vBlock v, o, none⟩))) (hy : ev L y = some u) (hO : OwnR T sz f w v l) (hi : l[i]? = some x0) (hl : ∀ z ∈ l, (f z).size = sz)
    (ho : o = vOff v + i * sz + off) (hs : sizeB P t = some u.cells.size) (hcs : f x1 = splice (f x0) off u.cells) (hoff : off + u.cells.size ≤ sz) (h1 : u.cells.all (·.oneCell') = true)
    (k : ∀ w', OwnR T sz f w' v (l.set i x1) → AppR w w' v v → At N ds L (wpList P ops Q rest) w') :
    At N ds L (wpList P ops Q (⟨none, .store t x y, ty, pos, aft, none⟩ :: rest)) w := by
  have hlt := lt_of_some hi
  rcases hO.2 with ⟨_, h0⟩ | ⟨g, cap, cur, rfl, hbg, hg, hnc, hcm, hcsz, htake⟩
  · omega
  · simp only [vBlock, vOff, Nat.zero_add] at hx ho
    have hfl := flat_len' (f := f) hl
    have hmul : (i + 1) * sz ≤ l.length * sz := Nat.mul_le_mul_right _ hlt
    have hmul2 : l.length * sz ≤ cap * sz := Nat.mul_le_mul_right _ hnc
    rw [Nat.add_mul, Nat.one_mul] at hmul
    refine At.store hx hy hg hs (by omega) h1 (fun w' S => k w' ⟨?_, .inr ⟨g, cap, _, by rw [List.length_set], hbg, S.new, by rw [List.length_set]; exact hnc, hcm, ?_, ?_⟩⟩ ⟨S.grown, .inl rfl⟩)
    · rw [flat_len' (f := f) (fun z hz => ?_)]
      rcases List.mem_or_eq_of_mem_set hz with h2 | h2
      · exact hl z h2
      · rw [h2, hcs]
        have := hl x0 (List.mem_of_getElem? hi)
        unfold splice; simp; omega
    · unfold splice; simp; omega
    · have hsp : cur.toList = (l.map f).flatMap (·.toList) ++ cur.toList.drop (l.length * sz) := by rw [← htake, List.take_append_drop]
      have e : (splice cur o u.cells).toList = ((l.set i x1).map f).flatMap (·.toList) ++ cur.toList.drop (l.length * sz) := by
        unfold splice
        rw [ho]
        conv => lhs; rw [hsp]
        exact flat_set hl hi hcs hoff
      rw [e, List.length_set]
      have hlen2 : (((l.set i x1).map f).flatMap (·.toList)).length = l.length * sz := by
        rw [flat_len' (f := f) (fun z hz => ?_), List.length_set]
        rcases List.mem_or_eq_of_mem_set hz with h2 | h2
        · exact hl z h2
        · rw [h2, hcs]
          have := hl x0 (List.mem_of_getElem? hi)
          unfold splice; simp; omega
      rw [← hlen2]; exact List.take_left
theorem rows_take {α : Type} {w : World} {v : Value} {sz n : Nat} {l : List α} {f : α → Array Value} (h : RowsAt w v sz (l.map f)) (hn : n ≤ l.length) : RowsAt w (takeV v n) sz ((l.take n).map f) := by
  have := RowsAt.take h (h := n) (by simpa using hn)
  rw [← List.map_take] at this
  exact this
def Nin (o : Option Nat) (M : List (Option Nat)) : Prop := o ≠ none → o ∉ M
theorem Nin.nil (o : Option Nat) : Nin o [] := fun _ h => by cases h
theorem Nin.blk {o : Option Nat} {b : Nat} {M : List (Option Nat)} (h : some b ≠ o) (t : Nin o M) : Nin o (some b :: M) := fun hn hm => by
  rcases List.mem_cons.1 hm with e | e
  · exact h e.symm
  · exact t hn e
theorem Nin.own {o : Option Nat} {v : Value} {M : List (Option Nat)} (h : o ≠ none → v.ownBlock ≠ o) (t : Nin o M) : Nin o (v.ownBlock :: M) := fun hn hm => by
  rcases List.mem_cons.1 hm with e | e
  · exact h hn e.symm
  · exact t hn e
def IntsAt (w : World) (v : Value) (l : List Int) : Prop := RowsAt w v 1 (l.map fun n => #[Value.int .i64 n])
theorem IntsAt.ok {w : World} {v : Value} {l : List Int} (h : IntsAt w v l) : SlOk v l.length := by have := RowsAt.ok h; simpa using this
theorem IntsAt.keep {w w' : World} {v : Value} {l : List Int} (h : IntsAt w v l) (hB : Below w.heap.size w w') : IntsAt w' v l := RowsAt.keep h hB
theorem IntsAt.get {w : World} {v : Value} {l : List Int} (h : IntsAt w v l) {i : Nat} {n : Int} (hi : l[i]? = some n) : w.cell? ⟨vBlock v, vOff v + i * 1, none⟩ = some (.int .i64 n) := by
  have := RowsAt.at_ h i #[.int .i64 n] (by simp [hi]) 0 (.int .i64 n) rfl
  simpa using this
theorem IntsAt.len {w : World} {v : Value} {l : List Int} (h : IntsAt w v l) : l.length ≤ 9223372036854775807 := by have := RowsAt.len h; simpa using this
def bs (l : List UInt8) : ByteArray := ⟨l.toArray⟩
theorem bs_size (l : List UInt8) : (bs l).size = l.length := by simp [bs, ByteArray.size]
theorem bs_list (l : List UInt8) : (bs l).data.toList = l := by simp [bs]
theorem bs_of (s : ByteArray) : s = bs s.data.toList := by cases s; simp [bs]
theorem bs_inj {a b : List UInt8} : bs a = bs b ↔ a = b := ⟨fun h => by have := congrArg (fun s : ByteArray => s.data.toList) h; simpa [bs] using this, fun h => by rw [h]⟩
theorem bs_extract (l : List UInt8) (i j : Nat) : (bs l).extract i j = bs ((l.drop i).take (j - i)) := by
  apply ByteArray.ext
  simp only [bs, ByteArray.data_extract, List.extract_toArray, List.extract_eq_take_drop]
theorem bs_take (l : List UInt8) (n : Nat) : (bs l).extract 0 n = bs (l.take n) := by rw [bs_extract]; simp
theorem bs_drop (l : List UInt8) (n : Nat) : (bs l).extract n (bs l).size = bs (l.drop n) := by
  rw [bs_extract, bs_size, List.take_of_length_le (by simp)]
theorem bs_append (a b : List UInt8) : bs a ++ bs b = bs (a ++ b) := by
  apply ByteArray.ext
  simp [bs]
section
variable {P : Program} {N : Nat} {ds : List Deferred} {L : List (Nat × Value)} {w : World} {ops : Array Oper} {Q : Exit → Act → World → Prop} {rest : List Oper} {d : Nat}
  {ty : TypeId} {pos : String} {aft : Array Edge} {x y : Operand}
theorem At.lenB {t : TypeId} {l : List UInt8} (hx : ev L x = some (.string (bs l))) (ht : strB P t = true) (hN : Nat.blt d N = true) (k : At N ds ((d, .int .i64 (l.length : Int)) :: L) (wpList P ops Q rest) w) :
    At N ds L (wpList P ops Q (⟨some d, .call ⟨.builtin .len, #[x], #[t]⟩, ty, pos, aft, none⟩ :: rest)) w :=
  At.lenStr hx ht hN (by rw [bs_size]; exact k)
theorem At.indexB {t : TypeId} {l : List UInt8} {i : Nat} {u : UInt8} {q : IntKind} (hx : ev L x = some (.string (bs l))) (hy : ev L y = some (.int q (i : Int))) (hu : l[i]? = some u) (ht : strB P t = true) (hN : Nat.blt d N = true)
    (k : At N ds ((d, .int .u8 (u.toNat : Int)) :: L) (wpList P ops Q rest) w) :
    At N ds L (wpList P ops Q (⟨some d, .index t x y, ty, pos, aft, none⟩ :: rest)) w :=
  At.op rfl rfl hN (fun a ha => by
    have hlt : i < l.length := (List.getElem?_eq_some_iff.1 hu).1
    have hi : 0 ≤ (i : Int) ∧ (i : Int) < ((bs l).size : Int) := by rw [bs_size]; omega
    have h := run_index_string (P := P) w t (bs l) q (i : Int) (underlying_str ht)
    rw [dif_pos hi] at h
    have hg : ((bs l)[(i : Int).toNat]'(by rw [bs_size]; omega)) = u := by
      have := (List.getElem?_eq_some_iff.1 hu).2
      simp only [Int.toNat_natCast]
      show (bs l).data[i]'_ = u
      simp only [bs, List.getElem_toArray]
      exact this
    rw [hg] at h
    simp only [execOp, ha.ev hx, ha.ev hy, Sem.run_bind, h, Result.andThen_ok, Sem.run_pure]) k
theorem At.takeB {t : TypeId} {l : List UInt8} {h : Nat} {q : IntKind} (hx : ev L x = some (.string (bs l))) (hy : ev L y = some (.int q (h : Int))) (ht : strB P t = true) (hh : h ≤ l.length) (hN : Nat.blt d N = true)
    (k : At N ds ((d, .string (bs (l.take h))) :: L) (wpList P ops Q rest) w) :
    At N ds L (wpList P ops Q (⟨some d, .slice t x none (some y) none, ty, pos, aft, none⟩ :: rest)) w :=
  At.op rfl rfl hN (fun a ha => by
    have hu := underlying_str ht
    have := run_slice_string_h (P := P) w t (bs l) hu q (h : Int) (by omega) (by rw [bs_size]; omega)
    rw [Int.toNat_natCast, bs_take] at this
    simp only [execOp, ha.ev hx, ha.ev hy, Option.map_some, Option.map_none, run_sliceAt_string (P := P) w t _ _ _ _ hu, Sem.run_bind, this, Result.andThen_ok, Sem.run_pure]) k
theorem At.dropB {t : TypeId} {l : List UInt8} {h : Nat} {q : IntKind} (hx : ev L x = some (.string (bs l))) (hy : ev L y = some (.int q (h : Int))) (ht : strB P t = true) (hh : h ≤ l.length) (hN : Nat.blt d N = true)
    (k : At N ds ((d, .string (bs (l.drop h))) :: L) (wpList P ops Q rest) w) :
    At N ds L (wpList P ops Q (⟨some d, .slice t x (some y) none none, ty, pos, aft, none⟩ :: rest)) w :=
  At.op rfl rfl hN (fun a ha => by
    have hu := underlying_str ht
    have := run_slice_string_l (P := P) w t (bs l) hu q (h : Int) (by omega) (by rw [bs_size]; omega)
    rw [Int.toNat_natCast, bs_drop] at this
    simp only [execOp, ha.ev hx, ha.ev hy, Option.map_some, Option.map_none, run_sliceAt_string (P := P) w t _ _ _ _ hu, Sem.run_bind, this, Result.andThen_ok, Sem.run_pure]) k
theorem At.catB {a b : List UInt8} {u u' : TypeId} (hx : ev L x = some (.string (bs a))) (hy : ev L y = some (.string (bs b))) (hN : Nat.blt d N = true) (hl : a.length + b.length ≤ 9223372036854775807)
    (k : At N ds ((d, .string (bs (a ++ b))) :: L) (wpList P ops Q rest) w) :
    At N ds L (wpList P ops Q (⟨some d, .binOp .add u x y u', ty, pos, aft, none⟩ :: rest)) w :=
  At.cat hx hy hN (by rw [bs_size, bs_size]; exact hl) (by rw [bs_append]; exact k)
theorem At.eqB' {a b : List UInt8} {u u' : TypeId} (hx : ev L x = some (.string (bs a))) (hy : ev L y = some (.string (bs b))) (hN : Nat.blt d N = true) (k : At N ds ((d, .bool (decide (a = b))) :: L) (wpList P ops Q rest) w) :
    At N ds L (wpList P ops Q (⟨some d, .binOp .eql u x y u', ty, pos, aft, none⟩ :: rest)) w :=
  At.eqS hx hy hN (by rw [decide_eq_decide.2 bs_inj]; exact k)
theorem At.neB' {a b : List UInt8} {u u' : TypeId} (hx : ev L x = some (.string (bs a))) (hy : ev L y = some (.string (bs b))) (hN : Nat.blt d N = true) (k : At N ds ((d, .bool (!decide (a = b))) :: L) (wpList P ops Q rest) w) :
    At N ds L (wpList P ops Q (⟨some d, .binOp .neq u x y u', ty, pos, aft, none⟩ :: rest)) w :=
  At.neS hx hy hN (by rw [decide_eq_decide.2 bs_inj]; exact k)
theorem At.quoI {q : IntKind} {m n : Int} {u u' : TypeId} (hx : ev L x = some (.int q m)) (hy : ev L y = some (.int q n)) (h0 : n ≠ 0) (hN : Nat.blt d N = true) (k : At N ds ((d, .int q (q.wrap (m.tdiv n))) :: L) (wpList P ops Q rest) w) :
    At N ds L (wpList P ops Q (⟨some d, .binOp .quo u x y u', ty, pos, aft, none⟩ :: rest)) w :=
  At.op rfl rfl hN (fun a ha => by simp [execOp, ha.ev hx, ha.ev hy, eqGuard, binOp, Op.intDiv, h0]) k
def BytesAt (w : World) (v : Value) (l : List UInt8) : Prop := RowsAt w v 1 (l.map fun u => #[Value.int .u8 (u.toNat : Int)])
theorem At.toBytes {s t e : TypeId} {l : List UInt8} (hx : ev L x = some (.string (bs l))) (hs : strB P s = true) (ht : elemB P t = some e) (he : intKB P e = some .u8) (hl : l.length ≤ 8796093022208) (hN : Nat.blt d N = true)
    (k : ∀ b c w', w.heap.size ≤ b → Below w.heap.size w w' → BytesAt w' (.slice (some ⟨b, 0, none⟩) l.length c) l → At N ds ((d, .slice (some ⟨b, 0, none⟩) l.length c) :: L) (wpList P ops Q rest) w') :
    At N ds L (wpList P ops Q (⟨some d, .convert s t x, ty, pos, aft, none⟩ :: rest)) w := by
  have hrun := Lib.run_convert_string_bytes (P := P) w s t e (bs l) (underlying_str hs) (underlying_elem ht) (underlying_intK he)
  rw [bs_size] at hrun
  refine At.op (v := .slice (some ⟨w.heap.size, 0, none⟩) l.length (grownCap w l.length 0 e)) (w' := Lib.bytesWorld w e (bs l)) rfl rfl hN (fun a ha => by simp only [execOp, ha.ev hx, Sem.run_bind, hrun, Result.andThen_ok, Sem.run_pure]) (k w.heap.size (grownCap w l.length 0 e) _ lR ?_ ?_)
  · refine ⟨rfl, rfl, rfl, ?_, fun j hj => Lib.bytesWorld_at_old w e (bs l) j hj⟩
    rw [Lib.bytesWorld_size]; omega
  · have hcap : l.length ≤ grownCap w l.length 0 e := grownCap_ge w l.length 0 e
    refine ⟨.inr ⟨⟨w.heap.size, 0, none⟩, grownCap w l.length 0 e, by simp, by simpa using hcap, fun _ => rfl⟩, fun i cs hi => ?_, fun i cs hi j v hv => ?_, by simp; omega⟩
    · simp only [List.getElem?_map, Option.map_eq_some_iff] at hi
      obtain ⟨u, _, rfl⟩ := hi; rfl
    · simp only [List.getElem?_map, Option.map_eq_some_iff] at hi
      obtain ⟨u, hu, rfl⟩ := hi
      have hj : j = 0 := by have := (Array.getElem?_eq_some_iff.1 hv).1; simp at this; omega
      subst hj
      simp at hv
      subst hv
      have hlt := (List.getElem?_eq_some_iff.1 hu).1
      have := Lib.bytesWorld_cell w e (bs l) i (by rw [bs_size]; exact hlt)
      simp only [vBlock, vOff, Nat.zero_add, Nat.mul_one, Nat.add_zero]
      rw [this, bs_list]
      simp [List.getD, hu]
theorem BytesAt.get {l : List UInt8} {v : Value} (h : BytesAt w v l) {i : Nat} {u : UInt8} (hi : l[i]? = some u) : w.cell? ⟨vBlock v, vOff v + i * 1, none⟩ = some (.int .u8 (u.toNat : Int)) := by
  have := RowsAt.at_ h i #[.int .u8 (u.toNat : Int)] (by simp [hi]) 0 (.int .u8 (u.toNat : Int)) rfl
  simpa using this
theorem BytesAt.ok {l : List UInt8} {v : Value} (h : BytesAt w v l) : SlOk v l.length := by have := RowsAt.ok h; simpa using this
theorem BytesAt.keep {w' : World} {l : List UInt8} {v : Value} (h : BytesAt w v l) (hB : Below w.heap.size w w') : BytesAt w' v l := RowsAt.keep h hB
theorem BytesAt.below {w' : World} {l : List UInt8} {v : Value} (h : BytesAt w v l) (hB : Below w.heap.size w w') : BytesAt w' v l := RowsAt.keep h hB
theorem BytesAt.fresh {w' : World} {l : List UInt8} {v : Value} {b : Nat} {o : Obj} (h : BytesAt w v l) (hF : Fresh w w' b o) : BytesAt w' v l := h.keep hF.belowSelf
theorem BytesAt.drew {l : List UInt8} {v : Value} (h : BytesAt w v l) : BytesAt w.drew v l := h.keep (Below.drewB (Below.refl w.heap.size w))
end
def digB (u : UInt8) : Bool := decide (48 ≤ (u.toNat : Int)) && decide ((u.toNat : Int) ≤ 57)
def largB (u : UInt8) : Bool := decide (65 ≤ (u.toNat : Int)) && decide ((u.toNat : Int) ≤ 90)
def letB (u : UInt8) : Bool := (largB u || (decide (97 ≤ (u.toNat : Int)) && decide ((u.toNat : Int) ≤ 122))) || decide ((u.toNat : Int) = 95)
def nameB (u : UInt8) : Bool := letB u || digB u
def blkB (u : UInt8) : Bool := decide (0 ≤ Lib.indexByte [32, 9, 13, 10] u)
def lineB (u : UInt8) : Bool := !decide ((u.toNat : Int) = 10)
def whileN (p : UInt8 → Bool) (l : List UInt8) : Nat := (l.takeWhile p).length
theorem whileN_le (p : UInt8 → Bool) (l : List UInt8) : whileN p l ≤ l.length := by
  unfold whileN
  have h := congrArg List.length (List.takeWhile_append_dropWhile (p := p) (l := l))
  rw [List.length_append] at h; omega
theorem whileN_eq {p : UInt8 → Bool} : ∀ {l : List UInt8} {k : Nat}, k ≤ l.length → (∀ i x, i < k → l[i]? = some x → p x = true) → (∀ x, l[k]? = some x → p x = false) → whileN p l = k := by
  intro l
  induction l with
  | nil => intro k hk _ _; simp at hk; subst hk; rfl
  | cons a l ih =>
    intro k hk h1 h2
    unfold whileN
    cases k with
    | zero =>
      have := h2 a rfl
      rw [List.takeWhile_cons, this]; rfl
    | succ k =>
      have ha := h1 0 a (by omega) rfl
      rw [List.takeWhile_cons, ha, if_pos rfl, List.length_cons]
      have := ih (k := k) (by simpa using hk) (fun i x hi hx => h1 (i + 1) x (by omega) (by simpa using hx)) (fun x hx => h2 x (by simpa using hx))
      unfold whileN at this
      omega
theorem next_yes {p : UInt8 → Bool} {l : List UInt8} {k : Nat} {u : UInt8} (hn : ∀ i x, i < k → l[i]? = some x → p x = true) (hu : l[k]? = some u) (h : p u = true) : ∀ i x, i < k + 1 → l[i]? = some x → p x = true := by
  intro i x hi hx
  by_cases e : i = k
  · subst e; rw [hu] at hx; cases hx; exact h
  · exact hn i x (by omega) hx
theorem at_end {p : UInt8 → Bool} {l : List UInt8} {k : Nat} (h : ¬ (k : Int) < (l.length : Int)) : ∀ x, l[k]? = some x → p x = false := fun x hx => by have := lt_of_some hx; omega
theorem at_stop {p : UInt8 → Bool} {l : List UInt8} {k : Nat} {u : UInt8} (hu : l[k]? = some u) (h : p u = false) : ∀ x, l[k]? = some x → p x = false := fun x hx => by rw [hu] at hx; cases hx; exact h
def blank1 (l : List UInt8) : Nat :=
  if decide ((whileN blkB l : Int) = 0) then (match l with | [] => 0 | a :: _ => if decide ((a.toNat : Int) = 35) then whileN lineB l else 0) else whileN blkB l
def numGo (v : Nat) : List UInt8 → Option Nat
  | [] => some v
  | c :: r => if (9223372036854775807 - (c.toNat - 48)) / 10 < v then none else numGo (10 * v + (c.toNat - 48)) r
def digs (l : List UInt8) : List UInt8 := l.take (whileN digB l)
def tokCs (k : Int) (t : List UInt8) (n a : Int) : Array Value := #[.int .i64 k, .string (bs t), .int .i64 n, .int .i64 a]
def zeroTok : Array Value := #[.int .i64 0, .string (⟨#[]⟩ : ByteArray), .int .i64 0, .int .i64 0]
def numV (l : List UInt8) : Value := match numGo 0 (digs l) with
  | none => .tuple #[.agg zeroTok, .int .i64 0, .bool false]
  | some v => .tuple #[.agg (tokCs 1 (digs l) (v : Int) 0), .int .i64 (whileN digB l : Int), .bool true]
theorem digs_dig {l : List UInt8} {i : Nat} {c : UInt8} (h : (digs l)[i]? = some c) : digB c = true := by
  have h1 : digs l = l.takeWhile digB := by
    unfold digs whileN
    conv => lhs; arg 2; rw [← List.takeWhile_append_dropWhile (p := digB) (l := l)]
    rw [List.take_left]
  rw [h1] at h
  exact List.all_eq_true.1 (List.all_takeWhile) c (List.mem_of_getElem? h)
theorem dig_range {c : UInt8} (h : digB c = true) : 48 ≤ c.toNat ∧ c.toNat ≤ 57 := by
  unfold digB at h
  simp only [Bool.and_eq_true, decide_eq_true_eq] at h
  omega
theorem numGo_step {v : Nat} {l : List UInt8} {i : Nat} {c : UInt8} (h : l[i]? = some c) : numGo v (l.drop i) = if (9223372036854775807 - (c.toNat - 48)) / 10 < v then none else numGo (10 * v + (c.toNat - 48)) (l.drop (i + 1)) := by
  have hk := lt_of_some h
  rw [List.drop_eq_getElem_cons hk, (List.getElem?_eq_some_iff.1 h).2, numGo]
theorem sub48 {c : UInt8} (h : digB c = true) : IntKind.i64.wrap (IntKind.u8.wrap ((c.toNat : Int) - 48)) = ((c.toNat - 48 : Nat) : Int) := by
  have h1 := dig_range h
  have h2 : IntKind.u8.wrap ((c.toNat : Int) - 48) = ((c.toNat - 48 : Nat) : Int) := by
    have : (c.toNat : Int) - 48 = ((c.toNat - 48 : Nat) : Int) := by omega
    rw [this]
    have h3 : c.toNat - 48 ≤ 9 := by omega
    generalize c.toNat - 48 = m at h3
    have : m = 0 ∨ m = 1 ∨ m = 2 ∨ m = 3 ∨ m = 4 ∨ m = 5 ∨ m = 6 ∨ m = 7 ∨ m = 8 ∨ m = 9 := by omega
    rcases this with rfl | rfl | rfl | rfl | rfl | rfl | rfl | rfl | rfl | rfl <;> decide
  rw [h2]
  exact wrap64_id _ (by omega)
theorem quo10 {a : Nat} (h : a ≤ 9) : IntKind.i64.wrap ((9223372036854775807 - (a : Int)).tdiv 10) = (((9223372036854775807 - a) / 10 : Nat) : Int) := by
  have h1 : (9223372036854775807 - (a : Int)) = ((9223372036854775807 - a : Nat) : Int) := by omega
  rw [h1]
  have h2 : ((9223372036854775807 - a : Nat) : Int).tdiv 10 = (((9223372036854775807 - a) / 10 : Nat) : Int) := by
    rw [Int.tdiv_eq_ediv_of_nonneg (by omega)]; rfl
  rw [h2]
  exact wrap64_id _ (by omega)
def keysL : List UInt8 := [32, 102, 117, 110, 32, 108, 101, 116, 32, 105, 110, 32, 114, 101, 99, 32, 105, 102, 32, 116, 104, 101, 110, 32, 101, 108, 115, 101, 32, 109, 97, 116, 99, 104, 32, 104, 97, 110, 100, 108, 101, 32, 114, 101, 116, 117, 114, 110, 32, 101, 102, 102, 101, 99, 116, 32, 100, 97, 116, 97, 32, 112, 114, 105, 110, 116, 32, 114, 101, 97, 100, 32, 114, 101, 102, 32, 116, 114, 117, 101, 32, 102, 97, 108, 115, 101, 32, 105, 110, 116, 32, 98, 111, 111, 108, 32, 117, 110, 105, 116, 32]
def kwB (t : List UInt8) : Bool := Lib.contains keysL (([32] ++ t) ++ [32])
def nameV (l : List UInt8) : Value :=
  if decide (60 < (whileN nameB l : Int)) then .tuple #[.agg (tokCs 2 (l.take (whileN nameB l)) 0 0), .int .i64 0, .bool false]
  else if largB (l.getD 0 0) then .tuple #[.agg (tokCs 3 (l.take (whileN nameB l)) 0 0), .int .i64 (whileN nameB l : Int), .bool true]
  else if kwB (l.take (whileN nameB l)) then .tuple #[.agg (tokCs 4 (l.take (whileN nameB l)) 0 0), .int .i64 (whileN nameB l : Int), .bool true]
  else if decide ((whileN nameB l : Int) < (l.length : Int)) && decide (((l.getD (whileN nameB l) 0).toNat : Int) = 33) then .tuple #[.agg (tokCs 6 (l.take (whileN nameB l)) 0 0), .int .i64 ((whileN nameB l : Int) + 1), .bool true]
  else .tuple #[.agg (tokCs 2 (l.take (whileN nameB l)) 0 0), .int .i64 (whileN nameB l : Int), .bool true]
theorem getD_of {l : List UInt8} {i : Nat} {u : UInt8} (h : l[i]? = some u) : l.getD i 0 = u := by simp [List.getD, h]
theorem numV_none {l : List UInt8} (h : numGo 0 (digs l) = none) : numV l = .tuple #[.agg zeroTok, .int .i64 0, .bool false] := by unfold numV; rw [h]
theorem numV_some {l : List UInt8} {v : Nat} (h : numGo 0 (digs l) = some v) : numV l = .tuple #[.agg (tokCs 1 (digs l) (v : Int) 0), .int .i64 (whileN digB l : Int), .bool true] := by unfold numV; rw [h]
def signsS : List ByteArray := [⟨#[45, 62]⟩, ⟨#[58, 61]⟩, ⟨#[40]⟩, ⟨#[41]⟩, ⟨#[123]⟩, ⟨#[125]⟩, ⟨#[44]⟩, ⟨#[59]⟩, ⟨#[58]⟩, ⟨#[61]⟩, ⟨#[43]⟩, ⟨#[45]⟩, ⟨#[42]⟩, ⟨#[47]⟩, ⟨#[60]⟩, ⟨#[33]⟩]
def preB (l : List UInt8) (x : ByteArray) : Bool := Lib.hasPrefix l x.data.toList
def signV (l : List UInt8) : Value := match signsS.find? (preB l) with
  | none => .tuple #[.agg zeroTok, .int .i64 0, .bool false]
  | some x => .tuple #[.agg #[.int .i64 5, .string x, .int .i64 0, .int .i64 0], .int .i64 (x.size : Int), .bool true]
theorem idx_none {α : Type} {p : α → Bool} {l : List α} (h : idxI p l < 0) : l.find? p = none := by
  cases hf : l.findIdx? p with
  | none =>
    rw [List.find?_eq_none]
    rw [List.findIdx?_eq_none_iff] at hf
    intro x hx; simpa using hf x hx
  | some i => unfold idxI at h; rw [hf] at h; simp at h; omega
theorem idx_some {α : Type} {p : α → Bool} {l : List α} (h : ¬ idxI p l < 0) : ∃ (j : Nat) (x : α), idxI p l = (j : Int) ∧ l[j]? = some x ∧ l.find? p = some x := by
  cases hf : l.findIdx? p with
  | none => unfold idxI at h; rw [hf] at h; simp at h
  | some i =>
    have h1 := List.findIdx?_eq_some_iff_getElem.1 hf
    obtain ⟨hlt, hp, hb⟩ := h1
    refine ⟨i, l[i], by unfold idxI; rw [hf], List.getElem?_eq_getElem hlt, ?_⟩
    rw [List.find?_eq_some_iff_getElem]
    exact ⟨hp, i, hlt, rfl, fun j hj => by simpa using hb j hj⟩
theorem signV_none {l : List UInt8} (h : signsS.find? (preB l) = none) : signV l = .tuple #[.agg zeroTok, .int .i64 0, .bool false] := by unfold signV; rw [h]
theorem signV_some {l : List UInt8} {x : ByteArray} (h : signsS.find? (preB l) = some x) : signV l = .tuple #[.agg #[.int .i64 5, .string x, .int .i64 0, .int .i64 0], .int .i64 (x.size : Int), .bool true] := by unfold signV; rw [h]
theorem StrsAt.rs {bs : List (Nat × Obj)} {a b : World} {v : Value} {ss : List ByteArray} (h : StrsAt a v ss) (hR : RS bs a b) (hn : ∀ p ∈ bs, vBlock v ≠ p.1) : StrsAt b v ss :=
  RowsAt.keepB h fun hne => by
    have hne' : ss ≠ [] := fun e => hne (by rw [e]; rfl)
    have hlt := StrsAt.lt h hne'
    rw [hR.old _ _ hn (Array.getElem?_eq_getElem hlt)]
    exact (Array.getElem?_eq_getElem hlt).symm
structure Tk where
  k : Int
  t : List UInt8
  n : Int
  a : Int
def Tk.cs (x : Tk) : Array Value := tokCs x.k x.t x.n x.a
structure TkOk (x : Tk) : Prop where
  size : x.cs.size = 4
  one : x.cs.all (·.oneCell') = true
  c0 : x.cs[0]? = some (.int .i64 x.k)
  c1 : x.cs[1]? = some (.string (bs x.t))
  c2 : x.cs[2]? = some (.int .i64 x.n)
  c3 : x.cs[3]? = some (.int .i64 x.a)
theorem tk_ok (x : Tk) : TkOk x := ⟨rfl, by simp [Tk.cs, tokCs, Value.oneCell'], rfl, rfl, rfl, rfl⟩
inductive Rl | d | l | s
def Rl.b : Rl → FuncId | .d => 50 | .l => 52 | .s => 54
def Rl.t : Rl → FuncId | .d => 51 | .l => 53 | .s => 55
def Rl.cs (r : Rl) : Array Value := #[.func (.func r.b) #[] #[], .func (.func r.t) #[] #[]]
structure RlOk (r : Rl) : Prop where
  size : r.cs.size = 2
  one : r.cs.all (·.oneCell') = true
  c0 : r.cs[0]? = some (.func (.func r.b) #[] ([] : List Value).toArray)
  c1 : r.cs[1]? = some (.func (.func r.t) #[] ([] : List Value).toArray)
theorem rl_ok (r : Rl) : RlOk r := ⟨rfl, by simp [Rl.cs, Value.oneCell'], rfl, rfl⟩
theorem mem1 {α : Type} {Q : α → Prop} {a : α} (h : Q a) : ∀ u ∈ [a], Q u := by intro u hu; simp at hu; rw [hu]; exact h
theorem mem3 {α : Type} {Q : α → Prop} {a b c : α} (h1 : Q a) (h2 : Q b) (h3 : Q c) : ∀ u ∈ [a, b, c], Q u := by
  intro u hu; simp at hu; rcases hu with rfl | rfl | rfl <;> assumption
def begB : Rl → UInt8 → Bool
  | .d, u => digB u
  | .l, u => letB u
  | .s, _ => true
structure WR where
  tok : Tk
  n : Nat
  ok : Bool
def WR.val (r : WR) : Value := .tuple #[.agg r.tok.cs, .int .i64 (r.n : Int), .bool r.ok]
def numR (l : List UInt8) : WR := match numGo 0 (digs l) with
  | none => ⟨⟨0, [], 0, 0⟩, 0, false⟩
  | some v => ⟨⟨1, digs l, v, 0⟩, whileN digB l, true⟩
def nameT (l : List UInt8) : List UInt8 := l.take (whileN nameB l)
def nameR (l : List UInt8) : WR :=
  if 60 < whileN nameB l then ⟨⟨2, nameT l, 0, 0⟩, 0, false⟩
  else if largB (l.getD 0 0) then ⟨⟨3, nameT l, 0, 0⟩, whileN nameB l, true⟩
  else if kwB (nameT l) then ⟨⟨4, nameT l, 0, 0⟩, whileN nameB l, true⟩
  else if whileN nameB l < l.length ∧ (l.getD (whileN nameB l) 0).toNat = 33 then ⟨⟨6, nameT l, 0, 0⟩, whileN nameB l + 1, true⟩
  else ⟨⟨2, nameT l, 0, 0⟩, whileN nameB l, true⟩
def signR (l : List UInt8) : WR := match signsS.find? (preB l) with
  | none => ⟨⟨0, [], 0, 0⟩, 0, false⟩
  | some x => ⟨⟨5, x.data.toList, 0, 0⟩, x.size, true⟩
theorem numV_eq (l : List UInt8) : numV l = (numR l).val := by
  unfold numV numR
  cases numGo 0 (digs l) <;> rfl
theorem nameV_eq (l : List UInt8) : nameV l = (nameR l).val := by
  unfold nameV nameR nameT
  have h1 : (decide (60 < (whileN nameB l : Int)) = true) = (60 < whileN nameB l) := by simp; omega
  have h2 : ((decide ((whileN nameB l : Int) < (l.length : Int)) && decide (((l.getD (whileN nameB l) 0).toNat : Int) = 33)) = true) = (whileN nameB l < l.length ∧ (l.getD (whileN nameB l) 0).toNat = 33) := by
    simp only [Bool.and_eq_true, decide_eq_true_eq]
    apply propext; constructor <;> (intro h; omega)
  simp only [h1, h2]
  repeat' split
  all_goals first | rfl | (unfold WR.val Tk.cs; simp)
theorem signV_eq (l : List UInt8) : signV l = (signR l).val := by
  unfold signV signR
  cases signsS.find? (preB l) with
  | none => rfl
  | some x => show _ = Value.tuple #[.agg #[.int .i64 5, .string (bs x.data.toList), .int .i64 0, .int .i64 0], _, _]; rw [← bs_of x]
def takR : Rl → List UInt8 → WR
  | .d, l => numR l
  | .l, l => nameR l
  | .s, l => signR l
def ruleOf (u : UInt8) : Rl := if digB u then .d else if letB u then .l else .s
theorem rule_at (u : UInt8) : ∃ j : Nat, idxI (fun r => begB r u) [Rl.d, Rl.l, Rl.s] = (j : Int) ∧ [Rl.d, Rl.l, Rl.s][j]? = some (ruleOf u) := by
  unfold ruleOf idxI
  rw [List.findIdx?_cons, List.findIdx?_cons, List.findIdx?_cons]
  by_cases h1 : digB u = true
  · exact ⟨0, by rw [if_pos (show begB Rl.d u = true from h1)], by rw [if_pos h1]; first | done | rfl⟩
  · have h1' : ¬ begB Rl.d u = true := h1
    by_cases h2 : letB u = true
    · exact ⟨1, by rw [if_neg h1', if_pos (show begB Rl.l u = true from h2)]; rfl, by rw [if_neg h1, if_pos h2]; rfl⟩
    · have h2' : ¬ begB Rl.l u = true := h2
      exact ⟨2, by rw [if_neg h1', if_neg h2', if_pos (show begB Rl.s u = true from rfl)]; rfl, by rw [if_neg h1, if_neg h2]; rfl⟩
def wordR (l : List UInt8) : WR := takR (ruleOf (l.getD 0 0)) l
theorem whileN_pos {p : UInt8 → Bool} {u : UInt8} {l : List UInt8} (h : p u = true) : 0 < whileN p (u :: l) := by
  unfold whileN; rw [List.takeWhile_cons, if_pos h]; simp
theorem word_le {l : List UInt8} (hl : l ≠ []) (hk : (wordR l).ok = true) : 0 < (wordR l).n ∧ (wordR l).n ≤ l.length := by
  obtain ⟨u, r, rfl⟩ := List.exists_cons_of_ne_nil hl
  unfold wordR ruleOf at hk ⊢
  simp only [List.getD_cons_zero] at hk ⊢
  by_cases h1 : digB u = true
  · rw [if_pos h1] at hk ⊢
    simp only [takR] at hk ⊢
    unfold numR at hk ⊢
    cases hn : numGo 0 (digs (u :: r)) with
    | none => rw [hn] at hk; simp at hk
    | some v => exact ⟨whileN_pos h1, whileN_le _ _⟩
  · rw [if_neg h1] at hk ⊢
    by_cases h2 : letB u = true
    · rw [if_pos h2] at hk ⊢
      have hp : 0 < whileN nameB (u :: r) := whileN_pos (by unfold nameB; rw [h2]; rfl)
      have hle := whileN_le nameB (u :: r)
      simp only [takR] at hk ⊢
      unfold nameR at hk ⊢
      split at hk
      · simp at hk
      · rw [if_neg (by assumption)]
        repeat' split
        all_goals (dsimp only; omega)
    · rw [if_neg h2] at hk ⊢
      simp only [takR] at hk ⊢
      unfold signR at hk ⊢
      cases hf : signsS.find? (preB (u :: r)) with
      | none => rw [hf] at hk; simp at hk
      | some x =>
        have hm := List.mem_of_find?_eq_some hf
        have hp : preB (u :: r) x = true := List.find?_some hf
        refine ⟨?_, ?_⟩
        · simp only [signsS, List.mem_cons, List.not_mem_nil, or_false] at hm
          rcases hm with rfl | rfl | rfl | rfl | rfl | rfl | rfl | rfl | rfl | rfl | rfl | rfl | rfl | rfl | rfl | rfl <;> decide
        · have := Lib.hasPrefix_le hp
          have e : x.data.toList.length = x.size := by cases x; simp [ByteArray.size]
          show x.size ≤ (u :: r).length
          rw [← e]; exact this
theorem blank1_le (l : List UInt8) : blank1 l ≤ l.length := by
  unfold blank1
  split
  · cases l with
    | nil => simp
    | cons a r => dsimp only; split; exact whileN_le _ _; simp
  · exact whileN_le _ _
def skip (l : List UInt8) : List UInt8 := if h : blank1 l = 0 then l else skip (l.drop (blank1 l))
termination_by l.length
decreasing_by
  have := blank1_le l
  simp only [List.length_drop]; omega
theorem skip_zero {l : List UInt8} (h : blank1 l = 0) : skip l = l := by rw [skip]; rw [dif_pos h]
theorem skip_more {l : List UInt8} (h : blank1 l ≠ 0) : skip l = skip (l.drop (blank1 l)) := by conv => lhs; rw [skip]; rw [dif_neg h]
theorem skip_le : ∀ (n : Nat) (l : List UInt8), l.length ≤ n → (skip l).length ≤ l.length := by
  intro n
  induction n with
  | zero => intro l hl; have : l = [] := List.length_eq_zero_iff.1 (by omega); subst this; rw [skip_zero rfl]; exact Nat.le_refl _
  | succ n ih =>
    intro l hl
    by_cases h : blank1 l = 0
    · rw [skip_zero h]; exact Nat.le_refl _
    · rw [skip_more h]
      have h2 := blank1_le l
      have := ih (l.drop (blank1 l)) (by simp only [List.length_drop]; omega)
      simp only [List.length_drop] at this; omega
inductive LR
  | ok (ts : List Tk)
  | bad (a : Nat)
def LR.pre (out : List Tk) : LR → LR
  | .ok ts => .ok (out ++ ts)
  | .bad a => .bad a
def Tk.put (t : Tk) (a : Nat) : Tk := { t with a := (a : Int) }
def lexW (a : Nat) (l : List UInt8) : LR :=
  if h : skip l = [] then .ok []
  else if (wordR (skip l)).ok then
    LR.pre [(wordR (skip l)).tok.put (a + (l.length - (skip l).length))] (lexW (a + (l.length - (skip l).length) + (wordR (skip l)).n) ((skip l).drop (max 1 (wordR (skip l)).n)))
  else .bad (a + (l.length - (skip l).length))
termination_by l.length
decreasing_by
  have h1 := skip_le _ l (Nat.le_refl _)
  have h2 : 0 < (skip l).length := List.length_pos_iff.2 h
  simp only [List.length_drop]; omega
theorem lexW_end {a : Nat} {l : List UInt8} (h : skip l = []) : lexW a l = .ok [] := by rw [lexW]; rw [dif_pos h]
theorem lexW_bad {a : Nat} {l : List UInt8} (h : skip l ≠ []) (hk : (wordR (skip l)).ok = false) : lexW a l = .bad (a + (l.length - (skip l).length)) := by
  rw [lexW]; rw [dif_neg h, if_neg (by rw [hk]; decide)]
theorem lexW_word {a : Nat} {l : List UInt8} (h : skip l ≠ []) (hk : (wordR (skip l)).ok = true) : lexW a l = LR.pre [(wordR (skip l)).tok.put (a + (l.length - (skip l).length))] (lexW (a + (l.length - (skip l).length) + (wordR (skip l)).n) ((skip l).drop (wordR (skip l)).n)) := by
  have := (word_le h hk).1
  rw [lexW]; rw [dif_neg h, if_pos hk]
  rw [show max 1 (wordR (skip l)).n = (wordR (skip l)).n by omega]
theorem LR.pre_pre (a b : List Tk) (x : LR) : LR.pre a (LR.pre b x) = LR.pre (a ++ b) x := by cases x <;> simp [LR.pre]
theorem lexW_same {a : Nat} {l : List UInt8} (h : blank1 l ≠ 0) : lexW a l = lexW (a + blank1 l) (l.drop (blank1 l)) := by
  have h1 := blank1_le l
  have h2 := skip_le _ (l.drop (blank1 l)) lR
  rw [← skip_more h] at h2
  simp only [List.length_drop] at h2
  have e : a + blank1 l + ((l.drop (blank1 l)).length - (skip (l.drop (blank1 l))).length) = a + (l.length - (skip l).length) := by
    rw [← skip_more h, List.length_drop]; omega
  by_cases hs : skip l = []
  · rw [lexW_end hs, lexW_end (by rw [← skip_more h]; exact hs)]
  · have hs' : skip (l.drop (blank1 l)) ≠ [] := by rw [← skip_more h]; exact hs
    cases hk : (wordR (skip l)).ok with
    | false =>
      have hk' : (wordR (skip (l.drop (blank1 l)))).ok = false := by rw [← skip_more h]; exact hk
      rw [lexW_bad hs hk, lexW_bad hs' hk', e]
    | true =>
      have hk' : (wordR (skip (l.drop (blank1 l)))).ok = true := by rw [← skip_more h]; exact hk
      rw [lexW_word hs hk, lexW_word hs' hk', e]
      simp only [← skip_more h]
theorem drop_ne {l : List UInt8} {a : Nat} {u : UInt8} (h : l[a]? = some u) : l.drop a ≠ [] := fun e => by
  have := lt_of_some h
  have := congrArg List.length e
  simp only [List.length_drop, List.length_nil] at this; omega
theorem wordR_at {l : List UInt8} {a : Nat} {u : UInt8} (h : l[a]? = some u) : wordR (l.drop a) = takR (ruleOf u) (l.drop a) := by
  unfold wordR
  congr 2
  rw [List.getD_eq_getElem?_getD, List.getElem?_drop, Nat.add_zero, h]; rfl
def lexT (l : List UInt8) : List Tk := if 1048576 < l.length then [] else match lexW 0 l with | .ok ts => ts | .bad _ => []
def lexA (l : List UInt8) : Nat := if 1048576 < l.length then 0 else match lexW 0 l with | .ok _ => 0 | .bad a => a
def lexE (l : List UInt8) : Int := if 1048576 < l.length then 6 else match lexW 0 l with | .ok _ => 0 | .bad _ => 2
theorem lex_big {l : List UInt8} (h : 1048576 < l.length) : lexT l = [] ∧ lexA l = 0 ∧ lexE l = 6 := by unfold lexT lexA lexE; rw [if_pos h, if_pos h, if_pos h]; exact ⟨rfl, rfl, rfl⟩
theorem lex_ok {l : List UInt8} {ts : List Tk} (h : ¬ 1048576 < l.length) (k : lexW 0 l = .ok ts) : lexT l = ts ∧ lexA l = 0 ∧ lexE l = 0 := by unfold lexT lexA lexE; rw [if_neg h, if_neg h, if_neg h, k]; exact ⟨rfl, rfl, rfl⟩
theorem lex_bad {l : List UInt8} {a : Nat} (h : ¬ 1048576 < l.length) (k : lexW 0 l = .bad a) : lexT l = [] ∧ lexA l = a ∧ lexE l = 2 := by unfold lexT lexA lexE; rw [if_neg h, if_neg h, if_neg h, k]; exact ⟨rfl, rfl, rfl⟩
def LexI (l : List UInt8) (out : List Tk) (a : Nat) : Prop := a ≤ l.length ∧ lexW 0 l = LR.pre out (lexW a (l.drop a)) ∧ out.length ≤ a
theorem LexI.zero (l : List UInt8) : LexI l [] 0 := ⟨Nat.zero_le _, by cases h : lexW 0 l <;> simp [LR.pre, h], Nat.le_refl _⟩
theorem LexI.blank {l : List UInt8} {out : List Tk} {a : Nat} (h : LexI l out a) (hb : 0 < blank1 (l.drop a)) : LexI l out (a + blank1 (l.drop a)) := by
  obtain ⟨h1, h2, h3⟩ := h
  have := blank1_le (l.drop a)
  simp only [List.length_drop] at this
  refine ⟨by omega, ?_, by omega⟩
  rw [h2, lexW_same (by omega), List.drop_drop]
theorem LexI.stop {l : List UInt8} {out : List Tk} {a : Nat} (h : LexI l out a) (hb : ¬ 0 < blank1 (l.drop a)) (he : a = l.length) : lexW 0 l = .ok out := by
  obtain ⟨h1, h2, h3⟩ := h
  have e : l.drop a = [] := List.drop_eq_nil_of_le (by omega)
  rw [h2, e, lexW_end (by rw [skip_zero rfl])]
  simp [LR.pre]
theorem LexI.bad {l : List UInt8} {out : List Tk} {a : Nat} {u : UInt8} (h : LexI l out a) (hb : ¬ 0 < blank1 (l.drop a)) (hu : l[a]? = some u) (hk : (takR (ruleOf u) (l.drop a)).ok = false) : lexW 0 l = .bad a := by
  obtain ⟨h1, h2, h3⟩ := h
  have e : skip (l.drop a) = l.drop a := skip_zero (by omega)
  rw [h2, lexW_bad (by rw [e]; exact drop_ne hu) (by rw [e, wordR_at hu]; exact hk), e]
  simp [LR.pre]
theorem take_le {l : List UInt8} {a : Nat} {u : UInt8} (hu : l[a]? = some u) (hk : (takR (ruleOf u) (l.drop a)).ok = true) : 0 < (takR (ruleOf u) (l.drop a)).n ∧ a + (takR (ruleOf u) (l.drop a)).n ≤ l.length := by
  have := word_le (drop_ne hu) (by rw [wordR_at hu]; exact hk)
  rw [wordR_at hu, List.length_drop] at this
  omega
theorem LexI.word {l : List UInt8} {out : List Tk} {a : Nat} {u : UInt8} (h : LexI l out a) (hb : ¬ 0 < blank1 (l.drop a)) (hu : l[a]? = some u) (hk : (takR (ruleOf u) (l.drop a)).ok = true) : LexI l (out ++ [(takR (ruleOf u) (l.drop a)).tok.put a]) (a + (takR (ruleOf u) (l.drop a)).n) := by
  have hw := take_le hu hk
  obtain ⟨h1, h2, h3⟩ := h
  have e : skip (l.drop a) = l.drop a := skip_zero (by omega)
  refine ⟨hw.2, ?_, by simp only [List.length_append, List.length_cons, List.length_nil]; omega⟩
  rw [h2, lexW_word (by rw [e]; exact drop_ne hu) (by rw [e, wordR_at hu]; exact hk), LR.pre_pre]
  simp only [e, wordR_at hu, Nat.sub_self, Nat.add_zero, List.drop_drop]
theorem At.ofBytes {P : Program} {N : Nat} {ds : List Deferred} {L : List (Nat × Value)} {w : World} {ops : Array Oper} {Q : Exit → Act → World → Prop} {rest : List Oper} {d : Nat}
    {ty : TypeId} {pos : String} {aft : Array Edge} {x : Operand} {s t e : TypeId} {l : List UInt8} {v : Value} (hx : ev L x = some v) (hv : BytesAt w v l) (hs : elemB P s = some e) (he : intKB P e = some .u8) (ht : strB P t = true) (hN : Nat.blt d N = true)
    (k : At N ds ((d, .string (bs l)) :: L) (wpList P ops Q rest) w) :
    At N ds L (wpList P ops Q (⟨some d, .convert s t x, ty, pos, aft, none⟩ :: rest)) w :=
  At.op rfl rfl hN (fun a ha => by
    have h : (convert s t v).run P w = .ok (.string (bs l)) w := by
      have hz : strOfNums (l.map fun u => (u.toNat : Int)) = bs l := by
        unfold strOfNums bs
        simp only [List.map_map]
        congr 2
        have : ((fun n : Int => UInt8.ofNat n.toNat) ∘ fun u : UInt8 => (u.toNat : Int)) = id := by funext u; simp
        rw [this, List.map_id]
      rcases BytesAt.ok hv with ⟨rfl, hn⟩ | ⟨⟨b, o, sp⟩, c, rfl, hc, hsp⟩
      · have : l = [] := List.length_eq_zero_iff.1 hn
        subst this
        exact run_convert_bytes_nil (P := P) w s e (underlying_elem hs) (underlying_intK he) 0 0 t (underlying_str ht)
      · by_cases h0 : l = []
        · subst h0
          have hl : (loadCells ⟨b, o, sp⟩ 0).run P w = .ok #[] w := by unfold loadCells; rfl
          rw [run_convert_bytes_string w s t e _ _ c (underlying_elem hs) (underlying_intK he) (underlying_str ht)]
          have := run_bytesToString (P := P) w ⟨b, o, sp⟩ 0 c [] (by simpa using hl)
          exact this
        · have hlt : 0 < l.length := List.length_pos_iff.2 h0
          have hsp' := hsp hlt
          simp at hsp'
          subst hsp'
          have := run_convert_bytes_arg (P := P) w s e (underlying_elem hs) (underlying_intK he) b o l.length c (l.map fun u => (u.toNat : Int)) (by simp) (fun i hi => by
            have := BytesAt.get hv (List.getElem?_eq_getElem hi)
            simp only [vBlock, vOff, Nat.mul_one] at this
            rw [this]; simp [List.getD, hi]) t (underlying_str ht)
          rw [this, hz]
    simp only [execOp, ha.ev hx, Sem.run_bind, h, Result.andThen_ok, Sem.run_pure]) k
structure STy where
  k : Int
  nm : ByteArray
structure SOp where
  nm : ByteArray
  arg : STy
  res : STy
structure SEff where
  nm : ByteArray
  ops : List SOp
structure SCn where
  nm : ByteArray
  fields : List STy
structure SDat where
  nm : ByteArray
  cons : List SCn
mutual
inductive ST
  | mk (k at_ : Int) (nm pm : ByteArray) (n : Int) (kids : List ST) (arms : List SA)
inductive SA
  | mk (nm : ByteArray) (vars : List ByteArray) (body : ST)
end
structure SPr where
  effs : List SEff
  dats : List SDat
  body : ST
def ST.at_ : ST → Int | .mk _ a _ _ _ _ _ => a
def ST.k : ST → Int | .mk k _ _ _ _ _ _ => k
def E0B : ByteArray := (⟨#[]⟩ : ByteArray)
mutual
def shT : Tm → ST
  | .mk _ k a nm pm n _ _ kids arms => .mk k a nm pm n (shL kids) (shA arms)
def shL : List Tm → List ST
  | [] => []
  | t :: r => shT t :: shL r
def shA : List Am → List SA
  | [] => []
  | .mk _ nm _ vars body :: r => .mk nm vars (shT body) :: shA r
end
theorem shL_map (l : List Tm) : shL l = l.map shT := by
  induction l with
  | nil => rfl
  | cons a l ih => rw [shL, ih]; rfl
def shAm (a : Am) : SA := .mk a.nm a.vars (shT a.body)
theorem shA_map (l : List Am) : shA l = l.map shAm := by
  induction l with
  | nil => rfl
  | cons a l ih => cases a; rw [shA, ih]; rfl
theorem shT_eq (t : Tm) : shT t = .mk t.k t.at_ t.nm t.pm t.n (t.kids.map shT) (t.arms.map shAm) := by cases t; rw [shT, shL_map, shA_map]; rfl
def tyPl (t : Ty) : Bool := decide (t.var = 0) && (decide (t.args = 0) && (decide (t.labels = 0) && decide (t.rvar = 0)))
def shTy (t : Ty) : STy := ⟨bif tyPl t then t.k else -1, t.nm⟩
def shOp (o : Op) : SOp := ⟨o.nm, shTy o.arg, shTy o.res⟩
def shEff (x : Eff) : SEff := ⟨x.nm, x.ops.map shOp⟩
def shCn (c : Cn) : SCn := ⟨c.nm, c.fields.map shTy⟩
def shDat (d : Dat) : SDat := ⟨d.nm, d.cons.map shCn⟩
def shPr (p : Pr) : SPr := ⟨p.effs.map shEff, p.dats.map shDat, shT p.body⟩
inductive PR (α : Type)
  | ok (x : α) (ts : List Tk)
  | bad (a c : Int)
def PR.bind {α β : Type} (r : PR α) (f : α → List Tk → PR β) : PR β := match r with
  | .ok x ts => f x ts
  | .bad a c => .bad a c
def PR.isOk {α : Type} (r : PR α) : Bool := match r with
  | .ok _ _ => true
  | .bad _ _ => false
inductive PR.Hd {β : Type} (s : PR β) : {α : Type} → PR α → Prop
  | s : Hd s s
  | n {α γ : Type} {r : PR α} {f : α → List Tk → PR γ} (h : Hd s r) : Hd s (r.bind f)
theorem PR.sub {α β : Type} {r : PR α} {s : PR β} (hg : r.isOk = true) (e : PR.Hd s r) : s.isOk = true := by
  induction e with
  | s => exact hg
  | @n α γ r f h ih =>
    refine ih ?_
    cases r with
    | ok x ts => rfl
    | bad a c => exact hg
theorem PR.no {α : Type} {r : PR α} {a c : Int} (hg : r.isOk = true) (e : r = .bad a c) : False := by subst e; cases hg
theorem PR.bind_ok {α β : Type} (x : α) (ts : List Tk) (f : α → List Tk → PR β) : (PR.ok x ts).bind f = f x ts := rfl
theorem SB : (∀ {α : Type} (a b : α), cond true a b = a) ∧ (∀ {α : Type} (a b : α), cond false a b = b) ∧ (∀ {α β : Type} (x : α) (ts : List Tk) (f : α → List Tk → PR β), (PR.ok x ts).bind f = f x ts) ∧ (∀ {α β : Type} (a c : Int) (f : α → List Tk → PR β), (PR.bad a c : PR α).bind f = .bad a c) ∧
    (∀ b : Bool, (true || b) = true) ∧ (∀ b : Bool, (b || true) = true) ∧ (∀ b : Bool, (false || b) = b) ∧ ∀ b : Bool, (b || false) = b :=
  ⟨fun _ _ => rfl, fun _ _ => rfl, fun _ _ _ => rfl, fun _ _ _ => rfl, Bool.true_or, Bool.or_true, Bool.false_or, Bool.or_false⟩
def PR.Sh {α : Type} (n : Nat) (r : PR α) : Prop := match r with
  | .ok _ ts => ts.length < n
  | .bad _ _ => True
def PR.Le {α : Type} (n : Nat) (r : PR α) : Prop := match r with
  | .ok _ ts => ts.length ≤ n
  | .bad _ _ => True
theorem PR.Sh.le {α : Type} {n : Nat} {r : PR α} (h : r.Sh n) : r.Le n := by cases r <;> simp [PR.Sh, PR.Le] at *; omega
theorem PR.Le.bind {α β : Type} {n : Nat} {r : PR α} {f : α → List Tk → PR β} (h : r.Le n) (k : ∀ x ts, ts.length ≤ n → (f x ts).Le n) : (r.bind f).Le n := by
  cases r with
  | ok x ts => exact k x ts h
  | bad a c => trivial
theorem PR.Sh.bind {α β : Type} {n : Nat} {r : PR α} {f : α → List Tk → PR β} (h : r.Sh n) (k : ∀ x ts, ts.length < n → (f x ts).Sh n) : (r.bind f).Sh n := by
  cases r with
  | ok x ts => exact k x ts h
  | bad a c => trivial
theorem PR.Le.bindSh {α β : Type} {n : Nat} {r : PR α} {f : α → List Tk → PR β} (h : r.Le n) (k : ∀ x ts, ts.length ≤ n → (f x ts).Sh n) : (r.bind f).Sh n := by
  cases r with
  | ok x ts => exact k x ts h
  | bad a c => trivial
theorem PR.Sh.bindLe {α β : Type} {n : Nat} {r : PR α} {f : α → List Tk → PR β} (h : r.Sh n) (k : ∀ x ts, ts.length < n → (f x ts).Le ts.length) : (r.bind f).Sh n := by
  cases r with
  | ok x ts =>
    have h1 := k x ts h
    have h : ts.length < n := h
    show (f x ts).Sh n
    cases hf : f x ts with
    | ok y us => rw [hf] at h1; have h1 : us.length ≤ ts.length := h1; show us.length < n; omega
    | bad a c => trivial
  | bad a c => trivial
def nx (e : Int) (ts : List Tk) : Tk := ts.headD ⟨0, [], 0, e⟩
def isK (e : Int) (ts : List Tk) (ss : List ByteArray) : Bool := (decide ((nx e ts).k = 4) || decide ((nx e ts).k = 5)) && memB (bs (nx e ts).t) ss
def kdK (e : Int) (ts : List Tk) (ks : List Int) : Bool := ks.any fun x => decide (x = (nx e ts).k)
theorem is_some {e : Int} {ts : List Tk} {ss : List ByteArray} (h : isK e ts ss = true) : ∃ u r, ts = u :: r := by
  cases ts with
  | nil => simp [isK, nx] at h
  | cons u r => exact ⟨u, r, rfl⟩
theorem kd_some {e : Int} {ts : List Tk} {ks : List Int} (h : kdK e ts ks = true) (hk : ks.any (fun x => decide (x = 0)) = false) : ∃ u r, ts = u :: r := by
  cases ts with
  | nil =>
    exfalso
    have : kdK e [] ks = ks.any (fun x => decide (x = 0)) := rfl
    rw [this, hk] at h; cases h
  | cons u r => exact ⟨u, r, rfl⟩
def failP {α : Type} (e : Int) (ts : List Tk) : PR α := .bad (nx e ts).a 3
def wordP (e : Int) (k : Int) (ts : List Tk) : PR Tk := bif kdK e ts [k] then .ok (nx e ts) ts.tail else failP e ts
def textP (e : Int) : List ByteArray → List Tk → PR Unit
  | [], ts => .ok () ts
  | s :: r, ts => bif isK e ts [s] then textP e r ts.tail else failP e ts
def namesP (e : Int) : Nat → List ByteArray → List Tk → PR (List ByteArray)
  | 0, l, ts => .ok l ts
  | n + 1, l, ts => (wordP e 2 ts).bind fun t ts => namesP e n (l ++ [bs t.t]) ts
abbrev oB : ByteArray := (⟨#[123]⟩ : ByteArray)
abbrev cB : ByteArray := (⟨#[125]⟩ : ByteArray)
abbrev smB : ByteArray := (⟨#[59]⟩ : ByteArray)
abbrev oP : ByteArray := (⟨#[40]⟩ : ByteArray)
abbrev cP : ByteArray := (⟨#[41]⟩ : ByteArray)
abbrev arB : ByteArray := (⟨#[45, 62]⟩ : ByteArray)
section
variable (e : Int) (ex : List Tk → PR ST)
def bodyP (ts : List Tk) : PR ST := (textP e [arB] ts).bind fun _ ts => ex ts
abbrev retB : ByteArray := (⟨#[114, 101, 116, 117, 114, 110]⟩ : ByteArray)
def clauseP (first : Bool) (ts : List Tk) : PR SA :=
  bif first then (textP e [retB] ts).bind fun _ ts => (namesP e 1 [] ts).bind fun vs ts => (bodyP e ex ts).bind fun b ts => .ok (.mk retB vs b) ts
  else (wordP e 2 ts).bind fun t ts => (namesP e 2 [] ts).bind fun vs ts => (bodyP e ex ts).bind fun b ts => .ok (.mk (bs t.t) vs b) ts
def kidsP : List ByteArray → List ST → List Tk → PR (List ST)
  | [], l, ts => .ok l ts
  | s :: r, l, ts => (textP e [s] ts).bind fun _ ts => (ex ts).bind fun x ts => kidsP r (l ++ [x]) ts
def sTwo (nm : ByteArray) (x y : ST) : ST := .mk 10 x.at_ nm E0B 0 [x, y] []
def onceP (side : List Tk → PR ST) (ss : List ByteArray) (ts : List Tk) : PR ST :=
  (side ts).bind fun x ts => bif isK e ts ss then (side ts.tail).bind fun y us => .ok (sTwo (bs (nx e ts).t) x y) us else .ok x ts
def manyL (side : List Tk → PR ST) (ss : List ByteArray) : Nat → ST → List Tk → PR ST
  | 0, _, _ => .bad 0 99
  | f + 1, x, ts => bif isK e ts ss then (side ts.tail).bind fun y us => manyL side ss f (sTwo (bs (nx e ts).t) x y) us else .ok x ts
def manyP (side : List Tk → PR ST) (ss : List ByteArray) (ts : List Tk) : PR ST := (side ts).bind fun x ts => manyL e side ss (ts.length + 1) x ts
abbrev trB : ByteArray := (⟨#[116, 114, 117, 101]⟩ : ByteArray)
abbrev faB : ByteArray := (⟨#[102, 97, 108, 115, 101]⟩ : ByteArray)
abbrev rdB : ByteArray := (⟨#[114, 101, 97, 100]⟩ : ByteArray)
def atomP (ts : List Tk) : PR ST :=
  bif kdK e ts [1] then .ok (.mk 2 (nx e ts).a E0B E0B (nx e ts).n [] []) ts.tail
  else bif isK e ts [trB, faB] then failP e ts
  else bif kdK e ts [2] then .ok (.mk 1 (nx e ts).a (bs (nx e ts).t) E0B 0 [] []) ts.tail
  else bif isK e ts [rdB] then (textP e [rdB, oP, cP] ts).bind fun _ us => .ok (.mk 10 (nx e ts).a rdB E0B 0 [] []) us
  else bif kdK e ts [3] then failP e ts
  else bif isK e ts [oP] then
    (bif isK e ts.tail [cP] then .ok (.mk 4 (nx e ts).a E0B E0B 0 [] []) ts.tail.tail
     else (ex ts.tail).bind fun x us => (textP e [cP] us).bind fun _ us => .ok x us)
  else failP e ts
def appB (ts : List Tk) : Bool := kdK e ts [1, 2, 3] || isK e ts [trB, faB, oP, rdB]
def appL : Nat → ST → List Tk → PR ST
  | 0, _, _ => .bad 0 99
  | f + 1, x, ts => bif appB e ts then (atomP e ex ts).bind fun y us => appL f (.mk 6 x.at_ E0B E0B 0 [x, y] []) us else .ok x ts
def appP (ts : List Tk) : PR ST := (atomP e ex ts).bind fun x ts => appL e ex (ts.length + 1) x ts
abbrev unB : List ByteArray := [(⟨#[112, 114, 105, 110, 116]⟩ : ByteArray), (⟨#[114, 101, 102]⟩ : ByteArray), (⟨#[33]⟩ : ByteArray)]
def preB' (ts : List Tk) : Bool := isK e ts unB || kdK e ts [6]
def preP : Nat → List Tk → List Tk → PR (List Tk)
  | 0, _, _ => .bad 0 99
  | f + 1, l, ts => bif preB' e ts then preP f (l ++ [nx e ts]) ts.tail else .ok l ts
def sUn (t : Tk) (x : ST) : ST := .mk (if t.k = 6 then 13 else 10) t.a (bs t.t) E0B 0 [x] []
def unaryP (ts : List Tk) : PR ST := (preP e (ts.length + 1) [] ts).bind fun l ts => (appP e ex ts).bind fun x ts => .ok (l.foldr sUn x) ts
def prodP (ts : List Tk) : PR ST := manyP e (unaryP e ex) [(⟨#[42]⟩ : ByteArray), (⟨#[47]⟩ : ByteArray)] ts
def sumP (ts : List Tk) : PR ST := manyP e (prodP e ex) [(⟨#[43]⟩ : ByteArray), (⟨#[45]⟩ : ByteArray)] ts
def cmpP (ts : List Tk) : PR ST := onceP e (sumP e ex) [(⟨#[60]⟩ : ByteArray), (⟨#[61]⟩ : ByteArray)] ts
def assignP (ts : List Tk) : PR ST := onceP e (cmpP e ex) [(⟨#[58, 61]⟩ : ByteArray)] ts
def clausesP : Nat → List SA → List Tk → PR (List SA)
  | 0, _, _ => .bad 0 99
  | f + 1, l, ts => bif isK e ts [smB] then (clauseP e ex false ts.tail).bind fun a us => clausesP f (l ++ [a]) us else .ok l ts
abbrev funB : ByteArray := (⟨#[102, 117, 110]⟩ : ByteArray)
abbrev letWB : ByteArray := (⟨#[108, 101, 116]⟩ : ByteArray)
abbrev recB : ByteArray := (⟨#[114, 101, 99]⟩ : ByteArray)
abbrev ifB : ByteArray := (⟨#[105, 102]⟩ : ByteArray)
abbrev matB : ByteArray := (⟨#[109, 97, 116, 99, 104]⟩ : ByteArray)
abbrev hanB : ByteArray := (⟨#[104, 97, 110, 100, 108, 101]⟩ : ByteArray)
abbrev eqB' : ByteArray := (⟨#[61]⟩ : ByteArray)
abbrev inB : ByteArray := (⟨#[105, 110]⟩ : ByteArray)
def exB (ts : List Tk) : PR ST :=
  bif isK e ts [funB] then failP e ts
  else bif isK e ts [letWB] then (namesP e 1 [] ts.tail).bind fun l us => (kidsP e ex [eqB', inB] [] us).bind fun ks us => .ok (.mk 7 (nx e ts).a (l.getD 0 E0B) E0B 0 ks []) us
  else bif isK e ts [recB] then failP e ts
  else bif isK e ts [ifB] then failP e ts
  else bif isK e ts [matB] then failP e ts
  else bif isK e ts [hanB] then (wordP e 3 ts.tail).bind fun t us => (ex us).bind fun x us => (textP e [oB] us).bind fun _ us => (clauseP e ex true us).bind fun a us =>
    (clausesP e ex (us.length + 1) [a] us).bind fun zs us => (textP e [cB] us).bind fun _ us => .ok (.mk 14 (nx e ts).a (bs t.t) E0B 0 [x] zs) us
  else assignP e ex ts
end
def exprP (e : Int) : Nat → List Tk → PR ST
  | 0, ts => .bad (nx e ts).a 6
  | n + 1, ts => exB e (exprP e n) ts
abbrev effW0 : ByteArray := (⟨#[101, 102, 102, 101, 99, 116]⟩ : ByteArray)
abbrev datW0 : ByteArray := (⟨#[100, 97, 116, 97]⟩ : ByteArray)
def declP (e : Int) : Nat → List SEff → List SDat → List Tk → PR (List SEff × List SDat)
  | 0, _, _, _ => .bad 0 99
  | _ + 1, xs, ds, ts => bif isK e ts [effW0, datW0] then failP e ts else .ok (xs, ds) ts
def programP (e : Int) (ts : List Tk) : PR SPr :=
  (declP e (ts.length + 1) [] [] ts).bind fun p us => (exprP e 201 us).bind fun b us => bif decide (us = []) then .ok ⟨p.1, p.2, b⟩ us else failP e us
theorem tail_lt {ts : List Tk} {u : Tk} {r : List Tk} (h : ts = u :: r) : ts.tail.length < ts.length := by subst h; simp
theorem word_sh (e k : Int) (hk : k ≠ 0) (ts : List Tk) : (wordP e k ts).Sh ts.length := by
  unfold wordP
  cases h : kdK e ts [k] with
  | true =>
    obtain ⟨u, r, rfl⟩ := kd_some h (by simpa using hk)
    exact tail_lt rfl
  | false => trivial
theorem text_le (e : Int) : ∀ (ss : List ByteArray) (ts : List Tk), (textP e ss ts).Le ts.length := by
  intro ss
  induction ss with
  | nil => intro ts; exact Nat.le_refl _
  | cons s r ih =>
    intro ts
    rw [textP]
    cases h : isK e ts [s] with
    | true =>
      obtain ⟨u, q, rfl⟩ := is_some h
      have := ih q
      show (textP e r q).Le _
      cases hh : textP e r q with
      | ok x us => rw [hh] at this; have this : us.length ≤ q.length := this; show us.length ≤ (u :: q).length; simp; omega
      | bad a c => trivial
    | false => trivial
theorem text_sh (e : Int) (s : ByteArray) (r : List ByteArray) (ts : List Tk) : (textP e (s :: r) ts).Sh ts.length := by
  rw [textP]
  cases h : isK e ts [s] with
  | true =>
    obtain ⟨u, q, rfl⟩ := is_some h
    have := text_le e r q
    show (textP e r q).Sh _
    cases hh : textP e r q with
    | ok x us => rw [hh] at this; have this : us.length ≤ q.length := this; show us.length < (u :: q).length; simp; omega
    | bad a c => trivial
  | false => trivial
theorem PR.Sh.mono {α : Type} {m n : Nat} {r : PR α} (h : r.Sh m) (hm : m ≤ n) : r.Sh n := by
  cases r with
  | ok x ts => have h : ts.length < m := h; show ts.length < n; omega
  | bad a c => trivial
theorem PR.Le.mono {α : Type} {m n : Nat} {r : PR α} (h : r.Le m) (hm : m ≤ n) : r.Le n := by
  cases r with
  | ok x ts => have h : ts.length ≤ m := h; show ts.length ≤ n; omega
  | bad a c => trivial
theorem PR.Le.sh {α : Type} {m n : Nat} {r : PR α} (h : r.Le m) (hm : m < n) : r.Sh n := by
  cases r with
  | ok x ts => have h : ts.length ≤ m := h; show ts.length < n; omega
  | bad a c => trivial
theorem names_le (e : Int) : ∀ (n : Nat) (l : List ByteArray) (ts : List Tk), (namesP e n l ts).Le ts.length := by
  intro n
  induction n with
  | zero => intro l ts; exact Nat.le_refl _
  | succ n ih => intro l ts; rw [namesP]; exact (word_sh e 2 (by decide) ts).le.bind fun x us h => (ih _ us).mono h
section
variable {e : Int} {ex : List Tk → PR ST} (hx : ∀ ts, (ex ts).Sh ts.length)
include hx
theorem body_sh (ts : List Tk) : (bodyP e ex ts).Sh ts.length := by
  unfold bodyP
  exact (text_sh e _ [] ts).bindLe fun x us _ => (hx us).le
theorem clause_sh (b : Bool) (ts : List Tk) : (clauseP e ex b ts).Sh ts.length := by
  unfold clauseP
  cases b with
  | true => exact (text_sh e _ [] ts).bindLe fun x us _ => (names_le e 1 [] us).bind fun y vs h => ((body_sh hx vs).le.mono h).bind fun z xs h => h
  | false => exact (word_sh e 2 (by decide) ts).bindLe fun x us _ => (names_le e 2 [] us).bind fun y vs h => ((body_sh hx vs).le.mono h).bind fun z xs h => h
theorem kids_le : ∀ (ss : List ByteArray) (l : List ST) (ts : List Tk), (kidsP e ex ss l ts).Le ts.length := by
  intro ss
  induction ss with
  | nil => intro l ts; exact Nat.le_refl _
  | cons s r ih => intro l ts; rw [kidsP]; exact (text_sh e s [] ts).le.bind fun x us h => ((hx us).le.mono h).bind fun y vs h => (ih _ vs).mono h
omit hx in
theorem once_sh {side : List Tk → PR ST} (hs : ∀ ts, (side ts).Sh ts.length) (ss : List ByteArray) (ts : List Tk) : (onceP e side ss ts).Sh ts.length := by
  unfold onceP
  refine (hs ts).bindLe fun x us _ => ?_
  cases h : isK e us ss with
  | true => obtain ⟨u, r, rfl⟩ := is_some h; exact ((hs r).le.mono (by simp)).bind fun y vs h => h
  | false => exact Nat.le_refl _
omit hx in
theorem manyL_le {side : List Tk → PR ST} (hs : ∀ ts, (side ts).Sh ts.length) (ss : List ByteArray) : ∀ (f : Nat) (x : ST) (ts : List Tk), (manyL e side ss f x ts).Le ts.length := by
  intro f
  induction f with
  | zero => intro x ts; trivial
  | succ f ih =>
    intro x ts
    rw [manyL]
    cases h : isK e ts ss with
    | true => obtain ⟨u, r, rfl⟩ := is_some h; exact ((hs r).le.mono (by simp)).bind fun y vs h => (ih _ vs).mono h
    | false => exact Nat.le_refl _
omit hx in
theorem many_sh {side : List Tk → PR ST} (hs : ∀ ts, (side ts).Sh ts.length) (ss : List ByteArray) (ts : List Tk) : (manyP e side ss ts).Sh ts.length := by
  unfold manyP
  exact (hs ts).bindLe fun x us _ => manyL_le hs ss _ x us
theorem atom_sh (ts : List Tk) : (atomP e ex ts).Sh ts.length := by
  unfold atomP
  cases h1 : kdK e ts [1] with
  | true => obtain ⟨u, r, rfl⟩ := kd_some h1 (by decide); exact tail_lt rfl
  | false =>
    rw [cond_false]
    cases h2 : isK e ts [trB, faB] with
    | true => trivial
    | false =>
      rw [cond_false]
      cases h3 : kdK e ts [2] with
      | true => obtain ⟨u, r, rfl⟩ := kd_some h3 (by decide); exact tail_lt rfl
      | false =>
        rw [cond_false]
        cases h4 : isK e ts [rdB] with
        | true => exact (text_sh e _ _ ts).bind fun y vs h => h
        | false =>
          rw [cond_false]
          cases h5 : kdK e ts [3] with
          | true => trivial
          | false =>
            rw [cond_false]
            cases h6 : isK e ts [oP] with
            | true =>
              obtain ⟨u, r, rfl⟩ := is_some h6
              rw [cond_true]
              cases h7 : isK e (u :: r).tail [cP] with
              | true => obtain ⟨v, q, hq⟩ := is_some h7; show (u :: r).tail.tail.length < (u :: r).length; rw [hq]; have := congrArg List.length hq; simp at this ⊢; omega
              | false => exact PR.Le.sh (m := r.length) ((hx r).le.bind fun y vs h => ((text_sh e _ [] vs).le.mono h).bind fun z xs h => h) (by simp)
            | false => trivial
theorem appL_le : ∀ (f : Nat) (x : ST) (ts : List Tk), (appL e ex f x ts).Le ts.length := by
  intro f
  induction f with
  | zero => intro x ts; trivial
  | succ f ih =>
    intro x ts
    rw [appL]
    cases appB e ts with
    | true => exact (atom_sh hx ts).le.bind fun y vs h => (ih _ vs).mono h
    | false => exact Nat.le_refl _
theorem app_sh (ts : List Tk) : (appP e ex ts).Sh ts.length := by
  unfold appP
  exact (atom_sh hx ts).bindLe fun x us _ => appL_le hx _ x us
omit hx in
theorem pre_le : ∀ (f : Nat) (l : List Tk) (ts : List Tk), (preP e f l ts).Le ts.length := by
  intro f
  induction f with
  | zero => intro l ts; trivial
  | succ f ih =>
    intro l ts
    rw [preP]
    cases h : preB' e ts with
    | true =>
      have hs : ∃ u r, ts = u :: r := by
        unfold preB' at h
        rw [Bool.or_eq_true] at h
        rcases h with h | h
        · exact is_some h
        · exact kd_some h (by decide)
      obtain ⟨u, r, rfl⟩ := hs
      exact (ih _ r).mono (by simp)
    | false => exact Nat.le_refl _
theorem unary_sh (ts : List Tk) : (unaryP e ex ts).Sh ts.length := by
  unfold unaryP
  exact (pre_le _ [] ts).bindSh fun x us h => ((app_sh hx us).bind (f := fun y vs => .ok (x.foldr sUn y) vs) fun y vs h => h).mono h
theorem prod_sh (ts : List Tk) : (prodP e ex ts).Sh ts.length := many_sh (unary_sh hx) _ ts
theorem sum_sh (ts : List Tk) : (sumP e ex ts).Sh ts.length := many_sh (prod_sh hx) _ ts
theorem cmp_sh (ts : List Tk) : (cmpP e ex ts).Sh ts.length := once_sh (sum_sh hx) _ ts
theorem assign_sh (ts : List Tk) : (assignP e ex ts).Sh ts.length := once_sh (cmp_sh hx) _ ts
theorem clauses_le : ∀ (f : Nat) (l : List SA) (ts : List Tk), (clausesP e ex f l ts).Le ts.length := by
  intro f
  induction f with
  | zero => intro l ts; trivial
  | succ f ih =>
    intro l ts
    rw [clausesP]
    cases h : isK e ts [smB] with
    | true => obtain ⟨u, r, rfl⟩ := is_some h; exact ((clause_sh hx false r).le.mono (by simp)).bind fun y vs h => (ih _ vs).mono h
    | false => exact Nat.le_refl _
theorem exB_sh (ts : List Tk) : (exB e ex ts).Sh ts.length := by
  unfold exB
  cases h1 : isK e ts [funB] with
  | true => trivial
  | false =>
    rw [cond_false]
    cases h2 : isK e ts [letWB] with
    | true => obtain ⟨u, r, rfl⟩ := is_some h2; exact PR.Le.sh (m := r.length) ((names_le e 1 [] r).bind fun y vs h => ((kids_le hx _ [] vs).mono h).bind fun z xs h => h) (by simp)
    | false =>
      rw [cond_false]
      cases h3 : isK e ts [recB] with
      | true => trivial
      | false =>
        rw [cond_false]
        cases h4 : isK e ts [ifB] with
        | true => trivial
        | false =>
          rw [cond_false]
          cases h5 : isK e ts [matB] with
          | true => trivial
          | false =>
            rw [cond_false]
            cases h6 : isK e ts [hanB] with
            | true =>
              obtain ⟨u, r, rfl⟩ := is_some h6
              exact PR.Le.sh (m := r.length) ((word_sh e 3 (by decide) r).le.bind fun y vs h => ((hx vs).le.mono h).bind fun z xs h => ((text_sh e _ [] xs).le.mono h).bind fun z ys h => ((clause_sh hx true ys).le.mono h).bind fun z zs h => ((clauses_le hx _ _ zs).mono h).bind fun z as' h => ((text_sh e _ [] as').le.mono h).bind fun z bs' h => h) (by simp)
            | false => exact assign_sh hx ts
end
theorem expr_sh (e : Int) : ∀ (n : Nat) (ts : List Tk), (exprP e n ts).Sh ts.length := by
  intro n
  induction n with
  | zero => intro ts; trivial
  | succ n ih => intro ts; rw [exprP]; exact exB_sh ih ts
def Pk (N : Nat) (ds : List Deferred) (Q : Exit → Act → World → Prop) (c : List PanicEntry) (w : World) : Prop := ∀ a : Act, a.tmps.size = N → a.defers = ds → Q (.panic c) a w
section
variable {P : Program} {N : Nat} {ds : List Deferred} {L : List (Nat × Value)} {w : World} {ops : Array Oper} {Q : Exit → Act → World → Prop} {rest : List Oper} {d : Nat}
  {ty : TypeId} {pos : String} {aft : Array Edge} {x y : Operand} {c : List PanicEntry}
theorem Pk.then {K : Act → World → Prop} (h : Pk N ds Q c w) : Pk N ds (Exit.then K Q) c w := h
theorem Pk.block {id : Nat} (h : Pk N ds Q c w) : Pk N ds (Exit.inBlock id Q) c w := h
theorem Pk.norm {K : Act → World → Prop} (h : Pk N ds Q c w) : Pk N ds (onNormal K Q) c w := h
theorem Pk.body {fn : Func} {R : Ending → World → Prop} (h : R (.panicked c) w) : Pk N [] (bodyPost P fn R) c w := fun _ _ hd => ⟨hd, h⟩
theorem At.enterAsP {o : Oper} {f : FuncId} {args : Array Value} {R : Ending → World → Prop} (hg : o.guard = none) (run : ∀ a, Is N ds L a → (execOp a.eval o).run P w = .ok (.enter f args) w) (hc : Calls P f args w R)
    (k : ∀ e w', R e w' → (∃ v, e = .returned v ∧ ∀ a, Is N ds L a → wpList P ops Q rest (a.put o.dst v) w') ∨ (∃ c, e = .panicked c ∧ Pk N ds Q c w')) : At N ds L (wpList P ops Q (o :: rest)) w := fun a ha => by
  refine wpList_plain hg fun K hK => ?_
  unfold Oper.wp
  rw [run a ha, Oper.upon_enter]
  refine hc.mono fun e w' hR => ?_
  rcases k e w' hR with ⟨v, rfl, hv⟩ | ⟨c, rfl, hp⟩
  · exact hK _ _ (hv a ha)
  · exact hp a ha.size ha.defers
theorem At.callVP {f : FuncId} {cap : Array Value} {fst : Array Value} {args : Array Operand} {tys : Array TypeId} {vs : List Value} {R : Ending → World → Prop} (hx : ev L x = some (.func (.func f) fst cap)) (hent : entB P f = true) (ha : evs L args.toList = some vs) (hN : Nat.blt d N = true)
    (hc : Calls P f (fst.toList ++ (vs ++ cap.toList)).toArray w R)
    (k : ∀ e w', R e w' → (∃ v, e = .returned v ∧ At N ds ((d, v) :: L) (wpList P ops Q rest) w') ∨ (∃ c, e = .panicked c ∧ Pk N ds Q c w')) :
    At N ds L (wpList P ops Q (⟨some d, .call ⟨.value x, args, tys⟩, ty, pos, aft, none⟩ :: rest)) w :=
  At.enterAsP (f := f) (args := (fst.toList ++ (vs ++ cap.toList)).toArray) rfl (fun a hi => by
    have h := hi.evs ha
    have : args.map a.eval = vs.toArray := by apply Array.ext'; rw [← h]; simp
    have e : fst ++ vs.toArray ++ cap = (fst.toList ++ (vs ++ cap.toList)).toArray := by apply Array.ext'; simp
    simp [execOp, resolve, Deferred.ofValue, invoke, hi.ev hx, run_callFunc hent, this, e]) hc
    (fun e w' hR => by
      rcases k e w' hR with ⟨v, he, hk⟩ | h
      · exact .inl ⟨v, he, fun a hi => hk _ (hi.put hN)⟩
      · exact .inr h)
theorem At.iface {t : TypeId} {v : Value} (hx : ev L x = some v) (hc : P.concrete t = true) (hN : Nat.blt d N = true) (k : At N ds ((d, .iface t v) :: L) (wpList P ops Q rest) w) :
    At N ds L (wpList P ops Q (⟨some d, .makeInterface t x, ty, pos, aft, none⟩ :: rest)) w :=
  At.op rfl rfl hN (fun a ha => by simp only [execOp, ha.ev hx, Sem.run_bind, run_makeInterface w t v hc, Result.andThen_ok, Sem.run_pure]) k
theorem At.deferV {f : FuncId} {cap : Array Value} (hx : ev L x = some (.func (.func f) #[] cap)) (k : At N ({ target := .fn (.func f) cap, args := #[] } :: ds) L (wpList P ops Q rest) w) :
    At N ds L (wpList P ops Q (⟨none, .defer ⟨.value x, #[], #[]⟩, ty, pos, aft, none⟩ :: rest)) w := fun a ha => by
  refine wpList_plain rfl fun K hK => ?_
  unfold Oper.wp
  have : (execOp a.eval ⟨none, .defer ⟨.value x, #[], #[]⟩, ty, pos, aft, none⟩).run P w = .ok (.defer { target := .fn (.func f) cap, args := #[] }) w := by
    simp [execOp, resolve, Deferred.ofValue, ha.ev hx]
  rw [this, Oper.upon_defer]
  exact hK _ _ (k _ ⟨by simpa [Act.put] using ha.size, by simp [Act.put, ha.defers], fun t v hv => by simpa [Act.put] using ha.get t v hv⟩)
theorem At.enterD {f : FuncId} {fn : Func} {c : Code} {args : List Value} {R : Ending → World → Prop} {Q : Exit → Act → World → Prop} (hf : P.funcs[f]? = some fn) (hb : fn.body = some c)
    (hn : fn.ntmps = N) (hl : args.length ≤ N) (L : List (Nat × Value)) (hL : ∀ p ∈ L, args[p.1]? = some p.2) (hQ : ∀ e a w, Q e a w → bodyPostD P fn R e a w) (h : At N [] L (c.wp P Q) w) :
    Calls P f args.toArray w R := by
  refine calls_of_wp_defers hf hb (Code.wp_mono hQ (h _ ⟨?_, rfl, fun t v hv => ?_⟩))
  · simp [hn]; omega
  · have key : ∀ M : List (Nat × Value), (∀ p ∈ M, args[p.1]? = some p.2) → look M t = some v → args[t]? = some v := by
      intro M
      induction M with
      | nil => intro _ h; simp [look] at h
      | cons p r ih =>
        intro hM h
        simp only [look] at h
        by_cases e : p.1 = t
        · have : Nat.beq p.1 t = true := beqT e
          rw [this] at h; simp at h
          have := hM p (by simp)
          rw [e, h] at this; exact this
        · have : Nat.beq p.1 t = false := beqF e
          rw [this] at h
          exact ih (fun q hq => hM q (List.mem_cons_of_mem _ hq)) h
    have h1 := key L hL hv
    have hlt : t < args.length := (List.getElem?_eq_some_iff.1 h1).1
    have h2 := (List.getElem?_eq_some_iff.1 h1).2
    simp [Array.getElem?_append, hlt, h2]
end
abbrev zS : Value := .string (⟨#[]⟩ : ByteArray)
abbrev zN : Value := .slice none 0 0
abbrev zI : Value := .int .i64 0
def RetP (S : Nat → Prop) (wB : World) (b0 : Nat) (e d : Int) {α : Type} (okv : α → Value → World → Prop) (r : PR α) (w : World) (en : Ending) (w' : World) : Prop :=
  ∃ x ts val v, r = .ok x ts ∧ en = .returned val ∧ Fr S w w' ∧ RowsAt wB v 4 (ts.map Tk.cs) ∧ w'.heap[b0]? = some (.cells #[v, .int .i64 e, .int .i64 d] 102) ∧ okv x val w'
section
variable {S : Nat → Prop} {wB : World} {b0 : Nat} {e d : Int} {α : Type} {okv : α → Value → World → Prop} {r : PR α} {w w' : World} {en : Ending}
theorem RetP.ok {x : α} {ts : List Tk} {val v : Value} (hr : r = .ok x ts) (hF : Fr S w w') (hv : RowsAt wB v 4 (ts.map Tk.cs)) (hb : w'.heap[b0]? = some (.cells #[v, .int .i64 e, .int .i64 d] 102)) (ho : okv x val w') :
    RetP S wB b0 e d okv r w (.returned val) w' := ⟨x, ts, val, v, hr, rfl, hF, hv, hb, ho⟩
theorem At.callVF {P : Program} {N : Nat} {ds : List Deferred} {L : List (Nat × Value)} {ops : Array Oper} {Q : Exit → Act → World → Prop} {rest : List Oper} {dd : Nat} {ty : TypeId} {pos : String} {aft : Array Edge} {x : Operand} {f : FuncId} {cap : Array Value} {fst : Array Value} {args : Array Operand} {tys : Array TypeId} {vs : List Value} {R : Ending → World → Prop} (hx : ev L x = some (.func (.func f) fst cap)) (hent : entB P f = true) (ha : evs L args.toList = some vs) (hN : Nat.blt dd N = true)
    (hc : Calls P f (fst.toList ++ (vs ++ cap.toList)).toArray w R) (k : ∀ e w', R e w' → ∃ v, e = .returned v ∧ At N ds ((dd, v) :: L) (wpList P ops Q rest) w') :
    At N ds L (wpList P ops Q (⟨some dd, .call ⟨.value x, args, tys⟩, ty, pos, aft, none⟩ :: rest)) w := At.callVP hx hent ha hN hc fun e w' h => .inl (k e w' h)
theorem Xs.frS {α : Type} {K : Kd α} {M : List (Option Nat)} {l : List α} (h : Xs K M w l) (hF : Fr S w w') (hS : ∀ k, S k → some k ∈ M) : Xs K M w' l := fun u hu =>
  ⟨K.keep (h u hu).1 fun b hb => by
    have hlt := K.lt (h u hu).1 hb
    rw [Array.getElem?_eq_getElem hlt]
    exact hF.old b _ (fun hs => (h u hu).2 b hb (hS b hs)) (Array.getElem?_eq_getElem hlt), (h u hu).2⟩
theorem Own.frS {T : TypeId} {sz n : Nat} {v : Value} {xs : List Value} (h : Own w T sz v n xs) (hF : Fr S w w') (hne : ∀ g, v.ownBlock = some g → ¬ S g) : Own w' T sz v n xs :=
  Own.keep h fun g hg => by
    have hlt := Own.lt h hg
    rw [Array.getElem?_eq_getElem hlt]
    exact hF.old g _ (hne g hg) (Array.getElem?_eq_getElem hlt)
theorem Own.frB {T T' : TypeId} {sz n : Nat} {v : Value} {xs : List Value} {C : Array Value} {fr : Nat × Nat} (h : Own w T sz v n xs) (hF : Fr (fun k => k = b0) w w') (hb : w.heap[b0]? = some (.cells C T' fr)) (hT : Nat.beq T' T = false) : Own w' T sz v n xs :=
  h.frS hF fun g hg e => by subst e; exact h.neT hb hT hg.symm
theorem OwnR.frB {β : Type} {f : β → Array Value} {T T' : TypeId} {sz : Nat} {v : Value} {l : List β} {C : Array Value} {fr : Nat × Nat} (h : OwnR T sz f w v l) (hF : Fr (fun k => k = b0) w w') (hb : w.heap[b0]? = some (.cells C T' fr)) (hT : Nat.beq T' T = false) : OwnR T sz f w' v l := Own.frB h hF hb hT
theorem OwnS.frB {T T' : TypeId} {v : Value} {l : List ByteArray} {C : Array Value} {fr : Nat × Nat} (h : OwnS T w v l) (hF : Fr (fun k => k = b0) w w') (hb : w.heap[b0]? = some (.cells C T' fr)) (hT : Nat.beq T' T = false) : OwnS T w' v l := Own.frB h hF hb hT
theorem Fr.oldB {k : Nat} {x : Obj} (hF : Fr (fun k => k = b0) w w') (hk : w.heap[k]? = some x) (hne : k ≠ b0) : w'.heap[k]? = some x := hF.old k x hne hk
end
theorem toks_tail {wB : World} {v : Value} {u : Tk} {r : List Tk} (h : RowsAt wB v 4 ((u :: r).map Tk.cs)) : RowsAt wB (dropV 4 v 1) 4 (r.map Tk.cs) := by
  have := RowsAt.drop h (h := 1) (by simp)
  simpa using this
def okTk (x : Tk) (val : Value) (_ : World) : Prop := val = .agg x.cs
def okU (_ : Unit) (val : Value) (_ : World) : Prop := val = .tuple #[]
def okNs (T : TypeId) (w : World) (x : List ByteArray) (val : Value) (w' : World) : Prop := OwnS T w' val x ∧ ∀ g, val.ownBlock = some g → w.heap.size ≤ g
def zero7 : List Value := [.int .i64 0, .string E0B, .int .i64 0, .slice none 0 0, .slice none 0 0, .int .i64 0, .slice none 0 0, .int .i64 0, .int .i64 0, .string E0B, .int .i64 0, .slice none 0 0, .slice none 0 0, .int .i64 0]
def tmC (k a : Int) (nm pm : ByteArray) (n : Int) (kv av : Value) : Array Value := #[.int .i64 k, .int .i64 a, .string nm, .string pm, .int .i64 n, kv, av, .int .i64 0, .string (⟨#[]⟩ : ByteArray), .int .i64 0, .slice none 0 0, .slice none 0 0, .int .i64 0, .slice none 0 0, .int .i64 0, .int .i64 0, .string (⟨#[]⟩ : ByteArray), .int .i64 0, .slice none 0 0, .slice none 0 0, .int .i64 0]
def tmA (k a : Int) (nm pm : ByteArray) (n : Int) (kv : Value) (ks : List Tm) (av : Value) (ms : List Am) : Tm := .mk (tmC k a nm pm n kv av) k a nm pm n kv av ks ms
def amA (nm : ByteArray) (vv : Value) (vs : List ByteArray) (t : Tm) : Am := .mk (#[.string nm, vv] ++ t.cs) nm vv vs t
mutual
def plT : Tm → Prop
  | .mk cs _ _ _ _ _ _ _ kids arms => cs.toList.drop 7 = zero7 ∧ plL kids ∧ plA arms
def plL : List Tm → Prop
  | [] => True
  | t :: r => plT t ∧ plL r
def plA : List Am → Prop
  | [] => True
  | .mk _ _ _ _ body :: r => plT body ∧ plA r
end
structure MT (w : World) (x : ST) (t : Tm) : Prop where
  sh : shT t = x
  pl : plT t
  blk : ∀ b, tmBlk t b → w.heap.size ≤ b
structure MA (w : World) (x : SA) (t : Am) : Prop where
  sh : shAm t = x
  pl : plT t.body
  blk : ∀ b, amBlk t b → w.heap.size ≤ b
inductive All2 {α β : Type} (R : α → β → Prop) : List α → List β → Prop
  | nil : All2 R [] []
  | cons {a : α} {b : β} {l : List α} {m : List β} (h : R a b) (t : All2 R l m) : All2 R (a :: l) (b :: m)
theorem All2.len {α β : Type} {R : α → β → Prop} {l : List α} {m : List β} (h : All2 R l m) : l.length = m.length := by
  induction h with
  | nil => rfl
  | cons _ _ ih => simp [ih]
def MTL (w : World) (xs : List ST) (ts : List Tm) : Prop := All2 (MT w) xs ts
def MAL (w : World) (xs : List SA) (ts : List Am) : Prop := All2 (MA w) xs ts
def okT (w : World) (x : ST) (val : Value) (w' : World) : Prop := ∃ t : Tm, val = .agg t.cs ∧ TmOk w' t ∧ MT w x t
def okA (w : World) (x : SA) (val : Value) (w' : World) : Prop := ∃ a : Am, val = .agg a.cs ∧ AmOk w' a ∧ MA w x a
section
variable {w w0 : World}
theorem MT.mono {x : ST} {t : Tm} (h : MT w x t) (hs : w0.heap.size ≤ w.heap.size) : MT w0 x t := ⟨h.sh, h.pl, fun b hb => Nat.le_trans hs (h.blk b hb)⟩
theorem MA.mono {x : SA} {t : Am} (h : MA w x t) (hs : w0.heap.size ≤ w.heap.size) : MA w0 x t := ⟨h.sh, h.pl, fun b hb => Nat.le_trans hs (h.blk b hb)⟩
theorem MTL.nil (w : World) : MTL w [] [] := All2.nil
theorem MAL.nil (w : World) : MAL w [] [] := All2.nil
theorem MTL.snoc {xs : List ST} {ts : List Tm} {x : ST} {t : Tm} (h : MTL w xs ts) (k : MT w x t) : MTL w (xs ++ [x]) (ts ++ [t]) := by
  induction h with
  | nil => exact All2.cons k All2.nil
  | cons a _ ih => exact All2.cons a ih
theorem MAL.snoc {xs : List SA} {ts : List Am} {x : SA} {t : Am} (h : MAL w xs ts) (k : MA w x t) : MAL w (xs ++ [x]) (ts ++ [t]) := by
  induction h with
  | nil => exact All2.cons k All2.nil
  | cons a _ ih => exact All2.cons a ih
theorem MTL.mono {xs : List ST} {ts : List Tm} (h : MTL w xs ts) (hs : w0.heap.size ≤ w.heap.size) : MTL w0 xs ts := by
  induction h with
  | nil => exact All2.nil
  | cons a _ ih => exact All2.cons (a.mono hs) ih
theorem MAL.mono {xs : List SA} {ts : List Am} (h : MAL w xs ts) (hs : w0.heap.size ≤ w.heap.size) : MAL w0 xs ts := by
  induction h with
  | nil => exact All2.nil
  | cons a _ ih => exact All2.cons (a.mono hs) ih
theorem MTL.one {x : ST} {t : Tm} (k : MT w x t) : MTL w [x] [t] := All2.cons k All2.nil
theorem MTL.two {x y : ST} {t u : Tm} (k : MT w x t) (m : MT w y u) : MTL w [x, y] [t, u] := All2.cons k (All2.cons m All2.nil)
theorem MTL.len {xs : List ST} {ts : List Tm} (h : MTL w xs ts) : xs.length = ts.length := All2.len h
theorem MAL.len {xs : List SA} {ts : List Am} (h : MAL w xs ts) : xs.length = ts.length := All2.len h
theorem MTL.sh {xs : List ST} {ts : List Tm} (h : MTL w xs ts) : shL ts = xs := by
  induction h with
  | nil => rfl
  | cons a _ ih => rw [shL, ih, a.sh]
theorem MTL.pl {xs : List ST} {ts : List Tm} (h : MTL w xs ts) : plL ts := by
  induction h with
  | nil => trivial
  | cons a _ ih => exact ⟨a.pl, ih⟩
theorem MTL.blk {xs : List ST} {ts : List Tm} (h : MTL w xs ts) : ∀ b, tmBlkL ts b → w.heap.size ≤ b := by
  induction h with
  | nil => intro b hb; exact hb.elim
  | cons a _ ih => intro b hb; exact hb.elim (a.blk b) (ih b)
theorem shA_cons (a : Am) (r : List Am) : shA (a :: r) = shAm a :: shA r := by cases a; rfl
theorem plA_cons (a : Am) (r : List Am) : plA (a :: r) ↔ plT a.body ∧ plA r := by cases a; exact Iff.rfl
theorem MAL.sh {xs : List SA} {ts : List Am} (h : MAL w xs ts) : shA ts = xs := by
  induction h with
  | nil => rfl
  | cons a _ ih => rw [shA_cons, ih, a.sh]
theorem MAL.pl {xs : List SA} {ts : List Am} (h : MAL w xs ts) : plA ts := by
  induction h with
  | nil => trivial
  | cons a _ ih => exact (plA_cons _ _).2 ⟨a.pl, ih⟩
theorem MAL.blk {xs : List SA} {ts : List Am} (h : MAL w xs ts) : ∀ b, amBlkL ts b → w.heap.size ≤ b := by
  induction h with
  | nil => intro b hb; exact hb.elim
  | cons a _ ih => intro b hb; exact hb.elim (a.blk b) (ih b)
theorem tmA_ok {k a : Int} {nm pm : ByteArray} {n : Int} {kv av : Value} {ks : List Tm} {ms : List Am} (h1 : RowsAt w kv 21 (ks.map Tm.cs)) (h2 : ∀ u ∈ ks, TmOk w u) (h3 : RowsAt w av 23 (ms.map Am.cs)) (h4 : ∀ u ∈ ms, AmOk w u) : TmOk w (tmA k a nm pm n kv ks av ms) :=
  .mk ⟨rfl, by have a1 := h1.ok.one; have a2 := h3.ok.one; simp only [Value.oneCell'] at a1 a2; simp [tmA, tmC, Tm.cs, Value.oneCell', a1, a2], rfl, rfl, rfl, rfl, rfl, rfl, rfl, h1, h3⟩ h2 h4
theorem MT.made {k a : Int} {nm pm : ByteArray} {n : Int} {kv av : Value} {ks : List Tm} {ms : List Am} {xs : List ST} {ys : List SA} (hk : MTL w xs ks) (ha : MAL w ys ms) (h1 : ks ≠ [] → w.heap.size ≤ vBlock kv) (h2 : ms ≠ [] → w.heap.size ≤ vBlock av) :
    MT w (.mk k a nm pm n xs ys) (tmA k a nm pm n kv ks av ms) :=
  ⟨by rw [tmA, shT, hk.sh, ha.sh], by rw [tmA, plT]; exact ⟨rfl, hk.pl, ha.pl⟩, fun b hb => by
    rw [tmA, tmBlk] at hb
    rcases hb with ⟨h, rfl⟩ | ⟨h, rfl⟩ | h | h
    · exact h1 h
    · exact h2 h
    · exact hk.blk b h
    · exact ha.blk b h⟩
theorem shT_at {t : Tm} {x : ST} (h : MT w x t) : t.at_ = x.at_ := by have := h.sh; subst this; cases t; rfl
theorem Own.vb {T : TypeId} {sz n : Nat} {v : Value} {xs : List Value} (h : Own w T sz v n xs) (hn : n ≠ 0) : v.ownBlock = some (vBlock v) := by
  rcases h.2 with ⟨_, h0⟩ | ⟨g, cap, cur, rfl, _⟩
  · exact absurd h0 hn
  · rfl
theorem Own.vbGe {T : TypeId} {sz n : Nat} {v : Value} {xs : List Value} (h : Own w T sz v n xs) (hg : ∀ g, v.ownBlock = some g → w0.heap.size ≤ g) (hn : n ≠ 0) : w0.heap.size ≤ vBlock v := hg _ (h.vb hn)
theorem OwnR.vbGe {β : Type} {f : β → Array Value} {T : TypeId} {sz : Nat} {v : Value} {l : List β} (h : OwnR T sz f w v l) (hg : ∀ g, v.ownBlock = some g → w0.heap.size ≤ g) (hn : l ≠ []) : w0.heap.size ≤ vBlock v := Own.vbGe h hg (fun e => hn (List.eq_nil_of_length_eq_zero e))
theorem OwnS.vbGe {T : TypeId} {v : Value} {l : List ByteArray} (h : OwnS T w v l) (hg : ∀ g, v.ownBlock = some g → w0.heap.size ≤ g) (hn : l ≠ []) : w0.heap.size ≤ vBlock v := Own.vbGe h hg (fun e => hn (List.eq_nil_of_length_eq_zero e))
theorem amA_ok {nm : ByteArray} {vv : Value} {vs : List ByteArray} {t : Tm} (h : StrsAt w vv vs) (ht : TmOk w t) : AmOk w (amA nm vv vs t) := by
  have hs := ht.size
  refine .mk ⟨by simp [amA, Am.cs, hs], ?_, by show (#[Value.string nm, vv] ++ t.cs)[0]? = _; rw [Array.getElem?_append_left (by simp)]; rfl, by show (#[Value.string nm, vv] ++ t.cs)[1]? = _; rw [Array.getElem?_append_left (by simp)]; rfl, h, ?_⟩ ht
  · show (#[Value.string nm, vv] ++ t.cs).all (·.oneCell') = true
    rw [Array.all_append, ht.one]
    simp only [List.all_toArray, List.all_cons, List.all_nil, h.ok.one, Bool.and_true]
    rfl
  · show (#[Value.string nm, vv] ++ t.cs).extract 2 (2 + 21) = t.cs
    apply Array.ext'
    simp [Array.toList_extract, List.extract]
    rw [List.take_of_length_le (by rw [Array.length_toList]; omega)]
theorem MA.made {nm : ByteArray} {vv : Value} {vs : List ByteArray} {t : Tm} {x : ST} (h : MT w x t) (h1 : vs ≠ [] → w.heap.size ≤ vBlock vv) : MA w (.mk nm vs x) (amA nm vv vs t) :=
  ⟨by rw [shAm, ← h.sh]; rfl, h.pl, fun b hb => by
    rw [amA, amBlk] at hb
    rcases hb with ⟨h, rfl⟩ | hb
    · exact h1 h
    · exact h.blk b hb⟩
end
def fieldTB (P : Program) (t : TypeId) (i : Nat) : Option (Nat × TypeId) :=
  match P.underlying t with
  | some (.struct fs) => (fs[i]?).map fun f => (f.offset, f.type)
  | _ => none
theorem At.fieldC {P : Program} {N : Nat} {ds : List Deferred} {L : List (Nat × Value)} {w : World} {ops : Array Oper} {Q : Exit → Act → World → Prop} {rest : List Oper} {d : Nat} {ty : TypeId} {pos : String} {aft : Array Edge} {x : Operand}
    {s ft : TypeId} {i off : Nat} {cs : Array Value} {v : Value} (hx : ev L x = some (.agg cs)) (hf : fieldTB P s i = some (off, ft)) (ha : aggB P ft = some false) (hv : cs[off]? = some v) (hN : Nat.blt d N = true)
    (k : At N ds ((d, v) :: L) (wpList P ops Q rest) w) : At N ds L (wpList P ops Q (⟨some d, .field s x i, ty, pos, aft, none⟩ :: rest)) w :=
  At.op rfl rfl hN (fun a ha' => by
    unfold fieldTB at hf
    split at hf
    · rename_i fs hu
      rw [Option.map_eq_some_iff] at hf
      obtain ⟨f, hfi, he⟩ := hf
      simp only [Prod.mk.injEq] at he
      obtain ⟨rfl, rfl⟩ := he
      simp only [execOp, ha'.ev hx, Instr.field, Sem.run_bind, run_underlying hu, Result.andThen_ok, hfi, asAgg, Sem.run_pure, part, run_isAgg ha, hv]
      rfl
    · cases hf) k
theorem IntsAt.own {w : World} {b n c : Nat} {l : List Int} {T : TypeId} {fr : Nat × Nat} (h : w.heap[b]? = some (.cells (l.map (Value.int .i64)).toArray T fr)) (hn : n = l.length) (hc : n ≤ c) (hm : n ≤ 9223372036854775807 := by decide) : IntsAt w (.slice (some ⟨b, 0, none⟩) n c) l := by
  refine RowsAt.own (rows := l.map fun n => #[Value.int .i64 n]) (T := T) (fr := fr) ?_ (fun r hr => by obtain ⟨x, _, rfl⟩ := List.mem_map.1 hr; rfl) (by simpa using hn) hc hm
  have : ((l.map fun n => #[Value.int .i64 n]).flatMap (·.toList)) = l.map (Value.int .i64) := by
    clear h hn hc hm
    induction l with
    | nil => rfl
    | cons a l ih => simp only [List.map_cons, List.flatMap_cons, ih]; rfl
  rw [this]; exact h
theorem bnot_t {b : Bool} (h : (!b) = true) : b = false := by simpa using h
theorem bnot_f {b : Bool} (h : (!b) = false) : b = true := by simpa using h
theorem nx_nil {e : Int} {ts : List Tk} (h : (ts.length : Int) = 0) : nx e ts = ⟨0, [], 0, e⟩ := by
  cases ts with
  | nil => rfl
  | cons a l => simp at h; omega
theorem nx_at {e : Int} {ts : List Tk} {u : Tk} (h : ts[0]? = some u) : nx e ts = u := by
  cases ts with
  | nil => simp at h
  | cons a l => simp at h; exact h
theorem tail_rows {wB : World} {v : Value} {ts : List Tk} (h : RowsAt wB v 4 (ts.map Tk.cs)) (hn : 0 < ts.length) : RowsAt wB (dropV 4 v 1) 4 (ts.tail.map Tk.cs) := by
  cases ts with
  | nil => simp at hn
  | cons u r => exact toks_tail h
theorem is_len {e : Int} {ts : List Tk} {ss : List ByteArray} (h : isK e ts ss = true) : 0 < ts.length := by
  obtain ⟨u, r, rfl⟩ := is_some h; simp
theorem kd_len {e : Int} {ts : List Tk} {ks : List Int} (h : kdK e ts ks = true) (hk : ks.any (fun x => decide (x = 0)) = false) : 0 < ts.length := by
  obtain ⟨u, r, rfl⟩ := kd_some h hk; simp
theorem StrsAt.frB {b0 : Nat} {w w' : World} {v : Value} {ss : List ByteArray} (h : StrsAt w v ss) (hF : Fr (fun k => k = b0) w w') (hne : ss ≠ [] → vBlock v ≠ b0) : StrsAt w' v ss :=
  RowsAt.keepB h fun hn => by
    have hlt := StrsAt.lt h (fun e => hn (by rw [e]; rfl))
    rw [Array.getElem?_eq_getElem hlt]
    exact hF.old _ _ (hne (fun e => hn (by rw [e]; rfl))) (Array.getElem?_eq_getElem hlt)
theorem PR.Sh.of {α : Type} {n : Nat} {r : PR α} {x : α} {us : List Tk} (h : r.Sh n) (e : r = .ok x us) : us.length < n := by subst e; exact h
theorem PR.Le.of {α : Type} {n : Nat} {r : PR α} {x : α} {us : List Tk} (h : r.Le n) (e : r = .ok x us) : us.length ≤ n := by subst e; exact h
theorem tail_len {ts : List Tk} (h : 0 < ts.length) : ts.tail.length + 1 = ts.length := by cases ts with
  | nil => simp at h
  | cons a l => simp
end Go.Proofs.YtfoolfecjjngpaaGreat
