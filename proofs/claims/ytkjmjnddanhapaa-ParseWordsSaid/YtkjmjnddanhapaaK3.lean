/-
  The walk's own small calculus: literals, built-in calls, calls, ends of functions. Plain lemmas over any program; no condition beyond those that stand in each statement.
-/
import Derived.Test.YtkjmjnddanhapaaK2
namespace Go.Proofs.Ytkjmjnddanhapaa
open Go.RowKit

theorem Bld.run {P : Program} {t : TypeId} (places : Array (Nat × Nat))
    (hp : ∀ i off sz, fieldB P t i = some (off, sz) → places[i]? = some (off, sz)) {C C' : Array Value} {l : List (Nat × Value)} (h : Bld P t C l C') :
    Instr.fill (places[·]?) C l = some C' := by
  induction h with
  | nil C => rfl
  | @cons C1 C2 i off sz v r hf hv hr _ ih =>
    unfold Instr.fill
    rw [hp _ _ _ hf]
    simp only [hv, ne_eq, not_true, decide_false, Bool.false_or]
    rw [if_neg (by simpa using hr)]
    have := fill_foldl v.cells.toList C1 off 0 (by simpa [hv] using hr)
    simp only [Nat.add_zero, Array.toArray_toList] at this
    have e : (Array.foldl (fun (cs : Array Value) (x : Value × Nat) => match x with | (c, j) => cs.setIfInBounds (off + j) c) C1 v.cells.zipIdx) = splice C1 off v.cells := by
      rw [← Array.foldl_toList, Array.toList_zipIdx]; exact this
    rw [e]; exact ih

theorem run_places {P : Program} {w : World} : ∀ (fs : List Field), (∀ f ∈ fs, ((P.info? f.type).map (·.size)).isSome = true) →
    ((fs.mapM (m := Sem) fun f => do pure (f.offset, ← sizeOf f.type)).run P w = .ok (fs.map fun f => (f.offset, ((P.info? f.type).map (·.size)).getD 0)) w) := by
  intro fs
  induction fs with
  | nil => intro _; rfl
  | cons f fs ih =>
    intro h
    have hf := h f (by simp)
    obtain ⟨n, hn⟩ := Option.isSome_iff_exists.1 hf
    have hs : (sizeOf f.type).run P w = .ok n w := run_sizeOf hn
    have := ih (fun g hg => h g (List.mem_cons_of_mem _ hg))
    simp only [List.mapM_cons, Sem.run_bind, hs, Result.andThen_ok, Sem.run_pure, this, List.map_cons, hn, Option.getD_some]

/-- All of a struct's fields have types with a size. -/
def sizedB (P : Program) (t : TypeId) : Bool :=
  match P.underlying t with
  | some (.struct fs) => fs.toList.all fun f => ((P.info? f.type).map (·.size)).isSome
  | _ => false

section ops
variable {P : Program} {N : Nat} {ds : List Deferred} {L : List (Nat × Value)} {a : Act} {w w' : World} {ops : Array Oper} {Q : Exit → Act → World → Prop} {rest : List Oper}
  {d : Nat} {ty : TypeId} {pos : String} {aft : Array Edge} {x y z : Operand}

theorem At.build {t : TypeId} {ps : Array (Nat × Operand)} {vs : List (Nat × Value)} {zv : Value} {C : Array Value} (hs : sizedB P t = true) (hz : zeroB P t = some zv) (hp : tmpVals L ps.toList = some vs) (hb : Bld P t zv.cells vs C) (hN : Nat.blt d N = true)
    (k : At N ds ((d, .agg C) :: L) (wpList P ops Q rest) w) : At N ds L (wpList P ops Q (⟨some d, .build t ps, ty, pos, aft, none⟩ :: rest)) w :=
  At.op rfl rfl hN (fun a ha => by
    unfold sizedB at hs
    split at hs
    case h_2 => cases hs
    rename_i fs hu
    have hpl := run_places (P := P) (w := w) fs.toList (by intro f hf; exact List.all_eq_true.1 hs f hf)
    have hm : (fs.mapM (m := Sem) fun f => do pure (f.offset, ← sizeOf f.type)).run P w = .ok (fs.map fun f => (f.offset, ((P.info? f.type).map (·.size)).getD 0)) w := by
      rw [← Array.toArray_toList (xs := fs), List.mapM_toArray, Sem.run_map, hpl]
      simp only [Result.andThen_ok, List.map_toArray]
    have hparts := ha.parts hp
    have hfill := Bld.run (fs.map fun f => (f.offset, ((P.info? f.type).map (·.size)).getD 0)) (fun i off sz hf => by
      unfold fieldB at hf
      rw [hu] at hf
      simp only at hf
      split at hf
      · rename_i f hfi
        split at hf
        · rename_i n hn
          simp only [Option.some.injEq, Prod.mk.injEq] at hf
          obtain ⟨rfl, rfl⟩ := hf
          simp [hfi, hn]
        · cases hf
      · cases hf) hb
    have hpe : (ps.map fun (i, x) => (i, a.eval x)).toList = vs := by rw [Array.toList_map]; exact hparts
    simp only [execOp, Instr.build, Sem.run_bind, run_zero hz, Result.andThen_ok, run_underlying hu, hm, hpe, hfill, Sem.run_pure]) k

theorem take_splice {C vs : Array Value} {o : Nat} (h : o + vs.size ≤ C.size) : (splice C o vs).toList.take (o + vs.size) = C.toList.take o ++ vs.toList := by
  have h1 : (C.toList.take o ++ vs.toList).length = o + vs.size := by simp; omega
  simp only [splice]
  rw [← h1, List.take_append_of_le_length (Nat.le_refl _), List.take_length]

theorem fill_row (sz : Nat) : ∀ (vs : List Value) (m : Nat) (C : Array Value), (∀ v ∈ vs, v.cells.size = sz) → (m + vs.length) * sz = C.size →
    Instr.fill (fun i => some (i * sz, sz)) C (vs.zipIdx m |>.map fun p => (p.2, p.1)) = some (C.toList.take (m * sz) ++ vs.flatMap (·.cells.toList)).toArray := by
  intro vs
  induction vs with
  | nil =>
    intro m C _ h
    have : C.toList.length ≤ m * sz := by simp at h ⊢; omega
    simp only [List.zipIdx_nil, List.map_nil, Instr.fill, List.flatMap_nil, List.append_nil, List.take_of_length_le this, Array.toArray_toList]
  | cons v r ih =>
    intro m C h1 h
    simp only [List.length_cons] at h
    have hc := h1 v (by simp)
    have hle : (m + 1) * sz ≤ C.size := by rw [← h]; exact Nat.mul_le_mul_right _ (by omega)
    have hle' : m * sz + sz ≤ C.size := by rw [Nat.add_mul] at hle; omega
    simp only [List.zipIdx_cons, List.map_cons, Instr.fill, hc, ne_eq, not_true, decide_false, Bool.false_or]
    rw [if_neg (by simpa using hle')]
    have hf := fill_foldl v.cells.toList C (m * sz) 0 (by simpa [hc] using hle')
    simp only [Nat.add_zero, Array.toArray_toList] at hf
    have e : (Array.foldl (fun (cs : Array Value) (x : Value × Nat) => match x with | (c, j) => cs.setIfInBounds (m * sz + j) c) C v.cells.zipIdx) = splice C (m * sz) v.cells := by
      rw [← Array.foldl_toList, Array.toList_zipIdx]; exact hf
    rw [e, ih (m + 1) _ (fun u hu => h1 u (List.mem_cons_of_mem _ hu)) (by rw [splice_size (by omega)]; rw [← h]; congr 1; omega)]
    have ht := take_splice (C := C) (vs := v.cells) (o := m * sz) (by omega)
    rw [hc] at ht
    rw [Nat.add_mul, Nat.one_mul, ht]
    simp

/-- []T{v0, v1, ..}. -/
theorem At.buildSlice {t e : TypeId} {n sz : Nat} {ps : Array (Nat × Operand)} {xs : List Operand} {vs : List Value} {zv : Value} (hps : ps = (xs.zipIdx.map fun p => (p.2, p.1)).toArray) (hp : evs L xs = some vs) (he : elemB P t = some e) (hz : sizeB P e = some sz)
    (hzv : zeroB P e = some zv) (hcs : ∀ v ∈ vs, v.cells.size = sz) (hlen : vs.length = n) (hn : n * sz ≤ 16777216) (hN : Nat.blt d N = true)
    (k : ∀ b w', Fresh w w' b (.cells (vs.flatMap (·.cells.toList)).toArray e) → At N ds ((d, .slice (some ⟨b, 0, none⟩) n n) :: L) (wpList P ops Q rest) w') :
    At N ds L (wpList P ops Q (⟨some d, .buildSlice t n ps, ty, pos, aft, none⟩ :: rest)) w :=
  At.op rfl rfl hN (fun a ha => by
    subst hps
    have hvs := ha.evs hp
    have hpe : ((xs.zipIdx.map fun p => (p.2, p.1)).toArray.map fun (i, x) => (i, a.eval x)).toList = vs.zipIdx.map fun p => (p.2, p.1) := by
      rw [← hvs]
      simp [List.zipIdx_map, List.map_map]
    have hno : ¬ n * sz > 2 ^ 24 := by omega
    by_cases h0 : n * sz = 0
    · have hfill := fill_row sz vs 0 ((Array.range (n * sz)).map ((#[] : Array Value)[· % (#[] : Array Value).size]!)) hcs (by simp [hlen])
      simp only [Nat.zero_mul, List.take_zero, List.nil_append] at hfill
      simp only [execOp, Instr.buildSlice, Sem.run_bind, run_underlying (underlying_elem he), Result.andThen_ok, run_sizeOf hz, if_neg hno, if_pos h0, Sem.run_pure, hpe, hfill, newRow, run_newObj]
      rfl
    · have hfill := fill_row sz vs 0 ((Array.range (n * sz)).map (zv.cells[· % zv.cells.size]!)) hcs (by simp [hlen])
      simp only [Nat.zero_mul, List.take_zero, List.nil_append] at hfill
      simp only [execOp, Instr.buildSlice, Sem.run_bind, run_underlying (underlying_elem he), Result.andThen_ok, run_sizeOf hz, if_neg hno, if_neg h0, run_zero hzv, Sem.run_pure, hpe, hfill, newRow, run_newObj]
      rfl) (k _ _ (Fresh.mk' w _))

-- ------------------------------------------------------------------ built-in calls
theorem At.lenSl {t e : TypeId} {v : Value} {n : Nat} (hx : ev L x = some v) (hs : SlOk v n) (he : elemB P t = some e) (hN : Nat.blt d N = true) (k : At N ds ((d, .int .i64 n) :: L) (wpList P ops Q rest) w) :
    At N ds L (wpList P ops Q (⟨some d, .call ⟨.builtin .len, #[x], #[t]⟩, ty, pos, aft, none⟩ :: rest)) w :=
  At.op rfl rfl hN (fun a ha => by
    rcases hs with ⟨rfl, rfl⟩ | ⟨b, cap, rfl, _⟩ <;>
    simp [execOp, resolve, invoke, builtin, Builtin.len_, ha.ev hx, run_underlying (underlying_elem he), goInt]) k
theorem At.lenStr {t : TypeId} {s : ByteArray} (hx : ev L x = some (.string s)) (he : strB P t = true) (hN : Nat.blt d N = true) (k : At N ds ((d, .int .i64 s.size) :: L) (wpList P ops Q rest) w) :
    At N ds L (wpList P ops Q (⟨some d, .call ⟨.builtin .len, #[x], #[t]⟩, ty, pos, aft, none⟩ :: rest)) w :=
  At.op rfl rfl hN (fun a ha => by
    simp [execOp, resolve, invoke, builtin, Builtin.len_, ha.ev hx, run_underlying (underlying_str he), goInt]) k

-- ------------------------------------------------------------------ calls
theorem run_callFunc {f : FuncId} (h : entB P f = true) (args : Array Value) (w : World) : (callFunc f args).run P w = .ok (.enter f args) w := by
  unfold entB at h
  split at h
  case h_2 => cases h
  rename_i fn hf
  simp only [Bool.and_eq_true, Bool.not_eq_true'] at h
  obtain ⟨h1, h2⟩ := h
  have h1' : ¬ fn.name = "runtime.NumGoroutine" := by simpa using h1
  have h3 : ¬ fn.body = none := by intro e; rw [e] at h2; cases h2
  simp [callFunc, hf, h1', h3]

theorem At.enterAs {o : Oper} {f : FuncId} {args : Array Value} {R : Ending → World → Prop} (hg : o.guard = none) (run : ∀ a, Is N ds L a → (execOp a.eval o).run P w = .ok (.enter f args) w) (hc : Calls P f args w R)
    (k : ∀ e w', R e w' → ∃ v, e = .returned v ∧ ∀ a, Is N ds L a → wpList P ops Q rest (a.put o.dst v) w') : At N ds L (wpList P ops Q (o :: rest)) w := fun a ha => by
  refine wpList_plain hg fun K hK => ?_
  unfold Oper.wp
  rw [run a ha, Oper.upon_enter]
  refine hc.mono fun e w' hR => ?_
  obtain ⟨v, rfl, hv⟩ := k e w' hR
  exact hK _ _ (hv a ha)

/-- A call of a named function, by its contract. -/
theorem At.call {f : FuncId} {args : Array Operand} {tys : Array TypeId} {vs : List Value} {R : Ending → World → Prop} (hent : entB P f = true) (ha : evs L args.toList = some vs) (hN : Nat.blt d N = true) (hc : Calls P f vs.toArray w R)
    (k : ∀ e w', R e w' → ∃ v, e = .returned v ∧ At N ds ((d, v) :: L) (wpList P ops Q rest) w') :
    At N ds L (wpList P ops Q (⟨some d, .call ⟨.value (.func f), args, tys⟩, ty, pos, aft, none⟩ :: rest)) w :=
  At.enterAs (f := f) (args := vs.toArray) rfl (fun a hi => by
    have h := hi.evs ha
    have : args.map a.eval = vs.toArray := by apply Array.ext'; rw [← h]; simp
    simp [execOp, resolve, Deferred.ofValue, invoke, Act.eval, run_callFunc hent, this]) hc
    (fun e w' hR => by obtain ⟨v, he, hk⟩ := k e w' hR; exact ⟨v, he, fun a hi => hk _ (hi.put hN)⟩)
/-- A call of a closure. -/
theorem At.callV {f : FuncId} {cap : Array Value} {args : Array Operand} {tys : Array TypeId} {vs : List Value} {R : Ending → World → Prop} (hx : ev L x = some (.func (.func f) #[] cap)) (hent : entB P f = true) (ha : evs L args.toList = some vs) (hN : Nat.blt d N = true)
    (hc : Calls P f (vs ++ cap.toList).toArray w R)
    (k : ∀ e w', R e w' → ∃ v, e = .returned v ∧ At N ds ((d, v) :: L) (wpList P ops Q rest) w') :
    At N ds L (wpList P ops Q (⟨some d, .call ⟨.value x, args, tys⟩, ty, pos, aft, none⟩ :: rest)) w :=
  At.enterAs (f := f) (args := (vs ++ cap.toList).toArray) rfl (fun a hi => by
    have h := hi.evs ha
    have : args.map a.eval = vs.toArray := by apply Array.ext'; rw [← h]; simp
    have e : vs.toArray ++ cap = (vs ++ cap.toList).toArray := by apply Array.ext'; simp
    simp [execOp, resolve, Deferred.ofValue, invoke, hi.ev hx, run_callFunc hent, this, e]) hc
    (fun e w' hR => by obtain ⟨v, he, hk⟩ := k e w' hR; exact ⟨v, he, fun a hi => hk _ (hi.put hN)⟩)

-- ------------------------------------------------------------------ the end of a function
/-- What the results' places hold. -/
inductive ResV (P : Program) (L : List (Nat × Value)) (w : World) : List ResultVar → List Value → Prop
  | nil : ResV P L w [] []
  | tmp {t : Nat} {v : Value} {r : List ResultVar} {vs : List Value} (h : look L t = some v) (k : ResV P L w r vs) : ResV P L w (.tmp t :: r) (v :: vs)
  | cell {t b o : Nat} {u : TypeId} {v : Value} {r : List ResultVar} {vs : List Value} (h : look L t = some (.pointer (some ⟨b, o, none⟩))) (hl : Ld P w u b o v) (k : ResV P L w r vs) : ResV P L w (.cell t u :: r) (v :: vs)

def resOne (tmps : Array Value) : ResultVar → Sem Value
  | .tmp t => pure (tmps.getD t undef)
  | .cell p t => do loadVar t (← asAddr (tmps.getD p undef))
theorem ResV.run (ha : Is N ds L a) {rs : List ResultVar} {vs : List Value} (h : ResV P L w rs vs) : (rs.mapM (resOne a.tmps)).run P w = .ok vs w := by
  induction h with
  | nil => rfl
  | tmp h _ ih => simp only [List.mapM_cons, resOne, Sem.run_bind, Sem.run_pure, Result.andThen_ok, ih, ha.get _ _ h]
  | cell h hl _ ih =>
    unfold Ld at hl
    have hx : ∀ p : Addr, (asAddr (.pointer (some p))).run P w = .ok p w := fun _ => rfl
    simp only [List.mapM_cons, resOne, Sem.run_bind, Sem.run_pure, Result.andThen_ok, ha.get _ _ h, hx, hl, ih]

/-- Of the results one value. -/
def resOf : List Value → Value
  | [v] => v
  | vs => .tuple vs.toArray

theorem run_results (ha : Is N ds L a) {fn : Func} {vs : List Value} (h : ResV P L w fn.results.toList vs) : (results fn a.tmps).run P w = .ok (resOf vs) w := by
  have hr := ResV.run ha h
  have : (fn.results.mapM (resOne a.tmps)).run P w = .ok vs.toArray w := by
    rw [← Array.toArray_toList (xs := fn.results), List.mapM_toArray, Sem.run_map, hr]
    rfl
  have hfun : results fn a.tmps = (do let vs ← fn.results.mapM (resOne a.tmps); pure (if h : vs.size = 1 then vs[0] else .tuple vs)) := by
    unfold results
    congr 1
    first | done | (congr 1; funext r; cases r <;> rfl)
  rw [hfun, Sem.run_bind, this]
  simp only [Result.andThen_ok, Sem.run_pure]
  match vs with
  | [] => rfl
  | [v] => rfl
  | _ :: _ :: _ => simp [resOf]

theorem At.doneR {fn : Func} {R : Ending → World → Prop} {vs : List Value} (h : ResV P L w fn.results.toList vs) (hR : R (.returned (resOf vs)) w) : At N [] L (bodyPost P fn R .ret) w :=
  fun _ ha => ⟨ha.defers, _, run_results ha h, hR⟩
theorem At.doneN {fn : Func} {R : Ending → World → Prop} {vs : List Value} (h : ResV P L w fn.results.toList vs) (hR : R (.returned (resOf vs)) w) : At N [] L (bodyPost P fn R .normal) w :=
  fun _ ha => ⟨ha.defers, _, run_results ha h, hR⟩

/-- The ways through a list of operations meet again: what is known behind it is said once. -/
theorem At.join (L' : List (Nat × Value)) (S : World → Prop) (h : At N ds L (wpList P ops (fun e a w => match e with | .normal => Is N ds L' a ∧ S w | e => Q e a w) rest) w)
    (k : ∀ w', S w' → At N ds L' (Q .normal) w') : At N ds L (wpList P ops Q rest) w := by
  intro a ha
  have key : ∀ (l : List Oper) (a : Act) (w : World), wpList P ops (fun e a w => match e with | .normal => Is N ds L' a ∧ S w | e => Q e a w) l a w → wpList P ops Q l a w := by
    intro l
    induction l with
    | nil => intro a w h; exact k w h.2 a h.1
    | cons o r ih =>
      intro a w h
      unfold wpList at h ⊢
      by_cases hw : Region.wanted o (yielded ops a.tmps) = true
      · rw [if_pos hw] at h ⊢
        rcases h with h | ⟨h1, a0, w0, h2⟩
        · left
          unfold Oper.wp at *
          generalize (execOp a.eval o).run P w = r at *
          cases r with
          | ok n w' =>
            cases n <;> simp only [Oper.upon] at h ⊢ <;>
              first
                | exact ih _ _ h
                | exact Calls.mono h (fun e w'' he => by cases e <;> first | exact ih _ _ he | exact he | (obtain ⟨a0, w0, h0⟩ := he; exact ⟨a0, w0, h0⟩))
                | exact Rows.mono h (fun _ _ he => ih _ _ he)
                | exact h
          | halt x w' => cases x <;> simp only [Oper.upon] at h ⊢ <;> exact h
        · exact .inr ⟨h1, a0, w0, h2⟩
      · rw [if_neg hw] at h ⊢
        exact ih _ _ h
  exact key rest a w (h a ha)
theorem At.joined {L' : List (Nat × Value)} {S : World → Prop} (hs : Sub L L') (h : S w) : At N ds L (wpList P ops (fun e a w => match e with | .normal => Is N ds L' a ∧ S w | e => Q e a w) []) w :=
  fun _ ha => ⟨ha.sub hs, h⟩
end ops
end Go.Proofs.Ytkjmjnddanhapaa
