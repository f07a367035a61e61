/-
  Calls that may end in a panic; a panic; a value in an interface; a deferred call; a function that defers. Plain lemmas over any program; no condition beyond those that stand in each statement.
-/
import Derived.Test.YtkjmjnddanhapaaK7
import Derived.Test.YtkjmjnddanhapaaK12
import Derived.Defers
import Derived.Laws.Build
namespace Go.Proofs.Ytkjmjnddanhapaa
open Go.RowKit

/-- The way out by a panic, whatever the slots. -/
def Pk (N : Nat) (ds : List Deferred) (Q : Exit → Act → World → Prop) (c : List PanicEntry) (w : World) : Prop := ∀ a : Act, a.tmps.size = N → a.defers = ds → Q (.panic c) a w
section
variable {P : Program} {N : Nat} {ds : List Deferred} {L : List (Nat × Value)} {w : World} {ops : Array Oper} {Q : Exit → Act → World → Prop} {rest : List Oper} {d : Nat}
  {ty : TypeId} {pos : String} {aft : Array Edge} {x y : Operand} {c : List PanicEntry}
theorem Pk.then {K : Act → World → Prop} (h : Pk N ds Q c w) : Pk N ds (Exit.then K Q) c w := h
theorem Pk.block {id : Nat} (h : Pk N ds Q c w) : Pk N ds (Exit.inBlock id Q) c w := h
theorem Pk.norm {K : Act → World → Prop} (h : Pk N ds Q c w) : Pk N ds (onNormal K Q) c w := h
theorem Pk.body {fn : Func} {R : Ending → World → Prop} (h : R (.panicked c) w) : Pk N [] (bodyPost P fn R) c w := fun _ _ hd => ⟨hd, h⟩
theorem At.enterAsP {o : Oper} {f : FuncId} {args : Array Value} {R : Ending → World → Prop} (hg : o.guard = none) (run : ∀ a, Is N ds L a → (execOp a.eval o).run P w = .ok (.enter f args) w) (hc : Calls P f args w R)
    (k : ∀ e w', R e w' → (∃ v, e = .returned v ∧ ∀ a, Is N ds L a → wpList P ops Q rest (a.put o.dst v) w') ∨ (∃ c, e = .panicked c ∧ Pk N ds Q c w')) : At N ds L (wpList P ops Q (o :: rest)) w := fun a ha => by
  refine wpList_plain hg fun K hK => ?_
  unfold Oper.wp
  rw [run a ha, Oper.upon_enter]
  refine hc.mono fun e w' hR => ?_
  rcases k e w' hR with ⟨v, rfl, hv⟩ | ⟨c, rfl, hp⟩
  · exact hK _ _ (hv a ha)
  · exact hp a ha.size ha.defers
/-- A call of a named function that may end in a panic. -/
theorem At.callP {f : FuncId} {args : Array Operand} {tys : Array TypeId} {vs : List Value} {R : Ending → World → Prop} (hent : entB P f = true) (ha : evs L args.toList = some vs) (hN : Nat.blt d N = true) (hc : Calls P f vs.toArray w R)
    (k : ∀ e w', R e w' → (∃ v, e = .returned v ∧ At N ds ((d, v) :: L) (wpList P ops Q rest) w') ∨ (∃ c, e = .panicked c ∧ Pk N ds Q c w')) :
    At N ds L (wpList P ops Q (⟨some d, .call ⟨.value (.func f), args, tys⟩, ty, pos, aft, none⟩ :: rest)) w :=
  At.enterAsP (f := f) (args := vs.toArray) rfl (fun a hi => by
    have h := hi.evs ha
    have : args.map a.eval = vs.toArray := by apply Array.ext'; rw [← h]; simp
    simp [execOp, resolve, Deferred.ofValue, invoke, Act.eval, run_callFunc hent, this]) hc
    (fun e w' hR => by
      rcases k e w' hR with ⟨v, he, hk⟩ | h
      · exact .inl ⟨v, he, fun a hi => hk _ (hi.put hN)⟩
      · exact .inr h)
/-- A call of a closure that may end in a panic. -/
theorem At.callVP {f : FuncId} {cap : Array Value} {fst : Array Value} {args : Array Operand} {tys : Array TypeId} {vs : List Value} {R : Ending → World → Prop} (hx : ev L x = some (.func (.func f) fst cap)) (hent : entB P f = true) (ha : evs L args.toList = some vs) (hN : Nat.blt d N = true)
    (hc : Calls P f (fst.toList ++ (vs ++ cap.toList)).toArray w R)
    (k : ∀ e w', R e w' → (∃ v, e = .returned v ∧ At N ds ((d, v) :: L) (wpList P ops Q rest) w') ∨ (∃ c, e = .panicked c ∧ Pk N ds Q c w')) :
    At N ds L (wpList P ops Q (⟨some d, .call ⟨.value x, args, tys⟩, ty, pos, aft, none⟩ :: rest)) w :=
  At.enterAsP (f := f) (args := (fst.toList ++ (vs ++ cap.toList)).toArray) rfl (fun a hi => by
    have h := hi.evs ha
    have : args.map a.eval = vs.toArray := by apply Array.ext'; rw [← h]; simp
    have e : fst ++ vs.toArray ++ cap = (fst.toList ++ (vs ++ cap.toList)).toArray := by apply Array.ext'; simp
    simp [execOp, resolve, Deferred.ofValue, invoke, hi.ev hx, run_callFunc hent, this, e]) hc
    (fun e w' hR => by
      rcases k e w' hR with ⟨v, he, hk⟩ | h
      · exact .inl ⟨v, he, fun a hi => hk _ (hi.put hN)⟩
      · exact .inr h)
theorem At.iface {t : TypeId} {v : Value} (hx : ev L x = some v) (hc : P.concrete t = true) (hN : Nat.blt d N = true) (k : At N ds ((d, .iface t v) :: L) (wpList P ops Q rest) w) :
    At N ds L (wpList P ops Q (⟨some d, .makeInterface t x, ty, pos, aft, none⟩ :: rest)) w :=
  At.op rfl rfl hN (fun a ha => by simp only [execOp, ha.ev hx, Sem.run_bind, run_makeInterface w t v hc, Result.andThen_ok, Sem.run_pure]) k
theorem At.panicI {t : TypeId} {v : Value} (hx : ev L x = some (.iface t v)) (k : Pk N ds Q [{ v := .iface t v, recovered := false }] w) :
    At N ds L (wpList P ops Q (⟨none, .panic x, ty, pos, aft, none⟩ :: rest)) w := fun a ha => by
  refine wpList_plain rfl fun K hK => ?_
  unfold Oper.wp
  have : (execOp a.eval ⟨none, .panic x, ty, pos, aft, none⟩).run P w = .halt (.panic (.iface t v)) w := by
    simp only [execOp, ha.ev hx, Sem.run_bind, run_panic_iface]; rfl
  rw [this, Oper.upon_panic]
  exact k a ha.size ha.defers
theorem At.deferV {f : FuncId} {cap : Array Value} (hx : ev L x = some (.func (.func f) #[] cap)) (k : At N ({ target := .fn (.func f) cap, args := #[] } :: ds) L (wpList P ops Q rest) w) :
    At N ds L (wpList P ops Q (⟨none, .defer ⟨.value x, #[], #[]⟩, ty, pos, aft, none⟩ :: rest)) w := fun a ha => by
  refine wpList_plain rfl fun K hK => ?_
  unfold Oper.wp
  have : (execOp a.eval ⟨none, .defer ⟨.value x, #[], #[]⟩, ty, pos, aft, none⟩).run P w = .ok (.defer { target := .fn (.func f) cap, args := #[] }) w := by
    simp [execOp, resolve, Deferred.ofValue, ha.ev hx]
  rw [this, Oper.upon_defer]
  exact hK _ _ (k _ ⟨by simpa [Act.put] using ha.size, by simp [Act.put, ha.defers], fun t v hv => by simpa [Act.put] using ha.get t v hv⟩)
/-- A function that may have deferred calls: what is known where its text ends; then its deferred calls. -/
theorem At.enterD {f : FuncId} {fn : Func} {c : Code} {args : List Value} {R : Ending → World → Prop} {Q : Exit → Act → World → Prop} (hf : P.funcs[f]? = some fn) (hb : fn.body = some c)
    (hn : fn.ntmps = N) (hl : args.length ≤ N) (L : List (Nat × Value)) (hL : ∀ p ∈ L, args[p.1]? = some p.2) (hQ : ∀ e a w, Q e a w → bodyPostD P fn R e a w) (h : At N [] L (c.wp P Q) w) :
    Calls P f args.toArray w R := by
  refine calls_of_wp_defers hf hb (Code.wp_mono hQ (h _ ⟨?_, rfl, fun t v hv => ?_⟩))
  · simp [hn]; omega
  · have key : ∀ M : List (Nat × Value), (∀ p ∈ M, args[p.1]? = some p.2) → look M t = some v → args[t]? = some v := by
      intro M
      induction M with
      | nil => intro _ h; simp [look] at h
      | cons p r ih =>
        intro hM h
        simp only [look] at h
        by_cases e : p.1 = t
        · have : Nat.beq p.1 t = true := beqT e
          rw [this] at h; simp at h
          have := hM p (by simp)
          rw [e, h] at this; exact this
        · have : Nat.beq p.1 t = false := beqF e
          rw [this] at h
          exact ih (fun q hq => hM q (List.mem_cons_of_mem _ hq)) h
    have h1 := key L hL hv
    have hlt : t < args.length := (List.getElem?_eq_some_iff.1 h1).1
    have h2 := (List.getElem?_eq_some_iff.1 h1).2
    simp [Array.getElem?_append, hlt, h2]
end
end Go.Proofs.Ytkjmjnddanhapaa
