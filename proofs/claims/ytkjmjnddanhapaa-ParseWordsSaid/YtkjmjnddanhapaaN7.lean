/-
  A function with one deferred call; the levels of expressions. Plain lemmas; no condition beyond those that stand in each statement.
-/
import Derived.Test.YtkjmjnddanhapaaU6
namespace Go.Proofs.Ytkjmjnddanhapaa
open Go.RowKit

theorem leaves_one {P : Program} {fn : Func} {tmps : Array Value} {R : Ending → World → Prop} {f : FuncId} {cap : Array Value} {u : FrameMode} {w : World} {K : World → Prop} (hu : u = .returning ∨ ∃ v, u = .panicking [{ v := v, recovered := false }]) (hent : entB P f = true)
    (hd : CallsD P f cap u w fun e u' w' => u' = u ∧ ((∃ v, e = .returned v) ∧ K w')) (k : ∀ w', K w' → Leaves P fn tmps R [] u w') : Leaves P fn tmps R [{ target := .fn (.func f) cap, args := #[] }] u w := by
  refine leaves_cons (f := f) (args := cap) (by rcases hu with rfl | ⟨v, rfl⟩ <;> simp) (by simp [invoke, run_callFunc hent]) (hd.mono fun e u' w' h => ?_)
  obtain ⟨rfl, ⟨v, rfl⟩, hK⟩ := h
  have hs : settle u' = u' := by rcases hu with rfl | ⟨v, rfl⟩ <;> rfl
  show Leaves P fn tmps R [] (settle u') w'
  rw [hs]; exact k w' hK
/-- What the body of a function with one deferred call must come to: that call changes no panic. -/
def postD1 (P : Program) (fn : Func) (f : FuncId) (R : Ending → World → Prop) : Exit → Act → World → Prop
  | .panic c, a, w => (a.defers = [] ∧ R (.panicked c) w) ∨ (∃ cap, a.defers = [{ target := .fn (.func f) cap, args := #[] }] ∧ ∃ (v : Value) (K : World → Prop), c = [{ v := v, recovered := false }] ∧
      (∀ u, CallsD P f cap u w fun e u' w' => u' = u ∧ ((∃ v, e = .returned v) ∧ K w')) ∧ ∀ w', K w' → R (.panicked c) w')
  | e, a, w => bodyPostD P fn R e a w
theorem postD1.to {P : Program} {fn : Func} {f : FuncId} {R : Ending → World → Prop} (hent : entB P f = true) : ∀ e a w, postD1 P fn f R e a w → bodyPostD P fn R e a w := fun e a w h => by
  cases e with
  | panic c =>
    show Leaves _ _ _ _ a.defers _ _
    rcases h with ⟨h1, h2⟩ | ⟨cap, h1, v, K, rfl, hd, k⟩
    · rw [h1]; exact h2
    · rw [h1]; exact leaves_one (.inr ⟨_, rfl⟩) hent (hd _) k
  | _ => exact h
section
variable {P : Program} {N : Nat} {fn : Func} {R : Ending → World → Prop} {w : World} {L : List (Nat × Value)}
theorem PanicOk.bodyD1 {f : FuncId} : PanicOk (postD1 P fn f R) := fun _ _ _ _ hd h => by
  rcases h with ⟨h1, h2⟩ | ⟨cap, h1, h2⟩
  · exact .inl ⟨hd.trans h1, h2⟩
  · exact .inr ⟨cap, hd.trans h1, h2⟩
theorem Pk.bodyD0 {f : FuncId} {c : List PanicEntry} (h : R (.panicked c) w) : Pk N [] (postD1 P fn f R) c w := fun a _ hd => .inl ⟨hd, h⟩
theorem Pk.bodyD1 {f : FuncId} {cap : Array Value} {v : Value} {K : World → Prop} (hd : ∀ u, CallsD P f cap u w fun e u' w' => u' = u ∧ ((∃ v, e = .returned v) ∧ K w'))
    (k : ∀ w', K w' → R (.panicked [{ v := v, recovered := false }]) w') : Pk N [{ target := .fn (.func f) cap, args := #[] }] (postD1 P fn f R) [{ v := v, recovered := false }] w := fun a _ h => .inr ⟨cap, h, v, K, rfl, hd, k⟩
theorem At.doneD {f : FuncId} {cap : Array Value} {K : World → Prop} (hent : entB P f = true) (hd : ∀ u, CallsD P f cap u w fun e u' w' => u' = u ∧ ((∃ v, e = .returned v) ∧ K w'))
    (k : ∀ w', K w' → ∃ vs, ResV P L w' fn.results.toList vs ∧ R (.returned (resOf vs)) w') : At N [{ target := .fn (.func f) cap, args := #[] }] L (postD1 P fn f R .normal) w := fun a ha => by
  show Leaves _ _ _ _ a.defers _ _
  rw [ha.defers]
  refine leaves_one (.inl rfl) hent (hd _) (fun w' hK => ?_)
  obtain ⟨vs, h1, h2⟩ := k w' hK
  exact ⟨_, run_results ha h1, h2⟩
theorem At.doneDR {f : FuncId} {cap : Array Value} {K : World → Prop} (hent : entB P f = true) (hd : ∀ u, CallsD P f cap u w fun e u' w' => u' = u ∧ ((∃ v, e = .returned v) ∧ K w'))
    (k : ∀ w', K w' → ∃ vs, ResV P L w' fn.results.toList vs ∧ R (.returned (resOf vs)) w') : At N [{ target := .fn (.func f) cap, args := #[] }] L (postD1 P fn f R .ret) w := fun a ha => At.doneD hent hd k a ha
theorem At.enterCD {f : FuncId} {c : Code} {args : List Value} {u : FrameMode} {R : Ending → World → Prop} (hf : P.funcs[f]? = some fn) (hb : fn.body = some c) (hn : fn.ntmps = N) (hl : args.length ≤ N) (L : List (Nat × Value)) (hL : ∀ p ∈ L, args[p.1]? = some p.2) (h : At N [] L (c.wp P (bodyPost P fn R)) w) :
    CallsD P f args.toArray u w fun e u' w' => u' = u ∧ R e w' := callsD_of_wp hf hb (h _ (Is.start hn hl L hL))
end
/-- An expression, so deep. -/
def exprS (en dp : Int) (ex : List Tk → PR ST) (ts : List Tk) : PR ST := bif decide (200 < dp) then .bad (nx en ts).a 6 else exB en ex ts
theorem exprP_eq {en dp : Int} {n : Nat} (h : dp + ((n : Nat) : Int) = 201) (ts : List Tk) : exprS en dp (match n with | 0 => fun _ => .bad 0 0 | m + 1 => exprP en m) ts = exprP en n ts := by
  cases n with
  | zero =>
    have : decide (200 < dp) = true := by simp; omega
    rw [exprS, this]; rfl
  | succ m =>
    have : decide (200 < dp) = false := by simp; omega
    rw [exprS, this]; rfl
theorem wrap_sub {d : Int} (h : -9223372036854775808 ≤ d ∧ d ≤ 9223372036854775807) : IntKind.i64.wrap (d + 1 - 1) = d := by rw [show d + 1 - 1 = d by omega]; exact wrap64_id _ h
theorem OwnR.of {α : Type} {f : α → Array Value} {w : World} {b m sz : Nat} {l : List α} {T : TypeId} (h : w.heap[b]? = some (.cells ((l.map f).flatMap (·.toList)).toArray T)) (hs : ∀ u ∈ l, (f u).size = sz) (hm : m = l.length) (hl : m ≤ maxLen) : OwnR T sz f w (.slice (some ⟨b, 0, none⟩) m m) l := by
  subst hm
  have hlen := flat_len' hs
  exact ⟨hlen, .inr ⟨b, _, _, rfl, Nat.zero_le _, h, Nat.le_refl _, hl, by simp [hlen], by simpa using List.take_of_length_le (Nat.le_of_eq hlen)⟩⟩
theorem names_len {en : Int} : ∀ (n : Nat) (l : List ByteArray) (ts : List Tk) {x : List ByteArray} {us : List Tk}, namesP en n l ts = .ok x us → x.length = l.length + n := by
  intro n
  induction n with
  | zero => intro l ts x us h; rw [namesP] at h; cases h; rfl
  | succ n ih =>
    intro l ts x us h
    rw [namesP] at h
    cases hw : wordP en 2 ts with
    | ok t vs => rw [hw] at h; have := ih _ _ h; simp at this; omega
    | bad a c => rw [hw] at h; cases h
theorem getD_ofB {l : List ByteArray} {i : Nat} {u d : ByteArray} (h : l[i]? = some u) : l.getD i d = u := by rw [List.getD_eq_getElem?_getD, h]; rfl
theorem MAL.one {w : World} {x : SA} {t : Am} (k : MA w x t) : MAL w [x] [t] := All2.cons k All2.nil
end Go.Proofs.Ytkjmjnddanhapaa
