/-
  Expressions of any depth; how deep a term is. Plain lemmas; no condition beyond those that stand in each statement.
-/
import Derived.Test.YtkjmjnddanhapaaU7
namespace Go.Proofs.Ytkjmjnddanhapaa
open Go.RowKit

theorem expr_any (en : Int) : ∀ (n : Nat) (dp : Int), dp + ((n : Nat) : Int) = 201 → 0 ≤ dp → ExC en dp (exprP en n) := by
  intro n
  induction n with
  | zero =>
    intro dp h h0 wB b0 ts v w h1 h2 h3 h4 h5
    have := expr_step ts v (fun _ => .bad 0 0) w h1 h2 h3 h4 h5 (fun _ => trivial) ⟨h0, by omega⟩ (fun hd => absurd hd (by omega))
    rw [exprP_eq (n := 0) h] at this
    exact this
  | succ n ih =>
    intro dp h h0 wB b0 ts v w h1 h2 h3 h4 h5
    have := expr_step ts v (exprP en n) w h1 h2 h3 h4 h5 (expr_sh en n) ⟨h0, by omega⟩ (fun _ => ih (dp + 1) (by omega) (by omega))
    rw [exprP_eq (n := n + 1) h] at this
    exact this
-- ------------------------------------------------------------------ how deep a term is
mutual
def dS : ST → Nat
  | .mk _ _ _ _ _ kids arms => 1 + max (dSL kids) (dSA arms)
def dSL : List ST → Nat
  | [] => 0
  | t :: r => max (dS t) (dSL r)
def dSA : List SA → Nat
  | [] => 0
  | .mk _ _ b :: r => max (dS b) (dSA r)
end
def SA.body : SA → ST | .mk _ _ b => b
theorem dSL_snoc (l : List ST) (x : ST) : dSL (l ++ [x]) = max (dSL l) (dS x) := by
  induction l with
  | nil => simp [dSL]
  | cons a l ih => simp only [List.cons_append, dSL, ih]; omega
theorem dSA_snoc (l : List SA) (x : SA) : dSA (l ++ [x]) = max (dSA l) (dS x.body) := by
  induction l with
  | nil => cases x; simp [dSA, SA.body]
  | cons a l ih => cases a; simp only [List.cons_append, dSA, ih]; omega
theorem dS_pos (t : ST) : 1 ≤ dS t := by cases t; rw [dS]; omega
theorem dS_eq (t : Tm) : dS (shT t) = 1 + max (dSL (t.kids.map shT)) (dSA (t.arms.map shAm)) := by rw [shT_eq, dS]
theorem take_snoc {α β : Type} {l : List α} {f : α → β} {k : Nat} {u : α} (h : l[k]? = some u) : (l.take (k + 1)).map f = (l.take k).map f ++ [f u] := by
  rw [List.take_add_one, h]; simp
theorem kid_next {t : Tm} {k : Nat} {u : Tm} (h : t.kids[k]? = some u) : dSL ((t.kids.take (k + 1)).map shT) = max (dSL ((t.kids.take k).map shT)) (dS (shT u)) := by rw [take_snoc h, dSL_snoc]
theorem arm_next {t : Tm} {k : Nat} {u : Am} (h : t.arms[k]? = some u) : dSA ((t.arms.take (k + 1)).map shAm) = max (dSA ((t.arms.take k).map shAm)) (dS (shT u.body)) := by rw [take_snoc h, dSA_snoc]; rfl
theorem max_lit (a b : Nat) : (if (a : Int) < (b : Int) then (b : Int) else (a : Int)) = ((max a b : Nat) : Int) := by split <;> omega
theorem At.maxI {P : Program} {N : Nat} {ds : List Deferred} {L : List (Nat × Value)} {w : World} {ops : Array Oper} {Q : Exit → Act → World → Prop} {rest : List Oper} {d : Nat} {ty : TypeId} {pos : String} {aft : Array Edge} {x y : Operand} {t t' : TypeId} {q q' : IntKind} {m n : Int}
    (hx : ev L x = some (.int q m)) (hy : ev L y = some (.int q' n)) (hN : Nat.blt d N = true) (k : At N ds ((d, .int q (if m < n then n else m)) :: L) (wpList P ops Q rest) w) :
    At N ds L (wpList P ops Q (⟨some d, .call ⟨.builtin .max, #[x, y], #[t, t']⟩, ty, pos, aft, none⟩ :: rest)) w :=
  At.op rfl rfl hN (fun a ha => by
    simp only [execOp, resolve, invoke, builtin, Sem.run_bind, Sem.run_pure, Result.andThen_ok, List.map_toArray, List.map_cons, List.map_nil, ha.ev hx, ha.ev hy]
    have : (Builtin.max_ #[t, t'] ty #[Value.int q m, Value.int q' n]).run P w = .ok (.int q (if m < n then n else m)) w := by simp [Builtin.max_, Builtin.max2]; try (split <;> simp)
    rw [this]; rfl) k
-- ------------------------------------------------------------------ programs
def mkPr (ev dv : Value) (effs : List Eff) (dats : List Dat) (t : Tm) : Pr := { cs := #[ev, dv] ++ t.cs, ev := ev, dv := dv, effs := effs, dats := dats, body := t }
theorem mkPr_ok {w : World} {ev dv : Value} {effs : List Eff} {dats : List Dat} {t : Tm} (h1 : RowsAt w ev 2 (effs.map Eff.cs)) (h2 : RowsAt w dv 2 (dats.map Dat.cs)) (h3 : ∀ e ∈ effs, EffOk w e) (h4 : ∀ d ∈ dats, DatOk w d) (h5 : TmOk w t) : PrOk w (mkPr ev dv effs dats t) := by
  have hs := h5.size
  refine ⟨by simp [mkPr, hs], ?_, by show (#[ev, dv] ++ t.cs)[0]? = _; rw [Array.getElem?_append_left (by simp)]; rfl, by show (#[ev, dv] ++ t.cs)[1]? = _; rw [Array.getElem?_append_left (by simp)]; rfl, h1, h2, h3, h4, ?_, h5⟩
  · have ho := h5.one
    show (#[ev, dv] ++ t.cs).all (·.oneCell') = true
    rw [Array.all_append, ho]
    simp [h1.ok.one, h2.ok.one]
  · show (#[ev, dv] ++ t.cs).extract 2 (2 + 21) = t.cs
    apply Array.ext'
    simp [Array.toList_extract, List.extract]
    rw [List.take_of_length_le (by rw [Array.length_toList]; omega)]
def prBlk (p : Pr) (b : Nat) : Prop := (p.effs ≠ [] ∧ b = vBlock p.ev) ∨ (p.dats ≠ [] ∧ b = vBlock p.dv) ∨ (∃ x ∈ p.effs, kEff.blk x b) ∨ (∃ x ∈ p.dats, kDat.blk x b) ∨ tmBlk p.body b
def kPr : Kd Pr := ⟨PrOk, prBlk, fun h hb => by
  rcases hb with ⟨h1, rfl⟩ | ⟨h1, rfl⟩ | ⟨x, h1, h2⟩ | ⟨x, h1, h2⟩ | h1
  · exact h.effsAt.blkLt (by decide) h1
  · exact h.datsAt.blkLt (by decide) h1
  · exact kEff.lt (h.effOk x h1) h2
  · exact kDat.lt (h.datOk x h1) h2
  · exact kTm.lt h.bodyOk h1, fun h hb =>
  { h with
    effsAt := h.effsAt.keepB fun hn => hb _ (.inl ⟨map_ne hn, rfl⟩)
    datsAt := h.datsAt.keepB fun hn => hb _ (.inr (.inl ⟨map_ne hn, rfl⟩))
    effOk := fun x hx => kEff.keep (h.effOk x hx) fun b h1 => hb b (.inr (.inr (.inl ⟨x, hx, h1⟩)))
    datOk := fun x hx => kDat.keep (h.datOk x hx) fun b h1 => hb b (.inr (.inr (.inr (.inl ⟨x, hx, h1⟩))))
    bodyOk := kTm.keep h.bodyOk fun b h1 => hb b (.inr (.inr (.inr (.inr h1)))) }⟩
def rE (w : World) (x : SEff) (t : Eff) : Prop := shEff t = x ∧ ∀ b, kEff.blk t b → w.heap.size ≤ b
def rD (w : World) (x : SDat) (t : Dat) : Prop := shDat t = x ∧ ∀ b, kDat.blk t b → w.heap.size ≤ b
/-- A program that was read. -/
def okP (w : World) (x : SPr) (val : Value) (w' : World) : Prop := ∃ p : Pr, val = .agg p.cs ∧ PrOk w' p ∧ shPr p = x ∧ plT p.body ∧ ∀ b, prBlk p b → w.heap.size ≤ b
theorem okP_made {w w' : World} {ev dv : Value} {effs : List Eff} {dats : List Dat} {t : Tm} {xe : List SEff} {xd : List SDat} {x : ST} (h1 : RowsAt w' ev 2 (effs.map Eff.cs)) (h2 : RowsAt w' dv 2 (dats.map Dat.cs)) (h3 : ∀ e ∈ effs, EffOk w' e) (h4 : ∀ d ∈ dats, DatOk w' d) (h5 : TmOk w' t)
    (h6 : All2 (rE w) xe effs) (h7 : All2 (rD w) xd dats) (h8 : MT w x t) (h9 : effs ≠ [] → w.heap.size ≤ vBlock ev) (h10 : dats ≠ [] → w.heap.size ≤ vBlock dv) : okP w ⟨xe, xd, x⟩ (.agg (mkPr ev dv effs dats t).cs) w' :=
  ⟨mkPr ev dv effs dats t, rfl, mkPr_ok h1 h2 h3 h4 h5, by
    show (⟨effs.map shEff, dats.map shDat, shT t⟩ : SPr) = _
    rw [All2.map (All2.mono h6 (fun x t h => h.1)), All2.map (All2.mono h7 (fun x t h => h.1)), h8.sh], h8.pl, fun b hb => by
    rcases hb with ⟨h, rfl⟩ | ⟨h, rfl⟩ | ⟨x, h, hb⟩ | ⟨x, h, hb⟩ | h
    · exact h9 h
    · exact h10 h
    · exact All2.all h6 (fun x t h => h.2) x h b hb
    · exact All2.all h7 (fun x t h => h.2) x h b hb
    · exact h8.blk b h⟩
-- ------------------------------------------------------------------ a call that may panic, with what is known of the slots
theorem At.callPL {P : Program} {N : Nat} {ds : List Deferred} {L : List (Nat × Value)} {w : World} {ops : Array Oper} {Q : Exit → Act → World → Prop} {rest : List Oper} {d : Nat} {ty : TypeId} {pos : String} {aft : Array Edge}
    {f : FuncId} {args : Array Operand} {tys : Array TypeId} {vs : List Value} {R : Ending → World → Prop} (hent : entB P f = true) (ha : evs L args.toList = some vs) (hN : Nat.blt d N = true) (hc : Calls P f vs.toArray w R)
    (k : ∀ e w', R e w' → (∃ v, e = .returned v ∧ At N ds ((d, v) :: L) (wpList P ops Q rest) w') ∨ (∃ c, e = .panicked c ∧ At N ds L (Q (.panic c)) w')) :
    At N ds L (wpList P ops Q (⟨some d, .call ⟨.value (.func f), args, tys⟩, ty, pos, aft, none⟩ :: rest)) w := fun a hi => by
  refine wpList_plain rfl fun K hK => ?_
  unfold Oper.wp
  have h := hi.evs ha
  have he : args.map a.eval = vs.toArray := by apply Array.ext'; rw [← h]; simp
  have run : (execOp a.eval ⟨some d, .call ⟨.value (.func f), args, tys⟩, ty, pos, aft, none⟩).run P w = .ok (.enter f vs.toArray) w := by
    simp [execOp, resolve, Deferred.ofValue, invoke, Act.eval, run_callFunc hent, he]
  rw [run, Oper.upon_enter]
  refine hc.mono fun e w' hR => ?_
  rcases k e w' hR with ⟨v, rfl, hv⟩ | ⟨c, rfl, hp⟩
  · exact hK _ _ (hv _ (hi.put hN))
  · exact hp a hi
/-- A deferred call that takes a panic back. -/
theorem At.doneRec {P : Program} {N : Nat} {fn : Func} {R : Ending → World → Prop} {w : World} {L : List (Nat × Value)} {f : FuncId} {cap : Array Value} {v : Value} {K : World → Prop} (hent : entB P f = true)
    (hd : CallsD P f cap (.panicking [{ v := v, recovered := false }]) w fun e u' w' => u' = .panicking [{ v := v, recovered := true }] ∧ ((∃ v, e = .returned v) ∧ K w'))
    (k : ∀ w', K w' → ∃ vs, ResV P L w' fn.results.toList vs ∧ R (.returned (resOf vs)) w') : At N [{ target := .fn (.func f) cap, args := #[] }] L (bodyPostD P fn R (.panic [{ v := v, recovered := false }])) w := fun a ha => by
  show Leaves _ _ _ _ a.defers _ _
  rw [ha.defers]
  refine leaves_cons (f := f) (args := cap) (by simp) (by simp [invoke, run_callFunc hent]) (hd.mono fun e u' w' h => ?_)
  obtain ⟨rfl, ⟨v', rfl⟩, hK⟩ := h
  obtain ⟨vs, h1, h2⟩ := k w' hK
  exact ⟨_, run_results ha h1, h2⟩
theorem At.doneRet {P : Program} {N : Nat} {fn : Func} {R : Ending → World → Prop} {w : World} {L : List (Nat × Value)} {f : FuncId} {cap : Array Value} {K : World → Prop} (hent : entB P f = true)
    (hd : CallsD P f cap .returning w fun e u' w' => u' = .returning ∧ ((∃ v, e = .returned v) ∧ K w'))
    (k : ∀ w', K w' → ∃ vs, ResV P L w' fn.results.toList vs ∧ R (.returned (resOf vs)) w') : At N [{ target := .fn (.func f) cap, args := #[] }] L (bodyPostD P fn R .ret) w := fun a ha => by
  show Leaves _ _ _ _ a.defers _ _
  rw [ha.defers]
  refine leaves_one (.inl rfl) hent hd (fun w' hK => ?_)
  obtain ⟨vs, h1, h2⟩ := k w' hK
  exact ⟨_, run_results ha h1, h2⟩
theorem At.done0 {P : Program} {N : Nat} {fn : Func} {R : Ending → World → Prop} {w : World} {L : List (Nat × Value)} {vs : List Value} (h : ResV P L w fn.results.toList vs) (hR : R (.returned (resOf vs)) w) : At N [] L (bodyPostD P fn R .ret) w := fun a ha => by
  show Leaves _ _ _ _ a.defers _ _
  rw [ha.defers]
  exact ⟨_, run_results ha h, hR⟩
-- ------------------------------------------------------------------ what Parse tells
def zT : ST := .mk 0 0 E0B E0B 0 [] []
def zP : SPr := ⟨[], [], zT⟩
def zPr : Pr := { cs := #[.slice none 0 0, .slice none 0 0, .int .i64 0, .int .i64 0, .string (⟨#[]⟩ : ByteArray), .string (⟨#[]⟩ : ByteArray), .int .i64 0, .slice none 0 0, .slice none 0 0, .int .i64 0, .string (⟨#[]⟩ : ByteArray), .int .i64 0, .slice none 0 0, .slice none 0 0, .int .i64 0, .slice none 0 0, .int .i64 0, .int .i64 0, .string (⟨#[]⟩ : ByteArray), .int .i64 0, .slice none 0 0, .slice none 0 0, .int .i64 0], ev := .slice none 0 0, dv := .slice none 0 0, effs := [], dats := [], body := zeroTm }
theorem zPr_ok (w : World) : PrOk w zPr := ⟨rfl, by simp [zPr, Value.oneCell'], rfl, rfl, RowsAt.nil _ _, RowsAt.nil _ _, all_nil, all_nil, rfl, zeroTm_ok w⟩
theorem zPr_blk (b : Nat) : ¬ prBlk zPr b := by
  rintro (⟨h, _⟩ | ⟨h, _⟩ | ⟨x, h, _⟩ | ⟨x, h, _⟩ | h)
  · exact h rfl
  · exact h rfl
  · cases h
  · cases h
  · have h : tmBlk zeroTm b := h
    rw [zeroTm, tmBlk] at h
    rcases h with ⟨h, _⟩ | ⟨h, _⟩ | h | h
    · exact h rfl
    · exact h rfl
    · exact h
    · exact h
/-- What a source is: a program, or where it is wrong, and how. -/
def parseR (l : List UInt8) : Option SPr × Int × Int :=
  if lexE l = 0 then
    match programP (l.length : Int) (lexT l) with
    | .ok x _ => if 200 < dS x.body then (none, 0, 6) else (some x, 0, 0)
    | .bad a c => (none, a, c)
  else (none, (lexA l : Int), lexE l)
end Go.Proofs.Ytkjmjnddanhapaa
