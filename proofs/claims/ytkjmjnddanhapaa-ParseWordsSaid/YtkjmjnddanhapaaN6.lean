/-
  A range over a function, in the walk's own calculus. Plain lemmas over any program; no condition beyond those that stand in each statement.
-/
import Derived.Test.YtkjmjnddanhapaaU5
import Derived.RangeFuncNested
import Derived.RangeFuncLeaves
import Derived.RangeFuncCalls
namespace Go.Proofs.Ytkjmjnddanhapaa
open Go.RowKit

/-- No fence, in a round or in none. -/
def Wd (F : Fence) : Prop := F = Fence.wide ∨ ∃ l, F = Fence.wide.inRound l
theorem Wd.fn {F : Fence} (h : Wd F) (f : FuncId) : F.fn f := by rcases h with rfl | ⟨l, rfl⟩ <;> trivial
theorem Wd.depth {F : Fence} (h : Wd F) : F.depth = none := by rcases h with rfl | ⟨l, rfl⟩ <;> rfl
theorem Wd.calls {F : Fence} (h : Wd F) {n : Nat} {P : Program} {f : FuncId} {args : Array Value} {w : World} {R : Ending → World → Prop} (hc : Calls P f args w R) : CallsIn F n P f args w R := by
  rcases h with rfl | ⟨l, rfl⟩
  · exact callsIn_wide.2 hc
  · exact CallsIn.inRound l (callsIn_wide.2 hc)
theorem rowsIn_wide {n : Nat} {P : Program} {row : String} {args : Array Value} {w : World} {R : Value → World → Prop} (h : Rows P row args w R) : RowsIn Fence.wide n P row args w R :=
  fun c cs _ => let ⟨v, w', r, s⟩ := h c cs; ⟨v, w', r, stepsIn_wide.2 s⟩
theorem Wd.rows {F : Fence} (h : Wd F) {n : Nat} {P : Program} {row : String} {args : Array Value} {w : World} {R : Value → World → Prop} (hc : Rows P row args w R) : RowsIn F n P row args w R := by
  rcases h with rfl | ⟨l, rfl⟩
  · exact rowsIn_wide hc
  · exact (rowsIn_wide (n := n) hc : RowsIn Fence.wide n P row args w R)
def noDef (o : Oper) : Bool := match o.op with | .defer _ => false | _ => true
theorem noDef_ne {o : Oper} (h : noDef o = true) : ∀ c, o.op ≠ .defer c := fun c e => by simp [noDef, e] at h
section
variable {F : Fence} {n : Nat} {P : Program} {N : Nat} {ds : List Deferred} {L : List (Nat × Value)} {w : World} {ops : Array Oper} {Q : Exit → Act → World → Prop} {rest : List Oper} {d : Nat}
  {ty : TypeId} {pos : String} {aft : Array Edge} {x : Operand}
theorem wp_in {o : Oper} {a : Act} {next next' : Act → World → Prop} {K : Act → World → Prop} (hF : Wd F) (hd : noDef o = true) (hQ : ∀ a w, ¬ Q .outgrown a w) (h : o.wp P a w next (onNormal K Q)) (hn : ∀ a w, next a w → next' a w) : o.wpIn F n P a w next' Q := by
  unfold Oper.wp at h
  refine ⟨fun f _ => hF.fn f, ?_⟩
  rw [Oper.semAt_eq _ _ _ (noDef_ne hd)]
  have hdep : F.depth.isSome = true → 1 ≤ n := fun e => by rw [hF.depth] at e; cases e
  cases hr : (execOp a.eval o).run P w with
  | ok v w' =>
    rw [hr] at h
    cases v with
    | value v => exact hn _ _ h
    | skip => exact hn _ _ h
    | defer d => exact hn _ _ h
    | enter f args =>
      refine ⟨hdep, (hF.calls (Calls.mono h fun e w'' hq => ?_))⟩
      cases e with
      | returned v => exact hn _ _ hq
      | panicked ch => exact hq
      | outgrown => obtain ⟨a1, w1, h1⟩ := hq; exact absurd h1 (hQ _ _)
    | row r args => exact ⟨hdep, hF.rows (Rows.mono h fun v w'' hq => hn _ _ hq)⟩
    | _ => exact h.elim
  | halt r w' =>
    rw [hr] at h
    cases r with
    | panic v => exact h
    | _ => exact h.elim
theorem list_in (hF : Wd F) (hQ : ∀ a w, ¬ Q .outgrown a w) : ∀ (l : List Oper), l.all noDef = true → ∀ a w, wpList P ops (onNormal (wpListIn F n P ops Q rest) Q) l a w → wpListIn F n P ops Q (l ++ rest) a w := by
  intro l
  induction l with
  | nil => intro _ a w h; exact h
  | cons o l ih =>
    intro hd a w h
    simp only [List.all_cons, Bool.and_eq_true] at hd
    simp only [wpList] at h
    show (if Region.wanted o (yielded ops a.tmps) then _ else _)
    split at h
    · rename_i hw
      rw [if_pos hw]
      rcases h with h | ⟨_, a1, w1, h1⟩
      · exact wp_in hF hd.1 hQ h (fun a w h => ih hd.2 a w h)
      · exact absurd h1 (hQ _ _)
    · rename_i hw
      rw [if_neg hw]
      exact ⟨fun f _ => hF.fn f, ih hd.2 _ _ h⟩
theorem AtI.region {id : Nat} {l : List Oper} (hF : Wd F) (hQ : ∀ a w, ¬ Q .outgrown a w) (hd : l.all noDef = true) (h : At N ds L (wpList P l.toArray Q l) w) : At N ds L ((Code.region id l.toArray false).wpIn F n P Q) w := fun a ha => by
  refine wpIn_region_lit ?_
  have e : onNormal (wpListIn F n P l.toArray Q []) Q = Q := by funext e; cases e <;> rfl
  have := list_in (n := n) (rest := []) (ops := l.toArray) hF hQ l hd a w (by rw [e]; exact h a ha)
  rwa [List.append_nil] at this
/-- Some operations ahead of a call of yield. -/
theorem AtI.split {id : Nat} {l l1 l2 : List Oper} (hl : l = l1 ++ l2) (hF : Wd F) (hQ : ∀ a w, ¬ Q .outgrown a w) (hd : l1.all noDef = true) (h : At N ds L (wpList P l.toArray (onNormal (wpListIn F n P l.toArray Q l2) Q) l1) w) : At N ds L ((Code.region id l.toArray false).wpIn F n P Q) w := fun a ha => by
  refine wpIn_region_lit ?_
  have := list_in (n := n) (rest := l2) (ops := l.toArray) hF hQ l1 hd a w (h a ha)
  rwa [← hl] at this
theorem AtI.last {l : List Oper} (hF : Wd F) (hQ : ∀ a w, ¬ Q .outgrown a w) (hd : l.all noDef = true) (h : At N ds L (wpList P ops Q l) w) : At N ds L (wpListIn F n P ops Q l) w := fun a ha => by
  have e : onNormal (wpListIn F n P ops Q []) Q = Q := by funext e; cases e <;> rfl
  have := list_in (n := n) (rest := []) (ops := ops) hF hQ l hd a w (by rw [e]; exact h a ha)
  rwa [List.append_nil] at this
theorem AtI.seq {c c' : Code} (h : At N ds L (c.wpIn F n P (Exit.then (c'.wpIn F n P Q) Q)) w) : At N ds L ((Code.seq c c').wpIn F n P Q) w := fun a ha => wpIn_seq (h a ha)
theorem AtI.skip (h : At N ds L (Q .normal) w) : At N ds L (Code.skip.wpIn F n P Q) w := fun a ha => wpIn_skip (h a ha)
theorem AtI.exit {id : Nat} (h : At N ds L (Q (.exit id)) w) : At N ds L ((Code.exit id).wpIn F n P Q) w := fun a ha => wpIn_exit (h a ha)
theorem AtI.retc (h : At N ds L (Q .ret) w) : At N ds L (Code.ret.wpIn F n P Q) w := fun a ha => wpIn_ret (h a ha)
theorem AtI.block {id : Nat} {c : Code} (h : At N ds L (c.wpIn F n P (Exit.inBlock id Q)) w) : At N ds L ((Code.block id c).wpIn F n P Q) w := fun a ha => wpIn_block (h a ha)
theorem AtI.cond {c : Operand} {y z : Code} {b : Bool} (hc : ev L c = some (.bool b)) (ht : b = true → At N ds L (y.wpIn F n P Q) w) (hf : b = false → At N ds L (z.wpIn F n P Q) w) : At N ds L ((Code.cond c y z).wpIn F n P Q) w :=
  fun a ha => wpIn_cond_split (ha.ev hc) (fun e => ht e a ha) (fun e => hf e a ha)
theorem AtI.condT {c : Operand} {y z : Code} (hc : ev L c = some (.bool true)) (h : At N ds L (y.wpIn F n P Q) w) : At N ds L ((Code.cond c y z).wpIn F n P Q) w := fun a ha => wpIn_cond_true (ha.ev hc) (h a ha)
theorem AtI.condF {c : Operand} {y z : Code} (hc : ev L c = some (.bool false)) (h : At N ds L (z.wpIn F n P Q) w) : At N ds L ((Code.cond c y z).wpIn F n P Q) w := fun a ha => wpIn_cond_false (ha.ev hc) (h a ha)
theorem AtI.loop {c : Code} (ι : Type) (T : ι → List (Nat × Value)) (I : ι → World → Prop) (μ : ι → Nat) (i0 : ι) (hs : Sub L (T i0)) (h0 : I i0 w)
    (round : ∀ i w, I i w → At N ds (T i) (c.wpIn F n P (Exit.then (fun a' w' => ∃ i', Is N ds (T i') a' ∧ I i' w' ∧ μ i' < μ i) Q)) w) : At N ds L ((Code.loop c).wpIn F n P Q) w := by
  intro a ha
  intro b k cs hro hb hr
  have key : ∀ j i, μ i = j → ∀ a w, Is N ds (T i) a → I i w →
      ∃ e a' w', Q e a' w' ∧ ArrivesIn (Machine.fenced P F) P (lone (b.atR a (.code c :: .inLoop c :: k)) cs w) b k cs e a' w' := by
    intro j
    induction j using Nat.strongRecOn with
    | _ j ih =>
      intro i hn a w hI hw
      obtain ⟨e, a₁, w₁, hq, harr⟩ := round i w hw a hI b (.inLoop c :: k) cs hro hb hr
      cases e with
      | normal =>
        obtain ⟨i', h1, h2, hlt⟩ := hq
        obtain ⟨e₂, a₂, w₂, hq₂, harr₂⟩ := ih (μ i') (hn ▸ hlt) i' rfl a₁ w₁ h1 h2
        exact ⟨e₂, a₂, w₂, hq₂, .of_steps (StepsIn.trans harr (.one (fenced_calm hb hr rfl) stepR_inLoop)) harr₂⟩
      | exit id => exact ⟨_, a₁, w₁, hq, .pass (x := .inLoop c) rfl (fun _ _ => .inl (by simp)) harr⟩
      | goto l => exact ⟨_, a₁, w₁, hq, .pass (x := .inLoop c) rfl (fun _ _ => .inl (by simp)) harr⟩
      | ret => exact ⟨_, a₁, w₁, hq, .pass (x := .inLoop c) rfl (fun _ _ => .inl (by simp)) harr⟩
      | panic ch => exact ⟨_, a₁, w₁, hq, .pass (x := .inLoop c) rfl (fun _ _ => .inl (by simp)) harr⟩
      | outgrown => exact ⟨_, a₁, w₁, hq, .pass (x := .inLoop c) rfl (fun _ _ => .inl (by simp)) harr⟩
  obtain ⟨e, a', w', hq, harr⟩ := key _ i0 rfl a w (ha.sub hs) h0
  exact ⟨e, a', w', hq, .of_steps (.one (fenced_calm hb hr rfl) stepR_loop) harr⟩
theorem AtI.yield {l : Nat} {args : Array Operand} {tys : Array TypeId} {vs : List Value} {R : Ending → World → Prop} (hF : Wd F) (hx : ev L x = some (.func (.yield l) #[] #[])) (ha : evs L args.toList = some vs) (hN : Nat.blt d N = true)
    (hy : YieldAt F (n - 1) P l vs.toArray w R) (k : ∀ e w', R e w' → ∃ v, e = .returned v ∧ At N ds ((d, v) :: L) (wpListIn F n P ops Q rest) w') :
    At N ds L (wpListIn F n P ops Q (⟨some d, .call ⟨.value x, args, tys⟩, ty, pos, aft, none⟩ :: rest)) w := fun a hi => by
  refine wpListIn_plain rfl fun K hK => ?_
  obtain ⟨fn, tmps, assign, body, hrun, hR⟩ := hy
  refine ⟨fun f _ => hF.fn f, ?_⟩
  rw [Oper.semAt_eq _ _ _ (fun c e => by cases e)]
  have h := hi.evs ha
  have e : args.map a.eval = vs.toArray := by apply Array.ext'; rw [← h]; simp
  have : (execOp a.eval ⟨some d, .call ⟨.value x, args, tys⟩, ty, pos, aft, none⟩).run P w = .ok (.round l fn tmps assign body) w := by
    simp [execOp, resolve, Deferred.ofValue, invoke, hi.ev hx, e, hrun]
  rw [this]
  refine ⟨fun e => (by rw [hF.depth] at e; cases e), hR.mono fun e w' hq => ?_⟩
  obtain ⟨v, rfl, hv⟩ := k e w' hq
  exact hK _ _ (hv _ (hi.put hN))
end
theorem Is.start {N : Nat} {fn : Func} {args : List Value} (hn : fn.ntmps = N) (hl : args.length ≤ N) (L : List (Nat × Value)) (hL : ∀ p ∈ L, args[p.1]? = some p.2) : Is N [] L { tmps := args.toArray ++ Array.replicate (fn.ntmps - args.toArray.size) undef, defers := [] } := by
  refine ⟨?_, rfl, fun t v hv => ?_⟩
  · simp [hn]; omega
  · have key : ∀ M : List (Nat × Value), (∀ p ∈ M, args[p.1]? = some p.2) → look M t = some v → args[t]? = some v := by
      intro M
      induction M with
      | nil => intro _ h; simp [look] at h
      | cons p r ih =>
        intro hM h
        simp only [look] at h
        by_cases e : p.1 = t
        · have : Nat.beq p.1 t = true := beqT e
          rw [this] at h; simp at h
          have := hM p (by simp)
          rw [e, h] at this; exact this
        · have : Nat.beq p.1 t = false := beqF e
          rw [this] at h
          exact ih (fun p hp => hM p (List.mem_cons_of_mem _ hp)) h
    have h1 := key L hL hv
    have hlt : t < args.length := (List.getElem?_eq_some_iff.1 h1).1
    have h2 := (List.getElem?_eq_some_iff.1 h1).2
    simp [Array.getElem?_append, hlt, h2]
theorem AtI.enter {P : Program} {N n : Nat} {F : Fence} {f : FuncId} {fn : Func} {c : Code} {args : List Value} {R : Ending → World → Prop} {w : World} (hF : Wd F) (hro : F.round = none) (hf : P.funcs[f]? = some fn) (hb : fn.body = some c)
    (hn : fn.ntmps = N) (hl : args.length ≤ N) (L : List (Nat × Value)) (hL : ∀ p ∈ L, args[p.1]? = some p.2) (h : At N [] L (c.wpIn F n P (bodyPost P fn R)) w) : CallsIn F n P f args.toArray w R :=
  callsIn_of_wp hf hb (hF.fn f) (h _ (Is.start hn hl L hL)) hro
theorem At.enterM {P : Program} {N n : Nat} {f : FuncId} {fn : Func} {c : Code} {args : List Value} {R : Ending → World → Prop} {w : World} (hf : P.funcs[f]? = some fn) (hb : fn.body = some c)
    (hn : fn.ntmps = N) (hl : args.length ≤ N) (L : List (Nat × Value)) (hL : ∀ p ∈ L, args[p.1]? = some p.2) (h : At N [] L (c.wp P (bodyPostM Fence.wide n P fn R)) w) : Calls P f args.toArray w R :=
  callsIn_wide.1 (callsIn_of_wp_marks (n := n) hf hb trivial (wpIn_wide.2 (h _ (Is.start hn hl L hL))))
theorem Pk.bodyM {P : Program} {N n : Nat} {fn : Func} {R : Ending → World → Prop} {c : List PanicEntry} {w : World} (h : R (.panicked c) w) : Pk N [] (bodyPostM Fence.wide n P fn R) c w := fun a _ hd => by
  show LeavesInM _ _ _ _ _ _ a.defers _ _
  rw [hd]; exact h
/-- The end, one mark being left. -/
theorem At.doneM {P : Program} {N n D : Nat} {fn : Func} {R : Ending → World → Prop} {L : List (Nat × Value)} {vs : List Value} {w : World} (h : ResV P L (w.putObj D (.deferred none)) fn.results.toList vs) (hD : w.heap[D]? = some (.deferred (some [])))
    (hR : R (.returned (resOf vs)) (w.putObj D (.deferred none))) : At N [{ target := .collected D, args := #[] }] L (bodyPostM Fence.wide n P fn R .normal) w := fun a ha => by
  show LeavesInM _ _ _ _ _ _ a.defers _ _
  rw [ha.defers]
  exact ⟨by simp, .inl ⟨D, _, rfl, run_takeDeferred hD, _, run_results ha h, hR⟩⟩
theorem own_out {P : Program} {fn : Func} {R : Ending → World → Prop} (h : ∀ w, ¬ R .outgrown w) : ∀ a w, ¬ bodyPost P fn R .outgrown a w := fun _ w hb => h w hb
theorem nl_then {K : Act → World → Prop} {Q : Exit → Act → World → Prop} (h : ∀ a w, ¬ Q .outgrown a w) : ∀ a w, ¬ Exit.then K Q .outgrown a w := h
theorem nl_block {id : Nat} {Q : Exit → Act → World → Prop} (h : ∀ a w, ¬ Q .outgrown a w) : ∀ a w, ¬ Exit.inBlock id Q .outgrown a w := h
theorem rev_snoc {ts : List Tk} {k : Nat} {u : Tk} (hk : k < ts.length) (hu : ts[ts.length - 1 - k]? = some u) : ts.reverse.take k ++ [u] = ts.reverse.take (k + 1) := by
  rw [List.take_add_one, List.getElem?_reverse hk, hu]; rfl
-- ------------------------------------------------------------------ what a loop's own records leave
theorem Fr.grownG {S : Nat → Prop} {w W W' : World} {row : Option Nat} (h : Fr S w W) (hg : W.grownBy W' row) (hr : ∀ r, row = some r → w.heap.size ≤ r) : Fr S w W' :=
  ⟨hg.os.trans h.os, hg.tape.trans h.tape, hg.output.trans h.output, Nat.le_trans h.size hg.size, fun k x hk hx => by
    have hlt := (Array.getElem?_eq_some_iff.1 hx).1
    rw [hg.block k (Nat.lt_of_lt_of_le hlt h.size) (fun e => by have := hr k e.symm; omega)]
    exact h.old k x hk hx⟩
theorem Fr.grownG' {S : Nat → Prop} {W : World} {l : Nat} {o o' : Obj} (hW : W.heap[l]? = some o) (hl : S l) : Fr S W (W.putObj l o') :=
  have hg := grownBy_putObj' W l o'
  ⟨hg.os, hg.tape, hg.output, hg.size, fun k x hk hx => by
    rw [hg.block k (Array.getElem?_eq_some_iff.1 hx).1 (fun e => by cases e; exact hk hl)]; exact hx⟩
theorem cells_grown {W W' : World} {row : Option Nat} {b : Nat} {C : Array Value} {T : TypeId} {fr : Nat × Nat} (h : W.heap[b]? = some (.cells C T fr)) (hg : W.grownBy W' row) (hr : ∀ r, row = some r → ∃ o : Obj, W.heap[r]? = some o ∧ o.isCells = false) : W'.heap[b]? = some (.cells C T fr) := by
  rw [hg.block b (Array.getElem?_eq_some_iff.1 h).1 (fun e => by
    obtain ⟨o, h1, h2⟩ := hr b e.symm
    rw [h] at h1; cases h1; cases h2)]
  exact h
theorem RowsAt.cells {α : Type} {w : World} {v : Value} {sz : Nat} {l : List α} {f : α → Array Value} (h : RowsAt w v sz (l.map f)) (hp : 0 < sz) (hne : l ≠ []) : ∃ o : Obj, w.heap[vBlock v]? = some o ∧ o.isCells = true := by
  obtain ⟨s, r, rfl⟩ := List.exists_cons_of_ne_nil hne
  have h1 := h.at_ 0 (f s) rfl
  have h2 : 0 < (f s).size := by rw [h.size 0 (f s) rfl]; exact hp
  exact cells_of_cell (h1 0 _ (Array.getElem?_eq_getElem h2))
mutual
theorem tm_cells {w : World} : ∀ (t : Tm) (b : Nat), TmOk w t → tmBlk t b → ∃ o : Obj, w.heap[b]? = some o ∧ o.isCells = true
  | .mk cs k at_ nm pm n kv av kids arms, b, h, hb => by
    rw [tmBlk] at hb
    rcases hb with ⟨h1, rfl⟩ | ⟨h1, rfl⟩ | h1 | h1
    · exact h.kidsAt.cells (by decide) h1
    · exact h.armsAt.cells (by decide) h1
    · exact tmL_cells kids b h.kids h1
    · exact amL_cells arms b h.arms h1
theorem tmL_cells {w : World} : ∀ (l : List Tm) (b : Nat), (∀ u ∈ l, TmOk w u) → tmBlkL l b → ∃ o : Obj, w.heap[b]? = some o ∧ o.isCells = true
  | [], _, _, h => h.elim
  | t :: r, b, h, hb => by
    rw [tmBlkL] at hb
    rcases hb with h1 | h1
    · exact tm_cells t b (h t (by simp)) h1
    · exact tmL_cells r b (fun u hu => h u (List.mem_cons_of_mem _ hu)) h1
theorem am_cells {w : World} : ∀ (a : Am) (b : Nat), AmOk w a → amBlk a b → ∃ o : Obj, w.heap[b]? = some o ∧ o.isCells = true
  | .mk cs nm vv vars body, b, h, hb => by
    rw [amBlk] at hb
    rcases hb with ⟨h1, rfl⟩ | h1
    · exact RowsAt.cells (f := fun s => #[Value.string s]) h.varsAt (by decide) h1
    · exact tm_cells body b h.body h1
theorem amL_cells {w : World} : ∀ (l : List Am) (b : Nat), (∀ u ∈ l, AmOk w u) → amBlkL l b → ∃ o : Obj, w.heap[b]? = some o ∧ o.isCells = true
  | [], _, _, h => h.elim
  | a :: r, b, h, hb => by
    rw [amBlkL] at hb
    rcases hb with h1 | h1
    · exact am_cells a b (h a (by simp)) h1
    · exact amL_cells r b (fun u hu => h u (List.mem_cons_of_mem _ hu)) h1
end
theorem Xs.grownC {M : List (Option Nat)} {W W' : World} {row : Option Nat} {l : List Tm} (h : Xs kTm M W l) (hg : W.grownBy W' row) (hr : ∀ r, row = some r → ∃ o : Obj, W.heap[r]? = some o ∧ o.isCells = false) : Xs kTm M W' l := fun u hu =>
  ⟨kTm.keep (h u hu).1 fun b hb => hg.block b (kTm.lt (h u hu).1 hb) (fun e => by
    obtain ⟨o, h1, h2⟩ := hr b e.symm
    obtain ⟨o', h3, h4⟩ := tm_cells u b (h u hu).1 hb
    rw [h1] at h3
    obtain rfl := Option.some.inj h3
    rw [h2] at h4
    exact absurd h4 (by decide)), (h u hu).2⟩
theorem RowsAt.frS {α : Type} {S : Nat → Prop} {w w' : World} {v : Value} {sz : Nat} {l : List α} {f : α → Array Value} (h : RowsAt w v sz (l.map f)) (hp : 0 < sz) (hF : Fr S w w') (hn : l ≠ [] → ¬ S (vBlock v)) : RowsAt w' v sz (l.map f) :=
  RowsAt.keepB h fun hne => by
    have hlt := h.blkLt hp (map_ne hne)
    rw [Array.getElem?_eq_getElem hlt]
    exact hF.old _ _ (hn (map_ne hne)) (Array.getElem?_eq_getElem hlt)
/-- A range over slices.Backward of words. -/
theorem At.rangeB {P : Program} {N : Nat} {ds : List Deferred} {L : List (Nat × Value)} {w : World} {g : Operand} {p1 p2 d6 : Nat} {assign body : Code} {Q : Exit → Act → World → Prop} {gf : Nat} {lb : Array Value} {S : Nat → Prop} {ts : List Tk} {TK : TypeId}
    (hg : ev L g = some (.func (.func gf) #[] lb)) (hent : entB P gf = true) (h1 : Nat.blt p1 N = true) (h2 : Nat.blt p2 N = true) (hS : ∀ k, w.heap.size ≤ k → S k)
    (hseq : SeqStopsK Fence.wide 2 P gf lb (fun x : Int × Tk => #[.int .i64 x.1, .agg x.2.cs]) (Fr S) (fun xs => xs.map Prod.snd = ts.reverse) (fun _ => True) ts.length w)
    (I : List Tk → World → Prop) (hI : ∀ pre W W' row, I pre W → W.grownBy W' row → (∀ r, row = some r → w.heap.size ≤ r ∧ ∃ o : Obj, W.heap[r]? = some o ∧ o.isCells = false) → I pre W') (h0 : I [] w)
    (hassign : ∀ (l : Nat) (pre : List Tk) (i : Int) (t : Tk) (W : World), I pre W → At N [] ((p2, .agg t.cs) :: (p1, .int .i64 i) :: L) (assign.wpIn (Fence.wide.inRound l) 1 P (fun e a' W' => e = .normal ∧ KeepsFrom w.heap.size W W' ∧ Fr S W W' ∧ I pre W' ∧ ∃ Bx, Is N [] ((d6, .pointer (some ⟨Bx, 0, none⟩)) :: L) a' ∧ W'.heap[Bx]? = some (.cells t.cs TK) ∧ W.heap.size ≤ Bx)) W)
    (hw : ∀ pre W, I pre W → w.heap.size ≤ W.heap.size)
    (hbody : ∀ (l : Nat) (pre : List Tk) (t : Tk) (Bx : Nat) (W : World), I pre W → W.heap[Bx]? = some (.cells t.cs TK) → w.heap.size ≤ Bx → At N [] ((d6, .pointer (some ⟨Bx, 0, none⟩)) :: L) (body.wpIn (Fence.wide.inRound l) 1 P (fun e _ W' => e = .normal ∧ KeepsFrom w.heap.size W W' ∧ Fr S W W' ∧ I (pre ++ [t]) W')) W)
    (hdone : ∀ (D : Nat) (W : World), w.heap.size ≤ D → I ts.reverse W → W.heap[D]? = some (.deferred (some [])) → At N ({ target := .collected D, args := #[] } :: ds) L (Q .normal) W) :
    At N ds L ((Code.rangeFunc g #[p1, p2] assign body).wp P Q) w := fun a ha => by
  refine (wpIn_wide (n := 3)).1 (wpIn_rangeFunc_ownH (F := Fence.wide) (n := 3) (w0 := w) rfl (by decide) (gf := gf) (lb := lb) (ha.ev hg) trivial (run_callFunc hent) hseq (fun h k => Fr.then h k (fun k hk => .inl hk))
    (fun W l o o' hl hW ho _ => Fr.grownG' hW (hS l hl)) (Below.refl _ _) (fun _ => rfl) (fun pre W => I (pre.map Prod.snd) W) (fun _ _ _ => False) (fun pre W W' row hs hg hr => hI _ _ _ _ hs hg hr) (fun _ _ _ _ _ h _ _ => h) h0
    (fun x a' W => ∃ Bx, Is N [] ((d6, .pointer (some ⟨Bx, 0, none⟩)) :: L) a' ∧ W.heap[Bx]? = some (.cells x.2.cs TK) ∧ w.heap.size ≤ Bx) (fun x a' u W W' row hs hg hr => ?_) (fun l pre x W K hi hK => ?_) (fun l pre x a' W hl hlr hi hax hlen => ?_) (fun D xs W hD hxs hi hD2 => ?_) (fun _ _ _ _ _ _ h _ => h.elim))
  · obtain ⟨Bx, h1, h2, h3⟩ := hs
    exact ⟨Bx, h1, cells_grown h2 hg (fun r e => (hr r e).2), h3⟩
  · have ha0 : Is N [] L { a with defers := [] } := ⟨ha.size, rfl, ha.get⟩
    have ha1 : Is N [] ((p2, .agg x.2.cs) :: (p1, .int .i64 x.1) :: L) { tmps := (a.tmps.setIfInBounds p1 (.int .i64 x.1)).setIfInBounds p2 (.agg x.2.cs), defers := [] } := (ha0.put h1).put h2
    have hz : Array.foldl (fun t (x : Tmp × Value) => t.setIfInBounds x.1 x.2) a.tmps (#[p1, p2].zip #[Value.int .i64 x.1, Value.agg x.2.cs]) = (a.tmps.setIfInBounds p1 (.int .i64 x.1)).setIfInBounds p2 (.agg x.2.cs) := by rw [← Array.foldl_toList]; simp
    refine wpIn_mono (show Code.wpIn _ _ _ _ _ { tmps := _, defers := [] } W from by rw [hz]; exact hassign l (pre.map Prod.snd) x.1 x.2 W hi _ ha1) (fun e a' W' hq => ?_)
    obtain ⟨rfl, q1, q2, q3, Bx, q4, q5, q6⟩ := hq
    exact hK a' W' q1 q2 q3 ⟨Bx, q4, q5, Nat.le_trans (hw _ _ hi) q6⟩
  · obtain ⟨Bx, h1, h2, h3⟩ := hax
    refine wpIn_mono (hbody l (pre.map Prod.snd) x.2 Bx W hi h2 h3 a' h1) (fun e a'' W' hq => ?_)
    obtain ⟨rfl, q1, q2, q3⟩ := hq
    refine ⟨q1, q2, ?_⟩
    show I ((pre ++ [x]).map Prod.snd) W'
    rw [List.map_append]; exact q3
  · have hxs : xs.map Prod.snd = ts.reverse := hxs
    have hi : I (xs.map Prod.snd) W := hi
    rw [hxs] at hi
    exact hdone D W hD hi hD2 _ ⟨ha.size, by rw [← ha.defers], ha.get⟩
theorem KeepsFrom.ofFr {B b : Nat} {W W' : World} {C : Array Value} {T : TypeId} {fr : Nat × Nat} (h : Fr (fun k => k = b) W W') (hb : W.heap[b]? = some (.cells C T fr)) : KeepsFrom B W W' :=
  ⟨h.size, fun k o _ hk ho => h.old k o (fun e => by subst e; rw [hb] at hk; cases hk; cases ho) hk⟩
theorem Fr.weaken {S S' : Nat → Prop} {w w' : World} (h : Fr S w w') (hS : ∀ k, S k → S' k) : Fr S' w w' := ⟨h.os, h.tape, h.output, h.size, fun k x hk hx => h.old k x (fun hs => hk (hS k hs)) hx⟩
theorem At.makeFuncM {P : Program} {N : Nat} {ds : List Deferred} {L : List (Nat × Value)} {w : World} {ops : Array Oper} {Q : Exit → Act → World → Prop} {rest : List Oper} {d : Nat} {ty : TypeId} {pos : String} {aft : Array Edge}
    {fn : Fn} {fst cap : Array Operand} {us vs : List Value} (hf : evs L fst.toList = some us) (hc : evs L cap.toList = some vs) (hN : Nat.blt d N = true) (k : At N ds ((d, .func fn us.toArray vs.toArray) :: L) (wpList P ops Q rest) w) :
    At N ds L (wpList P ops Q (⟨some d, .makeFunc fn fst cap, ty, pos, aft, none⟩ :: rest)) w :=
  At.op rfl rfl hN (fun a ha => by
    have h := ha.evs hc
    have h2 := ha.evs hf
    have e : cap.map a.eval = vs.toArray := by apply Array.ext'; rw [← h]; simp
    have e2 : fst.map a.eval = us.toArray := by apply Array.ext'; rw [← h2]; simp
    simp [execOp, Instr.makeFunc, e, e2]) k
end Go.Proofs.Ytkjmjnddanhapaa
