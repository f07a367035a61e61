/-
  What a call of the layer parse leaves: the parser's own block, what was made, or the panic. Plain definitions and lemmas; no condition beyond those that stand in each statement.
-/
import Derived.Test.YtkjmjnddanhapaaN2
import Derived.Test.YtkjmjnddanhapaaK14
namespace Go.Proofs.Ytkjmjnddanhapaa
open Go.RowKit

abbrev zS : Value := .string (⟨#[]⟩ : ByteArray)
abbrev zN : Value := .slice none 0 0
abbrev zI : Value := .int .i64 0

/-- What a call comes to, told by what reading these words comes to; S: the blocks that were there and may be others now. -/
def RetP (S : Nat → Prop) (wB : World) (b0 : Nat) (e d : Int) {α : Type} (okv : α → Value → World → Prop) (r : PR α) (w : World) (en : Ending) (w' : World) : Prop :=
  Fr S w w' ∧ match r with
  | .ok x ts => ∃ val v, en = .returned val ∧ RowsAt wB v 4 (ts.map Tk.cs) ∧ w'.heap[b0]? = some (.cells #[v, .int .i64 e, .int .i64 d] 81) ∧ okv x val w'
  | .bad a c => en = .panicked [{ v := .iface 75 (.agg #[.int .i64 a, .int .i64 c]), recovered := false }] ∧ ∃ (v : Value) (d' : Int), w'.heap[b0]? = some (.cells #[v, .int .i64 e, .int .i64 d'] 81)
section
variable {S : Nat → Prop} {wB : World} {b0 : Nat} {e d : Int} {α : Type} {okv : α → Value → World → Prop} {r : PR α} {w w' : World} {en : Ending}
theorem RetP.cases (h : RetP S wB b0 e d okv r w en w') :
    (∃ x ts val v, r = .ok x ts ∧ en = .returned val ∧ Fr S w w' ∧ RowsAt wB v 4 (ts.map Tk.cs) ∧ w'.heap[b0]? = some (.cells #[v, .int .i64 e, .int .i64 d] 81) ∧ okv x val w') ∨
    (∃ a c, r = .bad a c ∧ en = .panicked [{ v := .iface 75 (.agg #[.int .i64 a, .int .i64 c]), recovered := false }] ∧ Fr S w w' ∧ ∃ (v : Value) (d' : Int), w'.heap[b0]? = some (.cells #[v, .int .i64 e, .int .i64 d'] 81)) := by
  cases r with
  | ok x ts =>
    obtain ⟨hF, val, v, h1, h2, h3, h4⟩ := h
    exact .inl ⟨x, ts, val, v, rfl, h1, hF, h2, h3, h4⟩
  | bad a c => exact .inr ⟨a, c, rfl, h.2.1, h.1, h.2.2⟩
theorem RetP.ok {x : α} {ts : List Tk} {val v : Value} (hr : r = .ok x ts) (hF : Fr S w w') (hv : RowsAt wB v 4 (ts.map Tk.cs)) (hb : w'.heap[b0]? = some (.cells #[v, .int .i64 e, .int .i64 d] 81)) (ho : okv x val w') :
    RetP S wB b0 e d okv r w (.returned val) w' := by subst hr; exact ⟨hF, val, v, rfl, hv, hb, ho⟩
theorem RetP.bad {a c : Int} (hr : r = .bad a c) (hF : Fr S w w') (hb : ∃ (v : Value) (d' : Int), w'.heap[b0]? = some (.cells #[v, .int .i64 e, .int .i64 d'] 81)) : RetP S wB b0 e d okv r w (.panicked [{ v := .iface 75 (.agg #[.int .i64 a, .int .i64 c]), recovered := false }]) w' := by subst hr; exact ⟨hF, rfl, hb⟩
theorem RetP.mono {β : Type} {okv' : α → Value → World → Prop} (h : RetP S wB b0 e d okv r w en w') (hk : ∀ x val, okv x val w' → okv' x val w') : RetP S wB b0 e d okv' r w en w' := by
  cases r with
  | ok x ts => obtain ⟨hF, val, v, h1, h2, h3, h4⟩ := h; exact ⟨hF, val, v, h1, h2, h3, hk _ _ h4⟩
  | bad a c => exact h
theorem Xs.frS {α : Type} {K : Kd α} {M : List (Option Nat)} {l : List α} (h : Xs K M w l) (hF : Fr S w w') (hS : ∀ k, S k → some k ∈ M) : Xs K M w' l := fun u hu =>
  ⟨K.keep (h u hu).1 fun b hb => by
    have hlt := K.lt (h u hu).1 hb
    rw [Array.getElem?_eq_getElem hlt]
    exact hF.old b _ (fun hs => (h u hu).2 b hb (hS b hs)) (Array.getElem?_eq_getElem hlt), (h u hu).2⟩
theorem Own.frS {T : TypeId} {sz n : Nat} {v : Value} {xs : List Value} (h : Own w T sz v n xs) (hF : Fr S w w') (hne : ∀ g, v.ownBlock = some g → ¬ S g) : Own w' T sz v n xs :=
  Own.keep h fun g hg => by
    have hlt := Own.lt h hg
    rw [Array.getElem?_eq_getElem hlt]
    exact hF.old g _ (hne g hg) (Array.getElem?_eq_getElem hlt)
theorem Own.frB {T T' : TypeId} {sz n : Nat} {v : Value} {xs : List Value} {C : Array Value} {fr : Nat × Nat} (h : Own w T sz v n xs) (hF : Fr (fun k => k = b0) w w') (hb : w.heap[b0]? = some (.cells C T' fr)) (hT : Nat.beq T' T = false) : Own w' T sz v n xs :=
  h.frS hF fun g hg e => by subst e; exact h.neT hb hT hg.symm
theorem OwnR.frB {β : Type} {f : β → Array Value} {T T' : TypeId} {sz : Nat} {v : Value} {l : List β} {C : Array Value} {fr : Nat × Nat} (h : OwnR T sz f w v l) (hF : Fr (fun k => k = b0) w w') (hb : w.heap[b0]? = some (.cells C T' fr)) (hT : Nat.beq T' T = false) : OwnR T sz f w' v l := Own.frB h hF hb hT
theorem OwnS.frB {T T' : TypeId} {v : Value} {l : List ByteArray} {C : Array Value} {fr : Nat × Nat} (h : OwnS T w v l) (hF : Fr (fun k => k = b0) w w') (hb : w.heap[b0]? = some (.cells C T' fr)) (hT : Nat.beq T' T = false) : OwnS T w' v l := Own.frB h hF hb hT
theorem Fr.oldB {k : Nat} {x : Obj} (hF : Fr (fun k => k = b0) w w') (hk : w.heap[k]? = some x) (hne : k ≠ b0) : w'.heap[k]? = some x := hF.old k x hne hk
end
-- ------------------------------------------------------------------ words of one block
theorem toks_tail {wB : World} {v : Value} {u : Tk} {r : List Tk} (h : RowsAt wB v 4 ((u :: r).map Tk.cs)) : RowsAt wB (dropV 4 v 1) 4 (r.map Tk.cs) := by
  have := RowsAt.drop h (h := 1) (by simp)
  simpa using this
-- ------------------------------------------------------------------ what was made
/-- A token. -/
def okTk (x : Tk) (val : Value) (_ : World) : Prop := val = .agg x.cs
/-- Nothing. -/
def okU (_ : Unit) (val : Value) (_ : World) : Prop := val = .tuple #[]
/-- A type. -/
def ownTy (k : Int) (nm : ByteArray) : Ty := { cs := #[.int .i64 k, .string nm, .int .i64 0, .slice none 0 0, .slice none 0 0, .int .i64 0], k := k, nm := nm, var := 0, av := .slice none 0 0, args := 0, lv := .slice none 0 0, labels := 0, rvar := 0 }
theorem ownTy_ok (k : Int) (nm : ByteArray) : TyOk (ownTy k nm) := ⟨rfl, by simp [ownTy, Value.oneCell'], rfl, rfl, rfl, rfl, rfl, rfl, SlOk.nil, SlOk.nil⟩
def okTy (x : STy) (val : Value) (_ : World) : Prop := val = .agg (ownTy x.k x.nm).cs
/-- Names, in a row of the call's own. -/
def okNs (T : TypeId) (w : World) (x : List ByteArray) (val : Value) (w' : World) : Prop := OwnS T w' val x ∧ ∀ g, val.ownBlock = some g → w.heap.size ≤ g
/-- The cells of a term, without type and row. -/
def zero7 : List Value := [.int .i64 0, .string E0B, .int .i64 0, .slice none 0 0, .slice none 0 0, .int .i64 0, .slice none 0 0, .int .i64 0, .int .i64 0, .string E0B, .int .i64 0, .slice none 0 0, .slice none 0 0, .int .i64 0]
def tmC (k a : Int) (nm pm : ByteArray) (n : Int) (kv av : Value) : Array Value := #[.int .i64 k, .int .i64 a, .string nm, .string pm, .int .i64 n, kv, av, .int .i64 0, .string (⟨#[]⟩ : ByteArray), .int .i64 0, .slice none 0 0, .slice none 0 0, .int .i64 0, .slice none 0 0, .int .i64 0, .int .i64 0, .string (⟨#[]⟩ : ByteArray), .int .i64 0, .slice none 0 0, .slice none 0 0, .int .i64 0]
def tmA (k a : Int) (nm pm : ByteArray) (n : Int) (kv : Value) (ks : List Tm) (av : Value) (ms : List Am) : Tm := .mk (tmC k a nm pm n kv av) k a nm pm n kv av ks ms
def amA (nm : ByteArray) (vv : Value) (vs : List ByteArray) (t : Tm) : Am := .mk (#[.string nm, vv] ++ t.cs) nm vv vs t
mutual
/-- A term that bears no type and no row. -/
def plT : Tm → Prop
  | .mk cs _ _ _ _ _ _ _ kids arms => cs.toList.drop 7 = zero7 ∧ plL kids ∧ plA arms
def plL : List Tm → Prop
  | [] => True
  | t :: r => plT t ∧ plL r
def plA : List Am → Prop
  | [] => True
  | .mk _ _ _ _ body :: r => plT body ∧ plA r
end
theorem plL_iff {l : List Tm} : plL l ↔ ∀ u ∈ l, plT u := by
  induction l with
  | nil => simp [plL]
  | cons a l ih => rw [plL, ih]; simp
theorem plA_iff {l : List Am} : plA l ↔ ∀ u ∈ l, plT u.body := by
  induction l with
  | nil => simp [plA]
  | cons a l ih => cases a; rw [plA, ih]; simp [Am.body]
/-- The term t is x, and lies in blocks that are not there in w. -/
structure MT (w : World) (x : ST) (t : Tm) : Prop where
  sh : shT t = x
  pl : plT t
  blk : ∀ b, tmBlk t b → w.heap.size ≤ b
structure MA (w : World) (x : SA) (t : Am) : Prop where
  sh : shAm t = x
  pl : plT t.body
  blk : ∀ b, amBlk t b → w.heap.size ≤ b
inductive All2 {α β : Type} (R : α → β → Prop) : List α → List β → Prop
  | nil : All2 R [] []
  | cons {a : α} {b : β} {l : List α} {m : List β} (h : R a b) (t : All2 R l m) : All2 R (a :: l) (b :: m)
theorem All2.len {α β : Type} {R : α → β → Prop} {l : List α} {m : List β} (h : All2 R l m) : l.length = m.length := by
  induction h with
  | nil => rfl
  | cons _ _ ih => simp [ih]
def MTL (w : World) (xs : List ST) (ts : List Tm) : Prop := All2 (MT w) xs ts
def MAL (w : World) (xs : List SA) (ts : List Am) : Prop := All2 (MA w) xs ts
def okT (w : World) (x : ST) (val : Value) (w' : World) : Prop := ∃ t : Tm, val = .agg t.cs ∧ TmOk w' t ∧ MT w x t
def okA (w : World) (x : SA) (val : Value) (w' : World) : Prop := ∃ a : Am, val = .agg a.cs ∧ AmOk w' a ∧ MA w x a
def okE (w : World) (x : SEff) (val : Value) (w' : World) : Prop := ∃ t : Eff, val = .agg t.cs ∧ EffOk w' t ∧ shEff t = x ∧ ∀ b, kEff.blk t b → w.heap.size ≤ b
def okD (w : World) (x : SDat) (val : Value) (w' : World) : Prop := ∃ t : Dat, val = .agg t.cs ∧ DatOk w' t ∧ shDat t = x ∧ ∀ b, kDat.blk t b → w.heap.size ≤ b
section
variable {w w0 : World}
theorem MT.mono {x : ST} {t : Tm} (h : MT w x t) (hs : w0.heap.size ≤ w.heap.size) : MT w0 x t := ⟨h.sh, h.pl, fun b hb => Nat.le_trans hs (h.blk b hb)⟩
theorem MA.mono {x : SA} {t : Am} (h : MA w x t) (hs : w0.heap.size ≤ w.heap.size) : MA w0 x t := ⟨h.sh, h.pl, fun b hb => Nat.le_trans hs (h.blk b hb)⟩
theorem MTL.nil (w : World) : MTL w [] [] := All2.nil
theorem MAL.nil (w : World) : MAL w [] [] := All2.nil
theorem MTL.snoc {xs : List ST} {ts : List Tm} {x : ST} {t : Tm} (h : MTL w xs ts) (k : MT w x t) : MTL w (xs ++ [x]) (ts ++ [t]) := by
  induction h with
  | nil => exact All2.cons k All2.nil
  | cons a _ ih => exact All2.cons a ih
theorem MAL.snoc {xs : List SA} {ts : List Am} {x : SA} {t : Am} (h : MAL w xs ts) (k : MA w x t) : MAL w (xs ++ [x]) (ts ++ [t]) := by
  induction h with
  | nil => exact All2.cons k All2.nil
  | cons a _ ih => exact All2.cons a ih
theorem MTL.mono {xs : List ST} {ts : List Tm} (h : MTL w xs ts) (hs : w0.heap.size ≤ w.heap.size) : MTL w0 xs ts := by
  induction h with
  | nil => exact All2.nil
  | cons a _ ih => exact All2.cons (a.mono hs) ih
theorem MAL.mono {xs : List SA} {ts : List Am} (h : MAL w xs ts) (hs : w0.heap.size ≤ w.heap.size) : MAL w0 xs ts := by
  induction h with
  | nil => exact All2.nil
  | cons a _ ih => exact All2.cons (a.mono hs) ih
theorem MTL.one {x : ST} {t : Tm} (k : MT w x t) : MTL w [x] [t] := All2.cons k All2.nil
theorem MTL.two {x y : ST} {t u : Tm} (k : MT w x t) (m : MT w y u) : MTL w [x, y] [t, u] := All2.cons k (All2.cons m All2.nil)
theorem MTL.len {xs : List ST} {ts : List Tm} (h : MTL w xs ts) : xs.length = ts.length := All2.len h
theorem MAL.len {xs : List SA} {ts : List Am} (h : MAL w xs ts) : xs.length = ts.length := All2.len h
theorem MTL.sh {xs : List ST} {ts : List Tm} (h : MTL w xs ts) : shL ts = xs := by
  induction h with
  | nil => rfl
  | cons a _ ih => rw [shL, ih, a.sh]
theorem MTL.pl {xs : List ST} {ts : List Tm} (h : MTL w xs ts) : plL ts := by
  induction h with
  | nil => trivial
  | cons a _ ih => exact ⟨a.pl, ih⟩
theorem MTL.blk {xs : List ST} {ts : List Tm} (h : MTL w xs ts) : ∀ b, tmBlkL ts b → w.heap.size ≤ b := by
  induction h with
  | nil => intro b hb; exact hb.elim
  | cons a _ ih => intro b hb; exact hb.elim (a.blk b) (ih b)
theorem shA_cons (a : Am) (r : List Am) : shA (a :: r) = shAm a :: shA r := by cases a; rfl
theorem plA_cons (a : Am) (r : List Am) : plA (a :: r) ↔ plT a.body ∧ plA r := by cases a; exact Iff.rfl
theorem MAL.sh {xs : List SA} {ts : List Am} (h : MAL w xs ts) : shA ts = xs := by
  induction h with
  | nil => rfl
  | cons a _ ih => rw [shA_cons, ih, a.sh]
theorem MAL.pl {xs : List SA} {ts : List Am} (h : MAL w xs ts) : plA ts := by
  induction h with
  | nil => trivial
  | cons a _ ih => exact (plA_cons _ _).2 ⟨a.pl, ih⟩
theorem MAL.blk {xs : List SA} {ts : List Am} (h : MAL w xs ts) : ∀ b, amBlkL ts b → w.heap.size ≤ b := by
  induction h with
  | nil => intro b hb; exact hb.elim
  | cons a _ ih => intro b hb; exact hb.elim (a.blk b) (ih b)
-- ------------------------------------------------------------------ a term of these parts
theorem tmA_ok {k a : Int} {nm pm : ByteArray} {n : Int} {kv av : Value} {ks : List Tm} {ms : List Am} (h1 : RowsAt w kv 21 (ks.map Tm.cs)) (h2 : ∀ u ∈ ks, TmOk w u) (h3 : RowsAt w av 23 (ms.map Am.cs)) (h4 : ∀ u ∈ ms, AmOk w u) : TmOk w (tmA k a nm pm n kv ks av ms) :=
  .mk ⟨rfl, by have a1 := h1.ok.one; have a2 := h3.ok.one; simp only [Value.oneCell'] at a1 a2; simp [tmA, tmC, Tm.cs, Value.oneCell', a1, a2], rfl, rfl, rfl, rfl, rfl, rfl, rfl, h1, h3⟩ h2 h4
theorem MT.made {k a : Int} {nm pm : ByteArray} {n : Int} {kv av : Value} {ks : List Tm} {ms : List Am} {xs : List ST} {ys : List SA} (hk : MTL w xs ks) (ha : MAL w ys ms) (h1 : ks ≠ [] → w.heap.size ≤ vBlock kv) (h2 : ms ≠ [] → w.heap.size ≤ vBlock av) :
    MT w (.mk k a nm pm n xs ys) (tmA k a nm pm n kv ks av ms) :=
  ⟨by rw [tmA, shT, hk.sh, ha.sh], by rw [tmA, plT]; exact ⟨rfl, hk.pl, ha.pl⟩, fun b hb => by
    rw [tmA, tmBlk] at hb
    rcases hb with ⟨h, rfl⟩ | ⟨h, rfl⟩ | h | h
    · exact h1 h
    · exact h2 h
    · exact hk.blk b h
    · exact ha.blk b h⟩
theorem shT_at {t : Tm} {x : ST} (h : MT w x t) : t.at_ = x.at_ := by have := h.sh; subst this; cases t; rfl
theorem Own.vb {T : TypeId} {sz n : Nat} {v : Value} {xs : List Value} (h : Own w T sz v n xs) (hn : n ≠ 0) : v.ownBlock = some (vBlock v) := by
  rcases h.2 with ⟨_, h0⟩ | ⟨g, cap, cur, rfl, _⟩
  · exact absurd h0 hn
  · rfl
theorem Own.vbGe {T : TypeId} {sz n : Nat} {v : Value} {xs : List Value} (h : Own w T sz v n xs) (hg : ∀ g, v.ownBlock = some g → w0.heap.size ≤ g) (hn : n ≠ 0) : w0.heap.size ≤ vBlock v := hg _ (h.vb hn)
theorem OwnR.vbGe {β : Type} {f : β → Array Value} {T : TypeId} {sz : Nat} {v : Value} {l : List β} (h : OwnR T sz f w v l) (hg : ∀ g, v.ownBlock = some g → w0.heap.size ≤ g) (hn : l ≠ []) : w0.heap.size ≤ vBlock v := Own.vbGe h hg (fun e => hn (List.eq_nil_of_length_eq_zero e))
theorem OwnS.vbGe {T : TypeId} {v : Value} {l : List ByteArray} (h : OwnS T w v l) (hg : ∀ g, v.ownBlock = some g → w0.heap.size ≤ g) (hn : l ≠ []) : w0.heap.size ≤ vBlock v := Own.vbGe h hg (fun e => hn (List.eq_nil_of_length_eq_zero e))
-- ------------------------------------------------------------------ an arm of these parts
theorem amA_ok {nm : ByteArray} {vv : Value} {vs : List ByteArray} {t : Tm} (h : StrsAt w vv vs) (ht : TmOk w t) : AmOk w (amA nm vv vs t) := by
  have hs := ht.size
  refine .mk ⟨by simp [amA, Am.cs, hs], ?_, by show (#[Value.string nm, vv] ++ t.cs)[0]? = _; rw [Array.getElem?_append_left (by simp)]; rfl, by show (#[Value.string nm, vv] ++ t.cs)[1]? = _; rw [Array.getElem?_append_left (by simp)]; rfl, h, ?_⟩ ht
  · show (#[Value.string nm, vv] ++ t.cs).all (·.oneCell') = true
    rw [Array.all_append, ht.one]
    simp only [List.all_toArray, List.all_cons, List.all_nil, h.ok.one, Bool.and_true]
    rfl
  · show (#[Value.string nm, vv] ++ t.cs).extract 2 (2 + 21) = t.cs
    apply Array.ext'
    simp [Array.toList_extract, List.extract]
    rw [List.take_of_length_le (by rw [Array.length_toList]; omega)]
theorem MA.made {nm : ByteArray} {vv : Value} {vs : List ByteArray} {t : Tm} {x : ST} (h : MT w x t) (h1 : vs ≠ [] → w.heap.size ≤ vBlock vv) : MA w (.mk nm vs x) (amA nm vv vs t) :=
  ⟨by rw [shAm, ← h.sh]; rfl, h.pl, fun b hb => by
    rw [amA, amBlk] at hb
    rcases hb with ⟨h, rfl⟩ | hb
    · exact h1 h
    · exact h.blk b hb⟩
end
-- ------------------------------------------------------------------ a field of a value
def fieldTB (P : Program) (t : TypeId) (i : Nat) : Option (Nat × TypeId) :=
  match P.underlying t with
  | some (.struct fs) => (fs[i]?).map fun f => (f.offset, f.type)
  | _ => none
theorem At.fieldC {P : Program} {N : Nat} {ds : List Deferred} {L : List (Nat × Value)} {w : World} {ops : Array Oper} {Q : Exit → Act → World → Prop} {rest : List Oper} {d : Nat} {ty : TypeId} {pos : String} {aft : Array Edge} {x : Operand}
    {s ft : TypeId} {i off : Nat} {cs : Array Value} {v : Value} (hx : ev L x = some (.agg cs)) (hf : fieldTB P s i = some (off, ft)) (ha : aggB P ft = some false) (hv : cs[off]? = some v) (hN : Nat.blt d N = true)
    (k : At N ds ((d, v) :: L) (wpList P ops Q rest) w) : At N ds L (wpList P ops Q (⟨some d, .field s x i, ty, pos, aft, none⟩ :: rest)) w :=
  At.op rfl rfl hN (fun a ha' => by
    unfold fieldTB at hf
    split at hf
    · rename_i fs hu
      rw [Option.map_eq_some_iff] at hf
      obtain ⟨f, hfi, he⟩ := hf
      simp only [Prod.mk.injEq] at he
      obtain ⟨rfl, rfl⟩ := he
      simp only [execOp, ha'.ev hx, Instr.field, Sem.run_bind, run_underlying hu, Result.andThen_ok, hfi, asAgg, Sem.run_pure, part, run_isAgg ha, hv]
      rfl
    · cases hf) k
theorem IntsAt.own {w : World} {b n c : Nat} {l : List Int} {T : TypeId} {fr : Nat × Nat} (h : w.heap[b]? = some (.cells (l.map (Value.int .i64)).toArray T fr)) (hn : n = l.length) (hc : n ≤ c) (hm : n ≤ 9223372036854775807 := by decide) : IntsAt w (.slice (some ⟨b, 0, none⟩) n c) l := by
  refine RowsAt.own (rows := l.map fun n => #[Value.int .i64 n]) (T := T) (fr := fr) ?_ (fun r hr => by obtain ⟨x, _, rfl⟩ := List.mem_map.1 hr; rfl) (by simpa using hn) hc hm
  have : ((l.map fun n => #[Value.int .i64 n]).flatMap (·.toList)) = l.map (Value.int .i64) := by
    clear h hn hc hm
    induction l with
    | nil => rfl
    | cons a l ih => simp only [List.map_cons, List.flatMap_cons, ih]; rfl
  rw [this]; exact h
theorem bnot_t {b : Bool} (h : (!b) = true) : b = false := by simpa using h
theorem bnot_f {b : Bool} (h : (!b) = false) : b = true := by simpa using h
/-- The next word. -/
theorem nx_nil {e : Int} {ts : List Tk} (h : (ts.length : Int) = 0) : nx e ts = ⟨0, [], 0, e⟩ := by
  cases ts with
  | nil => rfl
  | cons a l => simp at h; omega
theorem nx_at {e : Int} {ts : List Tk} {u : Tk} (h : ts[0]? = some u) : nx e ts = u := by
  cases ts with
  | nil => simp at h
  | cons a l => simp at h; exact h
theorem tail_rows {wB : World} {v : Value} {ts : List Tk} (h : RowsAt wB v 4 (ts.map Tk.cs)) (hn : 0 < ts.length) : RowsAt wB (dropV 4 v 1) 4 (ts.tail.map Tk.cs) := by
  cases ts with
  | nil => simp at hn
  | cons u r => exact toks_tail h
theorem is_len {e : Int} {ts : List Tk} {ss : List ByteArray} (h : isK e ts ss = true) : 0 < ts.length := by
  obtain ⟨u, r, rfl⟩ := is_some h; simp
theorem kd_len {e : Int} {ts : List Tk} {ks : List Int} (h : kdK e ts ks = true) (hk : ks.any (fun x => decide (x = 0)) = false) : 0 < ts.length := by
  obtain ⟨u, r, rfl⟩ := kd_some h hk; simp
theorem RetP.failed {S : Nat → Prop} {wB : World} {b0 : Nat} {e d : Int} {α : Type} {okv : α → Value → World → Prop} {w w' : World} {en : Ending} {f : Int} {ts : List Tk} (h : RetP S wB b0 e d okv (failP f ts) w en w') :
    en = .panicked [{ v := .iface 75 (.agg #[.int .i64 (nx f ts).a, .int .i64 3]), recovered := false }] ∧ Fr S w w' ∧ ∃ (v : Value) (d' : Int), w'.heap[b0]? = some (.cells #[v, .int .i64 e, .int .i64 d'] 81) := ⟨h.2.1, h.1, h.2.2⟩
theorem StrsAt.frB {b0 : Nat} {w w' : World} {v : Value} {ss : List ByteArray} (h : StrsAt w v ss) (hF : Fr (fun k => k = b0) w w') (hne : ss ≠ [] → vBlock v ≠ b0) : StrsAt w' v ss :=
  RowsAt.keepB h fun hn => by
    have hlt := StrsAt.lt h (fun e => hn (by rw [e]; rfl))
    rw [Array.getElem?_eq_getElem hlt]
    exact hF.old _ _ (hne (fun e => hn (by rw [e]; rfl))) (Array.getElem?_eq_getElem hlt)
theorem idxI_bd {α : Type} (p : α → Bool) (l : List α) : -1 ≤ idxI p l ∧ idxI p l ≤ (l.length : Int) := by
  unfold idxI
  cases h : l.findIdx? p with
  | none => simp
  | some i =>
    have := (List.findIdx?_eq_some_iff_getElem.1 h).1
    simp; omega
theorem PR.Sh.of {α : Type} {n : Nat} {r : PR α} {x : α} {us : List Tk} (h : r.Sh n) (e : r = .ok x us) : us.length < n := by subst e; exact h
theorem PR.Le.of {α : Type} {n : Nat} {r : PR α} {x : α} {us : List Tk} (h : r.Le n) (e : r = .ok x us) : us.length ≤ n := by subst e; exact h
theorem tail_len {ts : List Tk} (h : 0 < ts.length) : ts.tail.length + 1 = ts.length := by cases ts with
  | nil => simp at h
  | cons a l => simp
/-- One part more of a list. -/
def listOne' {β : Type} (one : List Tk → PR β) (l : List β) (ts : List Tk) : PR (List β) := (one ts).bind fun x ts => .ok (l ++ [x]) ts
theorem RetP.badThen {S S' : Nat → Prop} {wB : World} {b0 : Nat} {e d d2 : Int} {α : Type} {okv : α → Value → World → Prop} {r : PR α} {w w' w'' : World} {c : List PanicEntry} (h : RetP S wB b0 e d okv r w (.panicked c) w') (hF : Fr S' w' w'') (hS : ∀ k, S' k → S k)
    (hb : ∃ (v : Value) (d' : Int), w''.heap[b0]? = some (.cells #[v, .int .i64 e, .int .i64 d'] 81)) : RetP S wB b0 e d2 okv r w (.panicked c) w'' := by
  cases r with
  | ok x ts => obtain ⟨_, val, v, h1, _⟩ := h; cases h1
  | bad a c => exact ⟨Fr.then h.1 hF (fun k hk => .inl (hS k hk)), h.2.1, hb⟩
end Go.Proofs.Ytkjmjnddanhapaa
