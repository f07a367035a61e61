/-
  The walk's own small calculus, its operations: one lemma for each kind of operation. Plain lemmas over any program; no condition beyond those that stand in each statement.
-/
import Derived.Test.YtkjmjnddanhapaaK1
namespace Go.Proofs.Ytkjmjnddanhapaa
open Go.RowKit

-- ------------------------------------------------------------------ facts of the tables, to be shown by computation
def aggB (P : Program) (t : TypeId) : Option Bool :=
  match P.underlying t with
  | some (.struct _) | some (.array _ _) => some true
  | some _ => some false
  | none => none
def sizeB (P : Program) (t : TypeId) : Option Nat := (P.info? t).map (·.size)
def zeroB (P : Program) (t : TypeId) : Option Value := (P.info? t).bind (·.zero)
def elemB (P : Program) (t : TypeId) : Option TypeId := match P.underlying t with | some (.slice e) => some e | _ => none
def strB (P : Program) (t : TypeId) : Bool := match P.underlying t with | some .string => true | _ => false
/-- A field's place and its size, where it has one. -/
def fieldB (P : Program) (t : TypeId) (i : Nat) : Option (Nat × Nat) :=
  match P.underlying t with
  | some (.struct fs) => match fs[i]? with
    | some f => match (P.info? f.type).map (·.size) with
      | some (n + 1) => some (f.offset, n + 1)
      | _ => none
    | none => none
  | _ => none
/-- A function with a body of its own. -/
def entB (P : Program) (f : FuncId) : Bool :=
  match P.funcs[f]? with
  | some fn => !(fn.name == "runtime.NumGoroutine") && fn.body.isSome
  | none => false

section tables
variable {P : Program} {t : TypeId} {w : World}
theorem run_isAgg {b : Bool} (h : aggB P t = some b) : (isAgg t).run P w = .ok b w := by
  unfold aggB at h
  unfold isAgg
  cases hu : P.underlying t with
  | none => simp [hu] at h
  | some d =>
    rw [Sem.run_bind, run_underlying hu w]
    rw [hu] at h
    cases d <;> simp_all
theorem run_sizeOf {n : Nat} (h : sizeB P t = some n) : (sizeOf t).run P w = .ok n w := by
  unfold sizeB at h
  cases hi : P.info? t with
  | none => simp [hi] at h
  | some i => simp [hi] at h; simp [sizeOf, typeInfo, hi, h]
theorem run_zero {z : Value} (h : zeroB P t = some z) : (zeroValue t).run P w = .ok z w := by
  unfold zeroB at h
  cases hi : P.info? t with
  | none => simp [hi] at h
  | some i => simp [hi] at h; simp [zeroValue, typeInfo, hi, h]
theorem underlying_elem {e : TypeId} (h : elemB P t = some e) : P.underlying t = some (.slice e) := by
  unfold elemB at h
  split at h
  · rename_i e' hu; simp at h; subst h; exact hu
  · cases h
theorem underlying_str (h : strB P t = true) : P.underlying t = some .string := by
  unfold strB at h
  split at h
  · assumption
  · cases h
end tables

-- ------------------------------------------------------------------ places and memory
theorem add_at (b o n : Nat) : (⟨b, o, none⟩ : Addr).add n = ⟨b, o + n, none⟩ := by
  unfold Addr.add; split <;> simp_all

/-- From place o of block b on lie these cells. -/
def CellsAt (w : World) (b o : Nat) (cs : Array Value) : Prop := ∀ j v, cs[j]? = some v → w.cell? ⟨b, o + j, none⟩ = some v
theorem CellsAt.own {w : World} {b : Nat} {C : Array Value} {T : TypeId} {fr : Nat × Nat} (h : w.heap[b]? = some (.cells C T fr)) : CellsAt w b 0 C := by
  intro j v hv; simp [World.cell?, h, hv]
theorem CellsAt.sub {w : World} {b o : Nat} {C : Array Value} (h : CellsAt w b o C) (k n : Nat) : CellsAt w b (o + k) (C.extract k (k + n)) := by
  intro j v hv
  have : C[k + j]? = some v := by
    rw [Array.getElem?_extract] at hv
    split at hv
    · exact hv
    · cases hv
  have := h (k + j) v this
  rw [Nat.add_assoc]; exact this
theorem cell_own {w : World} {b o : Nat} {C : Array Value} {T : TypeId} {fr : Nat × Nat} {v : Value} (h : w.heap[b]? = some (.cells C T fr)) (hv : C[o]? = some v) : w.cell? ⟨b, o, none⟩ = some v := by
  simp [World.cell?, h, hv]

/-- What a load of a variable of type t gives. -/
def Ld (P : Program) (w : World) (t : TypeId) (b o : Nat) (v : Value) : Prop := (loadVar t ⟨b, o, none⟩).run P w = .ok v w
theorem Ld.cell {P : Program} {w : World} {t : TypeId} {b o : Nat} {v : Value} (ha : aggB P t = some false) (h : w.cell? ⟨b, o, none⟩ = some v) : Ld P w t b o v := by
  simp [Ld, loadVar, run_isAgg ha, h]
theorem Ld.row {P : Program} {w : World} {t : TypeId} {b o : Nat} {cs : Array Value} (ha : aggB P t = some true) (hs : sizeB P t = some cs.size) (h : CellsAt w b o cs) : Ld P w t b o (.agg cs) := by
  have hl := run_loadCells_list (P := P) w ⟨b, o, none⟩ cs.toList (fun j v hv => by rw [add_at]; exact h j v (by simpa using hv))
  simp only [Array.length_toList, Array.toArray_toList] at hl
  simp [Ld, loadVar, run_isAgg ha, run_sizeOf hs, hl]
theorem Ld.own {P : Program} {w : World} {t : TypeId} {b : Nat} {C : Array Value} {T : TypeId} {fr : Nat × Nat} (ha : aggB P t = some true) (hs : sizeB P t = some C.size) (h : w.heap[b]? = some (.cells C T fr)) : Ld P w t b 0 (.agg C) :=
  .row ha hs (.own h)
theorem Ld.ownCell {P : Program} {w : World} {t : TypeId} {b o : Nat} {C : Array Value} {T : TypeId} {fr : Nat × Nat} {v : Value} (ha : aggB P t = some false) (h : w.heap[b]? = some (.cells C T fr)) (hv : C[o]? = some v) : Ld P w t b o v :=
  .cell ha (cell_own h hv)
/-- A new block. -/
structure Fresh (w w' : World) (b : Nat) (o : Obj) : Prop where
  eq : b = w.heap.size
  size : w'.heap.size = b + 1
  new : w'.heap[b]? = some o
  grown : w.grownBy w' none
theorem Fresh.mk' (w : World) (o : Obj) : Fresh w (w.alloc o) w.heap.size o :=
  ⟨rfl, by simp, heap_alloc_new w o, ⟨rfl, rfl, rfl, by simp, fun k hk _ => Below.heap_alloc w o k hk⟩⟩
theorem Fresh.old {w w' : World} {b : Nat} {o : Obj} (h : Fresh w w' b o) {k : Nat} {x : Obj} (hk : w.heap[k]? = some x) : w'.heap[k]? = some x := by
  have : k < w.heap.size := (Array.getElem?_eq_some_iff.1 hk).1
  rw [h.grown.block k this (by simp)]; exact hk
theorem Fresh.lt {w w' : World} {b : Nat} {o : Obj} (h : Fresh w w' b o) {k : Nat} {x : Obj} (hk : w.heap[k]? = some x) : k < b := by
  have : k < w.heap.size := (Array.getElem?_eq_some_iff.1 hk).1
  have := h.eq; omega
theorem Fresh.below {w w' : World} {b B : Nat} {o : Obj} {w0 : World} (h : Fresh w w' b o) (hB : Below B w0 w) (hl : B ≤ w.heap.size) : Below B w0 w' :=
  hB.grown h.grown hl (fun _ e => by cases e)

/-- A store into one block. -/
structure SetB (w w' : World) (b : Nat) (o : Obj) : Prop where
  new : w'.heap[b]? = some o
  size : w'.heap.size = w.heap.size
  grown : w.grownBy w' (some b)
theorem SetB.other {w w' : World} {b k : Nat} {o x : Obj} (h : SetB w w' b o) (hk : w.heap[k]? = some x) (hn : k ≠ b) : w'.heap[k]? = some x := by
  have : k < w.heap.size := (Array.getElem?_eq_some_iff.1 hk).1
  rw [h.grown.block k this (by simpa using hn)]; exact hk
theorem SetB.below {w w' : World} {b B : Nat} {o : Obj} {w0 : World} (h : SetB w w' b o) (hB : Below B w0 w) (hl : B ≤ w.heap.size) (hb : B ≤ b) : Below B w0 w' :=
  hB.grown h.grown hl (fun k e => by cases e; exact hb)

def splice (C : Array Value) (o : Nat) (vs : Array Value) : Array Value := (C.toList.take o ++ vs.toList ++ C.toList.drop (o + vs.size)).toArray
theorem splice_all {C vs : Array Value} (h : C.size = vs.size) : splice C 0 vs = vs := by
  have : C.toList.drop (0 + vs.size) = [] := by simp; omega
  simp only [splice, this, List.take_zero, List.nil_append, List.append_nil, Array.toArray_toList]
theorem splice_one {C : Array Value} {o : Nat} {v : Value} (h : o < C.size) : splice C o #[v] = C.setIfInBounds o v := by
  apply Array.ext'
  simp only [splice, Array.toList_setIfInBounds]
  rw [List.set_eq_take_append_cons_drop, if_pos (by simpa using h)]
  simp
theorem splice_size {C vs : Array Value} {o : Nat} (h : o + vs.size ≤ C.size) : (splice C o vs).size = C.size := by
  simp [splice]; omega
theorem cells_one {v : Value} (h : v.oneCell' = true) : v.cells = #[v] := by
  cases v <;> simp_all [Value.cells, Value.oneCell']

theorem SetB.of_setRow {w : World} {b : Nat} {C : Array Value} {T : TypeId} {fr : Nat × Nat} (h : w.heap[b]? = some (.cells C T fr)) (C' : Array Value) : SetB w (w.setRow b C') b (.cells C' T fr) := by
  refine ⟨setRow_heap w b C C' T fr h, by simp, rfl, rfl, rfl, by simp, fun k hk hne => ?_⟩
  exact setRow_other w b k C' (by simpa using hne)

theorem run_storeVar_at {P : Program} {w : World} {b o : Nat} {t T : TypeId} {C : Array Value} {v : Value} (hs : sizeB P t = some v.cells.size) (hb : w.heap[b]? = some (.cells C T (0, 0)))
    (hr : o + v.cells.size ≤ C.size) (h1 : ∀ c ∈ v.cells.toList, c.oneCell' = true) : (storeVar t ⟨b, o, none⟩ v).run P w = .ok () (w.setRow b (splice C o v.cells)) := by
  have hl := run_storeCells_at (P := P) b o T v.cells.toList 0 C w hb (by simpa using hr) h1
  simp only [Nat.add_zero, Array.length_toList] at hl
  simp [storeVar, run_sizeOf hs, hl, splice]

-- ------------------------------------------------------------------ slices
def vBlock : Value → Nat
  | .slice (some a) _ _ => a.block
  | _ => 0
def vOff : Value → Nat
  | .slice (some a) _ _ => a.off
  | _ => 0
/-- v is a slice of n elements: nil, or a place of its own. -/
def SlOk (v : Value) (n : Nat) : Prop := (v = .slice none 0 0 ∧ n = 0) ∨ ∃ (a : Addr) (cap : Nat), v = .slice (some a) n cap ∧ n ≤ cap ∧ (0 < n → a.spot = none)
theorem SlOk.one {v : Value} {n : Nat} (h : SlOk v n) : v.oneCell' = true := by
  rcases h with ⟨rfl, _⟩ | ⟨a, c, rfl, _⟩ <;> rfl

section ops
variable {P : Program} {N : Nat} {ds : List Deferred} {L : List (Nat × Value)} {a : Act} {w w' : World} {ops : Array Oper} {Q : Exit → Act → World → Prop} {rest : List Oper}
  {d : Nat} {ty : TypeId} {pos : String} {aft : Array Edge} {x y z : Operand}

theorem At.op {o : Oper} {v : Value} (hg : o.guard = none) (hd : o.dst = some d) (hN : Nat.blt d N = true) (run : ∀ a, Is N ds L a → (execOp a.eval o).run P w = .ok (.value v) w')
    (k : At N ds ((d, v) :: L) (wpList P ops Q rest) w') : At N ds L (wpList P ops Q (o :: rest)) w := fun a ha => by
  refine wpList_plain hg fun K hK => ?_
  unfold Oper.wp
  rw [run a ha, Oper.upon_value, hd]
  exact hK _ _ (k _ (ha.put hN))
theorem At.opS {o : Oper} (hg : o.guard = none) (hd : o.dst = none) (run : ∀ a, Is N ds L a → (execOp a.eval o).run P w = .ok .skip w')
    (k : At N ds L (wpList P ops Q rest) w') : At N ds L (wpList P ops Q (o :: rest)) w := fun a ha => by
  refine wpList_plain hg fun K hK => ?_
  unfold Oper.wp
  rw [run a ha, Oper.upon_skip, hd]
  exact hK _ _ (k _ ha)

/-- A guarded operation whose guard says yes. -/
theorem At.yes {o : Oper} {j g : Nat} {b : Bool} (hg : o.guard = some (j, b)) (hj : (ops[j]?).bind (·.dst) = some g) (hN : Nat.blt g N = true) (hv : look L g = some (.bool b))
    (k : At N ds L (wpList P ops Q ({ o with guard := none } :: rest)) w) : At N ds L (wpList P ops Q (o :: rest)) w := fun a ha => by
  have h := k a ha
  have hN' : g < a.tmps.size := by rw [ha.size]; simpa [Nat.blt_eq] using hN
  have hy : Region.wanted o (yielded ops a.tmps) = true := by
    have hgv := ha.get g _ hv
    have : a.tmps[g]? = some (.bool b) := by
      rw [Array.getElem?_eq_getElem hN']; simpa [hN'] using hgv
    simp [Region.wanted, hg, yielded, hj, this]
  unfold wpList at h ⊢
  rw [if_pos (by simp [Region.wanted])] at h
  rw [if_pos hy]
  exact h
/-- A guarded operation whose guard says no. -/
theorem At.no {o : Oper} {j g : Nat} {b c : Bool} (hg : o.guard = some (j, b)) (hj : (ops[j]?).bind (·.dst) = some g) (hN : Nat.blt g N = true) (hv : look L g = some (.bool c)) (hc : (c == b) = false)
    (hd : o.dst = some d) (hdN : Nat.blt d N = true) (k : At N ds ((d, undef) :: L) (wpList P ops Q rest) w) : At N ds L (wpList P ops Q (o :: rest)) w := fun a ha => by
  have hN' : g < a.tmps.size := by rw [ha.size]; simpa [Nat.blt_eq] using hN
  have hy : Region.wanted o (yielded ops a.tmps) = false := by
    have hgv := ha.get g _ hv
    have : a.tmps[g]? = some (.bool c) := by
      rw [Array.getElem?_eq_getElem hN']; simpa [hN'] using hgv
    have hcb : ¬ c = b := by intro e; subst e; simp at hc
    simp [Region.wanted, hg, yielded, hj, this, hcb]
  unfold wpList
  rw [if_neg (by rw [hy]; simp), hd]
  exact k _ (ha.put hdN)

theorem At.move {v : Value} (hx : ev L x = some v) (hN : Nat.blt d N = true) (k : At N ds ((d, v) :: L) (wpList P ops Q rest) w) :
    At N ds L (wpList P ops Q (⟨some d, .move x, ty, pos, aft, none⟩ :: rest)) w :=
  At.op rfl rfl hN (fun a ha => by simp [execOp, ha.ev hx]) k
theorem At.assign {v : Value} (hx : ev L x = some v) (hN : Nat.blt d N = true) (k : At N ds ((d, v) :: L) (wpList P ops Q rest) w) :
    At N ds L (wpList P ops Q (⟨some d, .assign x, ty, pos, aft, none⟩ :: rest)) w :=
  At.op rfl rfl hN (fun a ha => by simp [execOp, ha.ev hx]) k
theorem At.pickT {v : Value} (hc : ev L x = some (.bool true)) (hy : ev L y = some v) (hN : Nat.blt d N = true) (k : At N ds ((d, v) :: L) (wpList P ops Q rest) w) :
    At N ds L (wpList P ops Q (⟨some d, .pick x y z, ty, pos, aft, none⟩ :: rest)) w :=
  At.op rfl rfl hN (fun a ha => by simp [execOp, ha.ev hc, ha.ev hy, asBool]) k
theorem At.pickF {v : Value} (hc : ev L x = some (.bool false)) (hz : ev L z = some v) (hN : Nat.blt d N = true) (k : At N ds ((d, v) :: L) (wpList P ops Q rest) w) :
    At N ds L (wpList P ops Q (⟨some d, .pick x y z, ty, pos, aft, none⟩ :: rest)) w :=
  At.op rfl rfl hN (fun a ha => by simp [execOp, ha.ev hc, ha.ev hz, asBool]) k
theorem At.not {u : TypeId} {b : Bool} (hx : ev L x = some (.bool b)) (hN : Nat.blt d N = true) (k : At N ds ((d, .bool (!b)) :: L) (wpList P ops Q rest) w) :
    At N ds L (wpList P ops Q (⟨some d, .unOp .not u x, ty, pos, aft, none⟩ :: rest)) w :=
  At.op rfl rfl hN (fun a ha => by simp [execOp, ha.ev hx, Op.unary]) k
theorem At.extract {vs : Array Value} {i : Nat} {v : Value} (hx : ev L x = some (.tuple vs)) (hi : vs[i]? = some v) (hN : Nat.blt d N = true) (k : At N ds ((d, v) :: L) (wpList P ops Q rest) w) :
    At N ds L (wpList P ops Q (⟨some d, .extract x i, ty, pos, aft, none⟩ :: rest)) w :=
  At.op rfl rfl hN (fun a ha => by simp [execOp, ha.ev hx, Instr.extract, hi]) k
theorem At.nilCheck {p : Addr} (hx : ev L x = some (.pointer (some p))) (hN : Nat.blt d N = true) (k : At N ds ((d, .pointer (some p)) :: L) (wpList P ops Q rest) w) :
    At N ds L (wpList P ops Q (⟨some d, .nilCheck x, ty, pos, aft, none⟩ :: rest)) w :=
  At.op rfl rfl hN (fun a ha => by simp only [execOp, ha.ev hx]; rfl) k
theorem At.makeFunc {fn : Fn} {cap : Array Operand} {vs : List Value} (hc : evs L cap.toList = some vs) (hN : Nat.blt d N = true) (k : At N ds ((d, .func fn #[] vs.toArray) :: L) (wpList P ops Q rest) w) :
    At N ds L (wpList P ops Q (⟨some d, .makeFunc fn #[] cap, ty, pos, aft, none⟩ :: rest)) w :=
  At.op rfl rfl hN (fun a ha => by
    have h := ha.evs hc
    have : cap.map a.eval = vs.toArray := by apply Array.ext'; rw [← h]; simp
    simp [execOp, Instr.makeFunc, this]) k

-- numbers
theorem At.lss {q : IntKind} {m n : Int} {u u' : TypeId} (hx : ev L x = some (.int q m)) (hy : ev L y = some (.int q n)) (hN : Nat.blt d N = true) (k : At N ds ((d, .bool (decide (m < n))) :: L) (wpList P ops Q rest) w) :
    At N ds L (wpList P ops Q (⟨some d, .binOp .lss u x y u', ty, pos, aft, none⟩ :: rest)) w :=
  At.op rfl rfl hN (fun a ha => by simp [execOp, ha.ev hx, ha.ev hy, eqGuard, binOp, Op.intCmp]) k
theorem At.leq {q : IntKind} {m n : Int} {u u' : TypeId} (hx : ev L x = some (.int q m)) (hy : ev L y = some (.int q n)) (hN : Nat.blt d N = true) (k : At N ds ((d, .bool (decide (m ≤ n))) :: L) (wpList P ops Q rest) w) :
    At N ds L (wpList P ops Q (⟨some d, .binOp .leq u x y u', ty, pos, aft, none⟩ :: rest)) w :=
  At.op rfl rfl hN (fun a ha => by simp [execOp, ha.ev hx, ha.ev hy, eqGuard, binOp, Op.intCmp]) k
theorem At.gtr {q : IntKind} {m n : Int} {u u' : TypeId} (hx : ev L x = some (.int q m)) (hy : ev L y = some (.int q n)) (hN : Nat.blt d N = true) (k : At N ds ((d, .bool (decide (n < m))) :: L) (wpList P ops Q rest) w) :
    At N ds L (wpList P ops Q (⟨some d, .binOp .gtr u x y u', ty, pos, aft, none⟩ :: rest)) w :=
  At.op rfl rfl hN (fun a ha => by simp [execOp, ha.ev hx, ha.ev hy, eqGuard, binOp, Op.intCmp]) k
theorem At.geq {q : IntKind} {m n : Int} {u u' : TypeId} (hx : ev L x = some (.int q m)) (hy : ev L y = some (.int q n)) (hN : Nat.blt d N = true) (k : At N ds ((d, .bool (decide (n ≤ m))) :: L) (wpList P ops Q rest) w) :
    At N ds L (wpList P ops Q (⟨some d, .binOp .geq u x y u', ty, pos, aft, none⟩ :: rest)) w :=
  At.op rfl rfl hN (fun a ha => by simp [execOp, ha.ev hx, ha.ev hy, eqGuard, binOp, Op.intCmp]) k
theorem At.eqI {q : IntKind} {m n : Int} {u u' : TypeId} (hx : ev L x = some (.int q m)) (hy : ev L y = some (.int q n)) (hN : Nat.blt d N = true) (k : At N ds ((d, .bool (decide (m = n))) :: L) (wpList P ops Q rest) w) :
    At N ds L (wpList P ops Q (⟨some d, .binOp .eql u x y u', ty, pos, aft, none⟩ :: rest)) w :=
  At.op rfl rfl hN (fun a ha => by
    have e : (m == n) = decide (m = n) := rfl
    simp [execOp, ha.ev hx, ha.ev hy, eqGuard, binOp, Op.intCmp, e]) k
theorem At.neI {q : IntKind} {m n : Int} {u u' : TypeId} (hx : ev L x = some (.int q m)) (hy : ev L y = some (.int q n)) (hN : Nat.blt d N = true) (k : At N ds ((d, .bool (!decide (m = n))) :: L) (wpList P ops Q rest) w) :
    At N ds L (wpList P ops Q (⟨some d, .binOp .neq u x y u', ty, pos, aft, none⟩ :: rest)) w :=
  At.op rfl rfl hN (fun a ha => by
    have e : (m != n) = !decide (m = n) := rfl
    simp [execOp, ha.ev hx, ha.ev hy, eqGuard, binOp, Op.intCmp, e]) k
theorem At.add {q : IntKind} {m n : Int} {u u' : TypeId} (hx : ev L x = some (.int q m)) (hy : ev L y = some (.int q n)) (hN : Nat.blt d N = true) (k : At N ds ((d, .int q (q.wrap (m + n))) :: L) (wpList P ops Q rest) w) :
    At N ds L (wpList P ops Q (⟨some d, .binOp .add u x y u', ty, pos, aft, none⟩ :: rest)) w :=
  At.op rfl rfl hN (fun a ha => by simp [execOp, ha.ev hx, ha.ev hy, eqGuard, binOp, Op.intArith]) k
theorem At.sub' {q : IntKind} {m n : Int} {u u' : TypeId} (hx : ev L x = some (.int q m)) (hy : ev L y = some (.int q n)) (hN : Nat.blt d N = true) (k : At N ds ((d, .int q (q.wrap (m - n))) :: L) (wpList P ops Q rest) w) :
    At N ds L (wpList P ops Q (⟨some d, .binOp .sub u x y u', ty, pos, aft, none⟩ :: rest)) w :=
  At.op rfl rfl hN (fun a ha => by simp [execOp, ha.ev hx, ha.ev hy, eqGuard, binOp, Op.intArith]) k
theorem At.mul {q : IntKind} {m n : Int} {u u' : TypeId} (hx : ev L x = some (.int q m)) (hy : ev L y = some (.int q n)) (hN : Nat.blt d N = true) (k : At N ds ((d, .int q (q.wrap (m * n))) :: L) (wpList P ops Q rest) w) :
    At N ds L (wpList P ops Q (⟨some d, .binOp .mul u x y u', ty, pos, aft, none⟩ :: rest)) w :=
  At.op rfl rfl hN (fun a ha => by simp [execOp, ha.ev hx, ha.ev hy, eqGuard, binOp, Op.intArith]) k
theorem wrap64_id (n : Int) (h : -9223372036854775808 ≤ n ∧ n ≤ 9223372036854775807) : IntKind.i64.wrap n = n := IntWalk.i64_in _ ⟨h.1, h.2⟩
/-- A sum that the kind holds. -/
theorem At.addI {m n : Int} {u u' : TypeId} (hx : ev L x = some (.int .i64 m)) (hy : ev L y = some (.int .i64 n)) (hN : Nat.blt d N = true) (hb : -9223372036854775808 ≤ m + n ∧ m + n ≤ 9223372036854775807)
    (k : At N ds ((d, .int .i64 (m + n)) :: L) (wpList P ops Q rest) w) : At N ds L (wpList P ops Q (⟨some d, .binOp .add u x y u', ty, pos, aft, none⟩ :: rest)) w :=
  At.add hx hy hN (by rw [wrap64_id _ hb]; exact k)
theorem At.subI {m n : Int} {u u' : TypeId} (hx : ev L x = some (.int .i64 m)) (hy : ev L y = some (.int .i64 n)) (hN : Nat.blt d N = true) (hb : -9223372036854775808 ≤ m - n ∧ m - n ≤ 9223372036854775807)
    (k : At N ds ((d, .int .i64 (m - n)) :: L) (wpList P ops Q rest) w) : At N ds L (wpList P ops Q (⟨some d, .binOp .sub u x y u', ty, pos, aft, none⟩ :: rest)) w :=
  At.sub' hx hy hN (by rw [wrap64_id _ hb]; exact k)

-- strings
theorem toList_beq (s t : ByteArray) : (s.toList == t.toList) = decide (s = t) := by
  by_cases h : s = t
  · subst h; simp
  · have : ¬ s.toList = t.toList := fun e => h (by
      have e1 : s.data.toList = t.data.toList := by
        have := e; rwa [ByteArray.toList_eq s, ByteArray.toList_eq t] at this
      cases s; cases t; simp only [ByteArray.mk.injEq]; exact Array.ext' e1)
    simp [h, this]
theorem At.eqS {s t : ByteArray} {u u' : TypeId} (hx : ev L x = some (.string s)) (hy : ev L y = some (.string t)) (hN : Nat.blt d N = true) (k : At N ds ((d, .bool (decide (s = t))) :: L) (wpList P ops Q rest) w) :
    At N ds L (wpList P ops Q (⟨some d, .binOp .eql u x y u', ty, pos, aft, none⟩ :: rest)) w :=
  At.op rfl rfl hN (fun a ha => by
    have e := toList_beq s t
    simp [execOp, ha.ev hx, ha.ev hy, eqGuard, binOp, Op.stringOp, e]) k
theorem At.neS {s t : ByteArray} {u u' : TypeId} (hx : ev L x = some (.string s)) (hy : ev L y = some (.string t)) (hN : Nat.blt d N = true) (k : At N ds ((d, .bool (!decide (s = t))) :: L) (wpList P ops Q rest) w) :
    At N ds L (wpList P ops Q (⟨some d, .binOp .neq u x y u', ty, pos, aft, none⟩ :: rest)) w :=
  At.op rfl rfl hN (fun a ha => by
    have e := toList_beq s t
    simp [execOp, ha.ev hx, ha.ev hy, eqGuard, binOp, Op.stringOp, e]) k
theorem At.cat {s t : ByteArray} {u u' : TypeId} (hx : ev L x = some (.string s)) (hy : ev L y = some (.string t)) (hN : Nat.blt d N = true) (hl : s.size + t.size ≤ 9223372036854775807)
    (k : At N ds ((d, .string (s ++ t)) :: L) (wpList P ops Q rest) w) :
    At N ds L (wpList P ops Q (⟨some d, .binOp .add u x y u', ty, pos, aft, none⟩ :: rest)) w :=
  At.op rfl rfl hN (fun a ha => by
    have : ¬ ((s.size + t.size : Nat) : Int) > IntKind.i64.max := by
      have : IntKind.i64.max = 9223372036854775807 := by decide
      omega
    simp only [execOp, ha.ev hx, ha.ev hy, eqGuard, binOp, Op.stringOp, if_neg this]
    rfl) k

-- places
theorem At.fieldAddr {s : TypeId} {i b o off sz : Nat} (hx : ev L x = some (.pointer (some ⟨b, o, none⟩))) (hf : fieldB P s i = some (off, sz)) (hN : Nat.blt d N = true)
    (k : At N ds ((d, .pointer (some ⟨b, o + off, none⟩)) :: L) (wpList P ops Q rest) w) : At N ds L (wpList P ops Q (⟨some d, .fieldAddr s x i, ty, pos, aft, none⟩ :: rest)) w :=
  At.op rfl rfl hN (fun a ha => by
    unfold fieldB at hf
    split at hf
    · rename_i fs hu
      split at hf
      · rename_i f hfi
        split at hf
        · rename_i n hn
          simp only [Option.some.injEq, Prod.mk.injEq] at hf
          obtain ⟨rfl, rfl⟩ := hf
          have hsz : (sizeOf f.type).run P w = .ok (n + 1) w := run_sizeOf hn
          simp only [execOp, ha.ev hx, Instr.fieldAt, Sem.run_bind, run_underlying hu, Result.andThen_ok, hfi, Instr.sureAddr, Sem.run_pure, fieldPlace, hsz, Nat.succ_ne_zero, if_false, add_at]
        · cases hf
      · cases hf
    · cases hf) k
theorem At.indexAddr {t e : TypeId} {v : Value} {q : IntKind} {i n sz : Nat} (hx : ev L x = some v) (hy : ev L y = some (.int q (i : Int))) (hs : SlOk v n) (hi : i < n) (he : elemB P t = some e) (hz : sizeB P e = some sz) (hN : Nat.blt d N = true)
    (k : At N ds ((d, .pointer (some ⟨vBlock v, vOff v + i * sz, none⟩)) :: L) (wpList P ops Q rest) w) : At N ds L (wpList P ops Q (⟨some d, .indexAddr t x y, ty, pos, aft, none⟩ :: rest)) w :=
  At.op rfl rfl hN (fun a ha => by
    rcases hs with ⟨rfl, rfl⟩ | ⟨⟨b, o, sp⟩, cap, rfl, _, hsp⟩
    · omega
    obtain rfl : sp = none := hsp (by omega)
    have h0 : (0 : Int) ≤ (i : Int) ∧ (i : Int) < (n : Int) := by omega
    simp only [execOp, ha.ev hx, ha.ev hy, Instr.indexAt, asIntOf, Sem.run_bind, Sem.run_pure, Result.andThen_ok, run_underlying (underlying_elem he), if_pos h0, run_sizeOf hz, add_at, Int.toNat_natCast, vBlock, vOff]) k
theorem At.box {t : TypeId} {v : Value} (hx : ev L x = some v) (hN : Nat.blt d N = true)
    (k : ∀ b w', Fresh w w' b (.cells v.cells t) → At N ds ((d, .pointer (some ⟨b, 0, none⟩)) :: L) (wpList P ops Q rest) w') : At N ds L (wpList P ops Q (⟨some d, .box t x, ty, pos, aft, none⟩ :: rest)) w :=
  At.op rfl rfl hN (fun a ha => by simp only [execOp, ha.ev hx, Instr.box, newVar, newRow, Sem.run_bind, run_newObj, Result.andThen_ok, Sem.run_pure]; rfl) (k _ _ (Fresh.mk' w _))
theorem At.alloc {t : TypeId} {z : Value} (hz : zeroB P t = some z) (hN : Nat.blt d N = true)
    (k : ∀ b w', Fresh w w' b (.cells z.cells t) → At N ds ((d, .pointer (some ⟨b, 0, none⟩)) :: L) (wpList P ops Q rest) w') : At N ds L (wpList P ops Q (⟨some d, .alloc t, ty, pos, aft, none⟩ :: rest)) w :=
  At.op rfl rfl hN (fun a ha => by simp only [execOp, Instr.alloc, run_zero hz, newVar, newRow, Sem.run_bind, run_newObj, Result.andThen_ok, Sem.run_pure]; rfl) (k _ _ (Fresh.mk' w _))
theorem At.load {t : TypeId} {b o : Nat} {v : Value} (hx : ev L x = some (.pointer (some ⟨b, o, none⟩))) (hl : Ld P w t b o v) (hN : Nat.blt d N = true) (k : At N ds ((d, v) :: L) (wpList P ops Q rest) w) :
    At N ds L (wpList P ops Q (⟨some d, .load t x, ty, pos, aft, none⟩ :: rest)) w :=
  At.op rfl rfl hN (fun a ha => by
    unfold Ld at hl
    simp only [execOp, ha.ev hx, Instr.loadAt, Instr.sureAddr, Sem.run_bind, Sem.run_pure, Result.andThen_ok, hl]) k
theorem At.store {t T : TypeId} {b o : Nat} {v : Value} {C : Array Value} (hx : ev L x = some (.pointer (some ⟨b, o, none⟩))) (hy : ev L y = some v) (hb : w.heap[b]? = some (.cells C T)) (hs : sizeB P t = some v.cells.size)
    (hr : o + v.cells.size ≤ C.size) (h1 : v.cells.all (·.oneCell') = true) (k : ∀ w', SetB w w' b (.cells (splice C o v.cells) T) → At N ds L (wpList P ops Q rest) w') :
    At N ds L (wpList P ops Q (⟨none, .store t x y, ty, pos, aft, none⟩ :: rest)) w :=
  At.opS rfl rfl (fun a ha => by
    have hst := run_storeVar_at (P := P) (o := o) (t := t) (v := v) hs hb hr (by intro c hc; exact (Array.all_eq_true'.1 h1) c (by simpa using hc))
    simp only [execOp, ha.ev hx, ha.ev hy, Instr.storeAt, Instr.sureAddr, Sem.run_bind, Sem.run_pure, Result.andThen_ok, hst]) (k _ (SetB.of_setRow hb _))
/-- The whole of a variable of several cells. -/
theorem At.storeAll {t T : TypeId} {b : Nat} {C C' : Array Value} (hx : ev L x = some (.pointer (some ⟨b, 0, none⟩))) (hy : ev L y = some (.agg C')) (hb : w.heap[b]? = some (.cells C T)) (hs : sizeB P t = some C'.size)
    (hr : C.size = C'.size) (h1 : C'.all (·.oneCell') = true) (k : ∀ w', SetB w w' b (.cells C' T) → At N ds L (wpList P ops Q rest) w') :
    At N ds L (wpList P ops Q (⟨none, .store t x y, ty, pos, aft, none⟩ :: rest)) w :=
  At.store hx hy hb hs (by show 0 + C'.size ≤ _; omega) h1 (fun w' h => k w' (by
    have e : splice C 0 (Value.agg C').cells = C' := splice_all hr
    rwa [e] at h))
/-- One cell. -/
theorem At.store1 {t T : TypeId} {b o : Nat} {v : Value} {C : Array Value} (hx : ev L x = some (.pointer (some ⟨b, o, none⟩))) (hy : ev L y = some v) (hb : w.heap[b]? = some (.cells C T)) (hs : sizeB P t = some 1)
    (hr : o < C.size) (h1 : v.oneCell' = true) (k : ∀ w', SetB w w' b (.cells (C.setIfInBounds o v) T) → At N ds L (wpList P ops Q rest) w') :
    At N ds L (wpList P ops Q (⟨none, .store t x y, ty, pos, aft, none⟩ :: rest)) w := by
  have hc := cells_one h1
  refine At.store hx hy hb (by rw [hc]; exact hs) (by rw [hc]; exact hr) (by rw [hc]; simpa using h1) (fun w' h => k w' ?_)
  rw [hc, splice_one hr] at h
  exact h

-- literals
def tmpVals (L : List (Nat × Value)) : List (Nat × Operand) → Option (List (Nat × Value))
  | [] => some []
  | (i, x) :: r => match ev L x, tmpVals L r with
    | some v, some vs => some ((i, v) :: vs)
    | _, _ => none
theorem Is.parts (h : Is N ds L a) : ∀ {l : List (Nat × Operand)} {vs : List (Nat × Value)}, tmpVals L l = some vs → l.map (fun (i, x) => (i, a.eval x)) = vs := by
  intro l
  induction l with
  | nil => intro vs hv; simpa [tmpVals] using hv
  | cons p r ih =>
    obtain ⟨i, x⟩ := p
    intro vs hv
    unfold tmpVals at hv
    split at hv
    · rename_i v vs' hx hr
      obtain rfl := Option.some.inj hv
      simp [h.ev hx, ih hr]
    · cases hv

theorem splice_get {C vs : Array Value} {o : Nat} (h : o + vs.size ≤ C.size) (j : Nat) : (splice C o vs)[j]? = if j < o then C[j]? else if j < o + vs.size then vs[j - o]? else C[j]? := by
  have h1 : (C.toList.take o).length = o := by simp; omega
  simp only [splice, List.getElem?_toArray, List.append_assoc]
  by_cases a : j < o
  · rw [if_pos a, List.getElem?_append_left (by omega), List.getElem?_take_of_lt a]; simp
  · rw [if_neg a, List.getElem?_append_right (by omega), h1]
    by_cases b : j < o + vs.size
    · rw [if_pos b, List.getElem?_append_left (by simp; omega)]; simp
    · rw [if_neg b, List.getElem?_append_right (by simp; omega), List.getElem?_drop]
      have : o + vs.size + (j - o - vs.toList.length) = j := by simp; omega
      rw [this]; simp
theorem splice_cons {C : Array Value} {o : Nat} {v : Value} {vs : List Value} (h : o + (vs.length + 1) ≤ C.size) : splice C o (v :: vs).toArray = splice (C.setIfInBounds o v) (o + 1) vs.toArray := by
  apply Array.ext_getElem?
  intro j
  rw [splice_get (by simpa using h), splice_get (by simp; omega)]
  by_cases a : j < o
  · rw [if_pos a, if_pos (by omega), Array.getElem?_setIfInBounds_ne (by omega)]
  · rw [if_neg a]
    by_cases b : j = o
    · subst b
      rw [if_pos (by simp), if_pos (by omega)]
      simp [show j < C.size from by omega]
    · rw [if_neg (by omega : ¬ j < o + 1)]
      by_cases c : j < o + (vs.length + 1)
      · rw [if_pos (by simpa using c), if_pos (by simp; omega)]
        have : j - o = (j - (o + 1)) + 1 := by omega
        rw [this]; simp
      · rw [if_neg (by simpa using c), if_neg (by simp; omega), Array.getElem?_setIfInBounds_ne (by omega)]
theorem fill_foldl (vs : List Value) : ∀ (C : Array Value) (o n : Nat), o + n + vs.length ≤ C.size →
    (vs.zipIdx n).foldl (fun cs (c, j) => cs.setIfInBounds (o + j) c) C = splice C (o + n) vs.toArray := by
  induction vs with
  | nil =>
    intro C o n _
    simp [splice]
  | cons v vs ih =>
    intro C o n h
    simp only [List.length_cons] at h
    simp only [List.zipIdx_cons, List.foldl_cons]
    rw [ih (C.setIfInBounds (o + n) v) o (n + 1) (by simp; omega), splice_cons (by omega)]
    rfl

inductive Bld (P : Program) (t : TypeId) : Array Value → List (Nat × Value) → Array Value → Prop
  | nil (C : Array Value) : Bld P t C [] C
  | cons {C C' : Array Value} {i off sz : Nat} {v : Value} {r : List (Nat × Value)} (hf : fieldB P t i = some (off, sz)) (hv : v.cells.size = sz) (hr : off + sz ≤ C.size) (h : Bld P t (splice C off v.cells) r C') : Bld P t C ((i, v) :: r) C'
end ops
end Go.Proofs.Ytkjmjnddanhapaa
