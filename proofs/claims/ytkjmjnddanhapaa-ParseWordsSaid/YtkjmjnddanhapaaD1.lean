/-
  The program's data as trees, and how they lie in memory. Plain definitions and lemmas; no condition.
-/
import Derived.Test.YtkjmjnddanhapaaK7
namespace Go.Proofs.Ytkjmjnddanhapaa
open Go.RowKit

theorem Below.old {w w' : World} (h : Below w.heap.size w w') {k : Nat} {x : Obj} (hk : w.heap[k]? = some x) : w'.heap[k]? = some x := by
  have : k < w.heap.size := (Array.getElem?_eq_some_iff.1 hk).1
  rw [h.block k this]; exact hk
theorem Below.andThen {w0 w w' : World} (h : Below w0.heap.size w0 w) (k : Below w.heap.size w w') : Below w0.heap.size w0 w' := h.trans (k.mono h.size)
theorem Fresh.below' {w w' w0 : World} {b : Nat} {o : Obj} (h : Fresh w w' b o) (hB : Below w0.heap.size w0 w) : Below w0.heap.size w0 w' := h.below hB hB.size
theorem Fresh.ge {w w' w0 : World} {b : Nat} {o : Obj} (h : Fresh w w' b o) (hB : Below w0.heap.size w0 w) : w0.heap.size ≤ b := by have := hB.size; have := h.eq; omega
theorem SetB.below' {w w' w0 : World} {b : Nat} {o : Obj} (h : SetB w w' b o) (hB : Below w0.heap.size w0 w) (hb : w0.heap.size ≤ b) : Below w0.heap.size w0 w' := h.below hB hB.size hb

theorem cell_lt {w : World} {a : Addr} {v : Value} (h : w.cell? a = some v) : a.block < w.heap.size := block_lt_of_cell h
theorem CellsAt.keep {w w' : World} {b o : Nat} {cs : Array Value} (h : CellsAt w b o cs) (hB : Below w.heap.size w w') : CellsAt w' b o cs := fun j v hv => by
  have := h j v hv
  rw [hB.cell (cell_lt this)]; exact this
theorem cell_keep {w w' : World} {a : Addr} {v : Value} (h : w.cell? a = some v) (hB : Below w.heap.size w w') : w'.cell? a = some v := by
  rw [hB.cell (cell_lt h)]; exact h

/-- A slice whose elements, of sz cells each, are these rows of cells. -/
structure RowsAt (w : World) (v : Value) (sz : Nat) (rows : List (Array Value)) : Prop where
  ok : SlOk v rows.length
  size : ∀ (i : Nat) (cs : Array Value), rows[i]? = some cs → cs.size = sz
  at_ : ∀ (i : Nat) (cs : Array Value), rows[i]? = some cs → CellsAt w (vBlock v) (vOff v + i * sz) cs
  len : rows.length ≤ 9223372036854775807
theorem RowsAt.keep {w w' : World} {v : Value} {sz : Nat} {rows : List (Array Value)} (h : RowsAt w v sz rows) (hB : Below w.heap.size w w') : RowsAt w' v sz rows :=
  ⟨h.ok, h.size, fun i cs hi => (h.at_ i cs hi).keep hB, h.len⟩
theorem RowsAt.nil (w : World) (sz : Nat) : RowsAt w (.slice none 0 0) sz [] := ⟨.inl ⟨rfl, rfl⟩, fun i cs h => by simp at h, fun i cs h => by simp at h, by simp⟩

def StrsAt (w : World) (v : Value) (ss : List ByteArray) : Prop := RowsAt w v 1 (ss.map fun s => #[.string s])
theorem StrsAt.keep {w w' : World} {v : Value} {ss : List ByteArray} (h : StrsAt w v ss) (hB : Below w.heap.size w w') : StrsAt w' v ss := RowsAt.keep h hB
theorem StrsAt.ok {w : World} {v : Value} {ss : List ByteArray} (h : StrsAt w v ss) : SlOk v ss.length := by have := RowsAt.ok h; simpa using this
theorem StrsAt.get {w : World} {v : Value} {ss : List ByteArray} (h : StrsAt w v ss) {i : Nat} {s : ByteArray} (hi : ss[i]? = some s) : w.cell? ⟨vBlock v, vOff v + i * 1, none⟩ = some (.string s) := by
  have := RowsAt.at_ h i #[.string s] (by simp [hi]) 0 (.string s) rfl
  simpa using this
theorem StrsAt.len {w : World} {v : Value} {ss : List ByteArray} (h : StrsAt w v ss) : ss.length ≤ 9223372036854775807 := by have := RowsAt.len h; simpa using this
theorem StrsAt.nil (w : World) : StrsAt w (.slice none 0 0) [] := RowsAt.nil w 1

theorem RowsAt.row {α : Type} {w : World} {v : Value} {sz : Nat} {l : List α} {f : α → Array Value} (h : RowsAt w v sz (l.map f)) {i : Nat} {x : α} (hi : l[i]? = some x) : CellsAt w (vBlock v) (vOff v + i * sz) (f x) :=
  h.at_ i (f x) (by simp [hi])
theorem RowsAt.okL {α : Type} {w : World} {v : Value} {sz : Nat} {l : List α} {f : α → Array Value} (h : RowsAt w v sz (l.map f)) : SlOk v l.length := by have := h.ok; simpa using this
theorem RowsAt.lenL {α : Type} {w : World} {v : Value} {sz : Nat} {l : List α} {f : α → Array Value} (h : RowsAt w v sz (l.map f)) : l.length ≤ 9223372036854775807 := by have := h.len; simpa using this
theorem CellsAt.get {w : World} {b o : Nat} {cs : Array Value} (h : CellsAt w b o cs) {j : Nat} {v : Value} (hv : cs[j]? = some v) : w.cell? ⟨b, o + j, none⟩ = some v := h j v hv
theorem CellsAt.part {w : World} {b o n : Nat} {C cs : Array Value} (h : CellsAt w b o C) (k : Nat) (e : C.extract k (k + n) = cs) : CellsAt w b (o + k) cs := e ▸ h.sub k n
theorem Ld.ownPart {P : Program} {w : World} {t : TypeId} {b o n : Nat} {C cs : Array Value} {T : TypeId} {fr : Nat × Nat} (ha : aggB P t = some true) (hs : sizeB P t = some cs.size) (h : w.heap[b]? = some (.cells C T fr)) (e : C.extract o (o + n) = cs) :
    Ld P w t b o (.agg cs) := by
  have := (CellsAt.own h).part o e
  rw [Nat.zero_add] at this
  exact .row ha hs this
theorem some_of_lt {α : Type} {l : List α} {i : Nat} (h : i < l.length) : ∃ x, l[i]? = some x := ⟨l[i], List.getElem?_eq_getElem h⟩

-- ------------------------------------------------------------------ types
/-- A type: its cells, its kind, name, number, and how many arguments and labels it has. -/
structure Ty where
  cs : Array Value
  k : Int
  nm : ByteArray
  var : Int
  av : Value
  args : Nat
  lv : Value
  labels : Nat
  rvar : Int
structure TyOk (t : Ty) : Prop where
  size : t.cs.size = 6
  one : t.cs.all (·.oneCell') = true
  c0 : t.cs[0]? = some (.int .i64 t.k)
  c1 : t.cs[1]? = some (.string t.nm)
  c2 : t.cs[2]? = some (.int .i64 t.var)
  c3 : t.cs[3]? = some t.av
  c4 : t.cs[4]? = some t.lv
  c5 : t.cs[5]? = some (.int .i64 t.rvar)
  argsOk : SlOk t.av t.args
  labelsOk : SlOk t.lv t.labels

/-- An operation of an effect. -/
structure Op where
  cs : Array Value
  nm : ByteArray
  arg : Ty
  res : Ty
structure OpOk (o : Op) : Prop where
  size : o.cs.size = 13
  one : o.cs.all (·.oneCell') = true
  c0 : o.cs[0]? = some (.string o.nm)
  argCs : o.cs.extract 1 (1 + 6) = o.arg.cs
  resCs : o.cs.extract 7 (7 + 6) = o.res.cs
  argOk : TyOk o.arg
  resOk : TyOk o.res
structure Eff where
  cs : Array Value
  nm : ByteArray
  ov : Value
  ops : List Op
structure EffOk (w : World) (e : Eff) : Prop where
  size : e.cs.size = 2
  one : e.cs.all (·.oneCell') = true
  c0 : e.cs[0]? = some (.string e.nm)
  c1 : e.cs[1]? = some e.ov
  opsAt : RowsAt w e.ov 13 (e.ops.map Op.cs)
  opOk : ∀ o ∈ e.ops, OpOk o
/-- A constructor of a data. -/
structure Cn where
  cs : Array Value
  nm : ByteArray
  fv : Value
  fields : List Ty
structure CnOk (w : World) (c : Cn) : Prop where
  size : c.cs.size = 2
  one : c.cs.all (·.oneCell') = true
  c0 : c.cs[0]? = some (.string c.nm)
  c1 : c.cs[1]? = some c.fv
  fieldsAt : RowsAt w c.fv 6 (c.fields.map Ty.cs)
  fieldOk : ∀ t ∈ c.fields, TyOk t
structure Dat where
  cs : Array Value
  nm : ByteArray
  cv : Value
  cons : List Cn
structure DatOk (w : World) (d : Dat) : Prop where
  size : d.cs.size = 2
  one : d.cs.all (·.oneCell') = true
  c0 : d.cs[0]? = some (.string d.nm)
  c1 : d.cs[1]? = some d.cv
  consAt : RowsAt w d.cv 2 (d.cons.map Cn.cs)
  conOk : ∀ c ∈ d.cons, CnOk w c

-- ------------------------------------------------------------------ terms
mutual
inductive Tm where
  | mk (cs : Array Value) (k at_ : Int) (nm pm : ByteArray) (n : Int) (kv av : Value) (kids : List Tm) (arms : List Am)
inductive Am where
  | mk (cs : Array Value) (nm : ByteArray) (vv : Value) (vars : List ByteArray) (body : Tm)
end
namespace Tm
def cs : Tm → Array Value | .mk cs .. => cs
def k : Tm → Int | .mk _ k .. => k
def at_ : Tm → Int | .mk _ _ a .. => a
def nm : Tm → ByteArray | .mk _ _ _ s .. => s
def pm : Tm → ByteArray | .mk _ _ _ _ s .. => s
def n : Tm → Int | .mk _ _ _ _ _ n .. => n
def kv : Tm → Value | .mk _ _ _ _ _ _ v .. => v
def av : Tm → Value | .mk _ _ _ _ _ _ _ v .. => v
def kids : Tm → List Tm | .mk _ _ _ _ _ _ _ _ l _ => l
def arms : Tm → List Am | .mk _ _ _ _ _ _ _ _ _ l => l
end Tm
namespace Am
def cs : Am → Array Value | .mk cs .. => cs
def nm : Am → ByteArray | .mk _ s .. => s
def vv : Am → Value | .mk _ _ v .. => v
def vars : Am → List ByteArray | .mk _ _ _ l _ => l
def body : Am → Tm | .mk _ _ _ _ t => t
end Am

/-- What a term's own cells are. -/
structure TmC (w : World) (t : Tm) : Prop where
  size : t.cs.size = 21
  one : t.cs.all (·.oneCell') = true
  c0 : t.cs[0]? = some (.int .i64 t.k)
  c1 : t.cs[1]? = some (.int .i64 t.at_)
  c2 : t.cs[2]? = some (.string t.nm)
  c3 : t.cs[3]? = some (.string t.pm)
  c4 : t.cs[4]? = some (.int .i64 t.n)
  c5 : t.cs[5]? = some t.kv
  c6 : t.cs[6]? = some t.av
  kidsAt : RowsAt w t.kv 21 (t.kids.map Tm.cs)
  armsAt : RowsAt w t.av 23 (t.arms.map Am.cs)
structure AmC (w : World) (a : Am) : Prop where
  size : a.cs.size = 23
  one : a.cs.all (·.oneCell') = true
  c0 : a.cs[0]? = some (.string a.nm)
  c1 : a.cs[1]? = some a.vv
  varsAt : StrsAt w a.vv a.vars
  bodyCs : a.cs.extract 2 (2 + 21) = a.body.cs
mutual
inductive TmOk (w : World) : Tm → Prop
  | mk {t : Tm} (c : TmC w t) (kids : ∀ u ∈ t.kids, TmOk w u) (arms : ∀ a ∈ t.arms, AmOk w a) : TmOk w t
inductive AmOk (w : World) : Am → Prop
  | mk {a : Am} (c : AmC w a) (body : TmOk w a.body) : AmOk w a
end
section
variable {w w' : World} {t : Tm} {a : Am}
theorem TmOk.c (h : TmOk w t) : TmC w t := by cases h; assumption
theorem TmOk.kids (h : TmOk w t) : ∀ u ∈ t.kids, TmOk w u := by cases h; assumption
theorem TmOk.arms (h : TmOk w t) : ∀ u ∈ t.arms, AmOk w u := by cases h; assumption
theorem AmOk.c (h : AmOk w a) : AmC w a := by cases h; assumption
theorem AmOk.body (h : AmOk w a) : TmOk w a.body := by cases h; assumption
theorem TmOk.size (h : TmOk w t) : t.cs.size = 21 := h.c.size
theorem TmOk.one (h : TmOk w t) : t.cs.all (·.oneCell') = true := h.c.one
theorem TmOk.c0 (h : TmOk w t) : t.cs[0]? = some (.int .i64 t.k) := h.c.c0
theorem TmOk.c1 (h : TmOk w t) : t.cs[1]? = some (.int .i64 t.at_) := h.c.c1
theorem TmOk.c2 (h : TmOk w t) : t.cs[2]? = some (.string t.nm) := h.c.c2
theorem TmOk.c3 (h : TmOk w t) : t.cs[3]? = some (.string t.pm) := h.c.c3
theorem TmOk.c4 (h : TmOk w t) : t.cs[4]? = some (.int .i64 t.n) := h.c.c4
theorem TmOk.c5 (h : TmOk w t) : t.cs[5]? = some t.kv := h.c.c5
theorem TmOk.c6 (h : TmOk w t) : t.cs[6]? = some t.av := h.c.c6
theorem TmOk.kidsAt (h : TmOk w t) : RowsAt w t.kv 21 (t.kids.map Tm.cs) := h.c.kidsAt
theorem TmOk.armsAt (h : TmOk w t) : RowsAt w t.av 23 (t.arms.map Am.cs) := h.c.armsAt
theorem TmOk.kid (h : TmOk w t) {i : Nat} {u : Tm} (hu : t.kids[i]? = some u) : TmOk w u := h.kids u (List.mem_of_getElem? hu)
theorem TmOk.arm (h : TmOk w t) {i : Nat} {u : Am} (hu : t.arms[i]? = some u) : AmOk w u := h.arms u (List.mem_of_getElem? hu)
theorem AmOk.size (h : AmOk w a) : a.cs.size = 23 := h.c.size
theorem AmOk.one (h : AmOk w a) : a.cs.all (·.oneCell') = true := h.c.one
theorem AmOk.c0 (h : AmOk w a) : a.cs[0]? = some (.string a.nm) := h.c.c0
theorem AmOk.c1 (h : AmOk w a) : a.cs[1]? = some a.vv := h.c.c1
theorem AmOk.varsAt (h : AmOk w a) : StrsAt w a.vv a.vars := h.c.varsAt
theorem AmOk.bodyCs (h : AmOk w a) : a.cs.extract 2 (2 + 21) = a.body.cs := h.c.bodyCs
theorem EffOk.op {e : Eff} (h : EffOk w e) {i : Nat} {o : Op} (ho : e.ops[i]? = some o) : OpOk o := h.opOk o (List.mem_of_getElem? ho)
theorem DatOk.con {d : Dat} (h : DatOk w d) {i : Nat} {o : Cn} (ho : d.cons[i]? = some o) : CnOk w o := h.conOk o (List.mem_of_getElem? ho)
theorem CnOk.field {c : Cn} (h : CnOk w c) {i : Nat} {o : Ty} (ho : c.fields[i]? = some o) : TyOk o := h.fieldOk o (List.mem_of_getElem? ho)
theorem TmC.keep (h : TmC w t) (hB : Below w.heap.size w w') : TmC w' t := { h with kidsAt := h.kidsAt.keep hB, armsAt := h.armsAt.keep hB }
theorem AmC.keep (h : AmC w a) (hB : Below w.heap.size w w') : AmC w' a := { h with varsAt := StrsAt.keep h.varsAt hB }
mutual
theorem TmOk.keep' (hB : Below w.heap.size w w') : ∀ (t : Tm), TmOk w t → TmOk w' t
  | .mk cs k at_ nm pm n kv av kids arms, h => .mk (h.c.keep hB) (TmOk.keepL hB kids h.kids) (AmOk.keepL hB arms h.arms)
theorem AmOk.keep' (hB : Below w.heap.size w w') : ∀ (a : Am), AmOk w a → AmOk w' a
  | .mk cs nm vv vars body, h => .mk (h.c.keep hB) (TmOk.keep' hB body h.body)
theorem TmOk.keepL (hB : Below w.heap.size w w') : ∀ (l : List Tm), (∀ u ∈ l, TmOk w u) → ∀ u ∈ l, TmOk w' u
  | [], _, _, hu => by cases hu
  | t :: l, h, u, hu => by
    rcases List.mem_cons.1 hu with e | e
    · rw [e]; exact TmOk.keep' hB t (h t (by simp))
    · exact TmOk.keepL hB l (fun u hu => h u (List.mem_cons_of_mem _ hu)) u e
theorem AmOk.keepL (hB : Below w.heap.size w w') : ∀ (l : List Am), (∀ u ∈ l, AmOk w u) → ∀ u ∈ l, AmOk w' u
  | [], _, _, hu => by cases hu
  | t :: l, h, u, hu => by
    rcases List.mem_cons.1 hu with e | e
    · rw [e]; exact AmOk.keep' hB t (h t (by simp))
    · exact AmOk.keepL hB l (fun u hu => h u (List.mem_cons_of_mem _ hu)) u e
end
theorem TmOk.keep (h : TmOk w t) (hB : Below w.heap.size w w') : TmOk w' t := TmOk.keep' hB t h
theorem AmOk.keep (h : AmOk w a) (hB : Below w.heap.size w w') : AmOk w' a := AmOk.keep' hB a h
end

-- ------------------------------------------------------------------ programs
structure Pr where
  cs : Array Value
  ev : Value
  dv : Value
  effs : List Eff
  dats : List Dat
  body : Tm
structure PrOk (w : World) (p : Pr) : Prop where
  size : p.cs.size = 23
  one : p.cs.all (·.oneCell') = true
  c0 : p.cs[0]? = some p.ev
  c1 : p.cs[1]? = some p.dv
  effsAt : RowsAt w p.ev 2 (p.effs.map Eff.cs)
  datsAt : RowsAt w p.dv 2 (p.dats.map Dat.cs)
  effOk : ∀ e ∈ p.effs, EffOk w e
  datOk : ∀ d ∈ p.dats, DatOk w d
  bodyCs : p.cs.extract 2 (2 + 21) = p.body.cs
  bodyOk : TmOk w p.body
section
variable {w w' : World}
theorem EffOk.keep {e : Eff} (h : EffOk w e) (hB : Below w.heap.size w w') : EffOk w' e := { h with opsAt := h.opsAt.keep hB }
theorem CnOk.keep {c : Cn} (h : CnOk w c) (hB : Below w.heap.size w w') : CnOk w' c := { h with fieldsAt := h.fieldsAt.keep hB }
theorem DatOk.keep {d : Dat} (h : DatOk w d) (hB : Below w.heap.size w w') : DatOk w' d := { h with consAt := h.consAt.keep hB, conOk := fun c hc => (h.conOk c hc).keep hB }
theorem PrOk.keep {p : Pr} (h : PrOk w p) (hB : Below w.heap.size w w') : PrOk w' p :=
  { h with effsAt := h.effsAt.keep hB, datsAt := h.datsAt.keep hB, effOk := fun e he => (h.effOk e he).keep hB, datOk := fun d hd => (h.datOk d hd).keep hB, bodyOk := h.bodyOk.keep hB }
theorem PrOk.eff {p : Pr} (h : PrOk w p) {i : Nat} {e : Eff} (he : p.effs[i]? = some e) : EffOk w e := h.effOk e (List.mem_of_getElem? he)
theorem PrOk.dat {p : Pr} (h : PrOk w p) {i : Nat} {d : Dat} (hd : p.dats[i]? = some d) : DatOk w d := h.datOk d (List.mem_of_getElem? hd)
end
end Go.Proofs.Ytkjmjnddanhapaa
