/-
  Part 4 of 6 of a proof: sourceNests_holds. No condition beyond those that stand in each statement.
-/
import Derived.Test.YtfoolfecjjngpaaGreatPn3
set_option linter.unusedVariables false
set_option linter.unusedSimpArgs false
namespace Go.Proofs.YtfoolfecjjngpaaGreat
open Go.RowKit
structure SS where
  t : ST
  e : X
  at_ : Bool
  v : X
  fr : X
  cells : List X
  inp : List Int
  ok : Int
  tr : List Int
  st : Int
  kn : Int
abbrev eB : ByteArray := (⟨#[]⟩ : ByteArray)
def vI (n : Int) : X := .v 1 n eB [] .nil .nil
def vU : X := .v 3 0 eB [] .nil .nil
def vB (n : Int) : X := .v 2 n eB [] .nil .nil
def vR (n : Int) : X := .v 5 n eB [] .nil .nil
def vC (nm : ByteArray) (l : List X) : X := .v 4 0 nm l .nil .nil
def vF (c : X) : X := .v 6 0 eB [] c .nil
def vK (s : X) : X := .v 6 0 eB [] .nil s
def X.k : X → Int | .v k .. => k | _ => 0
def X.n : X → Int | .v _ n .. => n | _ => 0
def X.nm : X → ByteArray | .v _ _ nm .. => nm | _ => eB
def X.kids : X → List X | .v _ _ _ l .. => l | _ => []
def SS.push (s : SS) (f : X) : SS := { s with fr := .s f s.fr }
def SS.goes (s : SS) (t : ST) (e : X) : SS := { s with t := t, e := e, at_ := true }
def SS.has (s : SS) (v : X) : SS := { s with v := v, at_ := false }
def SS.ends (s : SS) (k : Int) : SS := { s with ok := k }
def ST.nm : ST → ByteArray | .mk _ _ nm .. => nm
def ST.pm : ST → ByteArray | .mk _ _ _ pm .. => pm
def ST.n : ST → Int | .mk _ _ _ _ n .. => n
def ST.kids : ST → List ST | .mk _ _ _ _ _ l _ => l
def ST.arms : ST → List SA | .mk _ _ _ _ _ _ l => l
def SA.nm : SA → ByteArray | .mk nm .. => nm
def SA.vars : SA → List ByteArray | .mk _ l _ => l
def t0 : ST := .mk 0 0 eB eB 0 [] []
def findX (s : ByteArray) : X → Option X
  | .e nm v r => bif decide (nm = s) then some v else findX s r
  | _ => none
def vop (nm : ByteArray) (a b : Int) : Option X :=
  bif decide (nm = (⟨#[43]⟩ : ByteArray)) then some (vI (IntKind.i64.wrap (a + b)))
  else bif decide (nm = (⟨#[45]⟩ : ByteArray)) then some (vI (IntKind.i64.wrap (a - b)))
  else bif decide (nm = (⟨#[42]⟩ : ByteArray)) then some (vI (IntKind.i64.wrap (a * b)))
  else bif decide (nm = (⟨#[47]⟩ : ByteArray)) then (bif decide (b = 0) then none else some (vI (IntKind.i64.wrap (a.tdiv b))))
  else bif decide (nm = (⟨#[60]⟩ : ByteArray)) then some (vB (bif decide (a < b) then 1 else 0))
  else bif decide (nm = (⟨#[61]⟩ : ByteArray)) then some (vB (bif decide (a = b) then 1 else 0))
  else none
abbrev R := SS × Bool
def opF (s : SS) (nm : ByteArray) (l : List X) : R :=
  match l with
  | [a] =>
    bif decide (nm = (⟨#[112, 114, 105, 110, 116]⟩ : ByteArray)) && decide (a.k = 1) then ({ s with tr := s.tr ++ [a.n] }.has vU, true)
    else bif decide (nm = (⟨#[114, 101, 102]⟩ : ByteArray)) then ({ s with cells := s.cells ++ [a] }.has (vR s.cells.length), true)
    else bif decide (nm = (⟨#[33]⟩ : ByteArray)) && decide (a.k = 5) then (s.has (s.cells.getD a.n.toNat .nil), true)
    else (s, false)
  | [a, b] =>
    bif decide (nm = (⟨#[58, 61]⟩ : ByteArray)) && decide (a.k = 5) then ({ s with cells := s.cells.set a.n.toNat b }.has vU, true)
    else bif decide (a.k = 1) && decide (b.k = 1) then (match vop nm a.n b.n with
      | some v => (s.has v, true)
      | none => bif decide (nm = (⟨#[47]⟩ : ByteArray)) then (s.ends 2, true) else (s, false))
    else (s, false)
  | _ => (s, false)
def aloneF (s : SS) (t : ST) : R :=
  bif decide (ST.k t = 11) then (s.has (vC t.nm []), true)
  else bif decide (t.nm = (⟨#[114, 101, 97, 100]⟩ : ByteArray)) then (match s.inp with
    | [] => (s.ends 3, true)
    | n :: r => ({ s with inp := r }.has (vI n), true))
  else (s, false)
def needs (k : Int) : Int := ([-2, 0, 0, 0, 0, 1, 2, 2, 2, 3, -1, -1, 1, 1, 1] : List Int).getD k.toNat (-2)
def kid (t : ST) (i : Nat) : ST := t.kids.getD i t0
def looksF (s : SS) : R :=
  let t := s.t; let e := s.e
  bif decide (needs (ST.k t) = -2) || decide ((t.kids.length : Int) < needs (ST.k t)) then (s, false)
  else match ST.k t with
  | 1 => (match findX t.nm e with | some v => (s.has v, true) | none => (s, false))
  | 2 => (s.has (vI t.n), true)
  | 3 => (s.has (vB (bits .and .i64 t.n 1)), true)
  | 4 => (s.has vU, true)
  | 5 => (s.has (vF (.c eB t.nm (kid t 0) e)), true)
  | 6 => ((s.push (.arg (kid t 1) e)).goes (kid t 0) e, true)
  | 7 => ((s.push (.bnd t.nm (kid t 1) e)).goes (kid t 0) e, true)
  | 8 => (s.goes (kid t 1) (.e t.nm (vF (.c t.nm t.pm (kid t 0) e)) e), true)
  | 9 => ((s.push (.frk ((t.kids.drop 1).take 2) e)).goes (kid t 0) e, true)
  | 10 => bif decide (t.kids.length = 0) then aloneF s t else ((s.push (.gat t [] e)).goes (kid t 0) e, true)
  | 11 => bif decide (t.kids.length = 0) then aloneF s t else ((s.push (.gat t [] e)).goes (kid t 0) e, true)
  | 12 => ((s.push (.way t.arms e)).goes (kid t 0) e, true)
  | 13 => ((s.push (.ask t.nm)).goes (kid t 0) e, true)
  | 14 => ((s.push (.hnd t.arms e)).goes (kid t 0) e, true)
  | _ => (s, false)
def appX : X → X → X
  | .s a r, y => .s a (appX r y)
  | _, y => y
def stk : List X → X → X
  | [], y => y
  | a :: r, y => .s a (stk r y)
def bindX : List ByteArray → List X → X → X
  | nm :: r, v :: vs, e => bindX r vs (.e nm v e)
  | _, _, e => e
def clF (nm : ByteArray) (l : List SA) : Option SA := l.tail.find? fun a => decide (a.nm = nm) && decide (a.vars.length = 2)
def askF (nm : ByteArray) : X → List X → Option (List X × SA × X × X)
  | .s (.hnd arms e) r, l => (match clF nm arms with
    | some a => some (l ++ [.hnd arms e], a, e, r)
    | none => askF nm r (l ++ [.hnd arms e]))
  | .s f r, l => askF nm r (l ++ [f])
  | _, _ => none
def getsF (f : X) (s : SS) (v : X) : R :=
  match f with
  | .arg t e => ((s.push (.fn v)).goes t e, true)
  | .fn (.v _ _ _ _ (.c self p body e) _) => (s.goes body (.e p v (bif decide (self = eB) then e else .e self (match f with | .fn x => x | _ => .nil) e)), true)
  | .fn (.v _ _ _ _ _ (.s a r)) => ({ s with fr := appX (.s a r) s.fr }.has v, true)
  | .bnd nm t e => (s.goes t (.e nm v e), true)
  | .frk l e => bif decide (v.k = 2) then (s.goes (l.getD (1 - v.n).toNat t0) e, true) else (s, false)
  | .gat t done e =>
    bif decide (done.length + 1 < t.kids.length) then ((s.push (.gat t (done ++ [v]) e)).goes (kid t (done.length + 1)) e, true)
    else bif decide (ST.k t = 11) then (s.has (vC t.nm (done ++ [v])), true)
    else opF s t.nm (done ++ [v])
  | .way arms e =>
    bif decide (v.k = 4) then (match arms.find? (fun a => decide (a.nm = v.nm) && decide (a.vars.length = v.kids.length)) with
      | some a => (s.goes a.body (bindX a.vars v.kids e), true)
      | none => (s, false))
    else (s, false)
  | .ask nm => (match askF nm s.fr [] with
    | some (l, a, e, r) => ({ s with fr := r, kn := IntKind.i64.wrap (s.kn + 1) }.goes a.body (.e (a.vars.getD 1 eB) (vK (stk l .nil)) (.e (a.vars.getD 0 eB) v e)), true)
    | none => (s, false))
  | .hnd arms e => (match arms with
    | .mk _ (x :: _) b :: _ => (s.goes b (.e x v e), true)
    | _ => (s, false))
  | _ => (s, false)
def nilX : X → Bool | .nil => true | _ => false
def endedF (s : SS) : Bool := (!decide (s.ok = 0)) || ((!s.at_) && nilX s.fr)
def stepF (s0 : SS) : Option SS :=
  bif endedF s0 then none
  else
    let s := { s0 with st := IntKind.i64.wrap (s0.st + 1) }
    let r := bif s.at_ then looksF s else (match s.fr with | .s f fr => getsF f { s with fr := fr } s.v | _ => (s, false))
    some (bif r.2 then r.1 else r.1.ends 4)
def runF : Nat → SS → SS
  | 0, s => s
  | n + 1, s => match stepF s with | some s => runF n s | none => s
def startF (t : ST) (inp : List Int) : SS := ⟨t, .nil, true, .v 0 0 eB [] .nil .nil, .nil, [], inp, 0, [], 0, 0⟩
mutual
def pcs (m : Int) : X → Int
  | .v _ _ _ l _ _ => pcsL m 1 l
  | _ => 1
def pcsL (m n : Int) : List X → Int
  | [] => n
  | x :: r => bif decide (m < n) then n else pcsL m (n + pcs (m - n) x) r
end
inductive OV
  | mk (k n : Int) (nm : ByteArray) (kids : List OV)
mutual
def whl : X → OV
  | .v k n nm l _ _ => .mk k n nm (whlL l)
  | _ => .mk 0 0 eB []
def whlL : List X → List OV
  | [] => []
  | x :: r => whl x :: whlL r
end
theorem whlL_map (l : List X) : whlL l = l.map whl := by
  induction l with
  | nil => rfl
  | cons a l ih => rw [whlL, ih]; rfl
def shwX (v : X) : OV := bif decide (10000 < pcs 10000 v) then .mk v.k v.n v.nm [] else whl v
structure SR where
  ok : Int
  v : OV
  tr : List Int
  st : Int
  kn : Int
def nowF (s : SS) : SR := bif decide (s.ok = 0) && endedF s then ⟨1, shwX s.v, s.tr, s.st, s.kn⟩ else ⟨s.ok, .mk 0 0 eB [], s.tr, s.st, s.kn⟩
def runR (t : ST) (inp : List Int) (n : Int) : SR := nowF (runF n.toNat (startF t inp))
structure Sx where
  t : Tm
  e : Value
  at_ : Bool
  k : Int
  n : Int
  nm : ByteArray
  kv : Value
  fp : Value
  kp : Value
  fr : Value
  cl : Value
  inp : Value
  ok : Int
  tr : Value
  st : Int
  kn : Int
def Sx.vs (x : Sx) : List Value := [.int .i64 x.k, .int .i64 x.n, .string x.nm, .slice none 0 0, x.kv, x.fp, x.kp]
def Sx.post (x : Sx) : List Value := [x.e, .bool x.at_, .int .i64 x.k, .int .i64 x.n, .string x.nm, .slice none 0 0, x.kv, x.fp, x.kp, x.fr, x.cl, x.inp, .int .i64 x.ok, .int .i64 0, .int .i64 0, .string eB, .slice none 0 0, x.tr, .int .i64 x.st, .int .i64 x.kn]
def Sx.cs (x : Sx) : Array Value := mx [] x.t.cs x.post
def Sx.M (x : Sx) (b : Nat) : List (Option Nat) := [some b, x.cl.ownBlock, x.tr.ownBlock]
def cellsOf (rows : List (List Value × X)) : List Value := rows.flatMap fun p => p.1
structure StA (E : List (Option Nat)) (b : Nat) (x : Sx) (w : World) (s : SS) : Prop where
  blk : w.heap[b]? = some (.cells x.cs 84)
  t : Xs kTm (x.M b ++ E) w [x.t]
  st : shT x.t = s.t
  e : XAt (x.M b ++ E) s.cells.length w .e [x.e] s.e
  at_ : x.at_ = s.at_
  v : XAt (x.M b ++ E) s.cells.length w .v x.vs s.v
  fr : XAt (x.M b ++ E) s.cells.length w .s [x.fr] s.fr
  cl : ∃ rows : List (List Value × X), OwnR 82 7 (fun p : List Value × X => p.1.toArray) w x.cl rows ∧ (∀ p ∈ rows, XAt (x.M b ++ E) s.cells.length w .v p.1 p.2) ∧ rows.map Prod.snd = s.cells
  inp : IntsAt w x.inp s.inp
  inpM : s.inp ≠ [] → some (vBlock x.inp) ∉ x.M b ++ E
  ok : x.ok = s.ok
  tr : Own w 3 1 x.tr s.tr.length (s.tr.map (Value.int .i64))
  n : x.st = s.st
  kn : x.kn = s.kn
  ap : ∀ g, some g ∈ x.M b → some g ∉ E
  lt : MLt w.heap.size (x.M b ++ E)
def ptrB (P : Program) (t : TypeId) : Bool := match P.underlying t with | some (.pointer _) => true | _ => false
theorem underlying_ptr {P : Program} {t : TypeId} (h : ptrB P t = true) : ∃ e, P.underlying t = some (.pointer e) := by
  unfold ptrB at h; split at h
  · rename_i e he; exact ⟨e, he⟩
  · cases h
def mapB (P : Program) (t : TypeId) : Option (TypeId × TypeId) := match P.underlying t with | some (.map k e) => some (k, e) | _ => none
theorem underlying_map {P : Program} {t k e : TypeId} (h : mapB P t = some (k, e)) : P.underlying t = some (.map k e) := by
  unfold mapB at h; split at h
  · rename_i k' e' he; cases h; exact he
  · cases h
section
variable {P : Program} {N : Nat} {ds : List Deferred} {L : List (Nat × Value)} {w : World} {ops : Array Oper} {Q : Exit → Act → World → Prop} {rest : List Oper} {d : Nat}
  {ty : TypeId} {pos : String} {aft : Array Edge} {x y : Operand}
theorem run_eqPN {t : TypeId} {p : Option Addr} (h : ptrB P t = true) : (Op.equal t (.pointer p) (.pointer none)).run P w = .ok p.isNone w := by
  obtain ⟨e, he⟩ := underlying_ptr h
  unfold Op.equal
  show (Op.equalIn (9999 + 1) t (.pointer p) (.pointer none)).run P w = _
  unfold Op.equalIn
  simp only [Sem.run_bind, run_underlying he, Result.andThen]
  cases p <;> rfl
theorem At.eqP {p : Option Addr} {u u' : TypeId} (hx : ev L x = some (.pointer p)) (hy : ev L y = some (.pointer none)) (hu : ptrB P u = true) (hN : Nat.blt d N = true) (k : At N ds ((d, .bool p.isNone) :: L) (wpList P ops Q rest) w) :
    At N ds L (wpList P ops Q (⟨some d, .binOp .eql u x y u', ty, pos, aft, none⟩ :: rest)) w :=
  At.op rfl rfl hN (fun a ha => by simp [execOp, ha.ev hx, ha.ev hy, eqGuard, binOp, run_eqPN hu]) k
theorem At.neP {p : Option Addr} {u u' : TypeId} (hx : ev L x = some (.pointer p)) (hy : ev L y = some (.pointer none)) (hu : ptrB P u = true) (hN : Nat.blt d N = true) (k : At N ds ((d, .bool (!p.isNone)) :: L) (wpList P ops Q rest) w) :
    At N ds L (wpList P ops Q (⟨some d, .binOp .neq u x y u', ty, pos, aft, none⟩ :: rest)) w :=
  At.op rfl rfl hN (fun a ha => by simp [execOp, ha.ev hx, ha.ev hy, eqGuard, binOp, run_eqPN hu]) k
theorem At.eqSN {a : Option Addr} {n c : Nat} {u u' e : TypeId} (hx : ev L x = some (.slice a n c)) (hy : ev L y = some (.slice none 0 0)) (hu : elemB P u = some e) (hN : Nat.blt d N = true) (k : At N ds ((d, .bool a.isNone) :: L) (wpList P ops Q rest) w) :
    At N ds L (wpList P ops Q (⟨some d, .binOp .eql u x y u', ty, pos, aft, none⟩ :: rest)) w :=
  At.op rfl rfl hN (fun r ha => by simp [execOp, ha.ev hx, ha.ev hy, eqGuard, Lib.run_eql_slice_nil w u e a n c 0 0 (underlying_elem hu)]) k
theorem At.makeMap {t : TypeId} (hN : Nat.blt d N = true) (k : ∀ b w', Fresh w w' b (.map #[] 0) → At N ds ((d, .map (some b)) :: L) (wpList P ops Q rest) w') :
    At N ds L (wpList P ops Q (⟨some d, .makeMap t none, ty, pos, aft, none⟩ :: rest)) w :=
  At.op (w' := w.alloc (.map #[] 0)) rfl rfl hN (fun a _ => by simp [execOp, Instr.makeMap]) (k _ _ (Fresh.mk' w _))
theorem At.insert {t kt et : TypeId} {dk : TypeDesc} {m kx vx : Operand} {b c : Nat} {es : Array MapEntry} {key val : Value} (hm : ev L m = some (.map (some b))) (hk : ev L kx = some key) (hv : ev L vx = some val) (hb : w.heap[b]? = some (.map es c))
    (ht : mapB P t = some (kt, et)) (hd : P.underlying kt = some dk) (hK : MapKept.IsKey dk key) (hf : Instr.findNow dk key es.toList 0 = some none)
    (k : ∀ w', SetB w w' b (.map (es.push { key := key, val := val, born := c }) (c + 1)) → At N ds L (wpList P ops Q rest) w') :
    At N ds L (wpList P ops Q (⟨none, .insert t m kx vx, ty, pos, aft, none⟩ :: rest)) w := by
  have hlt : b < w.heap.size := (Array.getElem?_eq_some_iff.1 hb).1
  refine At.opS (w' := { w with heap := w.heap.setIfInBounds b (.map (es.push { key := key, val := val, born := c }) (c + 1)) }) rfl rfl (fun a ha => ?_) (k _ ⟨(MapKept.heap_set hb).1, by simp, rfl, rfl, rfl, by simp, fun k hk hne => ?_⟩)
  · simp only [execOp, Instr.mapUpdate, ha.ev hm, ha.ev hk, ha.ev hv, Sem.run_bind, run_underlying (underlying_map ht), Result.andThen, MapKept.run_getObj_map hb, MapKept.run_checkKey hd hK, MapKept.run_findKey hd hf, MapKept.run_setObj_map _ hb, Sem.run_pure]
  · exact (MapKept.heap_set hb).2 k (by simpa using hne)
theorem At.lookT {t kt et : TypeId} {dk : TypeDesc} {b c i : Nat} {es : Array MapEntry} {key v : Value} (hx : ev L x = some (.map (some b))) (hy : ev L y = some key) (hb : w.heap[b]? = some (.map es c))
    (ht : mapB P t = some (kt, et)) (hd : P.underlying kt = some dk) (hK : MapKept.IsKey dk key) (hf : Instr.findNow dk key es.toList 0 = some (some (i, v))) (hN : Nat.blt d N = true)
    (k : At N ds ((d, .tuple #[v, .bool true]) :: L) (wpList P ops Q rest) w) :
    At N ds L (wpList P ops Q (⟨some d, .lookup t x y true, ty, pos, aft, none⟩ :: rest)) w :=
  At.op rfl rfl hN (fun a ha => by
    simp only [execOp, Instr.lookup, ha.ev hx, ha.ev hy, Sem.run_bind, run_underlying (underlying_map ht), Result.andThen, MapKept.run_getObj_map hb, MapKept.run_checkKey hd hK, MapKept.run_findKey hd hf, Sem.run_pure]; rfl) k
theorem At.lookF {t kt et : TypeId} {dk : TypeDesc} {b c : Nat} {es : Array MapEntry} {key z : Value} (hx : ev L x = some (.map (some b))) (hy : ev L y = some key) (hb : w.heap[b]? = some (.map es c))
    (ht : mapB P t = some (kt, et)) (hd : P.underlying kt = some dk) (hK : MapKept.IsKey dk key) (hf : Instr.findNow dk key es.toList 0 = some none) (hz : zeroB P et = some z) (hN : Nat.blt d N = true)
    (k : At N ds ((d, .tuple #[z, .bool false]) :: L) (wpList P ops Q rest) w) :
    At N ds L (wpList P ops Q (⟨some d, .lookup t x y true, ty, pos, aft, none⟩ :: rest)) w :=
  At.op rfl rfl hN (fun a ha => by
    simp only [execOp, Instr.lookup, ha.ev hx, ha.ev hy, Sem.run_bind, run_underlying (underlying_map ht), Result.andThen, MapKept.run_getObj_map hb, MapKept.run_checkKey hd hK, MapKept.run_findKey hd hf, run_zero hz, Sem.run_pure]; rfl) k
theorem At.asks {xt t u : TypeId} {v z : Value} (hx : ev L x = some (.iface t v)) (hu : (∃ D, P.underlying u = some D ∧ ∀ ms, D ≠ .interface ms)) (hz : zeroB P u = some z) (hN : Nat.blt d N = true)
    (k : At N ds ((d, bif Nat.beq t u then .tuple #[v, .bool true] else .tuple #[z, .bool false]) :: L) (wpList P ops Q rest) w) :
    At N ds L (wpList P ops Q (⟨some d, .typeAssert x xt u true, ty, pos, aft, none⟩ :: rest)) w := by
  obtain ⟨D, hD, hn⟩ := hu
  refine At.op rfl rfl hN (fun a ha => ?_) k
  simp only [execOp, Instr.typeAssert, ha.ev hx, Sem.run_bind, run_underlying hD, Result.andThen]
  by_cases e : t = u
  · subst e
    have : Nat.beq t t = true := Nat.beq_refl t
    cases D <;> first | (exact absurd rfl (hn _)) | simp [this]
  · have : Nat.beq t u = false := beqF e
    cases D <;> first | (exact absurd rfl (hn _)) | simp [this, e, run_zero hz]
theorem At.method {name : String} {v : Value} (hx : ev L x = some v) (hN : Nat.blt d N = true) (k : At N ds ((d, .func (.method name) #[v] #[]) :: L) (wpList P ops Q rest) w) :
    At N ds L (wpList P ops Q (⟨some d, .makeFunc (.method name) #[x] #[], ty, pos, aft, none⟩ :: rest)) w :=
  At.op rfl rfl hN (fun a ha => by simp [execOp, Instr.makeFunc, ha.ev hx]) k
theorem At.methodC {name : String} {t : TypeId} {v : Value} (hx : ev L x = some (.func (.method name) #[.iface t v] #[])) (hq : (nilAhead (P.types.size + Made.depth) t v name).run P w = .ok (some false) w) (hN : Nat.blt d N = true)
    (k : At N ds ((d, .func (.method name) #[.iface t v] #[]) :: L) (wpList P ops Q rest) w) :
    At N ds L (wpList P ops Q (⟨some d, .nilCheck x, ty, pos, aft, none⟩ :: rest)) w :=
  At.op rfl rfl hN (fun a ha => by simp [execOp, ha.ev hx, hq]) k
theorem At.invoke {name : String} {t : TypeId} {v r : Value} {f : FuncId} {args : Array Operand} {tys : Array TypeId} {vs : List Value} {R : Ending → World → Prop} (hx : ev L x = some (.iface t v)) (hq : (Go.method (P.types.size + Made.depth) t v name).run P w = .ok (f, r) w)
    (hent : entB P f = true) (ha : evs L args.toList = some vs) (hN : Nat.blt d N = true) (hc : Calls P f (r :: vs).toArray w R) (k : ∀ e w', R e w' → ∃ v, e = .returned v ∧ At N ds ((d, v) :: L) (wpList P ops Q rest) w') :
    At N ds L (wpList P ops Q (⟨some d, .call ⟨.invoke x name, args, tys⟩, ty, pos, aft, none⟩ :: rest)) w :=
  At.enterAs (f := f) (args := (r :: vs).toArray) rfl (fun a hi => by
    have h := hi.evs ha
    have : args.map a.eval = vs.toArray := by apply Array.ext'; rw [← h]; simp
    simp [execOp, resolve, Go.invoke, callMethod, hi.ev hx, hq, run_callFunc hent, this]) hc
    (fun e w' hR => by
      obtain ⟨v, he, hk⟩ := k e w' hR
      exact ⟨v, he, fun a hi => hk _ (hi.put hN)⟩)
end
section
variable {M M' E : List (Option Nat)} {w w' w1 w2 w0 : World} {b g nc : Nat} {o o' : Obj} {x x' : Sx} {s s' : SS}
theorem Fresh.bel (F : Fresh w w' b o) : Below w.heap.size w w' := F.below (Below.refl _ _) lR
theorem Fresh.bel2 (F : Fresh w w1 b o) (S : SetB w1 w2 b o') : Below w.heap.size w w2 := S.below F.bel (by have := F.grown.size; exact this) (Nat.le_of_eq F.eq.symm)
theorem Gr.ext (h : Gr M w M' w') : Gr (M ++ E) w (M' ++ E) w' :=
  ⟨h.os, h.tape, h.output, h.size, fun hb hx => h.old (fun e => hb (List.mem_append_left _ e)) hx, fun hl hb hm => (List.mem_append.1 hm).elim (fun e => h.out hl (fun e => hb (List.mem_append_left _ e)) e) (fun e => hb (List.mem_append_right _ e))⟩
theorem Gr.of (hB : Below w.heap.size w w') (M : List (Option Nat)) : Gr M w M w' := (Gr.refl M w).below hB
theorem Gr.any (h : Gr [] w [] w') : Gr M w M w' := Gr.of h.base M
theorem Gr.add (F : Fresh w w' b o) : Gr M w (some b :: M) w' := ⟨F.grown.os, F.grown.tape, F.grown.output, F.grown.size, fun _ hx => F.old hx, fun {c} hl hc hm => by
  rcases List.mem_cons.1 hm with e | e
  · cases e; have := F.eq; omega
  · exact hc e⟩
theorem XAt.mono {O : So} {cs : List Value} {y : X} (h : XAt M nc w O cs y) (hM : ∀ q ∈ M', q ∈ M) : XAt M' nc w O cs y :=
  h.gr ⟨rfl, rfl, rfl, Nat.le_refl _, fun {c v} hc hx => hx, fun {c} hl hc hm => hc (hM _ hm)⟩ lR
theorem StA.ge (h : StA E b x w s) (hG : Gr (x.M b) w (x'.M b) w') : w.heap.size ≤ w'.heap.size := hG.size
theorem StA.below (h : StA E b x w s) (hB : Below w.heap.size w w') : StA E b x w' s := by
  have G := Gr.of hB (x.M b ++ E)
  obtain ⟨rows, h1, h2, h3⟩ := h.cl
  exact { h with blk := Below.old hB h.blk, t := h.t.gr G, e := h.e.gr G lR, v := h.v.gr G lR, fr := h.fr.gr G lR, cl := ⟨rows, Own.below h1 hB, fun p hp => (h2 p hp).gr G lR, h3⟩, inp := h.inp.keep hB, tr := Own.below h.tr hB, lt := fun q hq => Nat.lt_of_lt_of_le (h.lt q hq) hB.size }
theorem StA.drew (h : StA E b x w s) : StA E b x w.drew s := h.below ⟨rfl, rfl, rfl, Nat.le_refl _, fun _ _ => rfl⟩
theorem StA.addE (h : StA E b x w s) (F : Fresh w w' g o) : StA (some g :: E) b x w' s := by
  have G := Gr.of F.bel (x.M b ++ E)
  have h' := h.below F.bel
  have G2 : Gr (x.M b ++ E) w (x.M b ++ some g :: E) w' := ⟨F.grown.os, F.grown.tape, F.grown.output, F.grown.size, fun _ hx => F.old hx, fun {c} hl hc hm => by
    have e := F.eq
    rcases List.mem_append.1 hm with e1 | e1
    · exact hc (List.mem_append_left _ e1)
    · rcases List.mem_cons.1 e1 with e2 | e2
      · cases e2; omega
      · exact hc (List.mem_append_right _ e2)⟩
  obtain ⟨rows, h1, h2, h3⟩ := h.cl
  have hlt : ∀ q, some q ∈ x.M b ++ some g :: E → q < w'.heap.size := fun q hq => by
    rcases List.mem_append.1 hq with e1 | e1
    · exact Nat.lt_of_lt_of_le (h.lt q (List.mem_append_left _ e1)) F.grown.size
    · rcases List.mem_cons.1 e1 with e2 | e2
      · cases e2; exact lt_of_obj F.new
      · exact Nat.lt_of_lt_of_le (h.lt q (List.mem_append_right _ e2)) F.grown.size
  have hin : s.inp ≠ [] → some (vBlock x.inp) ∉ x.M b ++ some g :: E := fun hn => G2.out (by obtain ⟨n, r, hr⟩ := List.exists_cons_of_ne_nil hn; have := h.inp.get (i := 0) (n := n) (by rw [hr]; rfl); exact cell_lt this) (h.inpM hn)
  have hap : ∀ q, some q ∈ x.M b → some q ∉ some g :: E := fun q hq hm => by
    rcases List.mem_cons.1 hm with e | e
    · cases e; have := h.lt g (List.mem_append_left _ hq); have := F.eq; omega
    · exact h.ap q hq e
  exact { h' with t := h.t.gr G2, e := h.e.gr G2 lR, v := h.v.gr G2 lR, fr := h.fr.gr G2 lR, cl := ⟨rows, Own.below h1 F.bel, fun p hp => (h2 p hp).gr G2 lR, h3⟩, inpM := hin, ap := hap, lt := hlt }
theorem StA.setE (h : StA E b x w s) (S : SetB w w' g o) (hg : some g ∈ E) : StA E b x w' s := by
  have hn : ∀ q, some q ∈ x.M b → q ≠ g := fun q hq e => h.ap q hq (e ▸ hg)
  have G : Gr (x.M b ++ E) w (x.M b ++ E) w' := (Gr.refl _ w).set S (.inl (List.mem_append_right _ hg))
  obtain ⟨rows, h1, h2, h3⟩ := h.cl
  have k : ∀ q, some q ∈ x.M b → w'.heap[q]? = w.heap[q]? := fun q hq => S.grown.block q (h.lt q (List.mem_append_left _ hq)) (by simpa using hn q hq)
  exact { h with blk := (k b (by simp [Sx.M])).trans h.blk, t := h.t.gr G, e := h.e.gr G lR, v := h.v.gr G lR, fr := h.fr.gr G lR, cl := ⟨rows, Own.keep h1 fun q hq => k q (by simp [Sx.M, hq]), fun p hp => (h2 p hp).gr G lR, h3⟩, inp := RowsAt.gr h.inp G (fun hn => h.inpM (map_ne hn)), tr := Own.keep h.tr fun q hq => k q (by simp [Sx.M, hq]), lt := fun q hq => by rw [S.size]; exact h.lt q hq }
theorem StA.apart (h : StA E b x w s) : some b ≠ x.cl.ownBlock ∧ some b ≠ x.tr.ownBlock := by
  obtain ⟨rows, h1, h2, h3⟩ := h.cl
  exact ⟨Own.neT h1 h.blk rfl, Own.neT h.tr h.blk rfl⟩
theorem StA.put (h : StA E b x w s) (S : SetB w w' b (.cells x'.cs 84)) (hcl : x'.cl = x.cl) (htr : x'.tr = x.tr) (hC : s'.cells = s.cells) (hT : s'.tr = s.tr)
    (t : Xs kTm (x.M b ++ E) w [x'.t]) (st : shT x'.t = s'.t) (e : XAt (x.M b ++ E) s.cells.length w .e [x'.e] s'.e) (at_ : x'.at_ = s'.at_) (v : XAt (x.M b ++ E) s.cells.length w .v x'.vs s'.v) (fr : XAt (x.M b ++ E) s.cells.length w .s [x'.fr] s'.fr)
    (inp : IntsAt w x'.inp s'.inp) (inpM : s'.inp ≠ [] → some (vBlock x'.inp) ∉ x.M b ++ E) (ok : x'.ok = s'.ok) (n : x'.st = s'.st) (kn : x'.kn = s'.kn) : StA E b x' w' s' ∧ Gr (x.M b) w (x'.M b) w' := by
  have eM : x'.M b = x.M b := by simp [Sx.M, hcl, htr]
  have hb : some b ∈ x.M b := by simp [Sx.M]
  have G0 : Gr (x.M b) w (x.M b) w' := (Gr.refl _ w).set S (.inl hb)
  have G : Gr (x.M b ++ E) w (x.M b ++ E) w' := G0.ext
  obtain ⟨rows, h1, h2, h3⟩ := h.cl
  obtain ⟨a1, a2⟩ := h.apart
  refine ⟨{ blk := S.new, t := eM ▸ t.gr G, st := st, e := ?_, at_ := at_, v := ?_, fr := ?_, cl := ⟨rows, ?_, ?_, h3.trans hC.symm⟩, inp := RowsAt.gr inp G (fun hn => inpM (map_ne hn)), inpM := eM ▸ inpM, ok := ok, tr := ?_, n := n, kn := kn, ap := eM ▸ h.ap, lt := ?_ }, eM ▸ G0⟩
  · rw [eM, hC]; exact e.gr G lR
  · rw [eM, hC]; exact v.gr G lR
  · rw [eM, hC]; exact fr.gr G lR
  · rw [hcl]; exact Own.set h1 S a1
  · rw [eM, hC]; exact fun p hp => (h2 p hp).gr G lR
  · rw [htr, hT]; exact Own.set h.tr S a2
  · rw [eM, S.size]; exact h.lt
theorem StA.tsz (h : StA E b x w s) : x.t.cs.size = 21 := h.t.one.size
end
section
variable {P : Program} {N : Nat} {ds : List Deferred} {L : List (Nat × Value)} {w : World} {ops : Array Oper} {Q : Exit → Act → World → Prop} {rest : List Oper} {d : Nat}
  {ty : TypeId} {pos : String} {aft : Array Edge} {x_ y : Operand} {E : List (Option Nat)} {b : Nat} {x : Sx} {s : SS}
theorem At.stS {t : TypeId} {v : Value} {o : Nat} (x' : Sx) (s' : SS) (j : Nat) (hx : ev L x_ = some (.pointer (some ⟨b, o, none⟩))) (hy : ev L y = some v) (hS : StA E b x w s) (hs : sizeB P t = some 1) (h1 : v.oneCell' = true)
    (ho : o = 21 + j) (hj : Nat.blt j 20 = true) (hc : (splice x.post.toArray j #[v]).toList = x'.post) (ht : x'.t = x.t) (hcl : x'.cl = x.cl) (htr : x'.tr = x.tr)
    (k : ∀ w', SetB w w' b (.cells x'.cs 84) → StA E b x' w' s' → Gr (x.M b) w (x'.M b) w' → At N ds L (wpList P ops Q rest) w')
    (hC : s'.cells = s.cells := by rfl) (hT : s'.tr = s.tr := by rfl) (st : shT x'.t = s'.t := by exact hM.st) (e : XAt (x.M b ++ E) s.cells.length w .e [x'.e] s'.e := by exact hM.e)
    (at_ : x'.at_ = s'.at_ := by first | rfl | exact hM.at_) (v_ : XAt (x.M b ++ E) s.cells.length w .v x'.vs s'.v := by exact hM.v) (fr : XAt (x.M b ++ E) s.cells.length w .s [x'.fr] s'.fr := by exact hM.fr)
    (inp : IntsAt w x'.inp s'.inp := by exact hM.inp) (inpM : s'.inp ≠ [] → some (vBlock x'.inp) ∉ x.M b ++ E := by exact hM.inpM) (ok : x'.ok = s'.ok := by exact hM.ok) (n : x'.st = s'.st := by exact hM.n) (kn : x'.kn = s'.kn := by exact hM.kn) :
    At N ds L (wpList P ops Q (⟨none, .store t x_ y, ty, pos, aft, none⟩ :: rest)) w := by
  have hj' : j < 20 := by simpa [Nat.blt_eq] using hj
  have hl : x.post.length = 20 := rfl
  refine At.store hx hy hS.blk (hs.trans (by rw [cells_one h1]; rfl)) (by rw [cells_one h1, Sx.cs, mx_size hS.tsz, hl, ho]; show 21 + j + 1 ≤ 0 + (21 + 20); omega) (by rw [cells_one h1]; simpa using h1) fun w' S => ?_
  have e1 : splice x.cs o v.cells = x'.cs := by
    rw [cells_one h1, Sx.cs, Sx.cs, ht]
    exact mx_set hS.tsz (by simpa using ho) hc (by rw [hl]; show j + 1 ≤ 20; omega)
  rw [e1] at S
  obtain ⟨a, b⟩ := hS.put S hcl htr hC hT (ht ▸ hS.t) st e at_ v_ fr inp inpM ok n kn
  exact k w' S a b
end
abbrev V7 (k n : Int) (nm : ByteArray) (kv fp kp : Value) : List Value := [.int .i64 k, .int .i64 n, .string nm, .slice none 0 0, kv, fp, kp]
section
variable {M E : List (Option Nat)} {nc : Nat} {w w' : World} {y : X} {cs : List Value} {v : Value}
structure Vs (M : List (Option Nat)) (nc : Nat) (w : World) (v : Value) (rows : List (List Value × X)) : Prop where
  at_ : RowsAt w v 7 (rows.map fun p => p.1.toArray)
  out : rows ≠ [] → some (vBlock v) ∉ M
  all : ∀ p ∈ rows, XAt M nc w .v p.1 p.2
theorem Vs.gr {M' : List (Option Nat)} {nc' : Nat} {rows : List (List Value × X)} (h : Vs M nc w v rows) (hG : Gr M w M' w') (hn : nc ≤ nc') : Vs M' nc' w' v rows :=
  ⟨h.at_.gr hG fun e => h.out (map_ne e), fun e => hG.out (RowsAt.blkLt h.at_ (by decide) e) (h.out e), fun p hp => (h.all p hp).gr hG hn⟩
theorem Vs.ok {rows : List (List Value × X)} (h : Vs M nc w v rows) : SlOk v rows.length := h.at_.okL
theorem Vs.nil (M : List (Option Nat)) (nc : Nat) (w : World) : Vs M nc w (.slice none 0 0) [] := ⟨RowsAt.nil w 7, fun h => absurd rfl h, fun _ h => by cases h⟩
theorem XAt.vinv (h : XAt M nc w .v cs y) : ∃ k n nm kv fp kp rows f st, cs = V7 k n nm kv fp kp ∧ y = .v k n nm (rows.map Prod.snd) f st ∧ Vs M nc w kv rows ∧ XAt M nc w .c [fp] f ∧ XAt M nc w .s [kp] st ∧ (k = 5 → 0 ≤ n ∧ n < nc) ∧ (k = 2 → n = 0 ∨ n = 1) := by
  cases h with
  | v rows hr hm hk hf hs h5 h2 => exact ⟨_, _, _, _, _, _, rows, _, _, rfl, rfl, ⟨hr, hm, hk⟩, hf, hs, h5, h2⟩
  | nil ho => exact absurd rfl ho.1
theorem XAt.cinv (h : XAt M nc w .c [v] y) : (v = .pointer none ∧ y = .nil) ∨ ∃ (b : Nat) (self param : ByteArray) (t : Tm) (ev : Value) (e : X), v = .pointer (some ⟨b, 0, none⟩) ∧ y = .c self param (shT t) e ∧ w.heap[b]? = some (.cells (mx [.string self, .string param] t.cs [ev]) 112) ∧ some b ∉ M ∧ Xs kTm M w [t] ∧ XAt M nc w .e [ev] e := by
  cases h with
  | nil => exact .inl ⟨rfl, rfl⟩
  | c hb hm ht he => exact .inr ⟨_, _, _, _, _, _, rfl, rfl, hb, hm, ht, he⟩
theorem XAt.einv (h : XAt M nc w .e [v] y) : (v = .pointer none ∧ y = .nil) ∨ ∃ (b : Nat) (name : ByteArray) (k n : Int) (nm : ByteArray) (kv fp kp nv : Value) (x r : X), v = .pointer (some ⟨b, 0, none⟩) ∧ y = .e name x r ∧ w.heap[b]? = some (.cells #[.string name, .int .i64 k, .int .i64 n, .string nm, .slice none 0 0, kv, fp, kp, nv] 155) ∧ some b ∉ M ∧ XAt M nc w .v (V7 k n nm kv fp kp) x ∧ XAt M nc w .e [nv] r := by
  cases h with
  | nil => exact .inl ⟨rfl, rfl⟩
  | e hl hb hm hx hn =>
    obtain ⟨k, n, nm, kv, fp, kp, _, _, _, rfl, _⟩ := hx.vinv
    exact .inr ⟨_, _, _, _, _, _, _, _, _, _, _, rfl, rfl, hb, hm, hx, hn⟩
theorem XAt.sinv (h : XAt M nc w .s [v] y) : (v = .pointer none ∧ y = .nil) ∨ ∃ (b : Nat) (tv nv : Value) (top r : X), v = .pointer (some ⟨b, 0, none⟩) ∧ y = .s top r ∧ w.heap[b]? = some (.cells #[tv, nv] 88) ∧ some b ∉ M ∧ XAt M nc w .f [tv] top ∧ XAt M nc w .s [nv] r := by
  cases h with
  | nil => exact .inl ⟨rfl, rfl⟩
  | s hb hm ht hn => exact .inr ⟨_, _, _, _, _, rfl, rfl, hb, hm, ht, hn⟩
theorem XAt.ptr {o : So} (h : XAt M nc w o [v] y) (ho : o ≠ .f) : ∃ p, v = .pointer p ∧ p.isNone = nilX y := by
  cases h with
  | nil => exact ⟨none, rfl, rfl⟩
  | c => exact ⟨_, rfl, rfl⟩
  | e => exact ⟨_, rfl, rfl⟩
  | s => exact ⟨_, rfl, rfl⟩
  | arg => exact absurd rfl ho
  | fn => exact absurd rfl ho
  | bnd => exact absurd rfl ho
  | frk => exact absurd rfl ho
  | gat => exact absurd rfl ho
  | way => exact absurd rfl ho
  | ask => exact absurd rfl ho
  | hnd => exact absurd rfl ho
theorem XAt.one {o : So} (h : XAt M nc w o [v] y) : v.oneCell' = true := by
  cases h <;> rfl
theorem XAt.val {k n : Int} {nm : ByteArray} {kv : Value} {rows : List (List Value × X)} (h : Vs M nc w kv rows) (h5 : k = 5 → 0 ≤ n ∧ n < nc) (h2 : k = 2 → n = 0 ∨ n = 1) : XAt M nc w .v (V7 k n nm kv (.pointer none) (.pointer none)) (.v k n nm (rows.map Prod.snd) .nil .nil) :=
  .v rows h.at_ h.out h.all (.nil (by simp)) (.nil (by simp)) h5 h2
theorem XAt.pl {k n : Int} {nm : ByteArray} (h5 : k ≠ 5) (h2 : k = 2 → n = 0 ∨ n = 1) : XAt M nc w .v (V7 k n nm (.slice none 0 0) (.pointer none) (.pointer none)) (.v k n nm [] .nil .nil) :=
  XAt.val (Vs.nil M nc w) (fun e => absurd e h5) h2
theorem XAt.vone {k n : Int} {nm : ByteArray} {kv fp kp : Value} (h : XAt M nc w .v (V7 k n nm kv fp kp) y) : (V7 k n nm kv fp kp).toArray.all (·.oneCell') = true := by
  cases h with
  | v rows hr hm hk hf hs h5 h2 =>
    have a := hr.ok.one; have b := hf.one; have c := hs.one
    simp only [V7, List.all_toArray, List.all_cons, List.all_nil, a, b, c]; rfl
theorem Xs.kid {t u : Tm} {i : Nat} (h : Xs kTm M w [t]) (hu : t.kids[i]? = some u) : Xs kTm M w [u] := fun q hq => by
  obtain rfl := List.mem_singleton.1 hq
  exact ⟨h.one.kid hu, fun c hc => (h t (by simp)).2 c ((tmBlk_eq t c).2 (.inr (.inr (.inl ⟨_, List.mem_of_getElem? hu, hc⟩))))⟩
theorem Xs.arm {t : Tm} {a : Am} {i : Nat} (h : Xs kTm M w [t]) (hu : t.arms[i]? = some a) : Xs kAm M w [a] := fun q hq => by
  obtain rfl := List.mem_singleton.1 hq
  exact ⟨h.one.arm hu, fun c hc => (h t (by simp)).2 c ((tmBlk_eq t c).2 (.inr (.inr (.inr ⟨_, List.mem_of_getElem? hu, hc⟩))))⟩
theorem Xs.body {a : Am} (h : Xs kAm M w [a]) : Xs kTm M w [a.body] := fun q hq => by
  obtain rfl := List.mem_singleton.1 hq
  exact ⟨h.one.body, fun c hc => (h a (by simp)).2 c ((amBlk_eq a c).2 (.inr hc))⟩
theorem Xs.at_ {α : Type} {K : Kd α} {l : List α} {i : Nat} {u : α} (h : Xs K M w l) (hu : l[i]? = some u) : Xs K M w [u] := fun q hq => by
  obtain rfl := List.mem_singleton.1 hq
  exact h _ (List.mem_of_getElem? hu)
theorem Xs.arms {t : Tm} (h : Xs kTm M w [t]) : Xs kAm M w t.arms := fun a ha => by
  obtain ⟨i, hi⟩ := List.getElem?_of_mem ha
  exact (h.arm hi) a (by simp)
theorem Vs.get {rows : List (List Value × X)} {i : Nat} {p : List Value × X} (h : Vs M nc w v rows) (hp : rows[i]? = some p) : ∃ k n nm kv fp kp, p.1 = V7 k n nm kv fp kp ∧ XAt M nc w .v (V7 k n nm kv fp kp) p.2 ∧ p.2.k = k ∧ p.2.n = n ∧ p.2.nm = nm := by
  have h1 := h.all p (List.mem_of_getElem? hp)
  obtain ⟨k, n, nm, kv, fp, kp, _, _, _, e1, e2, _⟩ := h1.vinv
  exact ⟨k, n, nm, kv, fp, kp, e1, e1 ▸ h1, by rw [e2]; rfl, by rw [e2]; rfl, by rw [e2]; rfl⟩
theorem Vs.cells {rows : List (List Value × X)} {i : Nat} {p : List Value × X} {l : List Value} (h : Vs M nc w v rows) (hp : rows[i]? = some p) (e : p.1 = l) : CellsAt w (vBlock v) (vOff v + i * 7) l.toArray := e ▸ h.at_.row hp
theorem Gr.both {M' : List (Option Nat)} {b : Nat} {o : Obj} (G : Gr M w M' w') (hm : some b ∉ M) (hb : w.heap[b]? = some o) : w'.heap[b]? = some o ∧ some b ∉ M' := ⟨G.old hm hb, G.out (lt_of_obj hb) hm⟩
end
section
variable {E : List (Option Nat)} {b : Nat} {x x' : Sx} {s : SS} {w w' w2 : World}
def PstV (E : List (Option Nat)) (b : Nat) (x : Sx) (w : World) (v : Value) (s' : SS) (e : Ending) (w' : World) : Prop := ∃ x', e = .returned v ∧ StA E b x' w' s' ∧ Gr (x.M b) w (x'.M b) w'
abbrev Pst (E : List (Option Nat)) (b : Nat) (x : Sx) (w : World) (r : R) : Ending → World → Prop := PstV E b x w (.bool r.2) r.1
theorem Pst.fin {r : R} {s' : SS} {ok : Bool} (hr : r = (s', ok)) (h : StA E b x' w' s') (hG : Gr (x.M b) w (x'.M b) w') : Pst E b x w r (.returned (.bool ok)) w' := by subst hr; exact ⟨x', rfl, h, hG⟩
theorem StA.newM {o : Obj} {g : Nat} (h : StA E b x w s) (F : Fresh w w' g o) : some g ∉ x.M b := fun e => by
  have := h.lt g (List.mem_append_left _ e); have := F.eq; omega
theorem StA.newE {o : Obj} {g : Nat} (h : StA E b x w s) (F : Fresh w w' g o) : some g ∉ x.M b ++ E := fun e => by
  have := h.lt g e; have := F.eq; omega
end
section
variable {P : Program} {N : Nat} {ds : List Deferred} {L : List (Nat × Value)} {w : World} {ops : Array Oper} {Q : Exit → Act → World → Prop} {rest : List Oper} {d : Nat}
  {ty : TypeId} {pos : String} {aft : Array Edge} {x_ y : Operand} {E : List (Option Nat)} {b : Nat} {x : Sx} {s : SS}
theorem At.callM {f : FuncId} {args : Array Operand} {tys : Array TypeId} {vs : List Value} {v : Value} {s' : SS} (hent : entB P f = true) (ha : evs L args.toList = some vs) (hN : Nat.blt d N = true) (hc : Calls P f vs.toArray w (PstV E b x w v s'))
    (k : ∀ x' w', StA E b x' w' s' → Gr (x.M b) w (x'.M b) w' → At N ds ((d, v) :: L) (wpList P ops Q rest) w') :
    At N ds L (wpList P ops Q (⟨some d, .call ⟨.value (.func f), args, tys⟩, ty, pos, aft, none⟩ :: rest)) w :=
  At.call hent ha hN hc fun e w' hR => by obtain ⟨x', rfl, h, hG⟩ := hR; exact ⟨_, rfl, k x' w' h hG⟩
theorem At.stV {t : TypeId} {k n : Int} {nm : ByteArray} {kv fp kp : Value} {v : X} {o : Nat} (hx : ev L x_ = some (.pointer (some ⟨b, o, none⟩))) (ho : o = 23) (hy : ev L y = some (.agg (V7 k n nm kv fp kp).toArray)) (hS : StA E b x w s) (hs : sizeB P t = some 7)
    (hv : XAt (x.M b ++ E) s.cells.length w .v (V7 k n nm kv fp kp) v)
    (K : ∀ w', SetB w w' b (.cells (Sx.cs { x with k := k, n := n, nm := nm, kv := kv, fp := fp, kp := kp }) 84) → StA E b { x with k := k, n := n, nm := nm, kv := kv, fp := fp, kp := kp } w' { s with v := v } →
      Gr (x.M b) w (Sx.M { x with k := k, n := n, nm := nm, kv := kv, fp := fp, kp := kp } b) w' → At N ds L (wpList P ops Q rest) w') :
    At N ds L (wpList P ops Q (⟨none, .store t x_ y, ty, pos, aft, none⟩ :: rest)) w := by
  subst ho
  refine At.store hx hy hS.blk hs (by rw [Sx.cs, mx_size hS.tsz]; show 23 + 7 ≤ 0 + (21 + 20); omega) hv.vone fun w' S => ?_
  have e1 : splice x.cs 23 (Value.agg (V7 k n nm kv fp kp).toArray).cells = Sx.cs { x with k := k, n := n, nm := nm, kv := kv, fp := fp, kp := kp } := mx_set (j := 2) hS.tsz rfl rfl (by show 2 + 7 ≤ 20; omega)
  rw [e1] at S
  obtain ⟨a, b⟩ := hS.put (s' := { s with v := v }) S rfl rfl rfl rfl hS.t hS.st hS.e hS.at_ hv hS.fr hS.inp hS.inpM hS.ok hS.n hS.kn
  exact K w' S a b
theorem At.stT {t : TypeId} {o : Nat} {t' : Tm} (hx : ev L x_ = some (.pointer (some ⟨b, o, none⟩))) (ho : o = 0) (hy : ev L y = some (.agg t'.cs)) (hS : StA E b x w s) (hs : sizeB P t = some 21) (ht : Xs kTm (x.M b ++ E) w [t'])
    (K : ∀ w', SetB w w' b (.cells (Sx.cs { x with t := t' }) 84) → StA E b { x with t := t' } w' { s with t := shT t' } → Gr (x.M b) w (Sx.M { x with t := t' } b) w' → At N ds L (wpList P ops Q rest) w') :
    At N ds L (wpList P ops Q (⟨none, .store t x_ y, ty, pos, aft, none⟩ :: rest)) w := by
  subst ho
  have hz : t'.cs.size = 21 := ht.one.size
  refine At.store hx hy hS.blk (by show sizeB P t = some t'.cs.size; rw [hz]; exact hs) (by rw [Sx.cs, mx_size hS.tsz]; show 0 + t'.cs.size ≤ 0 + (21 + 20); omega) ht.one.one fun w' S => ?_
  have e1 : splice x.cs 0 (Value.agg t'.cs).cells = Sx.cs { x with t := t' } := mx_setT hS.tsz hz rfl
  rw [e1] at S
  obtain ⟨a, b⟩ := hS.put (s' := { s with t := shT t' }) S rfl rfl rfl rfl ht rfl hS.e hS.at_ hS.v hS.fr hS.inp hS.inpM hS.ok hS.n hS.kn
  exact K w' S a b
end
theorem splice_mx {Z c : Array Value} {o : Nat} (hc : c.size = 21) : splice Z o c = mx (Z.toList.take o) c (Z.toList.drop (o + 21)) := by
  apply Array.ext'; simp [splice, mx, hc]
theorem Bld.mxT {P : Program} {t : TypeId} {i o : Nat} {Z c C : Array Value} {vs : List (Nat × Value)} {pre post : List Value} (hf : fieldB P t i = some (o, 21)) (hc : c.size = 21) (hl : o + 21 ≤ Z.size) (e1 : Z.toList.take o = pre) (e2 : Z.toList.drop (o + 21) = post) (k : Bld P t (mx pre c post) vs C) : Bld P t Z ((i, .agg c) :: vs) C :=
  Bld.cons hf hc hl (by subst e1 e2; exact (splice_mx (Z := Z) (o := o) hc) ▸ k)
theorem Bld.mxP {P : Program} {t : TypeId} {i o j : Nat} {c C : Array Value} {vs : List (Nat × Value)} {pre post post' : List Value} {v : Value} (hf : fieldB P t i = some (o, 1)) (hv : v.oneCell' = true) (hc : c.size = 21) (e : o = pre.length + 21 + j) (h : (splice post.toArray j #[v]).toList = post') (hl : j < post.length) (k : Bld P t (mx pre c post') vs C) : Bld P t (mx pre c post) ((i, v) :: vs) C :=
  Bld.one hf hv (by rw [mx_size hc]; omega) (by
    have := mx_set (pre := pre) (vs := #[v]) hc e h (by show j + 1 ≤ _; omega)
    rw [splice_one (by rw [mx_size hc]; omega)] at this
    rw [this]; exact k)
theorem stT_k (t : Tm) : ST.k (shT t) = t.k := by cases t; rfl
theorem stT_nm (t : Tm) : (shT t).nm = t.nm := by cases t; rfl
theorem stT_pm (t : Tm) : (shT t).pm = t.pm := by cases t; rfl
theorem stT_n (t : Tm) : (shT t).n = t.n := by cases t; rfl
theorem stT_kids (t : Tm) : (shT t).kids = t.kids.map shT := by rw [shT_eq]; rfl
theorem stT_arms (t : Tm) : (shT t).arms = t.arms.map shAm := by rw [shT_eq]; rfl
theorem stT_kl (t : Tm) : (shT t).kids.length = t.kids.length := by rw [stT_kids, List.length_map]
theorem kid_sh {t u : Tm} {i : Nat} (h : t.kids[i]? = some u) : kid (shT t) i = shT u := by simp [kid, stT_kids, h]
theorem ag80 : aggB Tryz.prog 80 = some false := by kernel_rfl
theorem ag82 : aggB Tryz.prog 82 = some true := by kernel_rfl
theorem fo155_0 : fieldB Tryz.prog 155 0 = some (0, 1) := by kernel_rfl
theorem fo155_1 : fieldB Tryz.prog 155 1 = some (1, 7) := by kernel_rfl
theorem fo155_2 : fieldB Tryz.prog 155 2 = some (8, 1) := by kernel_rfl
theorem fo47_0 : fieldB Tryz.prog 47 0 = some (0, 1) := by kernel_rfl
theorem fo49_0 : fieldB Tryz.prog 49 0 = some (0, 5) := by kernel_rfl
theorem fo84_0 : fieldB Tryz.prog 84 0 = some (0, 21) := by kernel_rfl
theorem fo84_1 : fieldB Tryz.prog 84 1 = some (21, 1) := by kernel_rfl
theorem fo84_2 : fieldB Tryz.prog 84 2 = some (22, 1) := by kernel_rfl
theorem fo84_3 : fieldB Tryz.prog 84 3 = some (23, 7) := by kernel_rfl
theorem fo84_4 : fieldB Tryz.prog 84 4 = some (30, 1) := by kernel_rfl
theorem fo84_7 : fieldB Tryz.prog 84 7 = some (33, 8) := by kernel_rfl
theorem fo88_0 : fieldB Tryz.prog 88 0 = some (0, 1) := by kernel_rfl
theorem fo88_1 : fieldB Tryz.prog 88 1 = some (1, 1) := by kernel_rfl
theorem sd155 : sizedB Tryz.prog 155 = true := by kernel_rfl
theorem sd88 : sizedB Tryz.prog 88 = true := by kernel_rfl
theorem sz4 : sizeB Tryz.prog 4 = some 1 := by kernel_rfl
theorem sz77 : sizeB Tryz.prog 77 = some 1 := by kernel_rfl
theorem sz80 : sizeB Tryz.prog 80 = some 1 := by kernel_rfl
theorem sz82 : sizeB Tryz.prog 82 = some 7 := by kernel_rfl
theorem ze155 : zeroB Tryz.prog 155 = some (.agg #[.string (⟨#[]⟩ : ByteArray), .int .i64 0, .int .i64 0, .string (⟨#[]⟩ : ByteArray), (.slice none 0 0), (.slice none 0 0), .pointer none, .pointer none, .pointer none]) := by kernel_rfl
theorem ze88 : zeroB Tryz.prog 88 = some (.agg #[.nilIface, .pointer none]) := by kernel_rfl
theorem with_any {M : List (Option Nat)} {nc : Nat} {k n : Int} {nm : ByteArray} {kv fp kp : Value} {vx : X} {ev : Value} {e : X} (name : ByteArray) (w : World) (hMl : MLt w.heap.size M) (he : XAt M nc w .e [ev] e) (hv : XAt M nc w .v (V7 k n nm kv fp kp) vx) :
  Calls Tryz.prog 46 ([ev, .string name, .agg #[.int .i64 k, .int .i64 n, .string nm, zN, kv, fp, kp]] : List Value).toArray w fun r w' => ∃ p, r = .returned p ∧ XAt M nc w' .e [p] (.e name vx e) ∧ Below w.heap.size w w' := by
 have hG := Gr.refl [] w
 refine At.enter (N := 12) Tryz.func46 rfl rfl (by simp) [(0, ev), (1, .string name), (2, .agg #[.int .i64 k, .int .i64 n, .string nm, zN, kv, fp, kp])] (by simp) ?_
 refine .seq (.region ?_)
 refine At.box rfl rfl (fun b1 w1 F1 => ?_)
 have hb1 : w1.heap[b1]? = some (.cells #[.int .i64 k, .int .i64 n, .string nm, zN, kv, fp, kp] 82) := F1.new
 replace hG := hG.below F1.bel
 refine .assign rfl rfl (.ops0 (.thenN (.seq (.region (.move rfl rfl (.load rfl (Ld.own (C := #[.int .i64 k, .int .i64 n, .string nm, zN, kv, fp, kp]) ag82 sz82 hb1) rfl (.move rfl rfl (.build (C := #[.string name, .int .i64 k, .int .i64 n, .string nm, zN, kv, fp, kp, ev]) sd155 ze155 rfl (Bld.cons fo155_0 rfl (lB rfl) (Bld.cons fo155_1 rfl (lB rfl) (Bld.one fo155_2 he.one (by first | decide | exact Nat.le_of_ble_eq_true rfl | simp [Value.cells]) (Bld.nil _)))) rfl ?_))))))))
 refine At.box rfl rfl (fun b2 w2 F2 => ?_)
 have gb2 := F2.gq hG.size
 have hb2 : w2.heap[b2]? = some (.cells #[.string name, .int .i64 k, .int .i64 n, .string nm, zN, kv, fp, kp, ev] 155) := F2.new
 replace hG := hG.below F2.bel
 refine .assign rfl rfl (.ops0 (.thenN (.retc (.doneR (ResV.tmp rfl ResV.nil) ?_))))
 exact ⟨_, rfl, .e rfl hb2 (fun e => Nat.lt_irrefl _ (Nat.lt_of_lt_of_le (hMl _ e) gb2)) (hv.gr hG.any lR) (he.gr hG.any lR), hG.base⟩
theorem push_any {E : List (Option Nat)} {b : Nat} {x : Sx} {s : SS} {f : Value} {fx : X} (w : World) (hM : StA E b x w s) (hf : XAt (x.M b ++ E) s.cells.length w .f [f] fx) :
  Calls Tryz.prog 44 ([.pointer (some ⟨b, 0, none⟩), f] : List Value).toArray w (PstV E b x w (.tuple #[]) (s.push fx)) := by
 have hfr := hM.fr
 have hG := Gr.refl (x.M b) w
 refine At.enter (N := 14) Tryz.func44 rfl rfl (by simp) [(0, .pointer (some ⟨b, 0, none⟩)), (1, f)] (by simp) ?_
 refine .region (.move rfl rfl (.move rfl rfl (.move rfl rfl (.nilCheck rfl rfl (.fieldAddr rfl fo84_4 rfl (.load rfl (Ld.ownCell ag80 hM.blk (mx_at (j := 9) hM.tsz rfl rfl)) rfl (.build (C := #[f, x.fr]) sd88 ze88 rfl (Bld.one fo88_0 hf.one (by first | decide | exact Nat.le_of_ble_eq_true rfl | simp [Value.cells]) (Bld.one fo88_1 hfr.one (by first | decide | exact Nat.le_of_ble_eq_true rfl | simp [Value.cells]) (Bld.nil _))) rfl ?_)))))))
 refine At.box rfl rfl (fun b1 w1 F1 => ?_)
 have mb1 := hM.newM F1
 have hb1 : w1.heap[b1]? = some (.cells #[f, x.fr] 88) := F1.new
 have nb1E := hM.newE F1
 replace hG := hG.below F1.bel
 replace hM := hM.below F1.bel
 refine .nilCheck rfl rfl (.fieldAddr rfl fo84_4 rfl ?_)
 refine At.stS { x with fr := .pointer (some ⟨b1, 0, none⟩) } { s with fr := (.s fx s.fr) } 9 rfl rfl hM sz80 rfl rfl rfl rfl rfl rfl rfl (fun w2 S1 hM G1 => ?_) (fr := (.s hb1 nb1E (hf.gr hG.ext lR) (hfr.gr hG.ext lR)))
 replace hG := hG.trans G1
 obtain ⟨hb1, mb1⟩ := G1.both mb1 hb1
 refine .ops0 (.doneN (ResV.nil) ?_)
 exact ⟨_, rfl, hM, hG⟩
theorem goes_any {E : List (Option Nat)} {b : Nat} {x : Sx} {s : SS} {t : Tm} {ev : Value} {e : X} (w : World) (hM : StA E b x w s) (ht : Xs kTm (x.M b ++ E) w [t]) (he : XAt (x.M b ++ E) s.cells.length w .e [ev] e) :
  Calls Tryz.prog 45 ([.pointer (some ⟨b, 0, none⟩), .agg t.cs, ev] : List Value).toArray w (Pst E b x w (s.goes (shT t) e, true)) := by
 have hG := Gr.refl (x.M b) w
 refine At.enter (N := 18) Tryz.func45 rfl rfl (by simp) [(0, .pointer (some ⟨b, 0, none⟩)), (1, .agg t.cs), (2, ev)] (by simp) ?_
 refine .seq (.region ?_)
 refine At.box rfl rfl (fun b1 w1 F1 => ?_)
 have mb1 := hM.newM F1
 have hb1 : w1.heap[b1]? = some (.cells t.cs 31) := F1.new
 replace hG := hG.below F1.bel
 replace hM := hM.below F1.bel
 refine .assign rfl rfl (.ops0 (.thenN (.seq (.region (.move rfl rfl (.move rfl rfl (.move rfl rfl (.load rfl (Ld.own ag31 (sz31.trans (congrArg some ht.one.size.symm)) hb1) rfl (.move rfl rfl (.nilCheck rfl rfl (.fieldAddr rfl fo84_0 rfl ?_)))))))))))
 refine At.stT rfl rfl rfl hM sz31 (ht.gr hG.ext) (fun w2 S1 hM G1 => ?_)
 replace hG := hG.trans G1
 obtain ⟨hb1, mb1⟩ := G1.both mb1 hb1
 refine .nilCheck rfl rfl (.fieldAddr rfl fo84_1 rfl ?_)
 refine At.stS { x with t := t, e := ev } { s with t := shT t, e := e } 0 rfl rfl hM sz77 he.one rfl rfl rfl rfl rfl rfl (fun w3 S2 hM G2 => ?_) (e := (he.gr hG.ext lR))
 replace hG := hG.trans G2
 obtain ⟨hb1, mb1⟩ := G2.both mb1 hb1
 refine .nilCheck rfl rfl (.fieldAddr rfl fo84_2 rfl ?_)
 refine At.stS { x with t := t, e := ev, at_ := true } { s with t := shT t, e := e, at_ := true } 1 rfl rfl hM sz4 rfl rfl rfl rfl rfl rfl rfl (fun w4 S3 hM G3 => ?_) (at_ := rfl)
 replace hG := hG.trans G3
 obtain ⟨hb1, mb1⟩ := G3.both mb1 hb1
 refine .ops0 (.thenN (.seq (.region (.assign rfl rfl (.ops0 (.thenN (.retc (.doneR (ResV.tmp rfl ResV.nil) ?_))))))))
 exact Pst.fin rfl hM hG
theorem has_any {E : List (Option Nat)} {b : Nat} {x : Sx} {s : SS} {k n : Int} {nm : ByteArray} {kv fp kp : Value} {vx : X} (w : World) (hM : StA E b x w s) (hv : XAt (x.M b ++ E) s.cells.length w .v (V7 k n nm kv fp kp) vx) :
  Calls Tryz.prog 41 ([.pointer (some ⟨b, 0, none⟩), .agg #[.int .i64 k, .int .i64 n, .string nm, zN, kv, fp, kp]] : List Value).toArray w (Pst E b x w (s.has vx, true)) := by
 have hG := Gr.refl (x.M b) w
 refine At.enter (N := 12) Tryz.func41 rfl rfl (by simp) [(0, .pointer (some ⟨b, 0, none⟩)), (1, .agg #[.int .i64 k, .int .i64 n, .string nm, zN, kv, fp, kp])] (by simp) ?_
 refine .seq (.region ?_)
 refine At.box rfl rfl (fun b1 w1 F1 => ?_)
 have mb1 := hM.newM F1
 have hb1 : w1.heap[b1]? = some (.cells #[.int .i64 k, .int .i64 n, .string nm, zN, kv, fp, kp] 82) := F1.new
 replace hG := hG.below F1.bel
 replace hM := hM.below F1.bel
 refine .assign rfl rfl (.ops0 (.thenN (.seq (.region (.move rfl rfl (.move rfl rfl (.load rfl (Ld.own (C := #[.int .i64 k, .int .i64 n, .string nm, zN, kv, fp, kp]) ag82 sz82 hb1) rfl (.nilCheck rfl rfl (.fieldAddr rfl fo84_3 rfl ?_)))))))))
 refine At.stV (v := vx) rfl rfl rfl hM sz82 (hv.gr hG.ext lR) (fun w2 S1 hM G1 => ?_)
 replace hG := hG.trans G1
 obtain ⟨hb1, mb1⟩ := G1.both mb1 hb1
 refine .nilCheck rfl rfl (.fieldAddr rfl fo84_2 rfl ?_)
 refine At.stS { x with k := k, n := n, nm := nm, kv := kv, fp := fp, kp := kp, at_ := false } { s with v := vx, at_ := false } 1 rfl rfl hM sz4 rfl rfl rfl rfl rfl rfl rfl (fun w3 S2 hM G2 => ?_) (at_ := rfl)
 replace hG := hG.trans G2
 obtain ⟨hb1, mb1⟩ := G2.both mb1 hb1
 refine .ops0 (.thenN (.seq (.region (.assign rfl rfl (.ops0 (.thenN (.retc (.doneR (ResV.tmp rfl ResV.nil) ?_))))))))
 exact Pst.fin rfl hM hG
theorem ends_any {E : List (Option Nat)} {b : Nat} {x : Sx} {s : SS} (k : Int) (w : World) (hM : StA E b x w s)  :
  Calls Tryz.prog 33 ([.pointer (some ⟨b, 0, none⟩), .int .i64 k] : List Value).toArray w (Pst E b x w (s.ends k, true)) := by
 have hG := Gr.refl (x.M b) w
 refine At.enter (N := 11) Tryz.func33 rfl rfl (by simp) [(0, .pointer (some ⟨b, 0, none⟩)), (1, .int .i64 k)] (by simp) ?_
 refine .seq (.region (.assign rfl rfl (.ops0 (.thenN (.seq (.region (.move rfl rfl (.move rfl rfl (.nilCheck rfl rfl (.fieldAddr rfl fo84_7 rfl (.fieldAddr rfl fo49_0 rfl (.fieldAddr rfl fo47_0 rfl ?_))))))))))))
 refine At.stS { x with ok := k } { s with ok := k } 12 rfl rfl hM sz3 rfl rfl rfl rfl rfl rfl rfl (fun w1 S1 hM G1 => ?_) (ok := rfl)
 replace hG := hG.trans G1
 refine .ops0 (.thenN (.seq (.region (.assign rfl rfl (.ops0 (.thenN (.retc (.doneR (ResV.tmp rfl ResV.nil) ?_))))))))
 exact Pst.fin rfl hM hG
section
variable {M : List (Option Nat)} {nc : Nat} {w : World}
theorem XAt.vI (n : Int) : XAt M nc w .v (V7 1 n eB (.slice none 0 0) (.pointer none) (.pointer none)) (vI n) := .pl (by decide) (fun e => absurd e (by decide))
theorem XAt.vU : XAt M nc w .v (V7 3 0 eB (.slice none 0 0) (.pointer none) (.pointer none)) vU := .pl (by decide) (fun e => absurd e (by decide))
theorem XAt.vB {n : Int} (h : n = 0 ∨ n = 1) : XAt M nc w .v (V7 2 n eB (.slice none 0 0) (.pointer none) (.pointer none)) (vB n) := .pl (by decide) (fun _ => h)
theorem XAt.einv' {v : Value} {y : X} (h : XAt M nc w .e [v] y) (hy : nilX y = false) : ∃ (b : Nat) (name : ByteArray) (k n : Int) (nm : ByteArray) (kv fp kp nv : Value) (x r : X), v = .pointer (some ⟨b, 0, none⟩) ∧ y = .e name x r ∧ w.heap[b]? = some (.cells #[.string name, .int .i64 k, .int .i64 n, .string nm, .slice none 0 0, kv, fp, kp, nv] 155) ∧ some b ∉ M ∧ XAt M nc w .v (V7 k n nm kv fp kp) x ∧ XAt M nc w .e [nv] r := by
  rcases h.einv with ⟨_, rfl⟩ | h
  · cases hy
  · exact h
theorem XAt.cinv' {v : Value} {y : X} (h : XAt M nc w .c [v] y) (hy : nilX y = false) : ∃ (b : Nat) (self param : ByteArray) (t : Tm) (ev : Value) (e : X), v = .pointer (some ⟨b, 0, none⟩) ∧ y = .c self param (shT t) e ∧ w.heap[b]? = some (.cells (mx [.string self, .string param] t.cs [ev]) 112) ∧ some b ∉ M ∧ Xs kTm M w [t] ∧ XAt M nc w .e [ev] e := by
  rcases h.cinv with ⟨_, rfl⟩ | h
  · cases hy
  · exact h
theorem XAt.sinv' {v : Value} {y : X} (h : XAt M nc w .s [v] y) (hy : nilX y = false) : ∃ (b : Nat) (tv nv : Value) (top r : X), v = .pointer (some ⟨b, 0, none⟩) ∧ y = .s top r ∧ w.heap[b]? = some (.cells #[tv, nv] 88) ∧ some b ∉ M ∧ XAt M nc w .f [tv] top ∧ XAt M nc w .s [nv] r := by
  rcases h.sinv with ⟨_, rfl⟩ | h
  · cases hy
  · exact h
theorem nilX_eq {y : X} (h : nilX y = true) : y = .nil := by cases y <;> first | rfl | cases h
end
theorem XAt.mk {M : List (Option Nat)} {nc : Nat} {w : World} {k n : Int} {nm : ByteArray} {kv fp kp : Value} {rows : List (List Value × X)} {f st : X} (h : Vs M nc w kv rows) (hf : XAt M nc w .c [fp] f) (hs : XAt M nc w .s [kp] st) (h5 : k = 5 → 0 ≤ n ∧ n < nc) (h2 : k = 2 → n = 0 ∨ n = 1) :
    XAt M nc w .v (V7 k n nm kv fp kp) (.v k n nm (rows.map Prod.snd) f st) := .v rows h.at_ h.out h.all hf hs h5 h2
def lenX : X → Nat
  | .e _ _ r => lenX r + 1
  | .s _ r => lenX r + 1
  | _ => 0
theorem findX_no {y : X} (s : ByteArray) (h : nilX y = true) : findX s y = none := by rw [nilX_eq h]; rfl
theorem cons_of0 {α : Type} {l : List α} {u : α} (h : l[0]? = some u) : l = u :: l.drop 1 := by
  cases l with
  | nil => cases h
  | cons a r => cases h; rfl
theorem IntsAt.drop {w : World} {v : Value} {l : List Int} {h : Nat} (k : IntsAt w v l) (hn : h ≤ l.length) : IntsAt w (dropV 1 v h) (l.drop h) := by
  have := RowsAt.drop k (h := h) (by simpa using hn)
  unfold IntsAt; rw [List.map_drop]; exact this
theorem vBlock_drop (k n : Nat) (v : Value) : vBlock (dropV k v n) = vBlock v := by
  cases v with
  | slice a m c =>
    show vBlock (.slice (if c = n then a else a.map (·.add (n * k))) (m - n) (c - n)) = _
    by_cases h : c = n
    · rw [if_pos h]; cases a <;> rfl
    · rw [if_neg h]
      cases a with
      | none => rfl
      | some q => cases q; simp only [vBlock, Option.map, Addr.add]; split <;> rfl
  | _ => rfl
theorem StA.inpD {E : List (Option Nat)} {b : Nat} {x : Sx} {w : World} {s : SS} {u : Int} {n : Nat} (h : StA E b x w s) (hu : s.inp[0]? = some u) : some (vBlock (dropV 1 x.inp n)) ∉ x.M b ++ E := by
  rw [vBlock_drop]; exact h.inpM (by intro e; rw [e] at hu; cases hu)
abbrev sI (a b : Int) (n : Nat) : MapEntry := { key := .int .i64 a, val := .int .i64 b, born := n }
abbrev kidsL : List MapEntry := [sI 1 0 0, sI 2 0 1, sI 3 0 2, sI 4 0 3, sI 5 1 4, sI 6 2 5, sI 7 2 6, sI 8 2 7, sI 9 3 8, sI 10 (-1) 9, sI 11 (-1) 10, sI 12 1 11, sI 13 1 12, sI 14 1 13]
theorem kids_find (a : Int) : (∃ i, Instr.findNow (.int .i64) (.int .i64 a) kidsL 0 = some (some (i, .int .i64 (needs a))) ∧ needs a ≠ -2) ∨ (Instr.findNow (.int .i64) (.int .i64 a) kidsL 0 = some none ∧ needs a = -2) := by
  by_cases h : 1 ≤ a ∧ a ≤ 14
  · left
    have : a = 1 ∨ a = 2 ∨ a = 3 ∨ a = 4 ∨ a = 5 ∨ a = 6 ∨ a = 7 ∨ a = 8 ∨ a = 9 ∨ a = 10 ∨ a = 11 ∨ a = 12 ∨ a = 13 ∨ a = 14 := by omega
    rcases this with rfl | rfl | rfl | rfl | rfl | rfl | rfl | rfl | rfl | rfl | rfl | rfl | rfl | rfl <;> exact ⟨_, rfl, by decide⟩
  · right
    have e : ∀ b : Int, 1 ≤ b → b ≤ 14 → (a == b) = false := fun b h1 h2 => by simp; omega
    refine ⟨by simp [kidsL, Instr.findNow, Instr.sameNow, e], ?_⟩
    unfold needs
    by_cases h2 : a ≤ 0
    · have : a.toNat = 0 := by omega
      rw [this]; rfl
    · rw [List.getD_eq_getElem?_getD, List.getElem?_eq_none (by simp; omega)]; rfl
abbrev sS (s : ByteArray) (v : Value) (n : Nat) : MapEntry := { key := .string s, val := v, born := n }
abbrev plB : ByteArray := (⟨#[43]⟩ : ByteArray)
abbrev miB : ByteArray := (⟨#[45]⟩ : ByteArray)
abbrev muB : ByteArray := (⟨#[42]⟩ : ByteArray)
abbrev diB : ByteArray := (⟨#[47]⟩ : ByteArray)
abbrev ltB : ByteArray := (⟨#[60]⟩ : ByteArray)
abbrev eqB : ByteArray := (⟨#[61]⟩ : ByteArray)
theorem ops_find (s : ByteArray) (a b c d e f : Value) : (s = plB ∧ Instr.findNow .string (.string s) [sS plB a 0, sS miB b 1, sS muB c 2, sS diB d 3, sS ltB e 4, sS eqB f 5] 0 = some (some (0, a))) ∨ (s = miB ∧ Instr.findNow .string (.string s) [sS plB a 0, sS miB b 1, sS muB c 2, sS diB d 3, sS ltB e 4, sS eqB f 5] 0 = some (some (1, b))) ∨
    (s = muB ∧ Instr.findNow .string (.string s) [sS plB a 0, sS miB b 1, sS muB c 2, sS diB d 3, sS ltB e 4, sS eqB f 5] 0 = some (some (2, c))) ∨ (s = diB ∧ Instr.findNow .string (.string s) [sS plB a 0, sS miB b 1, sS muB c 2, sS diB d 3, sS ltB e 4, sS eqB f 5] 0 = some (some (3, d))) ∨
    (s = ltB ∧ Instr.findNow .string (.string s) [sS plB a 0, sS miB b 1, sS muB c 2, sS diB d 3, sS ltB e 4, sS eqB f 5] 0 = some (some (4, e))) ∨ (s = eqB ∧ Instr.findNow .string (.string s) [sS plB a 0, sS miB b 1, sS muB c 2, sS diB d 3, sS ltB e 4, sS eqB f 5] 0 = some (some (5, f))) ∨
    ((s ≠ plB ∧ s ≠ miB ∧ s ≠ muB ∧ s ≠ diB ∧ s ≠ ltB ∧ s ≠ eqB) ∧ Instr.findNow .string (.string s) [sS plB a 0, sS miB b 1, sS muB c 2, sS diB d 3, sS ltB e 4, sS eqB f 5] 0 = some none) := by
  by_cases h1 : s = plB
  · subst h1; exact .inl ⟨rfl, rfl⟩
  by_cases h2 : s = miB
  · subst h2; exact .inr (.inl ⟨rfl, rfl⟩)
  by_cases h3 : s = muB
  · subst h3; exact .inr (.inr (.inl ⟨rfl, rfl⟩))
  by_cases h4 : s = diB
  · subst h4; exact .inr (.inr (.inr (.inl ⟨rfl, rfl⟩)))
  by_cases h5 : s = ltB
  · subst h5; exact .inr (.inr (.inr (.inr (.inl ⟨rfl, rfl⟩))))
  by_cases h6 : s = eqB
  · subst h6; exact .inr (.inr (.inr (.inr (.inr (.inl ⟨rfl, rfl⟩)))))
  refine .inr (.inr (.inr (.inr (.inr (.inr ⟨⟨h1, h2, h3, h4, h5, h6⟩, ?_⟩)))))
  have e : ∀ t : ByteArray, s ≠ t → (s == t) = false := fun t h => by
    cases q : s == t with
    | false => rfl
    | true => exact absurd ((MapKept.bytes_beq s t).1 q) h
  simp only [Instr.findNow, Instr.sameNow, e _ h1, e _ h2, e _ h3, e _ h4, e _ h5, e _ h6]
theorem b01 (q : Bool) : (bif q then (1 : Int) else 0) = 0 ∨ (bif q then (1 : Int) else 0) = 1 := by cases q <;> simp
theorem vop_none {s : ByteArray} {a b : Int} (h : s ≠ plB ∧ s ≠ miB ∧ s ≠ muB ∧ s ≠ diB ∧ s ≠ ltB ∧ s ≠ eqB) : vop s a b = none := by
  obtain ⟨h1, h2, h3, h4, h5, h6⟩ := h
  simp [vop, h1, h2, h3, h4, h5, h6]
theorem ag32 : aggB Tryz.prog 32 = some false := by kernel_rfl
theorem ag77 : aggB Tryz.prog 77 = some false := by kernel_rfl
theorem en33 : entB Tryz.prog 33 = true := by kernel_rfl
theorem en41 : entB Tryz.prog 41 = true := by kernel_rfl
theorem en42 : entB Tryz.prog 42 = true := by kernel_rfl
theorem fo45_0 : fieldB Tryz.prog 45 0 = some (0, 1) := by kernel_rfl
theorem fo45_1 : fieldB Tryz.prog 45 1 = some (1, 1) := by kernel_rfl
theorem fo45_2 : fieldB Tryz.prog 45 2 = some (2, 1) := by kernel_rfl
theorem fo82_0 : fieldB Tryz.prog 82 0 = some (0, 4) := by kernel_rfl
theorem fo84_6 : fieldB Tryz.prog 84 6 = some (32, 1) := by kernel_rfl
theorem mp153 : mapB Tryz.prog 153 = some (3, 3) := by kernel_rfl
theorem pt77 : ptrB Tryz.prog 77 = true := by kernel_rfl
theorem sd45 : sizedB Tryz.prog 45 = true := by kernel_rfl
theorem sd82 : sizedB Tryz.prog 82 = true := by kernel_rfl
theorem sz32 : sizeB Tryz.prog 32 = some 1 := by kernel_rfl
theorem ze45 : zeroB Tryz.prog 45 = some (.agg #[.int .i64 0, .int .i64 0, .string (⟨#[]⟩ : ByteArray), (.slice none 0 0)]) := by kernel_rfl
theorem ze82 : zeroB Tryz.prog 82 = some (.agg #[.int .i64 0, .int .i64 0, .string (⟨#[]⟩ : ByteArray), (.slice none 0 0), (.slice none 0 0), .pointer none, .pointer none]) := by kernel_rfl
theorem find_any {M : List (Option Nat)} {nc : Nat} {ev : Value} {e : X} (name : ByteArray) (w : World)  (he : XAt M nc w .e [ev] e) :
  Calls Tryz.prog 40 ([ev, .string name] : List Value).toArray w fun r w' => ∃ k n nm kv fp kp ok, r = .returned (.tuple #[.agg (V7 k n nm kv fp kp).toArray, .bool ok]) ∧ ((ok = true ∧ ∃ y, findX name e = some y ∧ XAt M nc w' .v (V7 k n nm kv fp kp) y) ∨ (ok = false ∧ findX name e = none ∧ k = 0 ∧ n = 0 ∧ nm = eB ∧ kv = .slice none 0 0 ∧ fp = .pointer none ∧ kp = .pointer none)) ∧ Below w.heap.size w w' := by
 have hG := Gr.refl [] w
 refine At.enter (N := 23) Tryz.func40 rfl rfl (by simp) [(0, ev), (1, .string name)] (by simp) ?_
 refine .seq (.region ?_)
 refine At.alloc ze82 rfl (fun b1 w1 F1 => ?_)
 have gb1 := F1.gq hG.size
 have hb1 : w1.heap[b1]? = some (.cells #[zI, zI, zS, zN, zN, .pointer none, .pointer none] 82) := F1.new
 replace hG := hG.below F1.bel
 refine .assign rfl rfl (.ops0 (.thenN (.seq (.block ?_))))
 refine At.loop (Value × X) (fun (ev1, e1) => [(0, ev1), (1, .string name), (4, .pointer (some ⟨b1, 0, none⟩))]) (fun (ev1, e1) w2 => w1 = w2 ∧ (XAt M nc w .e [ev1] e1) ∧ (findX name e1 = findX name e)) (fun (ev1, e1) => lenX e1) (ev, e) (sC rfl (sC rfl (sC rfl sN))) ⟨rfl, (he), (rfl)⟩ (fun gh w2 hI => ?_)
 obtain ⟨ev1, e1⟩ := gh
 obtain ⟨rfl, he1, hs⟩ := hI
 show At _ _ [(0, ev1), (1, .string name), (4, .pointer (some ⟨b1, 0, none⟩))] _ _
 refine .seq (.seq (.region (.move rfl rfl ?_)))
 obtain ⟨pp1, hp1, hpn1⟩ := XAt.ptr (he1.gr hG.any lR) nofun
 refine .set (d := 6) (u := .pointer pp1) rfl hp1 (.neP rfl rfl pt77 rfl (.set (d := 7) (u := .bool (!nilX e1)) rfl (by rw [hpn1]) (.ops0 (.thenN ?_))))
 refine At.cond (b := (!nilX e1)) rfl (fun hc1 => ?_) (fun hc1 => ?_)
 ·skip
  refine .skip (.thenN (.seq (.block (.seq (.region (.move rfl rfl ?_))))))
  obtain ⟨bi1, ni1, ki1, mi1, oi1, vi1, fi1, qi1, ri1, xi1, yi1, pi1, ei1, hbi1, mbi1, hxi1, hyi1⟩ := he1.einv' (by simpa using hc1)
  refine .set (d := 12) (u := .pointer (some ⟨bi1, 0, none⟩)) rfl pi1 (.nilCheck rfl rfl (.fieldAddr rfl fo155_0 rfl (.load rfl (Ld.ownCell ag9 (hG.any.old mbi1 hbi1) rfl) rfl (.move rfl rfl (.eqS rfl rfl rfl (.ops0 (.thenN ?_)))))))
  refine At.cond (b := decide (ni1 = name)) rfl (fun hc2 => ?_) (fun hc2 => ?_)
  ·skip
   have hc2' := of_decide_eq_true hc2
   refine .seq (.region (.move rfl rfl (.set (d := 18) (u := .pointer (some ⟨bi1, 0, none⟩)) rfl pi1 (.nilCheck rfl rfl (.fieldAddr rfl fo155_1 rfl (.load rfl (Ld.ownPart (n := 7) (cs := #[.int .i64 ki1, .int .i64 mi1, .string oi1, zN, vi1, fi1, qi1]) ag82 sz82 (hG.any.old mbi1 hbi1) rfl) rfl ?_))))))
   refine At.storeAll rfl rfl hb1 sz82 rfl hxi1.vone (fun w3 S1 => ?_)
   replace hb1 : w3.heap[b1]? = some (.cells #[.int .i64 ki1, .int .i64 mi1, .string oi1, zN, vi1, fi1, qi1] 82) := S1.new
   replace hG := hG.set S1 (.inr gb1)
   refine .assign rfl rfl (.ops0 (.thenN (.retc (.inR (.thenR (.thenR (.inR (.thenR (.doneR (ResV.cell rfl (Ld.own (C := #[.int .i64 ki1, .int .i64 mi1, .string oi1, zN, vi1, fi1, qi1]) ag82 sz82 hb1) (ResV.tmp rfl ResV.nil)) ?_)))))))))
   exact ⟨_, _, _, _, _, _, _, rfl, .inl ⟨rfl, xi1, by rw [← hs, ei1, findX, hc2]; rfl, (hxi1.gr hG.any lR)⟩, hG.base⟩
  have hc2' := of_decide_eq_false hc2
  refine .skip (.inN (.thenN (.region (.move rfl rfl (.set (d := 8) (u := .pointer (some ⟨bi1, 0, none⟩)) rfl pi1 (.nilCheck rfl rfl (.fieldAddr rfl fo155_2 rfl (.load rfl (Ld.ownCell ag77 (hG.any.old mbi1 hbi1) rfl) rfl (.assign rfl rfl (.ops0 (.thenN ?_)))))))))))
  exact fun act_ hact_ => ⟨(ri1, yi1), hact_.sub (sC rfl (sC rfl (sC rfl sN))), ⟨rfl, (hyi1), (by rw [← hs, ei1, findX, hc2]; rfl)⟩, by rw [ei1]; exact Nat.lt_succ_self _⟩
 refine .exit (.thenE (.thenE (.inE (.thenN (.seq (.region (.build (C := #[zI, zI, zS, zN, zN, .pointer none, .pointer none]) sd82 ze82 rfl (Bld.nil _) rfl ?_)))))))
 refine At.storeAll rfl rfl hb1 sz82 rfl (by first | (simp [Value.oneCell', ((SlOk.nil)).one]; done) | (simp only [List.all_toArray, List.all_cons, List.all_nil, ((SlOk.nil)).one, Bool.and_true, Bool.true_and] <;> rfl)) (fun w4 S2 => ?_)
 replace hb1 : w4.heap[b1]? = some (.cells #[zI, zI, zS, zN, zN, .pointer none, .pointer none] 82) := S2.new
 replace hG := hG.set S2 (.inr gb1)
 refine .assign rfl rfl (.ops0 (.thenN (.retc (.doneR (ResV.cell rfl (Ld.own (C := #[zI, zI, zS, zN, zN, .pointer none, .pointer none]) ag82 sz82 hb1) (ResV.tmp rfl ResV.nil)) ?_))))
 exact ⟨_, _, _, _, _, _, _, rfl, .inr ⟨rfl, by rw [← hs, findX_no _ (by simpa using hc1)], rfl, rfl, rfl, rfl, rfl, rfl⟩, hG.base⟩
theorem numberS_any (n : Int) (w : World)   :
  Calls Tryz.prog 42 ([.int .i64 n] : List Value).toArray w fun r w' => r = .returned (.agg (V7 1 n eB zN (.pointer none) (.pointer none)).toArray) ∧ Below w.heap.size w w' := by
 have hG := Gr.refl [] w
 refine At.enter (N := 6) Tryz.func42 rfl rfl (by simp) [(0, .int .i64 n)] (by simp) ?_
 refine .seq (.region ?_)
 refine At.alloc ze82 rfl (fun b1 w1 F1 => ?_)
 have gb1 := F1.gq hG.size
 have hb1 : w1.heap[b1]? = some (.cells #[zI, zI, zS, zN, zN, .pointer none, .pointer none] 82) := F1.new
 replace hG := hG.below F1.bel
 refine .ops0 (.thenN (.seq (.region (.move rfl rfl (.build (C := #[.int .i64 1, .int .i64 n, zS, zN]) sd45 ze45 rfl (Bld.cons fo45_0 rfl (lB rfl) (Bld.cons fo45_1 rfl (lB rfl) (Bld.nil _))) rfl (.build (C := #[.int .i64 1, .int .i64 n, zS, zN, zN, .pointer none, .pointer none]) sd82 ze82 rfl (Bld.cons fo82_0 rfl (lB rfl) (Bld.nil _)) rfl ?_))))))
 refine At.storeAll rfl rfl hb1 sz82 rfl (by first | (simp [Value.oneCell', ((SlOk.nil)).one]; done) | (simp only [List.all_toArray, List.all_cons, List.all_nil, ((SlOk.nil)).one, Bool.and_true, Bool.true_and] <;> rfl)) (fun w2 S1 => ?_)
 replace hb1 : w2.heap[b1]? = some (.cells #[.int .i64 1, .int .i64 n, zS, zN, zN, .pointer none, .pointer none] 82) := S1.new
 replace hG := hG.set S1 (.inr gb1)
 refine .ops0 (.thenN (.retc (.doneR (ResV.cell rfl (Ld.own (C := #[.int .i64 1, .int .i64 n, zS, zN, zN, .pointer none, .pointer none]) ag82 sz82 hb1) ResV.nil) ?_)))
 exact ⟨rfl, hG.base⟩
theorem unit_any  (w : World)   :
  Calls Tryz.prog 43 ([] : List Value).toArray w fun r w' => r = .returned (.agg (V7 3 0 eB zN (.pointer none) (.pointer none)).toArray) ∧ Below w.heap.size w w' := by
 have hG := Gr.refl [] w
 refine At.enter (N := 3) Tryz.func43 rfl rfl (by simp) [] (by simp) ?_
 refine .seq (.region ?_)
 refine At.alloc ze82 rfl (fun b1 w1 F1 => ?_)
 have gb1 := F1.gq hG.size
 have hb1 : w1.heap[b1]? = some (.cells #[zI, zI, zS, zN, zN, .pointer none, .pointer none] 82) := F1.new
 replace hG := hG.below F1.bel
 refine .ops0 (.thenN (.seq (.region (.build (C := #[.int .i64 3, zI, zS, zN]) sd45 ze45 rfl (Bld.cons fo45_0 rfl (lB rfl) (Bld.nil _)) rfl (.build (C := #[.int .i64 3, zI, zS, zN, zN, .pointer none, .pointer none]) sd82 ze82 rfl (Bld.cons fo82_0 rfl (lB rfl) (Bld.nil _)) rfl ?_)))))
 refine At.storeAll rfl rfl hb1 sz82 rfl (by first | (simp [Value.oneCell', ((SlOk.nil)).one]; done) | (simp only [List.all_toArray, List.all_cons, List.all_nil, ((SlOk.nil)).one, Bool.and_true, Bool.true_and] <;> rfl)) (fun w2 S1 => ?_)
 replace hb1 : w2.heap[b1]? = some (.cells #[.int .i64 3, zI, zS, zN, zN, .pointer none, .pointer none] 82) := S1.new
 replace hG := hG.set S1 (.inr gb1)
 refine .ops0 (.thenN (.retc (.doneR (ResV.cell rfl (Ld.own (C := #[.int .i64 3, zI, zS, zN, zN, .pointer none, .pointer none]) ag82 sz82 hb1) ResV.nil) ?_)))
 exact ⟨rfl, hG.base⟩
theorem kidsN_any {M : List (Option Nat)} {nc : Nat} {t : Tm} (w : World)  (ht : Xs kTm M w [t]) :
  Calls Tryz.prog 39 ([.agg t.cs] : List Value).toArray w fun r w' => ∃ n ok, r = .returned (.tuple #[.int .i64 n, .bool ok]) ∧ ((ok = true ∧ needs t.k ≠ -2 ∧ n = needs t.k) ∨ (needs t.k = -2 ∧ ok = false)) ∧ Below w.heap.size w w' := by
 have hG := Gr.refl [] w
 refine At.enter (N := 16) Tryz.func39 rfl rfl (by simp) [(0, .agg t.cs)] (by simp) ?_
 refine .seq (.region ?_)
 refine At.box rfl rfl (fun b1 w1 F1 => ?_)
 have hb1 : w1.heap[b1]? = some (.cells t.cs 31) := F1.new
 replace hG := hG.below F1.bel
 refine .assign rfl rfl (.assign rfl rfl (.ops0 (.thenN (.seq (.region ?_)))))
 refine At.makeMap rfl (fun b2 w2 F2 => ?_)
 have n_b1_b2 := F2.ne' hb1
 replace hb1 := F2.old hb1
 have gb2 := F2.gq hG.size
 have hb2 := F2.new
 replace hG := hG.below F2.bel
 refine At.insert rfl rfl rfl hb2 mp153 Tryz.underlying3 rfl rfl (fun w3 S1 => ?_)
 replace hb1 := S1.other hb1 n_b1_b2
 replace hb2 := S1.new
 replace hG := hG.set S1 (.inr gb2)
 refine At.insert rfl rfl rfl hb2 mp153 Tryz.underlying3 rfl rfl (fun w4 S2 => ?_)
 replace hb1 := S2.other hb1 n_b1_b2
 replace hb2 := S2.new
 replace hG := hG.set S2 (.inr gb2)
 refine At.insert rfl rfl rfl hb2 mp153 Tryz.underlying3 rfl rfl (fun w5 S3 => ?_)
 replace hb1 := S3.other hb1 n_b1_b2
 replace hb2 := S3.new
 replace hG := hG.set S3 (.inr gb2)
 refine At.insert rfl rfl rfl hb2 mp153 Tryz.underlying3 rfl rfl (fun w6 S4 => ?_)
 replace hb1 := S4.other hb1 n_b1_b2
 replace hb2 := S4.new
 replace hG := hG.set S4 (.inr gb2)
 refine At.insert rfl rfl rfl hb2 mp153 Tryz.underlying3 rfl rfl (fun w7 S5 => ?_)
 replace hb1 := S5.other hb1 n_b1_b2
 replace hb2 := S5.new
 replace hG := hG.set S5 (.inr gb2)
 refine At.insert rfl rfl rfl hb2 mp153 Tryz.underlying3 rfl rfl (fun w8 S6 => ?_)
 replace hb1 := S6.other hb1 n_b1_b2
 replace hb2 := S6.new
 replace hG := hG.set S6 (.inr gb2)
 refine At.insert rfl rfl rfl hb2 mp153 Tryz.underlying3 rfl rfl (fun w9 S7 => ?_)
 replace hb1 := S7.other hb1 n_b1_b2
 replace hb2 := S7.new
 replace hG := hG.set S7 (.inr gb2)
 refine At.insert rfl rfl rfl hb2 mp153 Tryz.underlying3 rfl rfl (fun w10 S8 => ?_)
 replace hb1 := S8.other hb1 n_b1_b2
 replace hb2 := S8.new
 replace hG := hG.set S8 (.inr gb2)
 refine At.insert rfl rfl rfl hb2 mp153 Tryz.underlying3 rfl rfl (fun w11 S9 => ?_)
 replace hb1 := S9.other hb1 n_b1_b2
 replace hb2 := S9.new
 replace hG := hG.set S9 (.inr gb2)
 refine At.insert rfl rfl rfl hb2 mp153 Tryz.underlying3 rfl rfl (fun w12 S10 => ?_)
 replace hb1 := S10.other hb1 n_b1_b2
 replace hb2 := S10.new
 replace hG := hG.set S10 (.inr gb2)
 refine At.insert rfl rfl rfl hb2 mp153 Tryz.underlying3 rfl rfl (fun w13 S11 => ?_)
 replace hb1 := S11.other hb1 n_b1_b2
 replace hb2 := S11.new
 replace hG := hG.set S11 (.inr gb2)
 refine At.insert rfl rfl rfl hb2 mp153 Tryz.underlying3 rfl rfl (fun w14 S12 => ?_)
 replace hb1 := S12.other hb1 n_b1_b2
 replace hb2 := S12.new
 replace hG := hG.set S12 (.inr gb2)
 refine At.insert rfl rfl rfl hb2 mp153 Tryz.underlying3 rfl rfl (fun w15 S13 => ?_)
 replace hb1 := S13.other hb1 n_b1_b2
 replace hb2 := S13.new
 replace hG := hG.set S13 (.inr gb2)
 refine At.insert rfl rfl rfl hb2 mp153 Tryz.underlying3 rfl rfl (fun w16 S14 => ?_)
 replace hb1 := S14.other hb1 n_b1_b2
 replace hb2 := S14.new
 replace hG := hG.set S14 (.inr gb2)
 refine .move rfl rfl (.fieldAddr rfl fo31_0 rfl (.load rfl (Ld.ownCell ag3 hb1 ht.one.c0) rfl ?_))
 rcases kids_find t.k with ⟨i1, hf1, hn1⟩ | ⟨hf1, hn1⟩
 ·skip
  refine .lookT rfl rfl hb2 mp153 Tryz.underlying3 rfl hf1 rfl (.move rfl rfl (.extract rfl rfl rfl (.extract rfl rfl rfl (.assign rfl rfl (.assign rfl rfl (.ops0 (.thenN (.seq (.region (.move rfl rfl (.move rfl rfl (.assign rfl rfl (.assign rfl rfl (.ops0 (.thenN (.retc (.doneR (ResV.tmp rfl (ResV.tmp rfl ResV.nil)) ?_)))))))))))))))))
  exact ⟨_, _, rfl, .inl ⟨rfl, hn1, rfl⟩, hG.base⟩
 refine .lookF rfl rfl hb2 mp153 Tryz.underlying3 rfl hf1 ze3 rfl (.move rfl rfl (.extract rfl rfl rfl (.extract rfl rfl rfl (.assign rfl rfl (.assign rfl rfl (.ops0 (.thenN (.seq (.region (.move rfl rfl (.move rfl rfl (.assign rfl rfl (.assign rfl rfl (.ops0 (.thenN (.retc (.doneR (ResV.tmp rfl (ResV.tmp rfl ResV.nil)) ?_)))))))))))))))))
 exact ⟨_, _, rfl, .inr ⟨hn1, rfl⟩, hG.base⟩
theorem alone_any {E : List (Option Nat)} {b : Nat} {x : Sx} {s : SS} {t : Tm} (w : World) (hM : StA E b x w s) (ht : Xs kTm (x.M b ++ E) w [t]) :
  Calls Tryz.prog 47 ([.pointer (some ⟨b, 0, none⟩), .agg t.cs] : List Value).toArray w (Pst E b x w (aloneF s (shT t))) := by
 have hG := Gr.refl (x.M b) w
 refine At.enter (N := 47) Tryz.func47 rfl rfl (by simp) [(0, .pointer (some ⟨b, 0, none⟩)), (1, .agg t.cs)] (by simp) ?_
 refine .seq (.region ?_)
 refine At.box rfl rfl (fun b1 w1 F1 => ?_)
 have mb1 := hM.newM F1
 have hb1 : w1.heap[b1]? = some (.cells t.cs 31) := F1.new
 replace hG := hG.below F1.bel
 replace hM := hM.below F1.bel
 refine .assign rfl rfl (.ops0 (.thenN (.seq (.block (.seq (.region (.fieldAddr rfl fo31_0 rfl (.load rfl (Ld.ownCell ag3 hb1 ht.one.c0) rfl (.eqI rfl rfl rfl (.assign rfl rfl (.ops0 (.thenN ?_))))))))))))
 refine At.cond (b := decide (t.k = 11)) rfl (fun hc1 => ?_) (fun hc1 => ?_)
 ·skip
  have hc1' := of_decide_eq_true hc1
  refine .seq (.region (.move rfl rfl (.fieldAddr rfl fo31_2 rfl (.load rfl (Ld.ownCell ag9 hb1 ht.one.c2) rfl (.build (C := #[.int .i64 4, zI, .string t.nm, zN]) sd45 ze45 rfl (Bld.cons fo45_0 rfl (lB rfl) (Bld.cons fo45_2 rfl (lB rfl) (Bld.nil _))) rfl (.build (C := #[.int .i64 4, zI, .string t.nm, zN, zN, .pointer none, .pointer none]) sd82 ze82 rfl (Bld.cons fo82_0 rfl (lB rfl) (Bld.nil _)) rfl ?_))))))
  refine At.callM en41 rfl rfl (has_any  _ hM (XAt.mk (Vs.nil _ _ _) (.nil (by simp)) (.nil (by simp)) (fun e => absurd e (by decide)) (fun e => absurd e (by decide)))) (fun x1 w2 hM G1 => ?_)
  replace hG := hG.trans G1
  obtain ⟨hb1, mb1⟩ := G1.both mb1 hb1
  refine .assign rfl rfl (.ops0 (.thenN (.retc (.inR (.thenR (.doneR (ResV.tmp rfl ResV.nil) ?_))))))
  exact Pst.fin (by simp only [aloneF, hc1, stT_k, stT_nm, stT_pm, stT_n, cond_true, cond_false, vC] <;> rfl) hM hG
 have hc1' := of_decide_eq_false hc1
 refine .seq (.region (.fieldAddr rfl fo31_2 rfl (.load rfl (Ld.ownCell ag9 hb1 ht.one.c2) rfl (.neS rfl rfl rfl (.assign rfl rfl (.ops0 (.thenN ?_)))))))
 refine At.cond (b := (!decide (t.nm = (⟨#[114, 101, 97, 100]⟩ : ByteArray)))) rfl (fun hc2 => ?_) (fun hc2 => ?_)
 ·skip
  have hc2' := hc2; simp only [Bool.not_eq_true', Bool.not_eq_false', decide_eq_true_eq, decide_eq_false_iff_not] at hc2'
  refine .seq (.region (.assign rfl rfl (.ops0 (.thenN (.retc (.inR (.thenR (.doneR (ResV.tmp rfl ResV.nil) ?_))))))))
  exact Pst.fin (by simp only [aloneF, hc1, bnot_t hc2, stT_k, stT_nm, stT_pm, stT_n, cond_true, cond_false] <;> rfl) hM hG
 have hc2' := hc2; simp only [Bool.not_eq_true', Bool.not_eq_false', decide_eq_true_eq, decide_eq_false_iff_not] at hc2'
 refine .seq (.region (.move rfl rfl (.nilCheck rfl rfl (.fieldAddr rfl fo84_6 rfl (.load rfl (Ld.ownCell ag32 hM.blk (mx_at (j := 11) hM.tsz rfl rfl)) rfl (.lenSl rfl hM.inp.ok el32 rfl (.eqI rfl rfl rfl (.assign rfl rfl (.ops0 (.thenN ?_))))))))))
 refine At.cond (b := decide ((s.inp.length : Int) = 0)) rfl (fun hc3 => ?_) (fun hc3 => ?_)
 ·skip
  have hc3' := of_decide_eq_true hc3
  refine .seq (.region (.move rfl rfl ?_))
  refine At.callM en33 rfl rfl (ends_any 3 _ hM ) (fun x2 w3 hM G2 => ?_)
  replace hG := hG.trans G2
  obtain ⟨hb1, mb1⟩ := G2.both mb1 hb1
  refine .assign rfl rfl (.ops0 (.thenN (.retc (.inR (.thenR (.doneR (ResV.tmp rfl ResV.nil) ?_))))))
  exact Pst.fin (by have e : s.inp = [] := List.length_eq_zero_iff.1 (by omega); simp only [aloneF, e, hc1, bnot_f hc2, stT_k, stT_nm, cond_true, cond_false]) hM hG
 have hc3' := of_decide_eq_false hc3
 refine .skip (.inN (.thenN (.seq (.region (.move rfl rfl (.nilCheck rfl rfl (.fieldAddr rfl fo84_6 rfl (.load rfl (Ld.ownCell ag32 hM.blk (mx_at (j := 11) hM.tsz rfl rfl)) rfl ?_))))))))
 obtain ⟨u1, hu1⟩ := some_of_lt (l := s.inp) (i := 0) (by omega)
 refine .indexAddr (i := 0) rfl rfl hM.inp.ok (lt_of_some hu1) el32 sz3 rfl (.load rfl (Ld.cell ag3 (cell_keep ((hM.inp).get hu1) (Below.refl _ _))) rfl (.assign rfl rfl (.ops0 (.thenN (.seq (.region (.move rfl rfl (.move rfl rfl (.nilCheck rfl rfl (.fieldAddr rfl fo84_6 rfl (.load rfl (Ld.ownCell ag32 hM.blk (mx_at (j := 11) hM.tsz rfl rfl)) rfl ?_)))))))))))
 have hle1 : 1 ≤ s.inp.length := by omega
 refine .sliceFrom (h := 1) rfl rfl hM.inp.ok el32 sz3 hle1 rfl (.nilCheck rfl rfl (.fieldAddr rfl fo84_6 rfl ?_))
 refine At.stS { x with inp := (dropV 1 x.inp 1) } { s with inp := (s.inp.drop 1) } 11 rfl rfl hM sz32 (((IntsAt.drop hM.inp hle1)).ok).one rfl rfl rfl rfl rfl rfl (fun w4 S1 hM G3 => ?_) (inp := (IntsAt.drop hM.inp hle1)) (inpM := (fun _ => hM.inpD hu1))
 replace hG := hG.trans G3
 obtain ⟨hb1, mb1⟩ := G3.both mb1 hb1
 refine .ops0 (.thenN (.seq (.region (.move rfl rfl (.move rfl rfl ?_)))))
 refine At.call en42 rfl rfl (numberS_any u1 _) (fun e w5 hR => ?_)
 obtain ⟨rfl, hbl1⟩ := hR
 refine ⟨_, rfl, ?_⟩
 replace hb1 := Below.old hbl1 hb1
 replace hG := hG.below hbl1
 replace hM := hM.below hbl1
 refine At.callM en41 rfl rfl (has_any  _ hM (XAt.vI u1)) (fun x3 w6 hM G4 => ?_)
 replace hG := hG.trans G4
 obtain ⟨hb1, mb1⟩ := G4.both mb1 hb1
 refine .assign rfl rfl (.ops0 (.thenN (.retc (.doneR (ResV.tmp rfl ResV.nil) ?_))))
 exact Pst.fin (by rw [aloneF, cons_of0 hu1]; simp only [hc1, bnot_f hc2, stT_k, stT_nm, cond_true, cond_false]; rfl) hM hG
theorem ag45 : aggB Tryz.prog 45 = some true := by kernel_rfl
theorem en142 : entB Tryz.prog 142 = true := by kernel_rfl
theorem en143 : entB Tryz.prog 143 = true := by kernel_rfl
theorem en144 : entB Tryz.prog 144 = true := by kernel_rfl
theorem en145 : entB Tryz.prog 145 = true := by kernel_rfl
theorem en146 : entB Tryz.prog 146 = true := by kernel_rfl
theorem en147 : entB Tryz.prog 147 = true := by kernel_rfl
theorem en148 : entB Tryz.prog 148 = true := by kernel_rfl
theorem en149 : entB Tryz.prog 149 = true := by kernel_rfl
theorem mp216 : mapB Tryz.prog 216 = some (9, 131) := by kernel_rfl
theorem sz45 : sizeB Tryz.prog 45 = some 4 := by kernel_rfl
theorem ze131 : zeroB Tryz.prog 131 = some (.nilFunc) := by kernel_rfl
theorem numberV_any (n : Int) (w : World)   :
  Calls Tryz.prog 143 ([.int .i64 n] : List Value).toArray w fun r w' => r = .returned (.agg #[.int .i64 1, .int .i64 n, .string eB, .slice none 0 0]) ∧ Below w.heap.size w w' := by
 have hG := Gr.refl [] w
 refine At.enter (N := 5) Tryz.func143 rfl rfl (by simp) [(0, .int .i64 n)] (by simp) ?_
 refine .seq (.region ?_)
 refine At.alloc ze45 rfl (fun b1 w1 F1 => ?_)
 have gb1 := F1.gq hG.size
 have hb1 : w1.heap[b1]? = some (.cells #[zI, zI, zS, zN] 45) := F1.new
 replace hG := hG.below F1.bel
 refine .ops0 (.thenN (.seq (.region (.move rfl rfl (.build (C := #[.int .i64 1, .int .i64 n, zS, zN]) sd45 ze45 rfl (Bld.cons fo45_0 rfl (lB rfl) (Bld.cons fo45_1 rfl (lB rfl) (Bld.nil _))) rfl ?_)))))
 refine At.storeAll rfl rfl hb1 sz45 rfl (by first | (simp [Value.oneCell', ((SlOk.nil)).one]; done) | (simp only [List.all_toArray, List.all_cons, List.all_nil, ((SlOk.nil)).one, Bool.and_true, Bool.true_and] <;> rfl)) (fun w2 S1 => ?_)
 replace hb1 : w2.heap[b1]? = some (.cells #[.int .i64 1, .int .i64 n, zS, zN] 45) := S1.new
 replace hG := hG.set S1 (.inr gb1)
 refine .ops0 (.thenN (.retc (.doneR (ResV.cell rfl (Ld.own (C := #[.int .i64 1, .int .i64 n, zS, zN]) ag45 sz45 hb1) ResV.nil) ?_)))
 exact ⟨rfl, hG.base⟩
theorem truth_any (q : Bool) (w : World)   :
  Calls Tryz.prog 148 ([.bool q] : List Value).toArray w fun r w' => r = .returned (.agg #[.int .i64 2, .int .i64 (bif q then 1 else 0), .string eB, .slice none 0 0]) ∧ Below w.heap.size w w' := by
 have hG := Gr.refl [] w
 refine At.enter (N := 6) Tryz.func148 rfl rfl (by simp) [(0, .bool q)] (by simp) ?_
 refine .seq (.region ?_)
 refine At.alloc ze45 rfl (fun b1 w1 F1 => ?_)
 have gb1 := F1.gq hG.size
 have hb1 : w1.heap[b1]? = some (.cells #[zI, zI, zS, zN] 45) := F1.new
 replace hG := hG.below F1.bel
 refine .ops0 (.thenN (.seq (.seq (.region (.move rfl rfl (.ops0 (.thenN ?_)))))))
 refine At.cond (b := q) rfl (fun hc1 => ?_) (fun hc1 => ?_)
 ·skip
  refine .seq (.region (.build (C := #[.int .i64 2, .int .i64 1, zS, zN]) sd45 ze45 rfl (Bld.cons fo45_0 rfl (lB rfl) (Bld.cons fo45_1 rfl (lB rfl) (Bld.nil _))) rfl ?_))
  refine At.storeAll rfl rfl hb1 sz45 rfl (by first | (simp [Value.oneCell', ((SlOk.nil)).one]; done) | (simp only [List.all_toArray, List.all_cons, List.all_nil, ((SlOk.nil)).one, Bool.and_true, Bool.true_and] <;> rfl)) (fun w2 S1 => ?_)
  replace hb1 : w2.heap[b1]? = some (.cells #[.int .i64 2, .int .i64 1, zS, zN] 45) := S1.new
  replace hG := hG.set S1 (.inr gb1)
  refine .ops0 (.thenN (.retc (.thenR (.doneR (ResV.cell rfl (Ld.own (C := #[.int .i64 2, .int .i64 1, zS, zN]) ag45 sz45 hb1) ResV.nil) ?_))))
  exact ⟨by rw [hc1]; rfl, hG.base⟩
 refine .skip (.thenN (.seq (.region (.build (C := #[.int .i64 2, zI, zS, zN]) sd45 ze45 rfl (Bld.cons fo45_0 rfl (lB rfl) (Bld.nil _)) rfl ?_))))
 refine At.storeAll rfl rfl hb1 sz45 rfl (by first | (simp [Value.oneCell', ((SlOk.nil)).one]; done) | (simp only [List.all_toArray, List.all_cons, List.all_nil, ((SlOk.nil)).one, Bool.and_true, Bool.true_and] <;> rfl)) (fun w3 S2 => ?_)
 replace hb1 : w3.heap[b1]? = some (.cells #[.int .i64 2, zI, zS, zN] 45) := S2.new
 replace hG := hG.set S2 (.inr gb1)
 refine .ops0 (.thenN (.retc (.doneR (ResV.cell rfl (Ld.own (C := #[.int .i64 2, zI, zS, zN]) ag45 sz45 hb1) ResV.nil) ?_)))
 exact ⟨by rw [hc1]; rfl, hG.base⟩
theorem opadd_any {m n : Int} {b c : Nat} (w : World)  (h1 : w.heap[b]? = some (.cells #[.int .i64 m] 3)) (h2 : w.heap[c]? = some (.cells #[.int .i64 n] 3)) :
  Calls Tryz.prog 142 ([.pointer (some ⟨b, 0, none⟩), .pointer (some ⟨c, 0, none⟩)] : List Value).toArray w fun r w' => r = .returned (.agg #[.int .i64 1, .int .i64 (IntKind.i64.wrap (m + n)), .string eB, .slice none 0 0]) ∧ Below w.heap.size w w' := by
 have hG := Gr.refl [] w
 refine At.enter (N := 7) Tryz.func142 rfl rfl (by simp) [(0, .pointer (some ⟨b, 0, none⟩)), (1, .pointer (some ⟨c, 0, none⟩))] (by simp) ?_
 refine .seq (.region ?_)
 refine At.alloc ze45 rfl (fun b1 w1 F1 => ?_)
 have gb1 := F1.gq hG.size
 have hb1 : w1.heap[b1]? = some (.cells #[zI, zI, zS, zN] 45) := F1.new
 replace hG := hG.below F1.bel
 refine .ops0 (.thenN (.seq (.region (.load rfl (Ld.ownCell ag3 (Below.old hG.base h1) rfl) rfl (.load rfl (Ld.ownCell ag3 (Below.old hG.base h2) rfl) rfl (.add rfl rfl rfl ?_))))))
 refine At.call en143 rfl rfl (numberV_any (IntKind.i64.wrap (m + n)) _) (fun e w2 hR => ?_)
 obtain ⟨rfl, hbl1⟩ := hR
 refine ⟨_, rfl, ?_⟩
 replace hb1 := Below.old hbl1 hb1
 replace hG := hG.below hbl1
 refine At.storeAll rfl rfl hb1 sz45 rfl (by first | (simp [Value.oneCell', ((SlOk.nil)).one]; done) | (simp only [List.all_toArray, List.all_cons, List.all_nil, ((SlOk.nil)).one, Bool.and_true, Bool.true_and] <;> rfl)) (fun w3 S1 => ?_)
 replace hb1 : w3.heap[b1]? = some (.cells #[.int .i64 1, .int .i64 (IntKind.i64.wrap (m + n)), .string eB, zN] 45) := S1.new
 replace hG := hG.set S1 (.inr gb1)
 refine .ops0 (.thenN (.retc (.doneR (ResV.cell rfl (Ld.own (C := #[.int .i64 1, .int .i64 (IntKind.i64.wrap (m + n)), .string eB, zN]) ag45 sz45 hb1) ResV.nil) ?_)))
 exact ⟨rfl, hG.base⟩
theorem opsub_any {m n : Int} {b c : Nat} (w : World)  (h1 : w.heap[b]? = some (.cells #[.int .i64 m] 3)) (h2 : w.heap[c]? = some (.cells #[.int .i64 n] 3)) :
  Calls Tryz.prog 144 ([.pointer (some ⟨b, 0, none⟩), .pointer (some ⟨c, 0, none⟩)] : List Value).toArray w fun r w' => r = .returned (.agg #[.int .i64 1, .int .i64 (IntKind.i64.wrap (m - n)), .string eB, .slice none 0 0]) ∧ Below w.heap.size w w' := by
 have hG := Gr.refl [] w
 refine At.enter (N := 7) Tryz.func144 rfl rfl (by simp) [(0, .pointer (some ⟨b, 0, none⟩)), (1, .pointer (some ⟨c, 0, none⟩))] (by simp) ?_
 refine .seq (.region ?_)
 refine At.alloc ze45 rfl (fun b1 w1 F1 => ?_)
 have gb1 := F1.gq hG.size
 have hb1 : w1.heap[b1]? = some (.cells #[zI, zI, zS, zN] 45) := F1.new
 replace hG := hG.below F1.bel
 refine .ops0 (.thenN (.seq (.region (.load rfl (Ld.ownCell ag3 (Below.old hG.base h1) rfl) rfl (.load rfl (Ld.ownCell ag3 (Below.old hG.base h2) rfl) rfl (.sub' rfl rfl rfl ?_))))))
 refine At.call en143 rfl rfl (numberV_any (IntKind.i64.wrap (m - n)) _) (fun e w2 hR => ?_)
 obtain ⟨rfl, hbl1⟩ := hR
 refine ⟨_, rfl, ?_⟩
 replace hb1 := Below.old hbl1 hb1
 replace hG := hG.below hbl1
 refine At.storeAll rfl rfl hb1 sz45 rfl (by first | (simp [Value.oneCell', ((SlOk.nil)).one]; done) | (simp only [List.all_toArray, List.all_cons, List.all_nil, ((SlOk.nil)).one, Bool.and_true, Bool.true_and] <;> rfl)) (fun w3 S1 => ?_)
 replace hb1 : w3.heap[b1]? = some (.cells #[.int .i64 1, .int .i64 (IntKind.i64.wrap (m - n)), .string eB, zN] 45) := S1.new
 replace hG := hG.set S1 (.inr gb1)
 refine .ops0 (.thenN (.retc (.doneR (ResV.cell rfl (Ld.own (C := #[.int .i64 1, .int .i64 (IntKind.i64.wrap (m - n)), .string eB, zN]) ag45 sz45 hb1) ResV.nil) ?_)))
 exact ⟨rfl, hG.base⟩
theorem opmul_any {m n : Int} {b c : Nat} (w : World)  (h1 : w.heap[b]? = some (.cells #[.int .i64 m] 3)) (h2 : w.heap[c]? = some (.cells #[.int .i64 n] 3)) :
  Calls Tryz.prog 145 ([.pointer (some ⟨b, 0, none⟩), .pointer (some ⟨c, 0, none⟩)] : List Value).toArray w fun r w' => r = .returned (.agg #[.int .i64 1, .int .i64 (IntKind.i64.wrap (m * n)), .string eB, .slice none 0 0]) ∧ Below w.heap.size w w' := by
 have hG := Gr.refl [] w
 refine At.enter (N := 7) Tryz.func145 rfl rfl (by simp) [(0, .pointer (some ⟨b, 0, none⟩)), (1, .pointer (some ⟨c, 0, none⟩))] (by simp) ?_
 refine .seq (.region ?_)
 refine At.alloc ze45 rfl (fun b1 w1 F1 => ?_)
 have gb1 := F1.gq hG.size
 have hb1 : w1.heap[b1]? = some (.cells #[zI, zI, zS, zN] 45) := F1.new
 replace hG := hG.below F1.bel
 refine .ops0 (.thenN (.seq (.region (.load rfl (Ld.ownCell ag3 (Below.old hG.base h1) rfl) rfl (.load rfl (Ld.ownCell ag3 (Below.old hG.base h2) rfl) rfl (.mul rfl rfl rfl ?_))))))
 refine At.call en143 rfl rfl (numberV_any (IntKind.i64.wrap (m * n)) _) (fun e w2 hR => ?_)
 obtain ⟨rfl, hbl1⟩ := hR
 refine ⟨_, rfl, ?_⟩
 replace hb1 := Below.old hbl1 hb1
 replace hG := hG.below hbl1
 refine At.storeAll rfl rfl hb1 sz45 rfl (by first | (simp [Value.oneCell', ((SlOk.nil)).one]; done) | (simp only [List.all_toArray, List.all_cons, List.all_nil, ((SlOk.nil)).one, Bool.and_true, Bool.true_and] <;> rfl)) (fun w3 S1 => ?_)
 replace hb1 : w3.heap[b1]? = some (.cells #[.int .i64 1, .int .i64 (IntKind.i64.wrap (m * n)), .string eB, zN] 45) := S1.new
 replace hG := hG.set S1 (.inr gb1)
 refine .ops0 (.thenN (.retc (.doneR (ResV.cell rfl (Ld.own (C := #[.int .i64 1, .int .i64 (IntKind.i64.wrap (m * n)), .string eB, zN]) ag45 sz45 hb1) ResV.nil) ?_)))
 exact ⟨rfl, hG.base⟩
theorem opquo_any {m n : Int} {b c : Nat} (w : World)  (h1 : w.heap[b]? = some (.cells #[.int .i64 m] 3)) (h2 : w.heap[c]? = some (.cells #[.int .i64 n] 3)) (h0 : n ≠ 0) :
  Calls Tryz.prog 146 ([.pointer (some ⟨b, 0, none⟩), .pointer (some ⟨c, 0, none⟩)] : List Value).toArray w fun r w' => r = .returned (.agg #[.int .i64 1, .int .i64 (IntKind.i64.wrap (m.tdiv n)), .string eB, .slice none 0 0]) ∧ Below w.heap.size w w' := by
 have hG := Gr.refl [] w
 refine At.enter (N := 7) Tryz.func146 rfl rfl (by simp) [(0, .pointer (some ⟨b, 0, none⟩)), (1, .pointer (some ⟨c, 0, none⟩))] (by simp) ?_
 refine .seq (.region ?_)
 refine At.alloc ze45 rfl (fun b1 w1 F1 => ?_)
 have gb1 := F1.gq hG.size
 have hb1 : w1.heap[b1]? = some (.cells #[zI, zI, zS, zN] 45) := F1.new
 replace hG := hG.below F1.bel
 refine .ops0 (.thenN (.seq (.region (.load rfl (Ld.ownCell ag3 (Below.old hG.base h1) rfl) rfl (.load rfl (Ld.ownCell ag3 (Below.old hG.base h2) rfl) rfl (.quoI rfl rfl (by omega) rfl ?_))))))
 refine At.call en143 rfl rfl (numberV_any (IntKind.i64.wrap (m.tdiv n)) _) (fun e w2 hR => ?_)
 obtain ⟨rfl, hbl1⟩ := hR
 refine ⟨_, rfl, ?_⟩
 replace hb1 := Below.old hbl1 hb1
 replace hG := hG.below hbl1
 refine At.storeAll rfl rfl hb1 sz45 rfl (by first | (simp [Value.oneCell', ((SlOk.nil)).one]; done) | (simp only [List.all_toArray, List.all_cons, List.all_nil, ((SlOk.nil)).one, Bool.and_true, Bool.true_and] <;> rfl)) (fun w3 S1 => ?_)
 replace hb1 : w3.heap[b1]? = some (.cells #[.int .i64 1, .int .i64 (IntKind.i64.wrap (m.tdiv n)), .string eB, zN] 45) := S1.new
 replace hG := hG.set S1 (.inr gb1)
 refine .ops0 (.thenN (.retc (.doneR (ResV.cell rfl (Ld.own (C := #[.int .i64 1, .int .i64 (IntKind.i64.wrap (m.tdiv n)), .string eB, zN]) ag45 sz45 hb1) ResV.nil) ?_)))
 exact ⟨rfl, hG.base⟩
theorem oplss_any {m n : Int} {b c : Nat} (w : World)  (h1 : w.heap[b]? = some (.cells #[.int .i64 m] 3)) (h2 : w.heap[c]? = some (.cells #[.int .i64 n] 3)) :
  Calls Tryz.prog 147 ([.pointer (some ⟨b, 0, none⟩), .pointer (some ⟨c, 0, none⟩)] : List Value).toArray w fun r w' => r = .returned (.agg #[.int .i64 2, .int .i64 (bif decide (m < n) then 1 else 0), .string eB, .slice none 0 0]) ∧ Below w.heap.size w w' := by
 have hG := Gr.refl [] w
 refine At.enter (N := 7) Tryz.func147 rfl rfl (by simp) [(0, .pointer (some ⟨b, 0, none⟩)), (1, .pointer (some ⟨c, 0, none⟩))] (by simp) ?_
 refine .seq (.region ?_)
 refine At.alloc ze45 rfl (fun b1 w1 F1 => ?_)
 have gb1 := F1.gq hG.size
 have hb1 : w1.heap[b1]? = some (.cells #[zI, zI, zS, zN] 45) := F1.new
 replace hG := hG.below F1.bel
 refine .ops0 (.thenN (.seq (.region (.load rfl (Ld.ownCell ag3 (Below.old hG.base h1) rfl) rfl (.load rfl (Ld.ownCell ag3 (Below.old hG.base h2) rfl) rfl (.lss rfl rfl rfl ?_))))))
 refine At.call en148 rfl rfl (truth_any (decide (m < n)) _) (fun e w2 hR => ?_)
 obtain ⟨rfl, hbl1⟩ := hR
 refine ⟨_, rfl, ?_⟩
 replace hb1 := Below.old hbl1 hb1
 replace hG := hG.below hbl1
 refine At.storeAll rfl rfl hb1 sz45 rfl (by first | (simp [Value.oneCell', ((SlOk.nil)).one]; done) | (simp only [List.all_toArray, List.all_cons, List.all_nil, ((SlOk.nil)).one, Bool.and_true, Bool.true_and] <;> rfl)) (fun w3 S1 => ?_)
 replace hb1 : w3.heap[b1]? = some (.cells #[.int .i64 2, .int .i64 (bif decide (m < n) then 1 else 0), .string eB, zN] 45) := S1.new
 replace hG := hG.set S1 (.inr gb1)
 refine .ops0 (.thenN (.retc (.doneR (ResV.cell rfl (Ld.own (C := #[.int .i64 2, .int .i64 (bif decide (m < n) then 1 else 0), .string eB, zN]) ag45 sz45 hb1) ResV.nil) ?_)))
 exact ⟨rfl, hG.base⟩
theorem opeql_any {m n : Int} {b c : Nat} (w : World)  (h1 : w.heap[b]? = some (.cells #[.int .i64 m] 3)) (h2 : w.heap[c]? = some (.cells #[.int .i64 n] 3)) :
  Calls Tryz.prog 149 ([.pointer (some ⟨b, 0, none⟩), .pointer (some ⟨c, 0, none⟩)] : List Value).toArray w fun r w' => r = .returned (.agg #[.int .i64 2, .int .i64 (bif decide (m = n) then 1 else 0), .string eB, .slice none 0 0]) ∧ Below w.heap.size w w' := by
 have hG := Gr.refl [] w
 refine At.enter (N := 7) Tryz.func149 rfl rfl (by simp) [(0, .pointer (some ⟨b, 0, none⟩)), (1, .pointer (some ⟨c, 0, none⟩))] (by simp) ?_
 refine .seq (.region ?_)
 refine At.alloc ze45 rfl (fun b1 w1 F1 => ?_)
 have gb1 := F1.gq hG.size
 have hb1 : w1.heap[b1]? = some (.cells #[zI, zI, zS, zN] 45) := F1.new
 replace hG := hG.below F1.bel
 refine .ops0 (.thenN (.seq (.region (.load rfl (Ld.ownCell ag3 (Below.old hG.base h1) rfl) rfl (.load rfl (Ld.ownCell ag3 (Below.old hG.base h2) rfl) rfl (.eqI rfl rfl rfl ?_))))))
 refine At.call en148 rfl rfl (truth_any (decide (m = n)) _) (fun e w2 hR => ?_)
 obtain ⟨rfl, hbl1⟩ := hR
 refine ⟨_, rfl, ?_⟩
 replace hb1 := Below.old hbl1 hb1
 replace hG := hG.below hbl1
 refine At.storeAll rfl rfl hb1 sz45 rfl (by first | (simp [Value.oneCell', ((SlOk.nil)).one]; done) | (simp only [List.all_toArray, List.all_cons, List.all_nil, ((SlOk.nil)).one, Bool.and_true, Bool.true_and] <;> rfl)) (fun w3 S1 => ?_)
 replace hb1 : w3.heap[b1]? = some (.cells #[.int .i64 2, .int .i64 (bif decide (m = n) then 1 else 0), .string eB, zN] 45) := S1.new
 replace hG := hG.set S1 (.inr gb1)
 refine .ops0 (.thenN (.retc (.doneR (ResV.cell rfl (Ld.own (C := #[.int .i64 2, .int .i64 (bif decide (m = n) then 1 else 0), .string eB, zN]) ag45 sz45 hb1) ResV.nil) ?_)))
 exact ⟨rfl, hG.base⟩
theorem vop_any (nm : ByteArray) (m n : Int) (w : World)   :
  Calls Tryz.prog 141 ([.string nm, .int .i64 m, .int .i64 n] : List Value).toArray w fun r w' => ∃ k j ok, r = .returned (.tuple #[.agg #[.int .i64 k, .int .i64 j, .string eB, .slice none 0 0], .bool ok]) ∧ ((ok = true ∧ vop nm m n = some (.v k j eB [] .nil .nil) ∧ k ≠ 5 ∧ (k = 2 → j = 0 ∨ j = 1)) ∨ (ok = false ∧ vop nm m n = none)) ∧ Below w.heap.size w w' := by
 have hG := Gr.refl [] w
 refine At.enter (N := 38) Tryz.func141 rfl rfl (by simp) [(0, .string nm), (1, .int .i64 m), (2, .int .i64 n)] (by simp) ?_
 refine .seq (.region ?_)
 refine At.box rfl rfl (fun b1 w1 F1 => ?_)
 have hb1 : w1.heap[b1]? = some (.cells #[.int .i64 m] 3) := F1.new
 replace hG := hG.below F1.bel
 refine At.box rfl rfl (fun b2 w2 F2 => ?_)
 replace hb1 := F2.old hb1
 have hb2 : w2.heap[b2]? = some (.cells #[.int .i64 n] 3) := F2.new
 replace hG := hG.below F2.bel
 refine At.alloc ze45 rfl (fun b3 w3 F3 => ?_)
 have gb3 := F3.gq hG.size
 replace hb1 := F3.old hb1
 replace hb2 := F3.old hb2
 have hb3 : w3.heap[b3]? = some (.cells #[zI, zI, zS, zN] 45) := F3.new
 replace hG := hG.below F3.bel
 refine .assign rfl rfl (.ops0 (.thenN (.seq (.region ?_))))
 refine At.makeMap rfl (fun b4 w4 F4 => ?_)
 have n_b1_b4 := F4.ne' hb1
 replace hb1 := F4.old hb1
 have n_b2_b4 := F4.ne' hb2
 replace hb2 := F4.old hb2
 have n_b3_b4 := F4.ne' hb3
 replace hb3 := F4.old hb3
 have gb4 := F4.gq hG.size
 have hb4 := F4.new
 replace hG := hG.below F4.bel
 refine .makeFunc rfl rfl ?_
 refine At.insert rfl rfl rfl hb4 mp216 Tryz.underlying9 trivial rfl (fun w5 S1 => ?_)
 replace hb1 := S1.other hb1 n_b1_b4
 replace hb2 := S1.other hb2 n_b2_b4
 replace hb3 := S1.other hb3 n_b3_b4
 replace hb4 := S1.new
 replace hG := hG.set S1 (.inr gb4)
 refine .makeFunc rfl rfl ?_
 refine At.insert rfl rfl rfl hb4 mp216 Tryz.underlying9 trivial rfl (fun w6 S2 => ?_)
 replace hb1 := S2.other hb1 n_b1_b4
 replace hb2 := S2.other hb2 n_b2_b4
 replace hb3 := S2.other hb3 n_b3_b4
 replace hb4 := S2.new
 replace hG := hG.set S2 (.inr gb4)
 refine .makeFunc rfl rfl ?_
 refine At.insert rfl rfl rfl hb4 mp216 Tryz.underlying9 trivial rfl (fun w7 S3 => ?_)
 replace hb1 := S3.other hb1 n_b1_b4
 replace hb2 := S3.other hb2 n_b2_b4
 replace hb3 := S3.other hb3 n_b3_b4
 replace hb4 := S3.new
 replace hG := hG.set S3 (.inr gb4)
 refine .makeFunc rfl rfl ?_
 refine At.insert rfl rfl rfl hb4 mp216 Tryz.underlying9 trivial rfl (fun w8 S4 => ?_)
 replace hb1 := S4.other hb1 n_b1_b4
 replace hb2 := S4.other hb2 n_b2_b4
 replace hb3 := S4.other hb3 n_b3_b4
 replace hb4 := S4.new
 replace hG := hG.set S4 (.inr gb4)
 refine .makeFunc rfl rfl ?_
 refine At.insert rfl rfl rfl hb4 mp216 Tryz.underlying9 trivial rfl (fun w9 S5 => ?_)
 replace hb1 := S5.other hb1 n_b1_b4
 replace hb2 := S5.other hb2 n_b2_b4
 replace hb3 := S5.other hb3 n_b3_b4
 replace hb4 := S5.new
 replace hG := hG.set S5 (.inr gb4)
 refine .makeFunc rfl rfl ?_
 refine At.insert rfl rfl rfl hb4 mp216 Tryz.underlying9 trivial rfl (fun w10 S6 => ?_)
 replace hb1 := S6.other hb1 n_b1_b4
 replace hb2 := S6.other hb2 n_b2_b4
 replace hb3 := S6.other hb3 n_b3_b4
 replace hb4 := S6.new
 replace hG := hG.set S6 (.inr gb4)
 refine .move rfl rfl (.assign rfl rfl (.ops0 (.thenN (.seq (.region (.move rfl rfl (.move rfl rfl ?_)))))))
 rcases ops_find nm (.func (.func 142) #[] #[.pointer (some ⟨b1, 0, none⟩), .pointer (some ⟨b2, 0, none⟩)]) (.func (.func 144) #[] #[.pointer (some ⟨b1, 0, none⟩), .pointer (some ⟨b2, 0, none⟩)]) (.func (.func 145) #[] #[.pointer (some ⟨b1, 0, none⟩), .pointer (some ⟨b2, 0, none⟩)]) (.func (.func 146) #[] #[.pointer (some ⟨b1, 0, none⟩), .pointer (some ⟨b2, 0, none⟩)]) (.func (.func 147) #[] #[.pointer (some ⟨b1, 0, none⟩), .pointer (some ⟨b2, 0, none⟩)]) (.func (.func 149) #[] #[.pointer (some ⟨b1, 0, none⟩), .pointer (some ⟨b2, 0, none⟩)]) with ⟨hs, hf⟩ | ⟨hs, hf⟩ | ⟨hs, hf⟩ | ⟨hs, hf⟩ | ⟨hs, hf⟩ | ⟨hs, hf⟩ | ⟨hs, hf⟩
 ·skip
  refine .lookT rfl rfl hb4 mp216 Tryz.underlying9 trivial hf rfl (.move rfl rfl (.extract rfl rfl rfl (.extract rfl rfl rfl (.assign rfl rfl (.assign rfl rfl (.ops0 (.thenN (.seq (.seq (.region (.move rfl rfl (.not rfl rfl (.move rfl rfl (.yes rfl rfl rfl rfl (.move rfl rfl (.yes rfl rfl rfl rfl (.eqS rfl rfl rfl (.yes rfl rfl rfl rfl (.move rfl rfl ?_)))))))))))))))))))
  have hbb1 : (decide (nm = (⟨#[47]⟩ : ByteArray))) = false := (by rw [hs]; decide)
  refine .set (d := 30) (u := .bool false) rfl (congrArg Value.bool hbb1) (.no rfl rfl rfl rfl rfl rfl rfl (.no rfl rfl rfl rfl rfl rfl rfl (.yes rfl rfl rfl rfl (.pickF rfl rfl rfl (.pickF rfl rfl rfl (.ops0 (.thenN (.condF rfl (.skip (.thenN (.seq (.region (.move rfl rfl ?_)))))))))))))
  refine At.callV rfl en142 rfl rfl (opadd_any _ hb1 hb2) (fun e w11 hR => ?_)
  obtain ⟨rfl, hbl1⟩ := hR
  refine ⟨_, rfl, ?_⟩
  replace hb3 := Below.old hbl1 hb3
  replace hG := hG.below hbl1
  refine At.storeAll rfl rfl hb3 sz45 rfl (by first | (simp [Value.oneCell', ((SlOk.nil)).one]; done) | (simp only [List.all_toArray, List.all_cons, List.all_nil, ((SlOk.nil)).one, Bool.and_true, Bool.true_and] <;> rfl)) (fun w12 S7 => ?_)
  replace hb3 : w12.heap[b3]? = some (.cells #[.int .i64 1, .int .i64 (IntKind.i64.wrap (m + n)), .string eB, zN] 45) := S7.new
  replace hG := hG.set S7 (.inr gb3)
  refine .assign rfl rfl (.ops0 (.thenN (.retc (.doneR (ResV.cell rfl (Ld.own (C := #[.int .i64 1, .int .i64 (IntKind.i64.wrap (m + n)), .string eB, zN]) ag45 sz45 hb3) (ResV.tmp rfl ResV.nil)) ?_))))
  exact ⟨_, _, _, rfl, .inl ⟨rfl, by rw [hs, vop]; simp only [plB]; rfl, by decide, fun e => absurd e (by decide)⟩, hG.base⟩
 ·skip
  refine .lookT rfl rfl hb4 mp216 Tryz.underlying9 trivial hf rfl (.move rfl rfl (.extract rfl rfl rfl (.extract rfl rfl rfl (.assign rfl rfl (.assign rfl rfl (.ops0 (.thenN (.seq (.seq (.region (.move rfl rfl (.not rfl rfl (.move rfl rfl (.yes rfl rfl rfl rfl (.move rfl rfl (.yes rfl rfl rfl rfl (.eqS rfl rfl rfl (.yes rfl rfl rfl rfl (.move rfl rfl ?_)))))))))))))))))))
  have hbb2 : (decide (nm = (⟨#[47]⟩ : ByteArray))) = false := (by rw [hs]; decide)
  refine .set (d := 30) (u := .bool false) rfl (congrArg Value.bool hbb2) (.no rfl rfl rfl rfl rfl rfl rfl (.no rfl rfl rfl rfl rfl rfl rfl (.yes rfl rfl rfl rfl (.pickF rfl rfl rfl (.pickF rfl rfl rfl (.ops0 (.thenN (.condF rfl (.skip (.thenN (.seq (.region (.move rfl rfl ?_)))))))))))))
  refine At.callV rfl en144 rfl rfl (opsub_any _ hb1 hb2) (fun e w13 hR => ?_)
  obtain ⟨rfl, hbl2⟩ := hR
  refine ⟨_, rfl, ?_⟩
  replace hb3 := Below.old hbl2 hb3
  replace hG := hG.below hbl2
  refine At.storeAll rfl rfl hb3 sz45 rfl (by first | (simp [Value.oneCell', ((SlOk.nil)).one]; done) | (simp only [List.all_toArray, List.all_cons, List.all_nil, ((SlOk.nil)).one, Bool.and_true, Bool.true_and] <;> rfl)) (fun w14 S8 => ?_)
  replace hb3 : w14.heap[b3]? = some (.cells #[.int .i64 1, .int .i64 (IntKind.i64.wrap (m - n)), .string eB, zN] 45) := S8.new
  replace hG := hG.set S8 (.inr gb3)
  refine .assign rfl rfl (.ops0 (.thenN (.retc (.doneR (ResV.cell rfl (Ld.own (C := #[.int .i64 1, .int .i64 (IntKind.i64.wrap (m - n)), .string eB, zN]) ag45 sz45 hb3) (ResV.tmp rfl ResV.nil)) ?_))))
  exact ⟨_, _, _, rfl, .inl ⟨rfl, by rw [hs, vop]; simp only [miB]; rfl, by decide, fun e => absurd e (by decide)⟩, hG.base⟩
 ·skip
  refine .lookT rfl rfl hb4 mp216 Tryz.underlying9 trivial hf rfl (.move rfl rfl (.extract rfl rfl rfl (.extract rfl rfl rfl (.assign rfl rfl (.assign rfl rfl (.ops0 (.thenN (.seq (.seq (.region (.move rfl rfl (.not rfl rfl (.move rfl rfl (.yes rfl rfl rfl rfl (.move rfl rfl (.yes rfl rfl rfl rfl (.eqS rfl rfl rfl (.yes rfl rfl rfl rfl (.move rfl rfl ?_)))))))))))))))))))
  have hbb3 : (decide (nm = (⟨#[47]⟩ : ByteArray))) = false := (by rw [hs]; decide)
  refine .set (d := 30) (u := .bool false) rfl (congrArg Value.bool hbb3) (.no rfl rfl rfl rfl rfl rfl rfl (.no rfl rfl rfl rfl rfl rfl rfl (.yes rfl rfl rfl rfl (.pickF rfl rfl rfl (.pickF rfl rfl rfl (.ops0 (.thenN (.condF rfl (.skip (.thenN (.seq (.region (.move rfl rfl ?_)))))))))))))
  refine At.callV rfl en145 rfl rfl (opmul_any _ hb1 hb2) (fun e w15 hR => ?_)
  obtain ⟨rfl, hbl3⟩ := hR
  refine ⟨_, rfl, ?_⟩
  replace hb3 := Below.old hbl3 hb3
  replace hG := hG.below hbl3
  refine At.storeAll rfl rfl hb3 sz45 rfl (by first | (simp [Value.oneCell', ((SlOk.nil)).one]; done) | (simp only [List.all_toArray, List.all_cons, List.all_nil, ((SlOk.nil)).one, Bool.and_true, Bool.true_and] <;> rfl)) (fun w16 S9 => ?_)
  replace hb3 : w16.heap[b3]? = some (.cells #[.int .i64 1, .int .i64 (IntKind.i64.wrap (m * n)), .string eB, zN] 45) := S9.new
  replace hG := hG.set S9 (.inr gb3)
  refine .assign rfl rfl (.ops0 (.thenN (.retc (.doneR (ResV.cell rfl (Ld.own (C := #[.int .i64 1, .int .i64 (IntKind.i64.wrap (m * n)), .string eB, zN]) ag45 sz45 hb3) (ResV.tmp rfl ResV.nil)) ?_))))
  exact ⟨_, _, _, rfl, .inl ⟨rfl, by rw [hs, vop]; simp only [muB]; rfl, by decide, fun e => absurd e (by decide)⟩, hG.base⟩
 ·skip
  refine .lookT rfl rfl hb4 mp216 Tryz.underlying9 trivial hf rfl (.move rfl rfl (.extract rfl rfl rfl (.extract rfl rfl rfl (.assign rfl rfl (.assign rfl rfl (.ops0 (.thenN (.seq (.seq (.region (.move rfl rfl (.not rfl rfl (.move rfl rfl (.yes rfl rfl rfl rfl (.move rfl rfl (.yes rfl rfl rfl rfl (.eqS rfl rfl rfl (.yes rfl rfl rfl rfl (.move rfl rfl ?_)))))))))))))))))))
  have hbb4 : (decide (nm = (⟨#[47]⟩ : ByteArray))) = true := (by rw [hs]; decide)
  refine .set (d := 30) (u := .bool true) rfl (congrArg Value.bool hbb4) (.yes rfl rfl rfl rfl (.load rfl (Ld.ownCell ag3 hb2 rfl) rfl (.yes rfl rfl rfl rfl (.eqI rfl rfl rfl (.yes rfl rfl rfl rfl (.pickT rfl rfl rfl (.pickF rfl rfl rfl (.ops0 (.thenN ?_)))))))))
  refine At.cond (b := decide (n = 0)) rfl (fun hc1 => ?_) (fun hc1 => ?_)
  ·skip
   have hc1' := of_decide_eq_true hc1
   refine .seq (.region (.build (C := #[zI, zI, zS, zN]) sd45 ze45 rfl (Bld.nil _) rfl ?_))
   refine At.storeAll rfl rfl hb3 sz45 rfl (by first | (simp [Value.oneCell', ((SlOk.nil)).one]; done) | (simp only [List.all_toArray, List.all_cons, List.all_nil, ((SlOk.nil)).one, Bool.and_true, Bool.true_and] <;> rfl)) (fun w17 S10 => ?_)
   replace hb3 : w17.heap[b3]? = some (.cells #[zI, zI, zS, zN] 45) := S10.new
   replace hG := hG.set S10 (.inr gb3)
   refine .assign rfl rfl (.ops0 (.thenN (.retc (.thenR (.doneR (ResV.cell rfl (Ld.own (C := #[zI, zI, zS, zN]) ag45 sz45 hb3) (ResV.tmp rfl ResV.nil)) ?_)))))
   exact ⟨_, _, _, rfl, .inr ⟨rfl, by rw [hs, vop]; simp only [hc1, diB]; rfl⟩, hG.base⟩
  have hc1' := of_decide_eq_false hc1
  refine .skip (.thenN (.seq (.region (.move rfl rfl ?_))))
  have h0 := of_decide_eq_false hc1
  refine At.callV rfl en146 rfl rfl (opquo_any _ hb1 hb2 h0) (fun e w18 hR => ?_)
  obtain ⟨rfl, hbl4⟩ := hR
  refine ⟨_, rfl, ?_⟩
  replace hb3 := Below.old hbl4 hb3
  replace hG := hG.below hbl4
  refine At.storeAll rfl rfl hb3 sz45 rfl (by first | (simp [Value.oneCell', ((SlOk.nil)).one]; done) | (simp only [List.all_toArray, List.all_cons, List.all_nil, ((SlOk.nil)).one, Bool.and_true, Bool.true_and] <;> rfl)) (fun w19 S11 => ?_)
  replace hb3 : w19.heap[b3]? = some (.cells #[.int .i64 1, .int .i64 (IntKind.i64.wrap (m.tdiv n)), .string eB, zN] 45) := S11.new
  replace hG := hG.set S11 (.inr gb3)
  refine .assign rfl rfl (.ops0 (.thenN (.retc (.doneR (ResV.cell rfl (Ld.own (C := #[.int .i64 1, .int .i64 (IntKind.i64.wrap (m.tdiv n)), .string eB, zN]) ag45 sz45 hb3) (ResV.tmp rfl ResV.nil)) ?_))))
  exact ⟨_, _, _, rfl, .inl ⟨rfl, by rw [hs, vop]; simp only [hc1, diB]; rfl, by decide, fun e => absurd e (by decide)⟩, hG.base⟩
 ·skip
  refine .lookT rfl rfl hb4 mp216 Tryz.underlying9 trivial hf rfl (.move rfl rfl (.extract rfl rfl rfl (.extract rfl rfl rfl (.assign rfl rfl (.assign rfl rfl (.ops0 (.thenN (.seq (.seq (.region (.move rfl rfl (.not rfl rfl (.move rfl rfl (.yes rfl rfl rfl rfl (.move rfl rfl (.yes rfl rfl rfl rfl (.eqS rfl rfl rfl (.yes rfl rfl rfl rfl (.move rfl rfl ?_)))))))))))))))))))
  have hbb5 : (decide (nm = (⟨#[47]⟩ : ByteArray))) = false := (by rw [hs]; decide)
  refine .set (d := 30) (u := .bool false) rfl (congrArg Value.bool hbb5) (.no rfl rfl rfl rfl rfl rfl rfl (.no rfl rfl rfl rfl rfl rfl rfl (.yes rfl rfl rfl rfl (.pickF rfl rfl rfl (.pickF rfl rfl rfl (.ops0 (.thenN (.condF rfl (.skip (.thenN (.seq (.region (.move rfl rfl ?_)))))))))))))
  refine At.callV rfl en147 rfl rfl (oplss_any _ hb1 hb2) (fun e w20 hR => ?_)
  obtain ⟨rfl, hbl5⟩ := hR
  refine ⟨_, rfl, ?_⟩
  replace hb3 := Below.old hbl5 hb3
  replace hG := hG.below hbl5
  refine At.storeAll rfl rfl hb3 sz45 rfl (by first | (simp [Value.oneCell', ((SlOk.nil)).one]; done) | (simp only [List.all_toArray, List.all_cons, List.all_nil, ((SlOk.nil)).one, Bool.and_true, Bool.true_and] <;> rfl)) (fun w21 S12 => ?_)
  replace hb3 : w21.heap[b3]? = some (.cells #[.int .i64 2, .int .i64 (bif decide (m < n) then 1 else 0), .string eB, zN] 45) := S12.new
  replace hG := hG.set S12 (.inr gb3)
  refine .assign rfl rfl (.ops0 (.thenN (.retc (.doneR (ResV.cell rfl (Ld.own (C := #[.int .i64 2, .int .i64 (bif decide (m < n) then 1 else 0), .string eB, zN]) ag45 sz45 hb3) (ResV.tmp rfl ResV.nil)) ?_))))
  exact ⟨_, _, _, rfl, .inl ⟨rfl, by rw [hs, vop]; simp only [ltB]; rfl, by decide, fun _ => b01 _⟩, hG.base⟩
 ·skip
  refine .lookT rfl rfl hb4 mp216 Tryz.underlying9 trivial hf rfl (.move rfl rfl (.extract rfl rfl rfl (.extract rfl rfl rfl (.assign rfl rfl (.assign rfl rfl (.ops0 (.thenN (.seq (.seq (.region (.move rfl rfl (.not rfl rfl (.move rfl rfl (.yes rfl rfl rfl rfl (.move rfl rfl (.yes rfl rfl rfl rfl (.eqS rfl rfl rfl (.yes rfl rfl rfl rfl (.move rfl rfl ?_)))))))))))))))))))
  have hbb6 : (decide (nm = (⟨#[47]⟩ : ByteArray))) = false := (by rw [hs]; decide)
  refine .set (d := 30) (u := .bool false) rfl (congrArg Value.bool hbb6) (.no rfl rfl rfl rfl rfl rfl rfl (.no rfl rfl rfl rfl rfl rfl rfl (.yes rfl rfl rfl rfl (.pickF rfl rfl rfl (.pickF rfl rfl rfl (.ops0 (.thenN (.condF rfl (.skip (.thenN (.seq (.region (.move rfl rfl ?_)))))))))))))
  refine At.callV rfl en149 rfl rfl (opeql_any _ hb1 hb2) (fun e w22 hR => ?_)
  obtain ⟨rfl, hbl6⟩ := hR
  refine ⟨_, rfl, ?_⟩
  replace hb3 := Below.old hbl6 hb3
  replace hG := hG.below hbl6
  refine At.storeAll rfl rfl hb3 sz45 rfl (by first | (simp [Value.oneCell', ((SlOk.nil)).one]; done) | (simp only [List.all_toArray, List.all_cons, List.all_nil, ((SlOk.nil)).one, Bool.and_true, Bool.true_and] <;> rfl)) (fun w23 S13 => ?_)
  replace hb3 : w23.heap[b3]? = some (.cells #[.int .i64 2, .int .i64 (bif decide (m = n) then 1 else 0), .string eB, zN] 45) := S13.new
  replace hG := hG.set S13 (.inr gb3)
  refine .assign rfl rfl (.ops0 (.thenN (.retc (.doneR (ResV.cell rfl (Ld.own (C := #[.int .i64 2, .int .i64 (bif decide (m = n) then 1 else 0), .string eB, zN]) ag45 sz45 hb3) (ResV.tmp rfl ResV.nil)) ?_))))
  exact ⟨_, _, _, rfl, .inl ⟨rfl, by rw [hs, vop]; simp only [eqB]; rfl, by decide, fun _ => b01 _⟩, hG.base⟩
 refine .lookF rfl rfl hb4 mp216 Tryz.underlying9 trivial hf ze131 rfl (.move rfl rfl (.extract rfl rfl rfl (.extract rfl rfl rfl (.assign rfl rfl (.assign rfl rfl (.ops0 (.thenN (.seq (.seq (.region (.move rfl rfl (.not rfl rfl (.move rfl rfl (.no rfl rfl rfl rfl rfl rfl rfl (.no rfl rfl rfl rfl rfl rfl rfl (.no rfl rfl rfl rfl rfl rfl rfl (.noU rfl rfl rfl rfl rfl rfl (.noU rfl rfl rfl rfl rfl rfl (.no rfl rfl rfl rfl rfl rfl rfl (.pickT rfl rfl rfl (.ops0 (.thenN (.condT rfl (.seq (.region (.build (C := #[zI, zI, zS, zN]) sd45 ze45 rfl (Bld.nil _) rfl ?_))))))))))))))))))))))))))
 refine At.storeAll rfl rfl hb3 sz45 rfl (by first | (simp [Value.oneCell', ((SlOk.nil)).one]; done) | (simp only [List.all_toArray, List.all_cons, List.all_nil, ((SlOk.nil)).one, Bool.and_true, Bool.true_and] <;> rfl)) (fun w24 S14 => ?_)
 replace hb3 : w24.heap[b3]? = some (.cells #[zI, zI, zS, zN] 45) := S14.new
 replace hG := hG.set S14 (.inr gb3)
 refine .assign rfl rfl (.ops0 (.thenN (.retc (.thenR (.doneR (ResV.cell rfl (Ld.own (C := #[zI, zI, zS, zN]) ag45 sz45 hb3) (ResV.tmp rfl ResV.nil)) ?_)))))
 exact ⟨_, _, _, rfl, .inr ⟨rfl, vop_none hs⟩, hG.base⟩
abbrev pC : List Value × X → Array Value := fun p => p.1.toArray
section
variable {E : List (Option Nat)} {b : Nat} {x x' : Sx} {s : SS} {w w1 w2 : World}
theorem StA.rows {tr' cl' : Value} {cells' : List X} {trl : List Int} {rows : List (List Value × X)} (h : StA E b x w s) (F : Fr (fun k => some k ∈ x.M b) w w2) (hb : w2.heap[b]? = some (.cells (Sx.cs { x with tr := tr', cl := cl' }) 84))
    (mt : Moved w x.tr tr') (mc : Moved w x.cl cl') (hO : OwnR 82 7 pC w2 cl' rows) (hr : ∀ p ∈ rows, XAt (x.M b ++ E) cells'.length w .v p.1 p.2) (hc : rows.map Prod.snd = cells')
    (hT : Own w2 3 1 tr' trl.length (trl.map (Value.int .i64))) (hn : s.cells.length ≤ cells'.length) :
    StA E b { x with tr := tr', cl := cl' } w2 { s with tr := trl, cells := cells' } ∧ Gr (x.M b) w (Sx.M { x with tr := tr', cl := cl' } b) w2 := by
  have hM : ∀ q, some q ∈ Sx.M { x with tr := tr', cl := cl' } b → some q ∈ x.M b ∨ w.heap.size ≤ q := fun q hq => by
    simp only [Sx.M, List.mem_cons, List.not_mem_nil, or_false] at hq ⊢
    rcases hq with e | e | e
    · exact .inl (.inl e)
    · rcases mc with m | ⟨g, m, hg⟩
      · exact .inl (.inr (.inl (e.trans m)))
      · rw [m] at e; cases e; exact .inr hg
    · rcases mt with m | ⟨g, m, hg⟩
      · exact .inl (.inr (.inr (e.trans m)))
      · rw [m] at e; cases e; exact .inr hg
  have G : Gr (x.M b) w (Sx.M { x with tr := tr', cl := cl' } b) w2 := ⟨F.os, F.tape, F.output, F.size, fun {c v} hc hv => F.old c v hc hv, fun {c} hl hc hm => by
    rcases hM c hm with e | e
    · exact hc e
    · omega⟩
  have GE := G.ext (E := E)
  have hap : ∀ g, some g ∈ Sx.M { x with tr := tr', cl := cl' } b → some g ∉ E := fun g hg he => by
    rcases hM g hg with e | e
    · exact h.ap g e he
    · have := h.lt g (List.mem_append_right _ he); omega
  have hlt : MLt w2.heap.size (Sx.M { x with tr := tr', cl := cl' } b ++ E) := fun q hq => by
    rcases List.mem_append.1 hq with e | e
    · simp only [Sx.M, List.mem_cons, List.not_mem_nil, or_false] at e
      rcases e with e | e | e
      · cases e; exact lt_of_obj hb
      · exact hO.lt e.symm
      · exact hT.lt e.symm
    · exact Nat.lt_of_lt_of_le (h.lt q (List.mem_append_right _ e)) F.size
  exact ⟨{ blk := hb, t := h.t.gr GE, st := h.st, e := h.e.gr GE hn, at_ := h.at_, v := h.v.gr GE hn, fr := h.fr.gr GE hn, cl := ⟨rows, hO, fun p hp => (hr p hp).gr GE lR, hc⟩, inp := RowsAt.gr h.inp GE (fun e => h.inpM (map_ne e)), inpM := fun hne => GE.out (by obtain ⟨n, r, hr⟩ := List.exists_cons_of_ne_nil hne; have := h.inp.get (i := 0) (n := n) (by rw [hr]; rfl); exact cell_lt this) (h.inpM hne), ok := h.ok, tr := hT, n := h.n, kn := h.kn, ap := hap, lt := hlt }, G⟩
end
theorem XAt.h5 {M : List (Option Nat)} {nc : Nat} {w : World} {k n : Int} {nm : ByteArray} {kv fp kp : Value} {y : X} (h : XAt M nc w .v (V7 k n nm kv fp kp) y) (hk : k = 5) : 0 ≤ n ∧ n < nc := by
  obtain ⟨_, _, _, _, _, _, _, _, _, e, _, _, _, _, h5, _⟩ := h.vinv
  injection e with e1 e2; injection e1 with _ e1; injection e2 with e2 _; injection e2 with _ e2
  subst e1 e2; exact h5 hk
theorem StA.cellAt {E : List (Option Nat)} {b i : Nat} {x : Sx} {w : World} {s : SS} (h : StA E b x w s) (hi : i < s.cells.length) : ∃ k n nm kv fp kp, CellsAt w (vBlock x.cl) (vOff x.cl + i * 7) (V7 k n nm kv fp kp).toArray ∧ XAt (x.M b ++ E) s.cells.length w .v (V7 k n nm kv fp kp) (s.cells.getD i .nil) := by
  obtain ⟨rows, h1, h2, h3⟩ := h.cl
  have hl : i < rows.length := by rw [← h3, List.length_map] at hi; exact hi
  have hz : ∀ z ∈ rows, (pC z).size = 7 := fun z hz => by obtain ⟨_, _, _, _, _, _, _, _, _, e, _⟩ := (h2 z hz).vinv; simp [pC, e]
  have hu := List.getElem?_eq_getElem hl
  have h4 := h2 rows[i] (List.getElem_mem hl)
  obtain ⟨k, n, nm, kv, fp, kp, _, _, _, e, _⟩ := h4.vinv
  have e2 : s.cells.getD i .nil = rows[i].2 := by rw [← h3]; simp [hu]
  have h5 := (OwnR.rows h1 hz).row hu
  refine ⟨k, n, nm, kv, fp, kp, ?_, ?_⟩
  · rw [← e]; exact h5
  · rw [← e, e2]; exact h4
section
variable {P : Program} {N : Nat} {ds : List Deferred} {L : List (Nat × Value)} {w : World} {ops : Array Oper} {Q : Exit → Act → World → Prop} {rest : List Oper} {d : Nat}
  {ty : TypeId} {pos : String} {aft : Array Edge} {x_ y : Operand} {E : List (Option Nat)} {b : Nat} {x : Sx} {s : SS}
theorem inM (x : Sx) (b : Nat) : some b ∈ x.M b ∧ (∀ g, x.cl.ownBlock = some g → some g ∈ x.M b) ∧ ∀ g, x.tr.ownBlock = some g → some g ∈ x.M b := ⟨by simp [Sx.M], fun g h => by simp [Sx.M, h], fun g h => by simp [Sx.M, h]⟩
theorem cs_tr (x : Sx) (tr' : Value) (h1 : tr'.oneCell' = true) (hz : x.t.cs.size = 21) : splice x.cs 38 tr'.cells = Sx.cs { x with tr := tr' } := by
  rw [cells_one h1]; exact mx_set (j := 17) hz rfl rfl (by show 17 + 1 ≤ 20; omega)
theorem cs_cl (x : Sx) (cl' : Value) (h1 : cl'.oneCell' = true) (hz : x.t.cs.size = 21) : splice x.cs 31 cl'.cells = Sx.cs { x with cl := cl' } := by
  rw [cells_one h1]; exact mx_set (j := 10) hz rfl rfl (by show 10 + 1 ≤ 20; omega)
theorem At.stTr {t : TypeId} {w1 : World} {v' : Value} {n : Int} {o : Nat} (hx : ev L x_ = some (.pointer (some ⟨b, o, none⟩))) (ho : o = 38) (hy : ev L y = some v') (hS : StA E b x w s) (hA : AppR w w1 x.tr v') (hO : Own w1 3 1 v' (s.tr.length + 1) (s.tr.map (Value.int .i64) ++ [.int .i64 n])) (hs : sizeB P t = some 1)
    (k : ∀ w', StA E b { x with tr := v' } w' { s with tr := s.tr ++ [n] } → Gr (x.M b) w (Sx.M { x with tr := v' } b) w' → At N ds L (wpList P ops Q rest) w') :
    At N ds L (wpList P ops Q (⟨none, .store t x_ y, ty, pos, aft, none⟩ :: rest)) w1 := by
  subst ho
  obtain ⟨rows, h1, h2, h3⟩ := hS.cl
  obtain ⟨a1, a2⟩ := hS.apart
  have hb1 := hA.old hS.blk a2
  have one := hO.one
  refine At.store hx hy hb1 (by rw [cells_one one]; exact hs) (by rw [cells_one one, Sx.cs, mx_size hS.tsz]; show 38 + 1 ≤ 0 + (21 + 20); omega) (by rw [cells_one one]; simpa using one) fun w' S => ?_
  rw [cs_tr x v' one hS.tsz] at S
  have F : Fr (fun k => some k ∈ x.M b) w w' := ((Fr.refl _ w).appF hA fun g hg => .inl ((inM x b).2.2 g hg)).setF S (.inl (inM x b).1)
  have e1 : (s.tr ++ [n]).length = s.tr.length + 1 := by simp
  have e2 : (s.tr ++ [n]).map (Value.int .i64) = s.tr.map (Value.int .i64) ++ [.int .i64 n] := by simp
  obtain ⟨a, b'⟩ := hS.rows (tr' := v') (cl' := x.cl) (cells' := s.cells) (trl := s.tr ++ [n]) F S.new hA.blk (.inl rfl) (Own.set (Own.keepT hA hS.tr h1 rfl) S a1) h2 h3 (by rw [e1, e2]; exact Own.set hO S (hO.neT hb1 rfl)) lR
  exact k w' a b'
theorem At.stCell {t : TypeId} {i o : Nat} {c n : Int} {nm : ByteArray} {kv fp kp : Value} {v : X} (hx : ev L x_ = some (.pointer (some ⟨vBlock x.cl, o, none⟩))) (ho : o = vOff x.cl + i * 7) (hy : ev L y = some (.agg (V7 c n nm kv fp kp).toArray)) (hS : StA E b x w s) (hi : i < s.cells.length) (hs : sizeB P t = some 7)
    (hv : XAt (x.M b ++ E) s.cells.length w .v (V7 c n nm kv fp kp) v)
    (k : ∀ w', StA E b x w' { s with cells := s.cells.set i v } → Gr (x.M b) w (x.M b) w' → At N ds L (wpList P ops Q rest) w') :
    At N ds L (wpList P ops Q (⟨none, .store t x_ y, ty, pos, aft, none⟩ :: rest)) w := by
  obtain ⟨rows, h1, h2, h3⟩ := hS.cl
  obtain ⟨a1, a2⟩ := hS.apart
  have hl : i < rows.length := by rw [← h3, List.length_map] at hi; exact hi
  have hz : ∀ z ∈ rows, (pC z).size = 7 := fun z hz => by obtain ⟨_, _, _, _, _, _, _, _, _, e, _⟩ := (h2 z hz).vinv; simp [pC, e]
  refine At.storeRow (f := pC) (i := i) (off := 0) (V7 c n nm kv fp kp, v) hx hy h1 (List.getElem?_eq_getElem hl) hz (by rw [ho, Nat.add_zero]) hs (splice_all (by rw [hz _ (List.getElem_mem hl)]; rfl)).symm (by show 0 + 7 ≤ 7; omega) hv.vone fun w' hO hA => ?_
  have F : Fr (fun k => some k ∈ x.M b) w w' := (Fr.refl _ w).appF hA fun g hg => .inl ((inM x b).2.1 g hg)
  obtain ⟨a, b'⟩ := hS.rows (tr' := x.tr) (cl' := x.cl) (cells' := s.cells.set i v) (trl := s.tr) F (hA.old hS.blk a1) (.inl rfl) (.inl rfl) hO (fun p hp => by
    rw [List.length_set]
    rcases List.mem_or_eq_of_mem_set hp with e | e
    · exact h2 p e
    · subst e; exact hv) (by rw [List.map_set, h3]) (Own.keepT hA h1 hS.tr rfl) (by rw [List.length_set]; exact Nat.le_refl _)
  exact k w' a b'
end
theorem ag78 : aggB Tryz.prog 78 = some false := by kernel_rfl
theorem by3 : bytesB Tryz.prog 3 = some 8 := by kernel_rfl
theorem by82 : bytesB Tryz.prog 82 = some 96 := by kernel_rfl
theorem el78 : elemB Tryz.prog 78 = some 82 := by kernel_rfl
theorem en140 : entB Tryz.prog 140 = true := by kernel_rfl
theorem en141 : entB Tryz.prog 141 = true := by kernel_rfl
theorem en43 : entB Tryz.prog 43 = true := by kernel_rfl
theorem fo49_1 : fieldB Tryz.prog 49 1 = some (5, 1) := by kernel_rfl
theorem fo84_5 : fieldB Tryz.prog 84 5 = some (31, 1) := by kernel_rfl
theorem sz78 : sizeB Tryz.prog 78 = some 1 := by kernel_rfl
theorem cell_any {E : List (Option Nat)} {b : Nat} {x : Sx} {s : SS} {k n : Int} {nm : ByteArray} {kv fp kp : Value} {vx : X} (w : World) (hM : StA E b x w s) (hv : XAt (x.M b ++ E) s.cells.length w .v (V7 k n nm kv fp kp) vx) (hk : k = 5) (h5 : 0 ≤ n ∧ n < s.cells.length) :
    Calls Tryz.prog 140 ([.pointer (some ⟨b, 0, none⟩), .agg #[.int .i64 k, .int .i64 n, .string nm, zN, kv, fp, kp]] : List Value).toArray w fun r w' => r = .returned (.pointer (some ⟨vBlock x.cl, vOff x.cl + n.toNat * 7, none⟩)) ∧ Below w.heap.size w w' := by
  have hnn : n = (n.toNat : Int) := by omega
  have hG := Gr.refl (x.M b) w
  have hW := Gr.refl [] w
  refine At.enter (N := 17) Tryz.func140 rfl rfl (by simp) [(0, .pointer (some ⟨b, 0, none⟩)), (1, .agg #[.int .i64 k, .int .i64 n, .string nm, zN, kv, fp, kp])] (by simp) ?_
  refine .seq (.region ?_)
  refine At.box rfl rfl (fun b1 w1 F1 => ?_)
  have mb1 := hM.newM F1
  have hb1 : w1.heap[b1]? = some (.cells #[.int .i64 k, .int .i64 n, .string nm, zN, kv, fp, kp] 82) := F1.new
  replace hW := hW.below F1.bel
  replace hM := hM.below F1.bel
  refine .assign rfl rfl (.ops0 (.thenN (.seq (.seq (.region (.fieldAddr rfl fo82_0 rfl (.fieldAddr rfl fo45_0 rfl (.load rfl (Ld.ownCell ag3 hb1 rfl) rfl (.neI rfl rfl rfl (.ops0 (.thenN ?_)))))))))))
  refine At.cond (b := (!decide (k = 5))) rfl (fun hc1 => ?_) (fun hc1 => ?_)
  · skip
    have hc1' := hc1; simp only [Bool.not_eq_true', Bool.not_eq_false', decide_eq_true_eq, decide_eq_false_iff_not] at hc1'
    refine .seq (.region (.assign rfl rfl (.ops0 (.thenN (.retc (.thenR (.doneR (ResV.tmp rfl ResV.nil) ?_)))))))
    exact absurd hk (by simpa using hc1)
  · skip
    have hc1' := hc1; simp only [Bool.not_eq_true', Bool.not_eq_false', decide_eq_true_eq, decide_eq_false_iff_not] at hc1'
    refine .skip (.thenN (.seq (.drawG (n := 9) mixed (by kernel_rfl) rfl (PanicOk.then PanicOk.body) ?_)))
    replace hW := hW.drew
    replace hM := hM.drew
    have hb1 : _ := (show w1.drew.heap[b1]? = _ from hb1)
    refine At.wpcS (i := 0) (d := 9) (.pointer (some ⟨b, 0, none⟩)) (by kernel_rfl) rfl rfl rfl (fun Lx => ?_) ?_
    · skip
      exact .move rfl rfl (.ops0 fun a ha => ⟨ha, rfl⟩)
    refine At.wpcS (i := 1) (d := 10) (.pointer (some ⟨b, 0, none⟩)) (by kernel_rfl) rfl rfl rfl (fun Lx => ?_) ?_
    · skip
      exact .nilCheck rfl rfl (.ops0 fun a ha => ⟨ha, rfl⟩)
    refine At.wpcS (i := 2) (d := 11) (.pointer (some ⟨b, 0 + 31, none⟩)) (by kernel_rfl) rfl rfl rfl (fun Lx => ?_) ?_
    · skip
      exact .fieldAddr rfl fo84_5 rfl (.ops0 fun a ha => ⟨ha, rfl⟩)
    obtain ⟨cr, hz1, hz2, hz3⟩ := hM.cl; have hcl : cr.length = s.cells.length := by rw [← List.length_map, hz3]
    refine At.wpcS (i := 3) (d := 12) (x.cl) (by kernel_rfl) rfl rfl rfl (fun Lx => ?_) ?_
    · skip
      exact .load rfl (Ld.ownCell ag78 hM.blk (mx_at (j := 10) hM.tsz rfl rfl)) rfl (.ops0 fun a ha => ⟨ha, rfl⟩)
    refine At.wpcS (i := 4) (d := 13) (.pointer (some ⟨b1, 0 + 0, none⟩)) (by kernel_rfl) rfl rfl rfl (fun Lx => ?_) ?_
    · skip
      exact .fieldAddr rfl fo82_0 rfl (.ops0 fun a ha => ⟨ha, rfl⟩)
    refine At.wpcS (i := 5) (d := 14) (.pointer (some ⟨b1, 0 + 0 + 1, none⟩)) (by kernel_rfl) rfl rfl rfl (fun Lx => ?_) ?_
    · skip
      exact .fieldAddr rfl fo45_1 rfl (.ops0 fun a ha => ⟨ha, rfl⟩)
    refine At.wpcS (i := 6) (d := 15) (.int .i64 (n.toNat : Int)) (by kernel_rfl) rfl rfl rfl (fun Lx => ?_) ?_
    · skip
      refine .load rfl (Ld.ownCell ag3 hb1 rfl) rfl (.set (d := 15) (u := .int .i64 (n.toNat : Int)) rfl (congrArg (Value.int .i64) hnn) (.ops0 ?_))
      exact fun a ha => ⟨Is.dup ha, rfl⟩
    refine At.wpcS (i := 7) (d := 16) (.pointer (some ⟨vBlock x.cl, vOff x.cl + n.toNat * 7, none⟩)) (by kernel_rfl) rfl rfl rfl (fun Lx => ?_) ?_
    · skip
      exact .indexAddr (i := n.toNat) (n := s.cells.length) rfl rfl (hcl ▸ Own.slOk hz1) (by omega) el78 sz82 rfl (.ops0 fun a ha => ⟨ha, rfl⟩)
    refine At.wpcE [8] (by kernel_rfl) (by kernel_rfl) (.cons [] rfl (by kernel_rfl) ?_ .nil)
    refine .assign rfl rfl (.ops0 (.wpcN .nil (.wpcZ (.thenN (.retc (.doneR (ResV.tmp rfl ResV.nil) ?_))))))
    exact ⟨rfl, hW.base⟩
theorem op0_any {E : List (Option Nat)} {b : Nat} {x : Sx} {s : SS} {dv : Value} (nm : ByteArray) (w : World) (hM : StA E b x w s) (hd : Vs (x.M b ++ E) s.cells.length w dv ([] : List (List Value × X))) (hlt : s.tr.length ≤ 1000000000000) (hlc : s.cells.length ≤ 1000000000000) :
    Calls Tryz.prog 139 ([.pointer (some ⟨b, 0, none⟩), .string nm, dv] : List Value).toArray w (Pst E b x w (opF s nm (([] : List (List Value × X)).map Prod.snd))) := by
  have hG := Gr.refl (x.M b) w
  refine At.enter (N := 175) Tryz.func139 rfl rfl (by simp) [(0, .pointer (some ⟨b, 0, none⟩)), (1, .string nm), (2, dv)] (by simp) ?_
  refine .seq (.region (.assign rfl rfl (.ops0 (.thenN (.seq (.block (.seq (.region ?_))))))))
  refine At.join [(0, .pointer (some ⟨b, 0, none⟩)), (1, .string nm), (2, dv), (9, .bool false)] (fun w' => w = w') ?_ (fun w1 hS => ?_)
  · skip
    refine .move rfl rfl (.eqS rfl rfl rfl (.move rfl rfl ?_))
    refine At.cases (decide (nm = (⟨#[112, 114, 105, 110, 116]⟩ : ByteArray))) (fun hg1 => ?_) (fun hg1 => ?_)
    · skip
      refine .set (d := 12) (u := .bool true) rfl (congrArg Value.bool hg1) ?_
      have hg1' := of_decide_eq_true hg1
      refine .yes rfl rfl rfl rfl (.move rfl rfl (.yes rfl rfl rfl rfl (.lenSl (n := 0) rfl (hd).ok el78 rfl (.yes rfl rfl rfl rfl (.eqI rfl rfl rfl (.set (d := 15) (u := .bool false) rfl (congrArg Value.bool (by simp)) (.pickT rfl rfl rfl (.move rfl rfl (.no rfl rfl rfl rfl rfl rfl rfl (.no rfl rfl rfl rfl rfl rfl rfl (.no rfl rfl rfl rfl rfl rfl rfl (.no rfl rfl rfl rfl rfl rfl rfl (.no rfl rfl rfl rfl rfl rfl rfl (.no rfl rfl rfl rfl rfl rfl rfl (.pickF rfl rfl rfl (.assign rfl rfl ?_))))))))))))))))
      exact At.joined (sC rfl (sC rfl (sC rfl (sC rfl sN)))) rfl
    · skip
      refine .set (d := 12) (u := .bool false) rfl (congrArg Value.bool hg1) ?_
      have hg1' := of_decide_eq_false hg1
      refine .no rfl rfl rfl rfl rfl rfl rfl (.no rfl rfl rfl rfl rfl rfl rfl (.no rfl rfl rfl rfl rfl rfl rfl (.pickF rfl rfl rfl (.move rfl rfl (.no rfl rfl rfl rfl rfl rfl rfl (.no rfl rfl rfl rfl rfl rfl rfl (.no rfl rfl rfl rfl rfl rfl rfl (.no rfl rfl rfl rfl rfl rfl rfl (.no rfl rfl rfl rfl rfl rfl rfl (.no rfl rfl rfl rfl rfl rfl rfl (.pickF rfl rfl rfl (.assign rfl rfl ?_))))))))))))
      exact At.joined (sC rfl (sC rfl (sC rfl (sC rfl sN)))) rfl
  · skip
    subst hS
    refine .thenN (.condF rfl (.seq (.region ?_)))
    refine At.join [(0, .pointer (some ⟨b, 0, none⟩)), (1, .string nm), (2, dv), (44, .bool false)] (fun w' => w = w') ?_ (fun w2 hS => ?_)
    · skip
      refine .move rfl rfl (.eqS rfl rfl rfl (.move rfl rfl ?_))
      refine At.cases (decide (nm = (⟨#[114, 101, 102]⟩ : ByteArray))) (fun hg2 => ?_) (fun hg2 => ?_)
      · skip
        refine .set (d := 47) (u := .bool true) rfl (congrArg Value.bool hg2) ?_
        have hg2' := of_decide_eq_true hg2
        refine .yes rfl rfl rfl rfl (.move rfl rfl (.yes rfl rfl rfl rfl (.lenSl (n := 0) rfl (hd).ok el78 rfl (.yes rfl rfl rfl rfl (.eqI rfl rfl rfl (.set (d := 50) (u := .bool false) rfl (congrArg Value.bool (by simp)) (.pickT rfl rfl rfl (.assign rfl rfl ?_))))))))
        exact At.joined (sC rfl (sC rfl (sC rfl (sC rfl sN)))) rfl
      · skip
        refine .set (d := 47) (u := .bool false) rfl (congrArg Value.bool hg2) ?_
        have hg2' := of_decide_eq_false hg2
        refine .no rfl rfl rfl rfl rfl rfl rfl (.no rfl rfl rfl rfl rfl rfl rfl (.no rfl rfl rfl rfl rfl rfl rfl (.pickF rfl rfl rfl (.assign rfl rfl ?_))))
        exact At.joined (sC rfl (sC rfl (sC rfl (sC rfl sN)))) rfl
    · skip
      subst hS
      refine .thenN (.condF rfl (.seq (.region ?_)))
      refine At.join [(0, .pointer (some ⟨b, 0, none⟩)), (1, .string nm), (2, dv), (75, .bool false)] (fun w' => w = w') ?_ (fun w3 hS => ?_)
      · skip
        refine .move rfl rfl (.eqS rfl rfl rfl (.move rfl rfl ?_))
        refine At.cases (decide (nm = (⟨#[33]⟩ : ByteArray))) (fun hg3 => ?_) (fun hg3 => ?_)
        · skip
          refine .set (d := 78) (u := .bool true) rfl (congrArg Value.bool hg3) ?_
          have hg3' := of_decide_eq_true hg3
          refine .yes rfl rfl rfl rfl (.move rfl rfl (.yes rfl rfl rfl rfl (.lenSl (n := 0) rfl (hd).ok el78 rfl (.yes rfl rfl rfl rfl (.eqI rfl rfl rfl (.set (d := 81) (u := .bool false) rfl (congrArg Value.bool (by simp)) (.pickT rfl rfl rfl (.move rfl rfl (.no rfl rfl rfl rfl rfl rfl rfl (.no rfl rfl rfl rfl rfl rfl rfl (.no rfl rfl rfl rfl rfl rfl rfl (.no rfl rfl rfl rfl rfl rfl rfl (.no rfl rfl rfl rfl rfl rfl rfl (.no rfl rfl rfl rfl rfl rfl rfl (.pickF rfl rfl rfl (.assign rfl rfl ?_))))))))))))))))
          exact At.joined (sC rfl (sC rfl (sC rfl (sC rfl sN)))) rfl
        · skip
          refine .set (d := 78) (u := .bool false) rfl (congrArg Value.bool hg3) ?_
          have hg3' := of_decide_eq_false hg3
          refine .no rfl rfl rfl rfl rfl rfl rfl (.no rfl rfl rfl rfl rfl rfl rfl (.no rfl rfl rfl rfl rfl rfl rfl (.pickF rfl rfl rfl (.move rfl rfl (.no rfl rfl rfl rfl rfl rfl rfl (.no rfl rfl rfl rfl rfl rfl rfl (.no rfl rfl rfl rfl rfl rfl rfl (.no rfl rfl rfl rfl rfl rfl rfl (.no rfl rfl rfl rfl rfl rfl rfl (.no rfl rfl rfl rfl rfl rfl rfl (.pickF rfl rfl rfl (.assign rfl rfl ?_))))))))))))
          exact At.joined (sC rfl (sC rfl (sC rfl (sC rfl sN)))) rfl
      · skip
        subst hS
        refine .thenN (.condF rfl (.seq (.region ?_)))
        refine At.join [(0, .pointer (some ⟨b, 0, none⟩)), (1, .string nm), (2, dv), (100, .bool false)] (fun w' => w = w') ?_ (fun w4 hS => ?_)
        · skip
          refine .move rfl rfl (.eqS rfl rfl rfl (.move rfl rfl ?_))
          refine At.cases (decide (nm = (⟨#[58, 61]⟩ : ByteArray))) (fun hg4 => ?_) (fun hg4 => ?_)
          · skip
            refine .set (d := 103) (u := .bool true) rfl (congrArg Value.bool hg4) ?_
            have hg4' := of_decide_eq_true hg4
            refine .yes rfl rfl rfl rfl (.move rfl rfl (.yes rfl rfl rfl rfl (.lenSl (n := 0) rfl (hd).ok el78 rfl (.yes rfl rfl rfl rfl (.eqI rfl rfl rfl (.set (d := 106) (u := .bool false) rfl (congrArg Value.bool (by simp)) (.pickT rfl rfl rfl (.move rfl rfl (.no rfl rfl rfl rfl rfl rfl rfl (.no rfl rfl rfl rfl rfl rfl rfl (.no rfl rfl rfl rfl rfl rfl rfl (.no rfl rfl rfl rfl rfl rfl rfl (.no rfl rfl rfl rfl rfl rfl rfl (.no rfl rfl rfl rfl rfl rfl rfl (.pickF rfl rfl rfl (.assign rfl rfl ?_))))))))))))))))
            exact At.joined (sC rfl (sC rfl (sC rfl (sC rfl sN)))) rfl
          · skip
            refine .set (d := 103) (u := .bool false) rfl (congrArg Value.bool hg4) ?_
            have hg4' := of_decide_eq_false hg4
            refine .no rfl rfl rfl rfl rfl rfl rfl (.no rfl rfl rfl rfl rfl rfl rfl (.no rfl rfl rfl rfl rfl rfl rfl (.pickF rfl rfl rfl (.move rfl rfl (.no rfl rfl rfl rfl rfl rfl rfl (.no rfl rfl rfl rfl rfl rfl rfl (.no rfl rfl rfl rfl rfl rfl rfl (.no rfl rfl rfl rfl rfl rfl rfl (.no rfl rfl rfl rfl rfl rfl rfl (.no rfl rfl rfl rfl rfl rfl rfl (.pickF rfl rfl rfl (.assign rfl rfl ?_))))))))))))
            exact At.joined (sC rfl (sC rfl (sC rfl (sC rfl sN)))) rfl
        · skip
          subst hS
          refine .thenN (.condF rfl (.seq (.region ?_)))
          refine At.join [(0, .pointer (some ⟨b, 0, none⟩)), (1, .string nm), (2, dv), (128, .bool false)] (fun w' => w = w') ?_ (fun w5 hS => ?_)
          · skip
            refine .move rfl rfl (.lenSl (n := 0) rfl (hd).ok el78 rfl (.eqI rfl rfl rfl (.set (d := 131) (u := .bool false) rfl (congrArg Value.bool (by simp)) (.move rfl rfl (.no rfl rfl rfl rfl rfl rfl rfl (.no rfl rfl rfl rfl rfl rfl rfl (.no rfl rfl rfl rfl rfl rfl rfl (.no rfl rfl rfl rfl rfl rfl rfl (.no rfl rfl rfl rfl rfl rfl rfl (.no rfl rfl rfl rfl rfl rfl rfl (.pickF rfl rfl rfl (.move rfl rfl (.no rfl rfl rfl rfl rfl rfl rfl (.no rfl rfl rfl rfl rfl rfl rfl (.no rfl rfl rfl rfl rfl rfl rfl (.no rfl rfl rfl rfl rfl rfl rfl (.no rfl rfl rfl rfl rfl rfl rfl (.no rfl rfl rfl rfl rfl rfl rfl (.pickF rfl rfl rfl (.assign rfl rfl ?_))))))))))))))))))))
            exact At.joined (sC rfl (sC rfl (sC rfl (sC rfl sN)))) rfl
          · skip
            subst hS
            refine .thenN (.condF rfl (.skip (.inN (.thenN (.seq (.region (.assign rfl rfl (.ops0 (.thenN (.retc (.doneR (ResV.tmp rfl ResV.nil) ?_)))))))))))
            exact Pst.fin (by simp only [opF, List.map_cons, List.map_nil, Bool.and_true, Bool.and_false, Bool.true_and, Bool.false_and, cond_true, cond_false] <;> rfl) hM hG
theorem op1_any {E : List (Option Nat)} {b : Nat} {x : Sx} {s : SS} {p : List Value × X} {dv : Value} (nm : ByteArray) (w : World) (hM : StA E b x w s) (hd : Vs (x.M b ++ E) s.cells.length w dv [p]) (hlt : s.tr.length ≤ 1000000000000) (hlc : s.cells.length ≤ 1000000000000) :
    Calls Tryz.prog 139 ([.pointer (some ⟨b, 0, none⟩), .string nm, dv] : List Value).toArray w (Pst E b x w (opF s nm ([p].map Prod.snd))) := by
  have hG := Gr.refl (x.M b) w
  refine At.enter (N := 175) Tryz.func139 rfl rfl (by simp) [(0, .pointer (some ⟨b, 0, none⟩)), (1, .string nm), (2, dv)] (by simp) ?_
  have hup : [p][0]? = some p := rfl
  obtain ⟨kp, np, mp, vp, fp, qp, ep, hvp, ekp, enp, emp⟩ := hd.get hup
  refine .seq (.region (.assign rfl rfl (.ops0 (.thenN (.seq (.block (.seq (.region ?_))))))))
  refine At.join [(0, .pointer (some ⟨b, 0, none⟩)), (1, .string nm), (2, dv), (9, .bool (decide (nm = (⟨#[112, 114, 105, 110, 116]⟩ : ByteArray)) && decide (kp = 1)))] (fun w' => w = w') ?_ (fun w1 hS => ?_)
  · skip
    refine .move rfl rfl (.eqS rfl rfl rfl (.move rfl rfl ?_))
    refine At.cases (decide (nm = (⟨#[112, 114, 105, 110, 116]⟩ : ByteArray))) (fun hg1 => ?_) (fun hg1 => ?_)
    · skip
      refine .set (d := 12) (u := .bool true) rfl (congrArg Value.bool hg1) ?_
      have hg1' := of_decide_eq_true hg1
      refine .yes rfl rfl rfl rfl (.move rfl rfl (.yes rfl rfl rfl rfl (.lenSl (n := 1) rfl (hd).ok el78 rfl (.yes rfl rfl rfl rfl (.eqI rfl rfl rfl (.set (d := 15) (u := .bool true) rfl (congrArg Value.bool (by simp)) (.pickT rfl rfl rfl (.move rfl rfl (.yes rfl rfl rfl rfl (.move rfl rfl (.yes rfl rfl rfl rfl (.indexAddr (i := 0) rfl rfl (hd).ok (lt_of_some hup) el78 sz82 rfl (.yes rfl rfl rfl rfl (.fieldAddr rfl fo82_0 rfl (.yes rfl rfl rfl rfl (.fieldAddr rfl fo45_0 rfl (.yes rfl rfl rfl rfl (.load rfl (Ld.cell ag3 ((((hd.gr hG.ext lR)).cells hup ep).get rfl)) rfl (.yes rfl rfl rfl rfl (.eqI rfl rfl rfl (.pickT rfl rfl rfl (.assign rfl rfl ?_))))))))))))))))))))))
      exact At.joined (sC rfl (sC rfl (sC rfl (Sub.cons (by show some (Value.bool (decide (kp = 1))) = some (Value.bool (decide (nm = (⟨#[112, 114, 105, 110, 116]⟩ : ByteArray)) && decide (kp = 1))); rw [hg1] <;> rfl) sN)))) rfl
    · skip
      refine .set (d := 12) (u := .bool false) rfl (congrArg Value.bool hg1) ?_
      have hg1' := of_decide_eq_false hg1
      refine .no rfl rfl rfl rfl rfl rfl rfl (.no rfl rfl rfl rfl rfl rfl rfl (.no rfl rfl rfl rfl rfl rfl rfl (.pickF rfl rfl rfl (.move rfl rfl (.no rfl rfl rfl rfl rfl rfl rfl (.no rfl rfl rfl rfl rfl rfl rfl (.no rfl rfl rfl rfl rfl rfl rfl (.no rfl rfl rfl rfl rfl rfl rfl (.no rfl rfl rfl rfl rfl rfl rfl (.no rfl rfl rfl rfl rfl rfl rfl (.pickF rfl rfl rfl (.assign rfl rfl ?_))))))))))))
      exact At.joined (sC rfl (sC rfl (sC rfl (Sub.cons (by show some (Value.bool false) = some (Value.bool (decide (nm = (⟨#[112, 114, 105, 110, 116]⟩ : ByteArray)) && decide (kp = 1))); rw [hg1] <;> rfl) sN)))) rfl
  · skip
    subst hS
    refine .thenN ?_
    refine At.cond (b := (decide (nm = (⟨#[112, 114, 105, 110, 116]⟩ : ByteArray)) && decide (kp = 1))) rfl (fun hc1 => ?_) (fun hc1 => ?_)
    · skip
      refine .seq (.drawG (n := 17) mixed (by kernel_rfl) rfl (PanicOk.then (PanicOk.block (PanicOk.then PanicOk.body))) ?_)
      replace hG := hG.drew
      replace hM := hM.drew
      refine At.wpcS (i := 0) (d := 25) (.pointer (some ⟨b, 0, none⟩)) (by kernel_rfl) rfl rfl rfl (fun Lx => ?_) ?_
      · skip
        exact .move rfl rfl (.ops0 fun a ha => ⟨ha, rfl⟩)
      refine At.wpcS (i := 1) (d := 26) (.pointer (some ⟨b, 0, none⟩)) (by kernel_rfl) rfl rfl rfl (fun Lx => ?_) ?_
      · skip
        exact .move rfl rfl (.ops0 fun a ha => ⟨ha, rfl⟩)
      refine At.wpcS (i := 2) (d := 27) (.pointer (some ⟨b, 0, none⟩)) (by kernel_rfl) rfl rfl rfl (fun Lx => ?_) ?_
      · skip
        exact .nilCheck rfl rfl (.ops0 fun a ha => ⟨ha, rfl⟩)
      refine At.wpcS (i := 3) (d := 28) (.pointer (some ⟨b, 0 + 33, none⟩)) (by kernel_rfl) rfl rfl rfl (fun Lx => ?_) ?_
      · skip
        exact .fieldAddr rfl fo84_7 rfl (.ops0 fun a ha => ⟨ha, rfl⟩)
      refine At.wpcS (i := 4) (d := 29) (.pointer (some ⟨b, 0 + 33 + 5, none⟩)) (by kernel_rfl) rfl rfl rfl (fun Lx => ?_) ?_
      · skip
        exact .fieldAddr rfl fo49_1 rfl (.ops0 fun a ha => ⟨ha, rfl⟩)
      refine At.wpcS (i := 5) (d := 30) (x.tr) (by kernel_rfl) rfl rfl rfl (fun Lx => ?_) ?_
      · skip
        exact .load rfl (Ld.ownCell ag32 hM.blk (mx_at (j := 17) hM.tsz rfl rfl)) rfl (.ops0 fun a ha => ⟨ha, rfl⟩)
      refine At.wpcS (i := 6) (d := 31) (dv) (by kernel_rfl) rfl rfl rfl (fun Lx => ?_) ?_
      · skip
        exact .move rfl rfl (.ops0 fun a ha => ⟨ha, rfl⟩)
      refine At.wpcS (i := 7) (d := 32) (.pointer (some ⟨vBlock dv, vOff dv + 0 * 7, none⟩)) (by kernel_rfl) rfl rfl rfl (fun Lx => ?_) ?_
      · skip
        exact .indexAddr (i := 0) rfl rfl (hd).ok (lt_of_some hup) el78 sz82 rfl (.ops0 fun a ha => ⟨ha, rfl⟩)
      refine At.wpcS (i := 8) (d := 33) (.pointer (some ⟨vBlock dv, vOff dv + 0 * 7 + 0, none⟩)) (by kernel_rfl) rfl rfl rfl (fun Lx => ?_) ?_
      · skip
        exact .fieldAddr rfl fo82_0 rfl (.ops0 fun a ha => ⟨ha, rfl⟩)
      refine At.wpcS (i := 9) (d := 34) (.pointer (some ⟨vBlock dv, vOff dv + 0 * 7 + 0 + 1, none⟩)) (by kernel_rfl) rfl rfl rfl (fun Lx => ?_) ?_
      · skip
        exact .fieldAddr rfl fo45_1 rfl (.ops0 fun a ha => ⟨ha, rfl⟩)
      refine At.wpcS (i := 10) (d := 35) (.int .i64 np) (by kernel_rfl) rfl rfl rfl (fun Lx => ?_) ?_
      · skip
        exact .load rfl (Ld.cell ag3 ((((hd.gr hG.ext lR)).cells hup ep).get rfl)) rfl (.ops0 fun a ha => ⟨ha, rfl⟩)
      refine At.wpcE [11] (by kernel_rfl) (by kernel_rfl) (.cons [0, 1, 2, 3, 4, 5] rfl (by kernel_rfl) ?_ .nil)
      refine At.buildSlice (xs := [.tmp 35]) rfl rfl el32 sz3 ze3 (by intro v hv; simp only [List.mem_cons, List.not_mem_nil, or_false] at hv; rcases hv with rfl; rfl) rfl (by decide) rfl (fun b1 w2 F1 => ?_)
      have hb1 : w2.heap[b1]? = some (.cells #[.int .i64 np] 3) := F1.new
      replace hG := hG.below F1.bel
      replace hM := hM.below F1.bel
      refine .ops0 ?_
      refine At.wpcN (.cons rfl rfl rfl rfl (fun Lx => ?_) (.cons rfl rfl rfl rfl (fun Lx => ?_) (.cons rfl rfl rfl rfl (fun Lx => ?_) (.cons rfl rfl rfl rfl (fun Lx => ?_) (.cons rfl rfl rfl rfl (fun Lx => ?_) (.cons rfl rfl rfl rfl (fun Lx => ?_) .nil)))))) ?_
      · skip
        exact .move rfl rfl (.ops0 fun a ha => ⟨ha, rfl⟩)
      · skip
        exact .move rfl rfl (.ops0 fun a ha => ⟨ha, rfl⟩)
      · skip
        exact .nilCheck rfl rfl (.ops0 fun a ha => ⟨ha, rfl⟩)
      · skip
        exact .fieldAddr rfl fo84_7 rfl (.ops0 fun a ha => ⟨ha, rfl⟩)
      · skip
        exact .fieldAddr rfl fo49_1 rfl (.ops0 fun a ha => ⟨ha, rfl⟩)
      · skip
        exact .load rfl (Ld.ownCell ag32 hM.blk (mx_at (j := 17) hM.tsz rfl rfl)) rfl (.ops0 fun a ha => ⟨ha, rfl⟩)
      refine At.wpcE [12] (by kernel_rfl) (by kernel_rfl) (.cons [0] rfl (by kernel_rfl) ?_ .nil)
      refine At.append (xs := s.tr.map (Value.int .i64)) (n := s.tr.length) (m := 1) (news := [.int .i64 np]) rfl rfl el32 sz3 by3 ze3 rfl hM.tr (Src.rows (f := fun n : Int => #[Value.int .i64 n]) (l := [np]) el32 (IntsAt.own (l := [np]) hb1 rfl (by decide)) (by decide) (by simp [Value.oneCell'])) (by unfold maxLen; omega) (by omega) rfl (fun va1 w3 hO1 hA1 => ?_)
      refine .ops0 ?_
      refine At.wpcN (.cons rfl rfl rfl rfl (fun Lx => ?_) .nil) ?_
      · skip
        exact .move rfl rfl (.ops0 fun a ha => ⟨ha, rfl⟩)
      refine At.wpcS (i := 13) (d := 38) (.pointer (some ⟨b, 0, none⟩)) (by kernel_rfl) rfl rfl rfl (fun Lx => ?_) ?_
      · skip
        exact .nilCheck rfl rfl (.ops0 fun a ha => ⟨ha, rfl⟩)
      refine At.wpcS (i := 14) (d := 39) (.pointer (some ⟨b, 0 + 33, none⟩)) (by kernel_rfl) rfl rfl rfl (fun Lx => ?_) ?_
      · skip
        exact .fieldAddr rfl fo84_7 rfl (.ops0 fun a ha => ⟨ha, rfl⟩)
      refine At.wpcS (i := 15) (d := 40) (.pointer (some ⟨b, 0 + 33 + 5, none⟩)) (by kernel_rfl) rfl rfl rfl (fun Lx => ?_) ?_
      · skip
        exact .fieldAddr rfl fo49_1 rfl (.ops0 fun a ha => ⟨ha, rfl⟩)
      refine At.wpcE [16] (by kernel_rfl) (by kernel_rfl) (.cons [] rfl (by kernel_rfl) ?_ .nil)
      refine At.stTr rfl rfl rfl hM hA1 hO1 sz32 (fun w4 hM G1 => ?_)
      replace hG := hG.trans G1
      refine .ops0 (.wpcN .nil (.wpcZ (.thenN (.seq (.region (.move rfl rfl ?_))))))
      refine At.call en43 rfl rfl (unit_any _) (fun e w5 hR => ?_)
      obtain ⟨rfl, hbl1⟩ := hR
      refine ⟨_, rfl, ?_⟩
      replace hG := hG.below hbl1
      replace hM := hM.below hbl1
      refine At.callM en41 rfl rfl (has_any  _ hM XAt.vU) (fun x1 w6 hM G2 => ?_)
      replace hG := hG.trans G2
      refine .assign rfl rfl (.ops0 (.thenN (.retc (.inR (.thenR (.doneR (ResV.tmp rfl ResV.nil) ?_))))))
      exact Pst.fin (by simp only [opF, List.map_cons, List.map_nil, hc1, ekp, enp, Bool.and_true, Bool.and_false, Bool.true_and, Bool.false_and, cond_true, cond_false] <;> rfl) hM hG
    · skip
      refine .seq (.region ?_)
      refine At.join [(0, .pointer (some ⟨b, 0, none⟩)), (1, .string nm), (2, dv), (44, .bool (decide (nm = (⟨#[114, 101, 102]⟩ : ByteArray))))] (fun w' => w = w') ?_ (fun w7 hS => ?_)
      · skip
        refine .move rfl rfl (.eqS rfl rfl rfl (.move rfl rfl ?_))
        refine At.cases (decide (nm = (⟨#[114, 101, 102]⟩ : ByteArray))) (fun hg2 => ?_) (fun hg2 => ?_)
        · skip
          refine .set (d := 47) (u := .bool true) rfl (congrArg Value.bool hg2) ?_
          have hg2' := of_decide_eq_true hg2
          refine .yes rfl rfl rfl rfl (.move rfl rfl (.yes rfl rfl rfl rfl (.lenSl (n := 1) rfl (hd).ok el78 rfl (.yes rfl rfl rfl rfl (.eqI rfl rfl rfl (.set (d := 50) (u := .bool true) rfl (congrArg Value.bool (by simp)) (.pickT rfl rfl rfl (.assign rfl rfl ?_))))))))
          exact At.joined (sC rfl (sC rfl (sC rfl (Sub.cons (by show some (Value.bool true) = some (Value.bool (decide (nm = (⟨#[114, 101, 102]⟩ : ByteArray)))); rw [hg2] <;> rfl) sN)))) rfl
        · skip
          refine .set (d := 47) (u := .bool false) rfl (congrArg Value.bool hg2) ?_
          have hg2' := of_decide_eq_false hg2
          refine .no rfl rfl rfl rfl rfl rfl rfl (.no rfl rfl rfl rfl rfl rfl rfl (.no rfl rfl rfl rfl rfl rfl rfl (.pickF rfl rfl rfl (.assign rfl rfl ?_))))
          exact At.joined (sC rfl (sC rfl (sC rfl (Sub.cons (by show some (Value.bool false) = some (Value.bool (decide (nm = (⟨#[114, 101, 102]⟩ : ByteArray)))); rw [hg2] <;> rfl) sN)))) rfl
      · skip
        subst hS
        refine .thenN ?_
        refine At.cond (b := decide (nm = (⟨#[114, 101, 102]⟩ : ByteArray))) rfl (fun hc2 => ?_) (fun hc2 => ?_)
        · skip
          have hc2' := of_decide_eq_true hc2
          refine .seq (.drawG (n := 15) mixed (by kernel_rfl) rfl (PanicOk.then (PanicOk.block (PanicOk.then PanicOk.body))) ?_)
          replace hG := hG.drew
          replace hM := hM.drew
          refine At.wpcS (i := 0) (d := 52) (.pointer (some ⟨b, 0, none⟩)) (by kernel_rfl) rfl rfl rfl (fun Lx => ?_) ?_
          · skip
            exact .move rfl rfl (.ops0 fun a ha => ⟨ha, rfl⟩)
          refine At.wpcS (i := 1) (d := 53) (.pointer (some ⟨b, 0, none⟩)) (by kernel_rfl) rfl rfl rfl (fun Lx => ?_) ?_
          · skip
            exact .nilCheck rfl rfl (.ops0 fun a ha => ⟨ha, rfl⟩)
          refine At.wpcS (i := 2) (d := 54) (.pointer (some ⟨b, 0 + 31, none⟩)) (by kernel_rfl) rfl rfl rfl (fun Lx => ?_) ?_
          · skip
            exact .fieldAddr rfl fo84_5 rfl (.ops0 fun a ha => ⟨ha, rfl⟩)
          obtain ⟨cr, hz1, hz2, hz3⟩ := hM.cl; have hcl : cr.length = s.cells.length := by rw [← List.length_map, hz3]
          refine At.wpcS (i := 3) (d := 55) (x.cl) (by kernel_rfl) rfl rfl rfl (fun Lx => ?_) ?_
          · skip
            exact .load rfl (Ld.ownCell ag78 hM.blk (mx_at (j := 10) hM.tsz rfl rfl)) rfl (.ops0 fun a ha => ⟨ha, rfl⟩)
          refine At.wpcS (i := 4) (d := 56) (dv) (by kernel_rfl) rfl rfl rfl (fun Lx => ?_) ?_
          · skip
            exact .move rfl rfl (.ops0 fun a ha => ⟨ha, rfl⟩)
          refine At.wpcS (i := 5) (d := 57) (.pointer (some ⟨vBlock dv, vOff dv + 0 * 7, none⟩)) (by kernel_rfl) rfl rfl rfl (fun Lx => ?_) ?_
          · skip
            exact .indexAddr (i := 0) rfl rfl (hd).ok (lt_of_some hup) el78 sz82 rfl (.ops0 fun a ha => ⟨ha, rfl⟩)
          refine At.wpcS (i := 6) (d := 58) (.agg #[.int .i64 kp, .int .i64 np, .string mp, zN, vp, fp, qp]) (by kernel_rfl) rfl rfl rfl (fun Lx => ?_) ?_
          · skip
            exact .load rfl (Ld.row ag82 (sz82.trans (congrArg some (rfl : (V7 _ _ _ _ _ _).toArray.size = 7).symm)) (((hd.gr hG.ext lR)).cells hup ep)) rfl (.ops0 fun a ha => ⟨ha, rfl⟩)
          refine At.wpcS (i := 7) (d := 59) (.int .i64 (s.cells.length : Int)) (by kernel_rfl) rfl rfl rfl (fun Lx => ?_) ?_
          · skip
            exact .lenSl (n := s.cells.length) rfl (hcl ▸ Own.slOk hz1) el78 rfl (.ops0 fun a ha => ⟨ha, rfl⟩)
          refine At.wpcE [8] (by kernel_rfl) (by kernel_rfl) (.cons [0, 1, 2, 3, 4, 5, 6, 7] rfl (by kernel_rfl) ?_ .nil)
          refine At.buildSlice (xs := [.const (.agg #[zI, zI, zS, zN, zN, .pointer none, .pointer none])]) rfl rfl el78 sz82 ze82 (by intro v hv; simp only [List.mem_cons, List.not_mem_nil, or_false] at hv; rcases hv with rfl; rfl) rfl (by decide) rfl (fun b2 w8 F2 => ?_)
          have hb2 : w8.heap[b2]? = some (.cells #[zI, zI, zS, zN, zN, .pointer none, .pointer none] 82) := F2.new
          replace hG := hG.below F2.bel
          replace hM := hM.below F2.bel
          replace hz1 := Own.below hz1 F2.bel; replace hz2 := fun p hp => (hz2 p hp).gr (Gr.of F2.bel _) lR
          refine .ops0 ?_
          refine At.wpcN (.cons rfl rfl rfl rfl (fun Lx => ?_) (.cons rfl rfl rfl rfl (fun Lx => ?_) (.cons rfl rfl rfl rfl (fun Lx => ?_) (.cons rfl rfl rfl rfl (fun Lx => ?_) (.cons rfl rfl rfl rfl (fun Lx => ?_) (.cons rfl rfl rfl rfl (fun Lx => ?_) (.cons rfl rfl rfl rfl (fun Lx => ?_) (.cons rfl rfl rfl rfl (fun Lx => ?_) .nil)))))))) ?_
          · skip
            exact .move rfl rfl (.ops0 fun a ha => ⟨ha, rfl⟩)
          · skip
            exact .nilCheck rfl rfl (.ops0 fun a ha => ⟨ha, rfl⟩)
          · skip
            exact .fieldAddr rfl fo84_5 rfl (.ops0 fun a ha => ⟨ha, rfl⟩)
          · skip
            exact .load rfl (Ld.ownCell ag78 hM.blk (mx_at (j := 10) hM.tsz rfl rfl)) rfl (.ops0 fun a ha => ⟨ha, rfl⟩)
          · skip
            exact .move rfl rfl (.ops0 fun a ha => ⟨ha, rfl⟩)
          · skip
            exact .indexAddr (i := 0) rfl rfl (hd).ok (lt_of_some hup) el78 sz82 rfl (.ops0 fun a ha => ⟨ha, rfl⟩)
          · skip
            exact .load rfl (Ld.row ag82 (sz82.trans (congrArg some (rfl : (V7 _ _ _ _ _ _).toArray.size = 7).symm)) (((hd.gr hG.ext lR)).cells hup ep)) rfl (.ops0 fun a ha => ⟨ha, rfl⟩)
          · skip
            exact .lenSl (n := s.cells.length) rfl (hcl ▸ Own.slOk hz1) el78 rfl (.ops0 fun a ha => ⟨ha, rfl⟩)
          refine At.wpcE [9] (by kernel_rfl) (by kernel_rfl) (.cons [] rfl (by kernel_rfl) ?_ .nil)
          refine At.appendR (f := pC) (l := cr) (l' := [(V7 0 0 eB zN (.pointer none) (.pointer none), X.v 0 0 eB [] .nil .nil)]) rfl rfl el78 el78 sz82 by82 ze82 rfl hz1 (rows_own (f := pC) (ks := [(V7 0 0 eB zN (.pointer none) (.pointer none), X.v 0 0 eB [] .nil .nil)]) (m := 1) hb2 (by intro u hu; rw [List.mem_singleton.1 hu]; rfl) rfl (by decide)) (by decide) (by intro u hu; rw [List.mem_singleton.1 hu]; simp [pC, Value.oneCell']) (by simp; omega) (by simp; omega) rfl (fun va2 w9 hO2 hA2 => ?_)
          refine .ops0 (.wpcN .nil ?_)
          refine At.wpcS (i := 10) (d := 62) (.pointer (some ⟨vBlock va2, vOff va2 + cr.length * 7, none⟩)) (by kernel_rfl) rfl rfl rfl (fun Lx => ?_) ?_
          · skip
            exact .indexAddr (i := cr.length) rfl (by rw [hcl] <;> rfl) (Own.slOk hO2) (by simp) el78 sz82 rfl (.ops0 fun a ha => ⟨ha, rfl⟩)
          refine At.wpcS (i := 12) (d := 63) (.pointer (some ⟨b, 0, none⟩)) (by kernel_rfl) rfl rfl rfl (fun Lx => ?_) ?_
          · skip
            exact .nilCheck rfl rfl (.ops0 fun a ha => ⟨ha, rfl⟩)
          refine At.wpcS (i := 13) (d := 64) (.pointer (some ⟨b, 0 + 31, none⟩)) (by kernel_rfl) rfl rfl rfl (fun Lx => ?_) ?_
          · skip
            exact .fieldAddr rfl fo84_5 rfl (.ops0 fun a ha => ⟨ha, rfl⟩)
          refine At.wpcE [11, 14] (by kernel_rfl) (by kernel_rfl) (.cons [12, 13] rfl (by kernel_rfl) ?_ (.cons [10] rfl (by kernel_rfl) ?_ .nil))
          · skip
            refine At.storeRow (f := pC) (i := cr.length) (off := 0) (x0 := (V7 0 0 eB zN (.pointer none) (.pointer none), X.v 0 0 eB [] .nil .nil)) (((V7 kp np mp vp fp qp), p.2) : List Value × X) rfl rfl hO2 (by simp) (by intro z hz; rcases List.mem_append.1 hz with e | e; obtain ⟨_, _, _, _, _, _, _, _, _, q, _⟩ := (hz2 z e).vinv; simp [pC, q]; rw [List.mem_singleton.1 e]; rfl) (by omega) sz82 rfl (by show 0 + 7 ≤ 7; omega) (hvp.vone) (fun w10 hO3 hA3 => ?_)
            refine .ops0 ?_
            refine At.wpcN (.cons rfl rfl rfl rfl (fun Lx => ?_) (.cons rfl rfl rfl rfl (fun Lx => ?_) .nil)) ?_
            · skip
              exact .nilCheck rfl rfl (.ops0 fun a ha => ⟨ha, rfl⟩)
            · skip
              exact .fieldAddr rfl fo84_5 rfl (.ops0 fun a ha => ⟨ha, rfl⟩)
            refine At.wpcE [14] (by kernel_rfl) (by kernel_rfl) (.cons [] rfl (by kernel_rfl) ?_ .nil)
            have hq1 := (hA3.old (hA2.old hM.blk hM.apart.1) (hO2.neT (hA2.old hM.blk hM.apart.1) rfl))
            refine At.store rfl rfl hq1 (by rw [cells_one (Own.one hO2)]; exact sz78) (by rw [cells_one (Own.one hO2), Sx.cs, mx_size hM.tsz]; show 31 + 1 ≤ 0 + (21 + 20); omega) (by rw [cells_one (Own.one hO2)]; simpa using (Own.one hO2)) (fun w11 S1 => ?_)
            rw [cs_cl x va2 (Own.one hO2) hM.tsz] at S1
            have hset : (cr ++ [(V7 0 0 eB zN (.pointer none) (.pointer none), X.v 0 0 eB [] .nil .nil)]).set cr.length (((V7 kp np mp vp fp qp), p.2) : List Value × X) = cr ++ [(((V7 kp np mp vp fp qp), p.2) : List Value × X)] := by simp
            obtain ⟨hM, G3⟩ := hM.rows (tr' := x.tr) (cl' := va2) (cells' := s.cells ++ [p.2]) (trl := s.tr) ((((Fr.refl _ _).appF hA2 (fun g hg => .inl ((inM x b).2.1 g hg))).appF hA3 (fun g hg => (hA2.blk.elim (fun e => .inl ((inM x b).2.1 g (e ▸ hg))) (fun ⟨q, e, h⟩ => .inr (by rw [e] at hg; cases hg; exact h))))).setF S1 (.inl (inM x b).1)) S1.new (.inl rfl) hA2.blk (Own.set hO3 S1 (hO3.neT hq1 rfl)) (by rw [hset]; intro z hz; rw [List.length_append]; rcases List.mem_append.1 hz with e | e; exact (hz2 z e).gr (Gr.refl _ _) (Nat.le_add_right _ _); rw [List.mem_singleton.1 e]; exact hvp.gr hG.ext (Nat.le_add_right _ _)) (by rw [hset, List.map_append, hz3]; rfl) (Own.set (Own.keepT hA3 hO2 (Own.keepT hA2 hz1 hM.tr rfl) rfl) S1 (Own.neT (Own.keepT hA3 hO2 (Own.keepT hA2 hz1 hM.tr rfl) rfl) hq1 rfl)) (by simp)
            replace hG := hG.trans G3
            refine .ops0 (.wpcN .nil (.wpcZ (.thenN (.seq (.region (.move rfl rfl (.move rfl rfl (.nilCheck rfl rfl (.fieldAddr rfl fo84_5 rfl ?_)))))))))
            obtain ⟨cr, hz1, hz2, hz3⟩ := hM.cl; have hcl : cr.length = (s.cells ++ [p.2]).length := by rw [← List.length_map, hz3]
            refine .load rfl (Ld.ownCell ag78 hM.blk (mx_at (j := 10) hM.tsz rfl rfl)) rfl (.lenSl (n := (s.cells ++ [p.2]).length) rfl (hcl ▸ Own.slOk hz1) el78 rfl (.subI rfl rfl rfl (by first | omega | (simp; omega)) (.build (C := #[.int .i64 5, .int .i64 (((s.cells ++ [p.2]).length : Int) - 1), zS, zN]) sd45 ze45 rfl (Bld.cons fo45_0 rfl (lB rfl) (Bld.cons fo45_1 rfl (lB rfl) (Bld.nil _))) rfl (.build (C := #[.int .i64 5, .int .i64 (((s.cells ++ [p.2]).length : Int) - 1), zS, zN, zN, .pointer none, .pointer none]) sd82 ze82 rfl (Bld.cons fo82_0 rfl (lB rfl) (Bld.nil _)) rfl ?_))))
            refine At.callM en41 rfl rfl (has_any  _ hM (XAt.mk (Vs.nil _ _ _) (.nil (by simp)) (.nil (by simp)) (fun _ => ⟨by simp, by simp; omega⟩) (fun e => absurd e (by decide)))) (fun x2 w12 hM G4 => ?_)
            replace hG := hG.trans G4
            refine .assign rfl rfl (.ops0 (.thenN (.retc (.inR (.thenR (.doneR (ResV.tmp rfl ResV.nil) ?_))))))
            exact Pst.fin (by have en := of_decide_eq_true hc2; subst en; simp [opF, List.map_cons, List.map_nil, hc1, ekp, enp, Bool.and_true, Bool.and_false, Bool.true_and, Bool.false_and, cond_true, cond_false, vR]) hM hG
          · skip
            have hq2 := (hA2.old hM.blk hM.apart.1)
            refine At.store rfl rfl hq2 (by rw [cells_one (Own.one hO2)]; exact sz78) (by rw [cells_one (Own.one hO2), Sx.cs, mx_size hM.tsz]; show 31 + 1 ≤ 0 + (21 + 20); omega) (by rw [cells_one (Own.one hO2)]; simpa using (Own.one hO2)) (fun w13 S2 => ?_)
            rw [cs_cl x va2 (Own.one hO2) hM.tsz] at S2
            refine .ops0 ?_
            refine At.wpcN (.cons rfl rfl rfl rfl (fun Lx => ?_) .nil) ?_
            · skip
              exact .indexAddr (i := cr.length) rfl (by rw [hcl] <;> rfl) (Own.slOk hO2) (by simp) el78 sz82 rfl (.ops0 fun a ha => ⟨ha, rfl⟩)
            refine At.wpcE [11] (by kernel_rfl) (by kernel_rfl) (.cons [] rfl (by kernel_rfl) ?_ .nil)
            refine At.storeRow (f := pC) (i := cr.length) (off := 0) (x0 := (V7 0 0 eB zN (.pointer none) (.pointer none), X.v 0 0 eB [] .nil .nil)) (((V7 kp np mp vp fp qp), p.2) : List Value × X) rfl rfl (Own.set hO2 S2 (hO2.neT hq2 rfl)) (by simp) (by intro z hz; rcases List.mem_append.1 hz with e | e; obtain ⟨_, _, _, _, _, _, _, _, _, q, _⟩ := (hz2 z e).vinv; simp [pC, q]; rw [List.mem_singleton.1 e]; rfl) (by omega) sz82 rfl (by show 0 + 7 ≤ 7; omega) (hvp.vone) (fun w14 hO4 hA4 => ?_)
            have hset : (cr ++ [(V7 0 0 eB zN (.pointer none) (.pointer none), X.v 0 0 eB [] .nil .nil)]).set cr.length (((V7 kp np mp vp fp qp), p.2) : List Value × X) = cr ++ [(((V7 kp np mp vp fp qp), p.2) : List Value × X)] := by simp
            obtain ⟨hM, G5⟩ := hM.rows (tr' := x.tr) (cl' := va2) (cells' := s.cells ++ [p.2]) (trl := s.tr) ((((Fr.refl _ _).appF hA2 (fun g hg => .inl ((inM x b).2.1 g hg))).setF S2 (.inl (inM x b).1)).appF hA4 (fun g hg => (hA2.blk.elim (fun e => .inl ((inM x b).2.1 g (e ▸ hg))) (fun ⟨q, e, h⟩ => .inr (by rw [e] at hg; cases hg; exact h))))) (hA4.old S2.new ((Own.set hO2 S2 (hO2.neT hq2 rfl)).neT S2.new rfl)) (.inl rfl) hA2.blk hO4 (by rw [hset]; intro z hz; rw [List.length_append]; rcases List.mem_append.1 hz with e | e; exact (hz2 z e).gr (Gr.refl _ _) (Nat.le_add_right _ _); rw [List.mem_singleton.1 e]; exact hvp.gr hG.ext (Nat.le_add_right _ _)) (by rw [hset, List.map_append, hz3]; rfl) (Own.keepT hA4 (Own.set hO2 S2 (hO2.neT hq2 rfl)) (Own.set (Own.keepT hA2 hz1 hM.tr rfl) S2 (Own.neT (Own.keepT hA2 hz1 hM.tr rfl) hq2 rfl)) rfl) (by simp)
            replace hG := hG.trans G5
            refine .ops0 (.wpcN .nil (.wpcZ (.thenN (.seq (.region (.move rfl rfl (.move rfl rfl (.nilCheck rfl rfl (.fieldAddr rfl fo84_5 rfl ?_)))))))))
            obtain ⟨cr, hz1, hz2, hz3⟩ := hM.cl; have hcl : cr.length = (s.cells ++ [p.2]).length := by rw [← List.length_map, hz3]
            refine .load rfl (Ld.ownCell ag78 hM.blk (mx_at (j := 10) hM.tsz rfl rfl)) rfl (.lenSl (n := (s.cells ++ [p.2]).length) rfl (hcl ▸ Own.slOk hz1) el78 rfl (.subI rfl rfl rfl (by first | omega | (simp; omega)) (.build (C := #[.int .i64 5, .int .i64 (((s.cells ++ [p.2]).length : Int) - 1), zS, zN]) sd45 ze45 rfl (Bld.cons fo45_0 rfl (lB rfl) (Bld.cons fo45_1 rfl (lB rfl) (Bld.nil _))) rfl (.build (C := #[.int .i64 5, .int .i64 (((s.cells ++ [p.2]).length : Int) - 1), zS, zN, zN, .pointer none, .pointer none]) sd82 ze82 rfl (Bld.cons fo82_0 rfl (lB rfl) (Bld.nil _)) rfl ?_))))
            refine At.callM en41 rfl rfl (has_any  _ hM (XAt.mk (Vs.nil _ _ _) (.nil (by simp)) (.nil (by simp)) (fun _ => ⟨by simp, by simp; omega⟩) (fun e => absurd e (by decide)))) (fun x3 w15 hM G6 => ?_)
            replace hG := hG.trans G6
            refine .assign rfl rfl (.ops0 (.thenN (.retc (.inR (.thenR (.doneR (ResV.tmp rfl ResV.nil) ?_))))))
            exact Pst.fin (by have en := of_decide_eq_true hc2; subst en; simp [opF, List.map_cons, List.map_nil, hc1, ekp, enp, Bool.and_true, Bool.and_false, Bool.true_and, Bool.false_and, cond_true, cond_false, vR]) hM hG
        · skip
          have hc2' := of_decide_eq_false hc2
          refine .seq (.region ?_)
          refine At.join [(0, .pointer (some ⟨b, 0, none⟩)), (1, .string nm), (2, dv), (75, .bool (decide (nm = (⟨#[33]⟩ : ByteArray)) && decide (kp = 5)))] (fun w' => w = w') ?_ (fun w16 hS => ?_)
          · skip
            refine .move rfl rfl (.eqS rfl rfl rfl (.move rfl rfl ?_))
            refine At.cases (decide (nm = (⟨#[33]⟩ : ByteArray))) (fun hg3 => ?_) (fun hg3 => ?_)
            · skip
              refine .set (d := 78) (u := .bool true) rfl (congrArg Value.bool hg3) ?_
              have hg3' := of_decide_eq_true hg3
              refine .yes rfl rfl rfl rfl (.move rfl rfl (.yes rfl rfl rfl rfl (.lenSl (n := 1) rfl (hd).ok el78 rfl (.yes rfl rfl rfl rfl (.eqI rfl rfl rfl (.set (d := 81) (u := .bool true) rfl (congrArg Value.bool (by simp)) (.pickT rfl rfl rfl (.move rfl rfl (.yes rfl rfl rfl rfl (.move rfl rfl (.yes rfl rfl rfl rfl (.indexAddr (i := 0) rfl rfl (hd).ok (lt_of_some hup) el78 sz82 rfl (.yes rfl rfl rfl rfl (.fieldAddr rfl fo82_0 rfl (.yes rfl rfl rfl rfl (.fieldAddr rfl fo45_0 rfl (.yes rfl rfl rfl rfl (.load rfl (Ld.cell ag3 ((((hd.gr hG.ext lR)).cells hup ep).get rfl)) rfl (.yes rfl rfl rfl rfl (.eqI rfl rfl rfl (.pickT rfl rfl rfl (.assign rfl rfl ?_))))))))))))))))))))))
              exact At.joined (sC rfl (sC rfl (sC rfl (Sub.cons (by show some (Value.bool (decide (kp = 5))) = some (Value.bool (decide (nm = (⟨#[33]⟩ : ByteArray)) && decide (kp = 5))); rw [hg3] <;> rfl) sN)))) rfl
            · skip
              refine .set (d := 78) (u := .bool false) rfl (congrArg Value.bool hg3) ?_
              have hg3' := of_decide_eq_false hg3
              refine .no rfl rfl rfl rfl rfl rfl rfl (.no rfl rfl rfl rfl rfl rfl rfl (.no rfl rfl rfl rfl rfl rfl rfl (.pickF rfl rfl rfl (.move rfl rfl (.no rfl rfl rfl rfl rfl rfl rfl (.no rfl rfl rfl rfl rfl rfl rfl (.no rfl rfl rfl rfl rfl rfl rfl (.no rfl rfl rfl rfl rfl rfl rfl (.no rfl rfl rfl rfl rfl rfl rfl (.no rfl rfl rfl rfl rfl rfl rfl (.pickF rfl rfl rfl (.assign rfl rfl ?_))))))))))))
              exact At.joined (sC rfl (sC rfl (sC rfl (Sub.cons (by show some (Value.bool false) = some (Value.bool (decide (nm = (⟨#[33]⟩ : ByteArray)) && decide (kp = 5))); rw [hg3] <;> rfl) sN)))) rfl
          · skip
            subst hS
            refine .thenN ?_
            refine At.cond (b := (decide (nm = (⟨#[33]⟩ : ByteArray)) && decide (kp = 5))) rfl (fun hc3 => ?_) (fun hc3 => ?_)
            · skip
              refine .seq (.region (.move rfl rfl (.move rfl rfl (.move rfl rfl (.indexAddr (i := 0) rfl rfl (hd).ok (lt_of_some hup) el78 sz82 rfl (.load rfl (Ld.row ag82 (sz82.trans (congrArg some (rfl : (V7 _ _ _ _ _ _).toArray.size = 7).symm)) (((hd.gr hG.ext lR)).cells hup ep)) rfl ?_))))))
              have h5v := hvp.h5 (of_decide_eq_true (Bool.and_eq_true_iff.mp hc3).2)
              refine At.call en140 rfl rfl (cell_any _ hM (hvp.gr hG.ext lR) (of_decide_eq_true (Bool.and_eq_true_iff.mp hc3).2) h5v) (fun e w17 hR => ?_)
              obtain ⟨rfl, hbl2⟩ := hR; refine ⟨_, rfl, ?_⟩
              replace hG := hG.below hbl2
              replace hM := hM.below hbl2
              obtain ⟨kz, nz, mz, vz, fz, qz, hcz, hxz⟩ := hM.cellAt (i := np.toNat) (by omega)
              refine .nilCheck rfl rfl (.load rfl (Ld.row (cs := (V7 kz nz mz vz fz qz).toArray) ag82 sz82 (hcz)) rfl ?_)
              refine At.callM en41 rfl rfl (has_any  _ hM hxz) (fun x4 w18 hM G7 => ?_)
              replace hG := hG.trans G7
              refine .assign rfl rfl (.ops0 (.thenN (.retc (.inR (.thenR (.doneR (ResV.tmp rfl ResV.nil) ?_))))))
              exact Pst.fin (by simp only [opF, List.map_cons, List.map_nil, hc1, hc2, hc3, ekp, enp, Bool.and_true, Bool.and_false, Bool.true_and, Bool.false_and, cond_true, cond_false] <;> rfl) hM hG
            · skip
              refine .seq (.region ?_)
              refine At.join [(0, .pointer (some ⟨b, 0, none⟩)), (1, .string nm), (2, dv), (100, .bool false)] (fun w' => w = w') ?_ (fun w19 hS => ?_)
              · skip
                refine .move rfl rfl (.eqS rfl rfl rfl (.move rfl rfl ?_))
                refine At.cases (decide (nm = (⟨#[58, 61]⟩ : ByteArray))) (fun hg4 => ?_) (fun hg4 => ?_)
                · skip
                  refine .set (d := 103) (u := .bool true) rfl (congrArg Value.bool hg4) ?_
                  have hg4' := of_decide_eq_true hg4
                  refine .yes rfl rfl rfl rfl (.move rfl rfl (.yes rfl rfl rfl rfl (.lenSl (n := 1) rfl (hd).ok el78 rfl (.yes rfl rfl rfl rfl (.eqI rfl rfl rfl (.set (d := 106) (u := .bool false) rfl (congrArg Value.bool (by simp)) (.pickT rfl rfl rfl (.move rfl rfl (.no rfl rfl rfl rfl rfl rfl rfl (.no rfl rfl rfl rfl rfl rfl rfl (.no rfl rfl rfl rfl rfl rfl rfl (.no rfl rfl rfl rfl rfl rfl rfl (.no rfl rfl rfl rfl rfl rfl rfl (.no rfl rfl rfl rfl rfl rfl rfl (.pickF rfl rfl rfl (.assign rfl rfl ?_))))))))))))))))
                  exact At.joined (sC rfl (sC rfl (sC rfl (sC rfl sN)))) rfl
                · skip
                  refine .set (d := 103) (u := .bool false) rfl (congrArg Value.bool hg4) ?_
                  have hg4' := of_decide_eq_false hg4
                  refine .no rfl rfl rfl rfl rfl rfl rfl (.no rfl rfl rfl rfl rfl rfl rfl (.no rfl rfl rfl rfl rfl rfl rfl (.pickF rfl rfl rfl (.move rfl rfl (.no rfl rfl rfl rfl rfl rfl rfl (.no rfl rfl rfl rfl rfl rfl rfl (.no rfl rfl rfl rfl rfl rfl rfl (.no rfl rfl rfl rfl rfl rfl rfl (.no rfl rfl rfl rfl rfl rfl rfl (.no rfl rfl rfl rfl rfl rfl rfl (.pickF rfl rfl rfl (.assign rfl rfl ?_))))))))))))
                  exact At.joined (sC rfl (sC rfl (sC rfl (sC rfl sN)))) rfl
              · skip
                subst hS
                refine .thenN (.condF rfl (.seq (.region ?_)))
                refine At.join [(0, .pointer (some ⟨b, 0, none⟩)), (1, .string nm), (2, dv), (128, .bool false)] (fun w' => w = w') ?_ (fun w20 hS => ?_)
                · skip
                  refine .move rfl rfl (.lenSl (n := 1) rfl (hd).ok el78 rfl (.eqI rfl rfl rfl (.set (d := 131) (u := .bool false) rfl (congrArg Value.bool (by simp)) (.move rfl rfl (.no rfl rfl rfl rfl rfl rfl rfl (.no rfl rfl rfl rfl rfl rfl rfl (.no rfl rfl rfl rfl rfl rfl rfl (.no rfl rfl rfl rfl rfl rfl rfl (.no rfl rfl rfl rfl rfl rfl rfl (.no rfl rfl rfl rfl rfl rfl rfl (.pickF rfl rfl rfl (.move rfl rfl (.no rfl rfl rfl rfl rfl rfl rfl (.no rfl rfl rfl rfl rfl rfl rfl (.no rfl rfl rfl rfl rfl rfl rfl (.no rfl rfl rfl rfl rfl rfl rfl (.no rfl rfl rfl rfl rfl rfl rfl (.no rfl rfl rfl rfl rfl rfl rfl (.pickF rfl rfl rfl (.assign rfl rfl ?_))))))))))))))))))))
                  exact At.joined (sC rfl (sC rfl (sC rfl (sC rfl sN)))) rfl
                · skip
                  subst hS
                  refine .thenN (.condF rfl (.skip (.inN (.thenN (.seq (.region (.assign rfl rfl (.ops0 (.thenN (.retc (.doneR (ResV.tmp rfl ResV.nil) ?_)))))))))))
                  exact Pst.fin (by simp only [opF, List.map_cons, List.map_nil, hc1, hc2, hc3, ekp, enp, Bool.and_true, Bool.and_false, Bool.true_and, Bool.false_and, cond_true, cond_false] <;> rfl) hM hG
theorem op2_any {E : List (Option Nat)} {b : Nat} {x : Sx} {s : SS} {p q : List Value × X} {dv : Value} (nm : ByteArray) (w : World) (hM : StA E b x w s) (hd : Vs (x.M b ++ E) s.cells.length w dv [p, q]) (hlt : s.tr.length ≤ 1000000000000) (hlc : s.cells.length ≤ 1000000000000) :
    Calls Tryz.prog 139 ([.pointer (some ⟨b, 0, none⟩), .string nm, dv] : List Value).toArray w (Pst E b x w (opF s nm ([p, q].map Prod.snd))) := by
  have hG := Gr.refl (x.M b) w
  refine At.enter (N := 175) Tryz.func139 rfl rfl (by simp) [(0, .pointer (some ⟨b, 0, none⟩)), (1, .string nm), (2, dv)] (by simp) ?_
  have hup : [p, q][0]? = some p := rfl
  obtain ⟨kp, np, mp, vp, fp, qp, ep, hvp, ekp, enp, emp⟩ := hd.get hup
  have huq : [p, q][1]? = some q := rfl
  obtain ⟨kq, nq, mq, vq, fq, qq, eq, hvq, ekq, enq, emq⟩ := hd.get huq
  refine .seq (.region (.assign rfl rfl (.ops0 (.thenN (.seq (.block (.seq (.region ?_))))))))
  refine At.join [(0, .pointer (some ⟨b, 0, none⟩)), (1, .string nm), (2, dv), (9, .bool false)] (fun w' => w = w') ?_ (fun w1 hS => ?_)
  · skip
    refine .move rfl rfl (.eqS rfl rfl rfl (.move rfl rfl ?_))
    refine At.cases (decide (nm = (⟨#[112, 114, 105, 110, 116]⟩ : ByteArray))) (fun hg1 => ?_) (fun hg1 => ?_)
    · skip
      refine .set (d := 12) (u := .bool true) rfl (congrArg Value.bool hg1) ?_
      have hg1' := of_decide_eq_true hg1
      refine .yes rfl rfl rfl rfl (.move rfl rfl (.yes rfl rfl rfl rfl (.lenSl (n := 2) rfl (hd).ok el78 rfl (.yes rfl rfl rfl rfl (.eqI rfl rfl rfl (.set (d := 15) (u := .bool false) rfl (congrArg Value.bool (by simp)) (.pickT rfl rfl rfl (.move rfl rfl (.no rfl rfl rfl rfl rfl rfl rfl (.no rfl rfl rfl rfl rfl rfl rfl (.no rfl rfl rfl rfl rfl rfl rfl (.no rfl rfl rfl rfl rfl rfl rfl (.no rfl rfl rfl rfl rfl rfl rfl (.no rfl rfl rfl rfl rfl rfl rfl (.pickF rfl rfl rfl (.assign rfl rfl ?_))))))))))))))))
      exact At.joined (sC rfl (sC rfl (sC rfl (sC rfl sN)))) rfl
    · skip
      refine .set (d := 12) (u := .bool false) rfl (congrArg Value.bool hg1) ?_
      have hg1' := of_decide_eq_false hg1
      refine .no rfl rfl rfl rfl rfl rfl rfl (.no rfl rfl rfl rfl rfl rfl rfl (.no rfl rfl rfl rfl rfl rfl rfl (.pickF rfl rfl rfl (.move rfl rfl (.no rfl rfl rfl rfl rfl rfl rfl (.no rfl rfl rfl rfl rfl rfl rfl (.no rfl rfl rfl rfl rfl rfl rfl (.no rfl rfl rfl rfl rfl rfl rfl (.no rfl rfl rfl rfl rfl rfl rfl (.no rfl rfl rfl rfl rfl rfl rfl (.pickF rfl rfl rfl (.assign rfl rfl ?_))))))))))))
      exact At.joined (sC rfl (sC rfl (sC rfl (sC rfl sN)))) rfl
  · skip
    subst hS
    refine .thenN (.condF rfl (.seq (.region ?_)))
    refine At.join [(0, .pointer (some ⟨b, 0, none⟩)), (1, .string nm), (2, dv), (44, .bool false)] (fun w' => w = w') ?_ (fun w2 hS => ?_)
    · skip
      refine .move rfl rfl (.eqS rfl rfl rfl (.move rfl rfl ?_))
      refine At.cases (decide (nm = (⟨#[114, 101, 102]⟩ : ByteArray))) (fun hg2 => ?_) (fun hg2 => ?_)
      · skip
        refine .set (d := 47) (u := .bool true) rfl (congrArg Value.bool hg2) ?_
        have hg2' := of_decide_eq_true hg2
        refine .yes rfl rfl rfl rfl (.move rfl rfl (.yes rfl rfl rfl rfl (.lenSl (n := 2) rfl (hd).ok el78 rfl (.yes rfl rfl rfl rfl (.eqI rfl rfl rfl (.set (d := 50) (u := .bool false) rfl (congrArg Value.bool (by simp)) (.pickT rfl rfl rfl (.assign rfl rfl ?_))))))))
        exact At.joined (sC rfl (sC rfl (sC rfl (sC rfl sN)))) rfl
      · skip
        refine .set (d := 47) (u := .bool false) rfl (congrArg Value.bool hg2) ?_
        have hg2' := of_decide_eq_false hg2
        refine .no rfl rfl rfl rfl rfl rfl rfl (.no rfl rfl rfl rfl rfl rfl rfl (.no rfl rfl rfl rfl rfl rfl rfl (.pickF rfl rfl rfl (.assign rfl rfl ?_))))
        exact At.joined (sC rfl (sC rfl (sC rfl (sC rfl sN)))) rfl
    · skip
      subst hS
      refine .thenN (.condF rfl (.seq (.region ?_)))
      refine At.join [(0, .pointer (some ⟨b, 0, none⟩)), (1, .string nm), (2, dv), (75, .bool false)] (fun w' => w = w') ?_ (fun w3 hS => ?_)
      · skip
        refine .move rfl rfl (.eqS rfl rfl rfl (.move rfl rfl ?_))
        refine At.cases (decide (nm = (⟨#[33]⟩ : ByteArray))) (fun hg3 => ?_) (fun hg3 => ?_)
        · skip
          refine .set (d := 78) (u := .bool true) rfl (congrArg Value.bool hg3) ?_
          have hg3' := of_decide_eq_true hg3
          refine .yes rfl rfl rfl rfl (.move rfl rfl (.yes rfl rfl rfl rfl (.lenSl (n := 2) rfl (hd).ok el78 rfl (.yes rfl rfl rfl rfl (.eqI rfl rfl rfl (.set (d := 81) (u := .bool false) rfl (congrArg Value.bool (by simp)) (.pickT rfl rfl rfl (.move rfl rfl (.no rfl rfl rfl rfl rfl rfl rfl (.no rfl rfl rfl rfl rfl rfl rfl (.no rfl rfl rfl rfl rfl rfl rfl (.no rfl rfl rfl rfl rfl rfl rfl (.no rfl rfl rfl rfl rfl rfl rfl (.no rfl rfl rfl rfl rfl rfl rfl (.pickF rfl rfl rfl (.assign rfl rfl ?_))))))))))))))))
          exact At.joined (sC rfl (sC rfl (sC rfl (sC rfl sN)))) rfl
        · skip
          refine .set (d := 78) (u := .bool false) rfl (congrArg Value.bool hg3) ?_
          have hg3' := of_decide_eq_false hg3
          refine .no rfl rfl rfl rfl rfl rfl rfl (.no rfl rfl rfl rfl rfl rfl rfl (.no rfl rfl rfl rfl rfl rfl rfl (.pickF rfl rfl rfl (.move rfl rfl (.no rfl rfl rfl rfl rfl rfl rfl (.no rfl rfl rfl rfl rfl rfl rfl (.no rfl rfl rfl rfl rfl rfl rfl (.no rfl rfl rfl rfl rfl rfl rfl (.no rfl rfl rfl rfl rfl rfl rfl (.no rfl rfl rfl rfl rfl rfl rfl (.pickF rfl rfl rfl (.assign rfl rfl ?_))))))))))))
          exact At.joined (sC rfl (sC rfl (sC rfl (sC rfl sN)))) rfl
      · skip
        subst hS
        refine .thenN (.condF rfl (.seq (.region ?_)))
        refine At.join [(0, .pointer (some ⟨b, 0, none⟩)), (1, .string nm), (2, dv), (100, .bool (decide (nm = (⟨#[58, 61]⟩ : ByteArray)) && decide (kp = 5)))] (fun w' => w = w') ?_ (fun w4 hS => ?_)
        · skip
          refine .move rfl rfl (.eqS rfl rfl rfl (.move rfl rfl ?_))
          refine At.cases (decide (nm = (⟨#[58, 61]⟩ : ByteArray))) (fun hg4 => ?_) (fun hg4 => ?_)
          · skip
            refine .set (d := 103) (u := .bool true) rfl (congrArg Value.bool hg4) ?_
            have hg4' := of_decide_eq_true hg4
            refine .yes rfl rfl rfl rfl (.move rfl rfl (.yes rfl rfl rfl rfl (.lenSl (n := 2) rfl (hd).ok el78 rfl (.yes rfl rfl rfl rfl (.eqI rfl rfl rfl (.set (d := 106) (u := .bool true) rfl (congrArg Value.bool (by simp)) (.pickT rfl rfl rfl (.move rfl rfl (.yes rfl rfl rfl rfl (.move rfl rfl (.yes rfl rfl rfl rfl (.indexAddr (i := 0) rfl rfl (hd).ok (lt_of_some hup) el78 sz82 rfl (.yes rfl rfl rfl rfl (.fieldAddr rfl fo82_0 rfl (.yes rfl rfl rfl rfl (.fieldAddr rfl fo45_0 rfl (.yes rfl rfl rfl rfl (.load rfl (Ld.cell ag3 ((((hd.gr hG.ext lR)).cells hup ep).get rfl)) rfl (.yes rfl rfl rfl rfl (.eqI rfl rfl rfl (.pickT rfl rfl rfl (.assign rfl rfl ?_))))))))))))))))))))))
            exact At.joined (sC rfl (sC rfl (sC rfl (Sub.cons (by show some (Value.bool (decide (kp = 5))) = some (Value.bool (decide (nm = (⟨#[58, 61]⟩ : ByteArray)) && decide (kp = 5))); rw [hg4] <;> rfl) sN)))) rfl
          · skip
            refine .set (d := 103) (u := .bool false) rfl (congrArg Value.bool hg4) ?_
            have hg4' := of_decide_eq_false hg4
            refine .no rfl rfl rfl rfl rfl rfl rfl (.no rfl rfl rfl rfl rfl rfl rfl (.no rfl rfl rfl rfl rfl rfl rfl (.pickF rfl rfl rfl (.move rfl rfl (.no rfl rfl rfl rfl rfl rfl rfl (.no rfl rfl rfl rfl rfl rfl rfl (.no rfl rfl rfl rfl rfl rfl rfl (.no rfl rfl rfl rfl rfl rfl rfl (.no rfl rfl rfl rfl rfl rfl rfl (.no rfl rfl rfl rfl rfl rfl rfl (.pickF rfl rfl rfl (.assign rfl rfl ?_))))))))))))
            exact At.joined (sC rfl (sC rfl (sC rfl (Sub.cons (by show some (Value.bool false) = some (Value.bool (decide (nm = (⟨#[58, 61]⟩ : ByteArray)) && decide (kp = 5))); rw [hg4] <;> rfl) sN)))) rfl
        · skip
          subst hS
          refine .thenN ?_
          refine At.cond (b := (decide (nm = (⟨#[58, 61]⟩ : ByteArray)) && decide (kp = 5))) rfl (fun hc1 => ?_) (fun hc1 => ?_)
          · skip
            refine .seq (.drawG (n := 10) mixed (by kernel_rfl) rfl (PanicOk.then (PanicOk.block (PanicOk.then PanicOk.body))) ?_)
            replace hG := hG.drew
            replace hM := hM.drew
            refine At.wpcS (i := 0) (d := 116) (.pointer (some ⟨b, 0, none⟩)) (by kernel_rfl) rfl rfl rfl (fun Lx => ?_) ?_
            · skip
              exact .move rfl rfl (.ops0 fun a ha => ⟨ha, rfl⟩)
            refine At.wpcS (i := 1) (d := 117) (dv) (by kernel_rfl) rfl rfl rfl (fun Lx => ?_) ?_
            · skip
              exact .move rfl rfl (.ops0 fun a ha => ⟨ha, rfl⟩)
            refine At.wpcS (i := 2) (d := 118) (.pointer (some ⟨vBlock dv, vOff dv + 0 * 7, none⟩)) (by kernel_rfl) rfl rfl rfl (fun Lx => ?_) ?_
            · skip
              exact .indexAddr (i := 0) rfl rfl (hd).ok (lt_of_some hup) el78 sz82 rfl (.ops0 fun a ha => ⟨ha, rfl⟩)
            refine At.wpcS (i := 3) (d := 119) (.agg #[.int .i64 kp, .int .i64 np, .string mp, zN, vp, fp, qp]) (by kernel_rfl) rfl rfl rfl (fun Lx => ?_) ?_
            · skip
              exact .load rfl (Ld.row ag82 (sz82.trans (congrArg some (rfl : (V7 _ _ _ _ _ _).toArray.size = 7).symm)) (((hd.gr hG.ext lR)).cells hup ep)) rfl (.ops0 fun a ha => ⟨ha, rfl⟩)
            refine At.wpcS (i := 5) (d := 121) (dv) (by kernel_rfl) rfl rfl rfl (fun Lx => ?_) ?_
            · skip
              exact .move rfl rfl (.ops0 fun a ha => ⟨ha, rfl⟩)
            refine At.wpcS (i := 6) (d := 122) (.pointer (some ⟨vBlock dv, vOff dv + 1 * 7, none⟩)) (by kernel_rfl) rfl rfl rfl (fun Lx => ?_) ?_
            · skip
              exact .indexAddr (i := 1) rfl rfl (hd).ok (lt_of_some huq) el78 sz82 rfl (.ops0 fun a ha => ⟨ha, rfl⟩)
            refine At.wpcS (i := 7) (d := 123) (.agg #[.int .i64 kq, .int .i64 nq, .string mq, zN, vq, fq, qq]) (by kernel_rfl) rfl rfl rfl (fun Lx => ?_) ?_
            · skip
              exact .load rfl (Ld.row ag82 (sz82.trans (congrArg some (rfl : (V7 _ _ _ _ _ _).toArray.size = 7).symm)) (((hd.gr hG.ext lR)).cells huq eq)) rfl (.ops0 fun a ha => ⟨ha, rfl⟩)
            refine At.wpcE [4] (by kernel_rfl) (by kernel_rfl) (.cons [5, 6, 7] rfl (by kernel_rfl) ?_ .nil)
            have h5v := hvp.h5 (of_decide_eq_true (Bool.and_eq_true_iff.mp hc1).2)
            refine At.call en140 rfl rfl (cell_any _ hM (hvp.gr hG.ext lR) (of_decide_eq_true (Bool.and_eq_true_iff.mp hc1).2) h5v) (fun e w5 hR => ?_)
            obtain ⟨rfl, hbl1⟩ := hR; refine ⟨_, rfl, ?_⟩
            replace hG := hG.below hbl1
            replace hM := hM.below hbl1
            obtain ⟨kz, nz, mz, vz, fz, qz, hcz, hxz⟩ := hM.cellAt (i := np.toNat) (by omega)
            refine .ops0 ?_
            refine At.wpcN (.cons rfl rfl rfl rfl (fun Lx => ?_) (.cons rfl rfl rfl rfl (fun Lx => ?_) (.cons rfl rfl rfl rfl (fun Lx => ?_) .nil))) ?_
            · skip
              exact .move rfl rfl (.ops0 fun a ha => ⟨ha, rfl⟩)
            · skip
              exact .indexAddr (i := 1) rfl rfl (hd).ok (lt_of_some huq) el78 sz82 rfl (.ops0 fun a ha => ⟨ha, rfl⟩)
            · skip
              exact .load rfl (Ld.row ag82 (sz82.trans (congrArg some (rfl : (V7 _ _ _ _ _ _).toArray.size = 7).symm)) (((hd.gr hG.ext lR)).cells huq eq)) rfl (.ops0 fun a ha => ⟨ha, rfl⟩)
            refine At.wpcS (i := 8) (d := 124) (.pointer (some ⟨vBlock x.cl, vOff x.cl + np.toNat * 7, none⟩)) (by kernel_rfl) rfl rfl rfl (fun Lx => ?_) ?_
            · skip
              exact .nilCheck rfl rfl (.ops0 fun a ha => ⟨ha, rfl⟩)
            refine At.wpcE [9] (by kernel_rfl) (by kernel_rfl) (.cons [] rfl (by kernel_rfl) ?_ .nil)
            refine At.stCell (i := np.toNat) (v := q.2) rfl rfl rfl hM (by omega) sz82 (hvq.gr hG.ext lR) (fun w6 hM G1 => ?_)
            replace hG := hG.trans G1
            refine .ops0 (.wpcN .nil (.wpcZ (.thenN (.seq (.region (.move rfl rfl ?_))))))
            refine At.call en43 rfl rfl (unit_any _) (fun e w7 hR => ?_)
            obtain ⟨rfl, hbl2⟩ := hR
            refine ⟨_, rfl, ?_⟩
            replace hG := hG.below hbl2
            replace hM := hM.below hbl2
            refine At.callM en41 rfl rfl (has_any  _ hM XAt.vU) (fun x1 w8 hM G2 => ?_)
            replace hG := hG.trans G2
            refine .assign rfl rfl (.ops0 (.thenN (.retc (.inR (.thenR (.doneR (ResV.tmp rfl ResV.nil) ?_))))))
            exact Pst.fin (by simp only [opF, List.map_cons, List.map_nil, hc1, ekp, ekq, enp, enq, Bool.and_true, Bool.and_false, Bool.true_and, Bool.false_and, cond_true, cond_false] <;> rfl) hM hG
          · skip
            refine .seq (.region ?_)
            refine At.join [(0, .pointer (some ⟨b, 0, none⟩)), (1, .string nm), (2, dv), (128, .bool (decide (kp = 1) && decide (kq = 1)))] (fun w' => w = w') ?_ (fun w9 hS => ?_)
            · skip
              refine .move rfl rfl (.lenSl (n := 2) rfl (hd).ok el78 rfl (.eqI rfl rfl rfl (.set (d := 131) (u := .bool true) rfl (congrArg Value.bool (by simp)) (.move rfl rfl (.yes rfl rfl rfl rfl (.move rfl rfl (.yes rfl rfl rfl rfl (.indexAddr (i := 0) rfl rfl (hd).ok (lt_of_some hup) el78 sz82 rfl (.yes rfl rfl rfl rfl (.fieldAddr rfl fo82_0 rfl (.yes rfl rfl rfl rfl (.fieldAddr rfl fo45_0 rfl (.yes rfl rfl rfl rfl (.load rfl (Ld.cell ag3 ((((hd.gr hG.ext lR)).cells hup ep).get rfl)) rfl (.yes rfl rfl rfl rfl (.eqI rfl rfl rfl (.pickT rfl rfl rfl (.move rfl rfl ?_))))))))))))))))))
              refine At.cases (decide (kp = 1)) (fun hg5 => ?_) (fun hg5 => ?_)
              · skip
                refine .set (d := 140) (u := .bool true) rfl (congrArg Value.bool hg5) ?_
                have hg5' := of_decide_eq_true hg5
                refine .yes rfl rfl rfl rfl (.move rfl rfl (.yes rfl rfl rfl rfl (.indexAddr (i := 1) rfl rfl (hd).ok (lt_of_some huq) el78 sz82 rfl (.yes rfl rfl rfl rfl (.fieldAddr rfl fo82_0 rfl (.yes rfl rfl rfl rfl (.fieldAddr rfl fo45_0 rfl (.yes rfl rfl rfl rfl (.load rfl (Ld.cell ag3 ((((hd.gr hG.ext lR)).cells huq eq).get rfl)) rfl (.yes rfl rfl rfl rfl (.eqI rfl rfl rfl (.pickT rfl rfl rfl (.assign rfl rfl ?_)))))))))))))
                exact At.joined (sC rfl (sC rfl (sC rfl (Sub.cons (by show some (Value.bool (decide (kq = 1))) = some (Value.bool (decide (kp = 1) && decide (kq = 1))); rw [hg5] <;> rfl) sN)))) rfl
              · skip
                refine .set (d := 140) (u := .bool false) rfl (congrArg Value.bool hg5) ?_
                have hg5' := of_decide_eq_false hg5
                refine .no rfl rfl rfl rfl rfl rfl rfl (.no rfl rfl rfl rfl rfl rfl rfl (.no rfl rfl rfl rfl rfl rfl rfl (.no rfl rfl rfl rfl rfl rfl rfl (.no rfl rfl rfl rfl rfl rfl rfl (.no rfl rfl rfl rfl rfl rfl rfl (.pickF rfl rfl rfl (.assign rfl rfl ?_)))))))
                exact At.joined (sC rfl (sC rfl (sC rfl (Sub.cons (by show some (Value.bool false) = some (Value.bool (decide (kp = 1) && decide (kq = 1))); rw [hg5] <;> rfl) sN)))) rfl
            · skip
              subst hS
              refine .thenN ?_
              refine At.cond (b := (decide (kp = 1) && decide (kq = 1))) rfl (fun hc2 => ?_) (fun hc2 => ?_)
              · skip
                refine .seq (.drawG (n := 18) mixed (by kernel_rfl) rfl (PanicOk.then (PanicOk.block (PanicOk.then PanicOk.body))) ?_)
                replace hG := hG.drew
                replace hM := hM.drew
                refine At.wpcS (i := 0) (d := 149) (.string nm) (by kernel_rfl) rfl rfl rfl (fun Lx => ?_) ?_
                · skip
                  exact .move rfl rfl (.ops0 fun a ha => ⟨ha, rfl⟩)
                refine At.wpcS (i := 1) (d := 150) (dv) (by kernel_rfl) rfl rfl rfl (fun Lx => ?_) ?_
                · skip
                  exact .move rfl rfl (.ops0 fun a ha => ⟨ha, rfl⟩)
                refine At.wpcS (i := 2) (d := 151) (.pointer (some ⟨vBlock dv, vOff dv + 0 * 7, none⟩)) (by kernel_rfl) rfl rfl rfl (fun Lx => ?_) ?_
                · skip
                  exact .indexAddr (i := 0) rfl rfl (hd).ok (lt_of_some hup) el78 sz82 rfl (.ops0 fun a ha => ⟨ha, rfl⟩)
                refine At.wpcS (i := 3) (d := 152) (.pointer (some ⟨vBlock dv, vOff dv + 0 * 7 + 0, none⟩)) (by kernel_rfl) rfl rfl rfl (fun Lx => ?_) ?_
                · skip
                  exact .fieldAddr rfl fo82_0 rfl (.ops0 fun a ha => ⟨ha, rfl⟩)
                refine At.wpcS (i := 4) (d := 153) (.pointer (some ⟨vBlock dv, vOff dv + 0 * 7 + 0 + 1, none⟩)) (by kernel_rfl) rfl rfl rfl (fun Lx => ?_) ?_
                · skip
                  exact .fieldAddr rfl fo45_1 rfl (.ops0 fun a ha => ⟨ha, rfl⟩)
                refine At.wpcS (i := 5) (d := 154) (.int .i64 np) (by kernel_rfl) rfl rfl rfl (fun Lx => ?_) ?_
                · skip
                  exact .load rfl (Ld.cell ag3 ((((hd.gr hG.ext lR)).cells hup ep).get rfl)) rfl (.ops0 fun a ha => ⟨ha, rfl⟩)
                refine At.wpcS (i := 6) (d := 155) (dv) (by kernel_rfl) rfl rfl rfl (fun Lx => ?_) ?_
                · skip
                  exact .move rfl rfl (.ops0 fun a ha => ⟨ha, rfl⟩)
                refine At.wpcS (i := 7) (d := 156) (.pointer (some ⟨vBlock dv, vOff dv + 1 * 7, none⟩)) (by kernel_rfl) rfl rfl rfl (fun Lx => ?_) ?_
                · skip
                  exact .indexAddr (i := 1) rfl rfl (hd).ok (lt_of_some huq) el78 sz82 rfl (.ops0 fun a ha => ⟨ha, rfl⟩)
                refine At.wpcS (i := 8) (d := 157) (.pointer (some ⟨vBlock dv, vOff dv + 1 * 7 + 0, none⟩)) (by kernel_rfl) rfl rfl rfl (fun Lx => ?_) ?_
                · skip
                  exact .fieldAddr rfl fo82_0 rfl (.ops0 fun a ha => ⟨ha, rfl⟩)
                refine At.wpcS (i := 9) (d := 158) (.pointer (some ⟨vBlock dv, vOff dv + 1 * 7 + 0 + 1, none⟩)) (by kernel_rfl) rfl rfl rfl (fun Lx => ?_) ?_
                · skip
                  exact .fieldAddr rfl fo45_1 rfl (.ops0 fun a ha => ⟨ha, rfl⟩)
                refine At.wpcS (i := 10) (d := 159) (.int .i64 nq) (by kernel_rfl) rfl rfl rfl (fun Lx => ?_) ?_
                · skip
                  exact .load rfl (Ld.cell ag3 ((((hd.gr hG.ext lR)).cells huq eq).get rfl)) rfl (.ops0 fun a ha => ⟨ha, rfl⟩)
                refine At.wpcE [11, 15] (by kernel_rfl) (by kernel_rfl) (.cons [] rfl (by kernel_rfl) ?_ (.cons [0, 1, 2, 3, 4, 5, 6, 7, 8, 9, 10] rfl (by kernel_rfl) ?_ .nil))
                · skip
                  refine At.call en141 rfl rfl (vop_any nm np nq _) (fun e w10 hR => ?_)
                  obtain ⟨kz, jz, okz, rfl, hvop, hbl3⟩ := hR; refine ⟨_, rfl, ?_⟩
                  replace hG := hG.below hbl3
                  replace hM := hM.below hbl3
                  refine .ops0 (.wpcN .nil ?_)
                  refine At.wpcS (i := 12) (d := 148) (.tuple #[.agg #[.int .i64 kz, .int .i64 jz, .string eB, zN], .bool okz]) (by kernel_rfl) rfl rfl rfl (fun Lx => ?_) ?_
                  · skip
                    exact .move rfl rfl (.ops0 fun a ha => ⟨ha, rfl⟩)
                  refine At.wpcS (i := 13) (d := 161) (.agg #[.int .i64 kz, .int .i64 jz, .string eB, zN]) (by kernel_rfl) rfl rfl rfl (fun Lx => ?_) ?_
                  · skip
                    exact .extract rfl rfl rfl (.ops0 fun a ha => ⟨ha, rfl⟩)
                  refine At.wpcS (i := 14) (d := 162) (.bool okz) (by kernel_rfl) rfl rfl rfl (fun Lx => ?_) ?_
                  · skip
                    exact .extract rfl rfl rfl (.ops0 fun a ha => ⟨ha, rfl⟩)
                  refine At.wpcE [15] (by kernel_rfl) (by kernel_rfl) (.cons [12, 13, 14] rfl (by kernel_rfl) ?_ .nil)
                  refine At.alloc ze45 rfl (fun b1 w11 F1 => ?_)
                  have hMqb1 := hM; have hGqb1 := hG
                  have mb1 := hM.newM F1
                  have hb1 : w11.heap[b1]? = some (.cells #[zI, zI, zS, zN] 45) := F1.new
                  replace hG := hG.below F1.bel
                  replace hM := hM.below F1.bel
                  have hpdb1 := F1.bel
                  refine .ops0 ?_
                  refine At.wpcN (.cons rfl rfl rfl rfl (fun Lx => ?_) (.cons rfl rfl rfl rfl (fun Lx => ?_) (.cons rfl rfl rfl rfl (fun Lx => ?_) .nil))) ?_
                  · skip
                    exact .move rfl rfl (.ops0 fun a ha => ⟨ha, rfl⟩)
                  · skip
                    exact .extract rfl rfl rfl (.ops0 fun a ha => ⟨ha, rfl⟩)
                  · skip
                    exact .extract rfl rfl rfl (.ops0 fun a ha => ⟨ha, rfl⟩)
                  refine At.wpcE [16] (by kernel_rfl) (by kernel_rfl) (.cons [14] rfl (by kernel_rfl) ?_ .nil)
                  refine At.storeAll rfl rfl hb1 sz45 rfl (by first | (simp [Value.oneCell', ((SlOk.nil)).one]; done) | (simp only [List.all_toArray, List.all_cons, List.all_nil, ((SlOk.nil)).one, Bool.and_true, Bool.true_and] <;> rfl)) (fun w12 S1 => ?_)
                  replace hb1 : w12.heap[b1]? = some (.cells #[.int .i64 kz, .int .i64 jz, .string eB, zN] 45) := S1.new
                  have hpdb1 := S1.below hpdb1 hpdb1.size (Nat.le_of_eq F1.eq.symm); replace hM := hMqb1.below hpdb1; replace hG := hGqb1.below hpdb1
                  refine .ops0 ?_
                  refine At.wpcN (.cons rfl rfl rfl rfl (fun Lx => ?_) .nil) ?_
                  · skip
                    exact .extract rfl rfl rfl (.ops0 fun a ha => ⟨ha, rfl⟩)
                  refine At.wpcE [17] (by kernel_rfl) (by kernel_rfl) (.cons [] rfl (by kernel_rfl) ?_ .nil)
                  refine .assign rfl rfl (.ops0 (.wpcN .nil (.wpcZ (.thenN (.seq (.seq (.region (.move rfl rfl (.not rfl rfl (.ops0 (.thenN ?_)))))))))))
                  refine At.cond (b := (!okz)) rfl (fun hc3 => ?_) (fun hc3 => ?_)
                  · skip
                    have hv : vop nm _ _ = none := hvop.elim (fun q => by rw [q.1] at hc3; cases hc3) (·.2)
                    refine .seq (.region (.move rfl rfl (.eqS rfl rfl rfl (.move rfl rfl ?_))))
                    refine At.cases (decide (nm = (⟨#[47]⟩ : ByteArray))) (fun hg6 => ?_) (fun hg6 => ?_)
                    · skip
                      refine .set (d := 167) (u := .bool true) rfl (congrArg Value.bool hg6) ?_
                      have hg6' := of_decide_eq_true hg6
                      refine .yes rfl rfl rfl rfl (.move rfl rfl (.yes rfl rfl rfl rfl ?_))
                      refine At.callM en33 rfl rfl (ends_any 2 _ hM ) (fun x2 w13 hM G3 => ?_)
                      replace hG := hG.trans G3
                      obtain ⟨hb1, mb1⟩ := G3.both mb1 hb1
                      refine .pickT rfl rfl rfl (.assign rfl rfl (.ops0 (.thenN (.retc (.thenR (.inR (.thenR (.doneR (ResV.tmp rfl ResV.nil) ?_))))))))
                      exact Pst.fin (by have en := of_decide_eq_true hg6; subst en; simp only [opF, List.map_cons, List.map_nil, hc1, hc2, ekp, ekq, enp, enq, hv, Bool.and_true, Bool.and_false, Bool.true_and, Bool.false_and, cond_true, cond_false] <;> rfl) hM hG
                    · skip
                      refine .set (d := 167) (u := .bool false) rfl (congrArg Value.bool hg6) ?_
                      have hg6' := of_decide_eq_false hg6
                      refine .no rfl rfl rfl rfl rfl rfl rfl (.no rfl rfl rfl rfl rfl rfl rfl (.pickF rfl rfl rfl (.assign rfl rfl (.ops0 (.thenN (.retc (.thenR (.inR (.thenR (.doneR (ResV.tmp rfl ResV.nil) ?_))))))))))
                      exact Pst.fin (by simp only [opF, List.map_cons, List.map_nil, hc1, hc2, hg6, ekp, ekq, enp, enq, hv, Bool.and_true, Bool.and_false, Bool.true_and, Bool.false_and, cond_true, cond_false] <;> rfl) hM hG
                  · skip
                    obtain ⟨_, hv, hk5, hk2⟩ := hvop.resolve_right (fun q => by rw [q.1] at hc3; cases hc3)
                    refine .skip (.thenN (.seq (.region (.move rfl rfl (.load rfl (Ld.own (C := #[.int .i64 kz, .int .i64 jz, .string eB, zN]) ag45 sz45 hb1) rfl (.build (C := #[.int .i64 kz, .int .i64 jz, .string eB, zN, zN, .pointer none, .pointer none]) sd82 ze82 rfl (Bld.cons fo82_0 rfl (lB rfl) (Bld.nil _)) rfl ?_))))))
                    refine At.callM en41 rfl rfl (has_any  _ hM (XAt.mk (Vs.nil _ _ _) (.nil (by simp)) (.nil (by simp)) (fun e => absurd e hk5) hk2)) (fun x3 w14 hM G4 => ?_)
                    replace hG := hG.trans G4
                    obtain ⟨hb1, mb1⟩ := G4.both mb1 hb1
                    refine .assign rfl rfl (.ops0 (.thenN (.retc (.inR (.thenR (.doneR (ResV.tmp rfl ResV.nil) ?_))))))
                    exact Pst.fin (by simp only [opF, List.map_cons, List.map_nil, hc1, hc2, ekp, ekq, enp, enq, hv, Bool.and_true, Bool.and_false, Bool.true_and, Bool.false_and, cond_true, cond_false] <;> rfl) hM hG
                · skip
                  refine At.alloc ze45 rfl (fun b2 w15 F2 => ?_)
                  have hMqb2 := hM; have hGqb2 := hG
                  have mb2 := hM.newM F2
                  have hb2 : w15.heap[b2]? = some (.cells #[zI, zI, zS, zN] 45) := F2.new
                  replace hG := hG.below F2.bel
                  replace hM := hM.below F2.bel
                  have hpdb2 := F2.bel
                  refine .ops0 ?_
                  refine At.wpcN (.cons rfl rfl rfl rfl (fun Lx => ?_) (.cons rfl rfl rfl rfl (fun Lx => ?_) (.cons rfl rfl rfl rfl (fun Lx => ?_) (.cons rfl rfl rfl rfl (fun Lx => ?_) (.cons rfl rfl rfl rfl (fun Lx => ?_) (.cons rfl rfl rfl rfl (fun Lx => ?_) (.cons rfl rfl rfl rfl (fun Lx => ?_) (.cons rfl rfl rfl rfl (fun Lx => ?_) (.cons rfl rfl rfl rfl (fun Lx => ?_) (.cons rfl rfl rfl rfl (fun Lx => ?_) (.cons rfl rfl rfl rfl (fun Lx => ?_) .nil))))))))))) ?_
                  · skip
                    exact .move rfl rfl (.ops0 fun a ha => ⟨ha, rfl⟩)
                  · skip
                    exact .move rfl rfl (.ops0 fun a ha => ⟨ha, rfl⟩)
                  · skip
                    exact .indexAddr (i := 0) rfl rfl (hd).ok (lt_of_some hup) el78 sz82 rfl (.ops0 fun a ha => ⟨ha, rfl⟩)
                  · skip
                    exact .fieldAddr rfl fo82_0 rfl (.ops0 fun a ha => ⟨ha, rfl⟩)
                  · skip
                    exact .fieldAddr rfl fo45_1 rfl (.ops0 fun a ha => ⟨ha, rfl⟩)
                  · skip
                    exact .load rfl (Ld.cell ag3 ((((hd.gr hG.ext lR)).cells hup ep).get rfl)) rfl (.ops0 fun a ha => ⟨ha, rfl⟩)
                  · skip
                    exact .move rfl rfl (.ops0 fun a ha => ⟨ha, rfl⟩)
                  · skip
                    exact .indexAddr (i := 1) rfl rfl (hd).ok (lt_of_some huq) el78 sz82 rfl (.ops0 fun a ha => ⟨ha, rfl⟩)
                  · skip
                    exact .fieldAddr rfl fo82_0 rfl (.ops0 fun a ha => ⟨ha, rfl⟩)
                  · skip
                    exact .fieldAddr rfl fo45_1 rfl (.ops0 fun a ha => ⟨ha, rfl⟩)
                  · skip
                    exact .load rfl (Ld.cell ag3 ((((hd.gr hG.ext lR)).cells huq eq).get rfl)) rfl (.ops0 fun a ha => ⟨ha, rfl⟩)
                  refine At.wpcE [11] (by kernel_rfl) (by kernel_rfl) (.cons [] rfl (by kernel_rfl) ?_ .nil)
                  refine At.call en141 rfl rfl (vop_any nm np nq _) (fun e w16 hR => ?_)
                  obtain ⟨kz, jz, okz, rfl, hvop, hbl4⟩ := hR; refine ⟨_, rfl, ?_⟩
                  replace hb2 := Below.old hbl4 hb2
                  replace hpdb2 := Below.andThen hpdb2 hbl4
                  replace hG := hG.below hbl4
                  replace hM := hM.below hbl4
                  refine .ops0 (.wpcN .nil ?_)
                  refine At.wpcS (i := 12) (d := 148) (.tuple #[.agg #[.int .i64 kz, .int .i64 jz, .string eB, zN], .bool okz]) (by kernel_rfl) rfl rfl rfl (fun Lx => ?_) ?_
                  · skip
                    exact .move rfl rfl (.ops0 fun a ha => ⟨ha, rfl⟩)
                  refine At.wpcS (i := 13) (d := 161) (.agg #[.int .i64 kz, .int .i64 jz, .string eB, zN]) (by kernel_rfl) rfl rfl rfl (fun Lx => ?_) ?_
                  · skip
                    exact .extract rfl rfl rfl (.ops0 fun a ha => ⟨ha, rfl⟩)
                  refine At.wpcS (i := 14) (d := 162) (.bool okz) (by kernel_rfl) rfl rfl rfl (fun Lx => ?_) ?_
                  · skip
                    exact .extract rfl rfl rfl (.ops0 fun a ha => ⟨ha, rfl⟩)
                  refine At.wpcE [16] (by kernel_rfl) (by kernel_rfl) (.cons [14] rfl (by kernel_rfl) ?_ .nil)
                  refine At.storeAll rfl rfl hb2 sz45 rfl (by first | (simp [Value.oneCell', ((SlOk.nil)).one]; done) | (simp only [List.all_toArray, List.all_cons, List.all_nil, ((SlOk.nil)).one, Bool.and_true, Bool.true_and] <;> rfl)) (fun w17 S2 => ?_)
                  replace hb2 : w17.heap[b2]? = some (.cells #[.int .i64 kz, .int .i64 jz, .string eB, zN] 45) := S2.new
                  have hpdb2 := S2.below hpdb2 hpdb2.size (Nat.le_of_eq F2.eq.symm); replace hM := hMqb2.below hpdb2; replace hG := hGqb2.below hpdb2
                  refine .ops0 ?_
                  refine At.wpcN (.cons rfl rfl rfl rfl (fun Lx => ?_) .nil) ?_
                  · skip
                    exact .extract rfl rfl rfl (.ops0 fun a ha => ⟨ha, rfl⟩)
                  refine At.wpcE [17] (by kernel_rfl) (by kernel_rfl) (.cons [] rfl (by kernel_rfl) ?_ .nil)
                  refine .assign rfl rfl (.ops0 (.wpcN .nil (.wpcZ (.thenN (.seq (.seq (.region (.move rfl rfl (.not rfl rfl (.ops0 (.thenN ?_)))))))))))
                  refine At.cond (b := (!okz)) rfl (fun hc4 => ?_) (fun hc4 => ?_)
                  · skip
                    have hv : vop nm _ _ = none := hvop.elim (fun q => by rw [q.1] at hc4; cases hc4) (·.2)
                    refine .seq (.region (.move rfl rfl (.eqS rfl rfl rfl (.move rfl rfl ?_))))
                    refine At.cases (decide (nm = (⟨#[47]⟩ : ByteArray))) (fun hg7 => ?_) (fun hg7 => ?_)
                    · skip
                      refine .set (d := 167) (u := .bool true) rfl (congrArg Value.bool hg7) ?_
                      have hg7' := of_decide_eq_true hg7
                      refine .yes rfl rfl rfl rfl (.move rfl rfl (.yes rfl rfl rfl rfl ?_))
                      refine At.callM en33 rfl rfl (ends_any 2 _ hM ) (fun x4 w18 hM G5 => ?_)
                      replace hG := hG.trans G5
                      obtain ⟨hb2, mb2⟩ := G5.both mb2 hb2
                      refine .pickT rfl rfl rfl (.assign rfl rfl (.ops0 (.thenN (.retc (.thenR (.inR (.thenR (.doneR (ResV.tmp rfl ResV.nil) ?_))))))))
                      exact Pst.fin (by have en := of_decide_eq_true hg7; subst en; simp only [opF, List.map_cons, List.map_nil, hc1, hc2, ekp, ekq, enp, enq, hv, Bool.and_true, Bool.and_false, Bool.true_and, Bool.false_and, cond_true, cond_false] <;> rfl) hM hG
                    · skip
                      refine .set (d := 167) (u := .bool false) rfl (congrArg Value.bool hg7) ?_
                      have hg7' := of_decide_eq_false hg7
                      refine .no rfl rfl rfl rfl rfl rfl rfl (.no rfl rfl rfl rfl rfl rfl rfl (.pickF rfl rfl rfl (.assign rfl rfl (.ops0 (.thenN (.retc (.thenR (.inR (.thenR (.doneR (ResV.tmp rfl ResV.nil) ?_))))))))))
                      exact Pst.fin (by simp only [opF, List.map_cons, List.map_nil, hc1, hc2, hg7, ekp, ekq, enp, enq, hv, Bool.and_true, Bool.and_false, Bool.true_and, Bool.false_and, cond_true, cond_false] <;> rfl) hM hG
                  · skip
                    obtain ⟨_, hv, hk5, hk2⟩ := hvop.resolve_right (fun q => by rw [q.1] at hc4; cases hc4)
                    refine .skip (.thenN (.seq (.region (.move rfl rfl (.load rfl (Ld.own (C := #[.int .i64 kz, .int .i64 jz, .string eB, zN]) ag45 sz45 hb2) rfl (.build (C := #[.int .i64 kz, .int .i64 jz, .string eB, zN, zN, .pointer none, .pointer none]) sd82 ze82 rfl (Bld.cons fo82_0 rfl (lB rfl) (Bld.nil _)) rfl ?_))))))
                    refine At.callM en41 rfl rfl (has_any  _ hM (XAt.mk (Vs.nil _ _ _) (.nil (by simp)) (.nil (by simp)) (fun e => absurd e hk5) hk2)) (fun x5 w19 hM G6 => ?_)
                    replace hG := hG.trans G6
                    obtain ⟨hb2, mb2⟩ := G6.both mb2 hb2
                    refine .assign rfl rfl (.ops0 (.thenN (.retc (.inR (.thenR (.doneR (ResV.tmp rfl ResV.nil) ?_))))))
                    exact Pst.fin (by simp only [opF, List.map_cons, List.map_nil, hc1, hc2, ekp, ekq, enp, enq, hv, Bool.and_true, Bool.and_false, Bool.true_and, Bool.false_and, cond_true, cond_false] <;> rfl) hM hG
              · skip
                refine .skip (.inN (.thenN (.seq (.region (.assign rfl rfl (.ops0 (.thenN (.retc (.doneR (ResV.tmp rfl ResV.nil) ?_)))))))))
                exact Pst.fin (by simp only [opF, List.map_cons, List.map_nil, hc1, hc2, ekp, ekq, enp, enq, Bool.and_true, Bool.and_false, Bool.true_and, Bool.false_and, cond_true, cond_false] <;> rfl) hM hG
theorem op3_any {E : List (Option Nat)} {b : Nat} {x : Sx} {s : SS} {p q r : List Value × X} {rest : List (List Value × X)} {dv : Value} (nm : ByteArray) (w : World) (hM : StA E b x w s) (hd : Vs (x.M b ++ E) s.cells.length w dv (p :: q :: r :: rest)) (hlt : s.tr.length ≤ 1000000000000) (hlc : s.cells.length ≤ 1000000000000) :
    Calls Tryz.prog 139 ([.pointer (some ⟨b, 0, none⟩), .string nm, dv] : List Value).toArray w (Pst E b x w (opF s nm ((p :: q :: r :: rest).map Prod.snd))) := by
  have hG := Gr.refl (x.M b) w
  refine At.enter (N := 175) Tryz.func139 rfl rfl (by simp) [(0, .pointer (some ⟨b, 0, none⟩)), (1, .string nm), (2, dv)] (by simp) ?_
  refine .seq (.region (.assign rfl rfl (.ops0 (.thenN (.seq (.block (.seq (.region ?_))))))))
  refine At.join [(0, .pointer (some ⟨b, 0, none⟩)), (1, .string nm), (2, dv), (9, .bool false)] (fun w' => w = w') ?_ (fun w1 hS => ?_)
  · skip
    refine .move rfl rfl (.eqS rfl rfl rfl (.move rfl rfl ?_))
    refine At.cases (decide (nm = (⟨#[112, 114, 105, 110, 116]⟩ : ByteArray))) (fun hg1 => ?_) (fun hg1 => ?_)
    · skip
      refine .set (d := 12) (u := .bool true) rfl (congrArg Value.bool hg1) ?_
      have hg1' := of_decide_eq_true hg1
      refine .yes rfl rfl rfl rfl (.move rfl rfl (.yes rfl rfl rfl rfl (.lenSl (n := (rest.length + 3)) rfl (hd).ok el78 rfl (.yes rfl rfl rfl rfl (.eqI rfl rfl rfl (.set (d := 15) (u := .bool false) rfl (congrArg Value.bool (decide_eq_false (by omega))) (.pickT rfl rfl rfl (.move rfl rfl (.no rfl rfl rfl rfl rfl rfl rfl (.no rfl rfl rfl rfl rfl rfl rfl (.no rfl rfl rfl rfl rfl rfl rfl (.no rfl rfl rfl rfl rfl rfl rfl (.no rfl rfl rfl rfl rfl rfl rfl (.no rfl rfl rfl rfl rfl rfl rfl (.pickF rfl rfl rfl (.assign rfl rfl ?_))))))))))))))))
      exact At.joined (sC rfl (sC rfl (sC rfl (sC rfl sN)))) rfl
    · skip
      refine .set (d := 12) (u := .bool false) rfl (congrArg Value.bool hg1) ?_
      have hg1' := of_decide_eq_false hg1
      refine .no rfl rfl rfl rfl rfl rfl rfl (.no rfl rfl rfl rfl rfl rfl rfl (.no rfl rfl rfl rfl rfl rfl rfl (.pickF rfl rfl rfl (.move rfl rfl (.no rfl rfl rfl rfl rfl rfl rfl (.no rfl rfl rfl rfl rfl rfl rfl (.no rfl rfl rfl rfl rfl rfl rfl (.no rfl rfl rfl rfl rfl rfl rfl (.no rfl rfl rfl rfl rfl rfl rfl (.no rfl rfl rfl rfl rfl rfl rfl (.pickF rfl rfl rfl (.assign rfl rfl ?_))))))))))))
      exact At.joined (sC rfl (sC rfl (sC rfl (sC rfl sN)))) rfl
  · skip
    subst hS
    refine .thenN (.condF rfl (.seq (.region ?_)))
    refine At.join [(0, .pointer (some ⟨b, 0, none⟩)), (1, .string nm), (2, dv), (44, .bool false)] (fun w' => w = w') ?_ (fun w2 hS => ?_)
    · skip
      refine .move rfl rfl (.eqS rfl rfl rfl (.move rfl rfl ?_))
      refine At.cases (decide (nm = (⟨#[114, 101, 102]⟩ : ByteArray))) (fun hg2 => ?_) (fun hg2 => ?_)
      · skip
        refine .set (d := 47) (u := .bool true) rfl (congrArg Value.bool hg2) ?_
        have hg2' := of_decide_eq_true hg2
        refine .yes rfl rfl rfl rfl (.move rfl rfl (.yes rfl rfl rfl rfl (.lenSl (n := (rest.length + 3)) rfl (hd).ok el78 rfl (.yes rfl rfl rfl rfl (.eqI rfl rfl rfl (.set (d := 50) (u := .bool false) rfl (congrArg Value.bool (decide_eq_false (by omega))) (.pickT rfl rfl rfl (.assign rfl rfl ?_))))))))
        exact At.joined (sC rfl (sC rfl (sC rfl (sC rfl sN)))) rfl
      · skip
        refine .set (d := 47) (u := .bool false) rfl (congrArg Value.bool hg2) ?_
        have hg2' := of_decide_eq_false hg2
        refine .no rfl rfl rfl rfl rfl rfl rfl (.no rfl rfl rfl rfl rfl rfl rfl (.no rfl rfl rfl rfl rfl rfl rfl (.pickF rfl rfl rfl (.assign rfl rfl ?_))))
        exact At.joined (sC rfl (sC rfl (sC rfl (sC rfl sN)))) rfl
    · skip
      subst hS
      refine .thenN (.condF rfl (.seq (.region ?_)))
      refine At.join [(0, .pointer (some ⟨b, 0, none⟩)), (1, .string nm), (2, dv), (75, .bool false)] (fun w' => w = w') ?_ (fun w3 hS => ?_)
      · skip
        refine .move rfl rfl (.eqS rfl rfl rfl (.move rfl rfl ?_))
        refine At.cases (decide (nm = (⟨#[33]⟩ : ByteArray))) (fun hg3 => ?_) (fun hg3 => ?_)
        · skip
          refine .set (d := 78) (u := .bool true) rfl (congrArg Value.bool hg3) ?_
          have hg3' := of_decide_eq_true hg3
          refine .yes rfl rfl rfl rfl (.move rfl rfl (.yes rfl rfl rfl rfl (.lenSl (n := (rest.length + 3)) rfl (hd).ok el78 rfl (.yes rfl rfl rfl rfl (.eqI rfl rfl rfl (.set (d := 81) (u := .bool false) rfl (congrArg Value.bool (decide_eq_false (by omega))) (.pickT rfl rfl rfl (.move rfl rfl (.no rfl rfl rfl rfl rfl rfl rfl (.no rfl rfl rfl rfl rfl rfl rfl (.no rfl rfl rfl rfl rfl rfl rfl (.no rfl rfl rfl rfl rfl rfl rfl (.no rfl rfl rfl rfl rfl rfl rfl (.no rfl rfl rfl rfl rfl rfl rfl (.pickF rfl rfl rfl (.assign rfl rfl ?_))))))))))))))))
          exact At.joined (sC rfl (sC rfl (sC rfl (sC rfl sN)))) rfl
        · skip
          refine .set (d := 78) (u := .bool false) rfl (congrArg Value.bool hg3) ?_
          have hg3' := of_decide_eq_false hg3
          refine .no rfl rfl rfl rfl rfl rfl rfl (.no rfl rfl rfl rfl rfl rfl rfl (.no rfl rfl rfl rfl rfl rfl rfl (.pickF rfl rfl rfl (.move rfl rfl (.no rfl rfl rfl rfl rfl rfl rfl (.no rfl rfl rfl rfl rfl rfl rfl (.no rfl rfl rfl rfl rfl rfl rfl (.no rfl rfl rfl rfl rfl rfl rfl (.no rfl rfl rfl rfl rfl rfl rfl (.no rfl rfl rfl rfl rfl rfl rfl (.pickF rfl rfl rfl (.assign rfl rfl ?_))))))))))))
          exact At.joined (sC rfl (sC rfl (sC rfl (sC rfl sN)))) rfl
      · skip
        subst hS
        refine .thenN (.condF rfl (.seq (.region ?_)))
        refine At.join [(0, .pointer (some ⟨b, 0, none⟩)), (1, .string nm), (2, dv), (100, .bool false)] (fun w' => w = w') ?_ (fun w4 hS => ?_)
        · skip
          refine .move rfl rfl (.eqS rfl rfl rfl (.move rfl rfl ?_))
          refine At.cases (decide (nm = (⟨#[58, 61]⟩ : ByteArray))) (fun hg4 => ?_) (fun hg4 => ?_)
          · skip
            refine .set (d := 103) (u := .bool true) rfl (congrArg Value.bool hg4) ?_
            have hg4' := of_decide_eq_true hg4
            refine .yes rfl rfl rfl rfl (.move rfl rfl (.yes rfl rfl rfl rfl (.lenSl (n := (rest.length + 3)) rfl (hd).ok el78 rfl (.yes rfl rfl rfl rfl (.eqI rfl rfl rfl (.set (d := 106) (u := .bool false) rfl (congrArg Value.bool (decide_eq_false (by omega))) (.pickT rfl rfl rfl (.move rfl rfl (.no rfl rfl rfl rfl rfl rfl rfl (.no rfl rfl rfl rfl rfl rfl rfl (.no rfl rfl rfl rfl rfl rfl rfl (.no rfl rfl rfl rfl rfl rfl rfl (.no rfl rfl rfl rfl rfl rfl rfl (.no rfl rfl rfl rfl rfl rfl rfl (.pickF rfl rfl rfl (.assign rfl rfl ?_))))))))))))))))
            exact At.joined (sC rfl (sC rfl (sC rfl (sC rfl sN)))) rfl
          · skip
            refine .set (d := 103) (u := .bool false) rfl (congrArg Value.bool hg4) ?_
            have hg4' := of_decide_eq_false hg4
            refine .no rfl rfl rfl rfl rfl rfl rfl (.no rfl rfl rfl rfl rfl rfl rfl (.no rfl rfl rfl rfl rfl rfl rfl (.pickF rfl rfl rfl (.move rfl rfl (.no rfl rfl rfl rfl rfl rfl rfl (.no rfl rfl rfl rfl rfl rfl rfl (.no rfl rfl rfl rfl rfl rfl rfl (.no rfl rfl rfl rfl rfl rfl rfl (.no rfl rfl rfl rfl rfl rfl rfl (.no rfl rfl rfl rfl rfl rfl rfl (.pickF rfl rfl rfl (.assign rfl rfl ?_))))))))))))
            exact At.joined (sC rfl (sC rfl (sC rfl (sC rfl sN)))) rfl
        · skip
          subst hS
          refine .thenN (.condF rfl (.seq (.region ?_)))
          refine At.join [(0, .pointer (some ⟨b, 0, none⟩)), (1, .string nm), (2, dv), (128, .bool false)] (fun w' => w = w') ?_ (fun w5 hS => ?_)
          · skip
            refine .move rfl rfl (.lenSl (n := (rest.length + 3)) rfl (hd).ok el78 rfl (.eqI rfl rfl rfl (.set (d := 131) (u := .bool false) rfl (congrArg Value.bool (decide_eq_false (by omega))) (.move rfl rfl (.no rfl rfl rfl rfl rfl rfl rfl (.no rfl rfl rfl rfl rfl rfl rfl (.no rfl rfl rfl rfl rfl rfl rfl (.no rfl rfl rfl rfl rfl rfl rfl (.no rfl rfl rfl rfl rfl rfl rfl (.no rfl rfl rfl rfl rfl rfl rfl (.pickF rfl rfl rfl (.move rfl rfl (.no rfl rfl rfl rfl rfl rfl rfl (.no rfl rfl rfl rfl rfl rfl rfl (.no rfl rfl rfl rfl rfl rfl rfl (.no rfl rfl rfl rfl rfl rfl rfl (.no rfl rfl rfl rfl rfl rfl rfl (.no rfl rfl rfl rfl rfl rfl rfl (.pickF rfl rfl rfl (.assign rfl rfl ?_))))))))))))))))))))
            exact At.joined (sC rfl (sC rfl (sC rfl (sC rfl sN)))) rfl
          · skip
            subst hS
            refine .thenN (.condF rfl (.skip (.inN (.thenN (.seq (.region (.assign rfl rfl (.ops0 (.thenN (.retc (.doneR (ResV.tmp rfl ResV.nil) ?_)))))))))))
            exact Pst.fin (by simp only [opF, List.map_cons, List.map_nil, Bool.and_true, Bool.and_false, Bool.true_and, Bool.false_and, cond_true, cond_false] <;> rfl) hM hG
theorem op_any {E : List (Option Nat)} {b : Nat} {x : Sx} {s : SS} {dv : Value} {rows : List (List Value × X)} (nm : ByteArray) (w : World) (hM : StA E b x w s) (hd : Vs (x.M b ++ E) s.cells.length w dv rows) (hlt : s.tr.length ≤ 1000000000000) (hlc : s.cells.length ≤ 1000000000000) :
  Calls Tryz.prog 139 ([.pointer (some ⟨b, 0, none⟩), .string nm, dv] : List Value).toArray w (Pst E b x w (opF s nm (rows.map Prod.snd))) := by
 match rows, hd with
 | [], hd => exact op0_any nm w hM hd hlt hlc
 | [_], hd => exact op1_any nm w hM hd hlt hlc
 | [_, _], hd => exact op2_any nm w hM hd hlt hlc
 | _ :: _ :: _ :: _, hd => exact op3_any nm w hM hd hlt hlc
theorem and1 (n : Int) : bits .and .i64 n 1 = 0 ∨ bits .and .i64 n 1 = 1 := by
  have h := and_range n (n := 1) (by decide)
  have e : ((1 : Nat) : Int) = 1 := rfl
  rw [e] at h
  omega
section
variable {M E : List (Option Nat)} {nc : Nat} {w w' : World}
theorem Xs.armsOut {t : Tm} (h : Xs kTm M w [t]) : t.arms ≠ [] → some (vBlock t.av) ∉ M := fun hne => (h t (by simp)).2 _ ((tmBlk_eq t _).2 (.inr (.inl ⟨hne, rfl⟩)))
theorem Xs.kidsOut {t : Tm} (h : Xs kTm M w [t]) : t.kids ≠ [] → some (vBlock t.kv) ∉ M := fun hne => (h t (by simp)).2 _ ((tmBlk_eq t _).2 (.inl ⟨hne, rfl⟩))
theorem Xs.kids {t : Tm} (h : Xs kTm M w [t]) : Xs kTm M w t.kids := fun a ha => by
  obtain ⟨i, hi⟩ := List.getElem?_of_mem ha
  exact (h.kid hi) a (by simp)
theorem XAt.gat' {t : Tm} {dv ev : Value} {rows : List (List Value × X)} {e : X} (ht : Xs kTm M w [t]) (hd : Vs M nc w dv rows) (he : XAt M nc w .e [ev] e) : XAt M nc w .f [.iface 124 (.agg (mx [] t.cs [dv, ev]))] (.gat (shT t) (rows.map Prod.snd) e) := .gat ht rows hd.at_ hd.out hd.all he
theorem vBlock_take (n : Nat) (v : Value) : vBlock (takeV v n) = vBlock v := by
  cases v with
  | slice a m c => cases a <;> rfl
  | _ => rfl
theorem Xs.two {t : Tm} (h : Xs kTm M w [t]) (hl : 3 ≤ t.kids.length) : ((t.kids.drop 1).take (3 - 1)).length = 2 ∧ RowsAt w (takeV (dropV 21 t.kv 1) (3 - 1)) 21 (((t.kids.drop 1).take (3 - 1)).map Tm.cs) ∧ some (vBlock (takeV (dropV 21 t.kv 1) (3 - 1))) ∉ M ∧ Xs kTm M w ((t.kids.drop 1).take (3 - 1)) :=
  ⟨by simp; omega, rows_take (l := t.kids.drop 1) (by have := RowsAt.drop h.one.kidsAt (h := 1) (by simp; omega); rw [List.map_drop]; exact this) (by simp; omega), by rw [vBlock_take, vBlock_drop]; exact h.kidsOut (by intro e; rw [e] at hl; simp at hl), fun u hu => h.kids u (List.mem_of_mem_drop (List.mem_of_mem_take hu))⟩
end
section
variable {P : Program} {N : Nat} {ds : List Deferred} {L : List (Nat × Value)} {w : World} {ops : Array Oper} {Q : Exit → Act → World → Prop} {rest : List Oper} {d : Nat}
  {ty : TypeId} {pos : String} {aft : Array Edge} {x y z : Operand}
theorem At.sliceLH {t e : TypeId} {sz n lo hi : Nat} {v : Value} (hx : ev L x = some v) (hy : ev L y = some (.int .i64 (lo : Int))) (hz : ev L z = some (.int .i64 (hi : Int))) (hv : SlOk v n) (he : elemB P t = some e) (hs : sizeB P e = some sz) (hlh : lo ≤ hi) (hh : hi ≤ n) (hN : Nat.blt d N = true)
    (k : At N ds ((d, takeV (dropV sz v lo) (hi - lo)) :: L) (wpList P ops Q rest) w) :
    At N ds L (wpList P ops Q (⟨some d, .slice t x (some y) (some z) none, ty, pos, aft, none⟩ :: rest)) w := by
  have key : ∀ (a : Option Addr) (c : Nat), v = .slice a n c → n ≤ c → At N ds L (wpList P ops Q (⟨some d, .slice t x (some y) (some z) none, ty, pos, aft, none⟩ :: rest)) w := by
    rintro a c rfl hc
    exact At.op rfl rfl hN (fun b ha => by
      obtain ⟨h1, h2⟩ := elem_eq he
      have := run_slice_lh (P := P) w t a n c h1 .i64 .i64 (lo : Int) (hi : Int) (by omega) (by omega) (by omega)
      rw [h2, run_sizeOf hs] at this
      simp only [execOp, ha.ev hx, ha.ev hy, ha.ev hz, Option.map_some, Option.map_none, run_sliceAt_slice (P := P) w t _ _ _ _ h1, Sem.run_bind, this, Result.andThen_ok, Sem.run_pure]
      simp [sliced, dropV, takeV]) k
  rcases hv with ⟨rfl, rfl⟩ | ⟨a, cap, rfl, hc, hsp⟩
  · exact key none 0 rfl lR
  · exact key (some a) cap rfl hc
end
theorem needs_range {k : Int} (h : needs k ≠ -2) : 1 ≤ k ∧ k ≤ 14 := by
  rcases kids_find k with ⟨i, hf, _⟩ | ⟨_, h2⟩
  · apply Classical.byContradiction
    intro hn
    have e : ∀ b : Int, 1 ≤ b → b ≤ 14 → (k == b) = false := fun b h1 h2 => by simp; omega
    simp [kidsL, Instr.findNow, Instr.sameNow, e] at hf
  · exact absurd h2 h
theorem looks_eq {s : SS} {t : Tm} (h : shT t = s.t) (h1 : needs t.k ≠ -2) (h2 : ¬ ((t.kids.length : Int) < needs t.k)) : looksF s = (match t.k with
  | 1 => (match findX t.nm s.e with | some v => (s.has v, true) | none => (s, false))
  | 2 => (s.has (vI t.n), true)
  | 3 => (s.has (vB (bits .and .i64 t.n 1)), true)
  | 4 => (s.has vU, true)
  | 5 => (s.has (vF (.c eB t.nm (kid (shT t) 0) s.e)), true)
  | 6 => ((s.push (.arg (kid (shT t) 1) s.e)).goes (kid (shT t) 0) s.e, true)
  | 7 => ((s.push (.bnd t.nm (kid (shT t) 1) s.e)).goes (kid (shT t) 0) s.e, true)
  | 8 => (s.goes (kid (shT t) 1) (.e t.nm (vF (.c t.nm t.pm (kid (shT t) 0) s.e)) s.e), true)
  | 9 => ((s.push (.frk (((t.kids.drop 1).take 2).map shT) s.e)).goes (kid (shT t) 0) s.e, true)
  | 10 => bif decide (t.kids.length = 0) then aloneF s (shT t) else ((s.push (.gat (shT t) [] s.e)).goes (kid (shT t) 0) s.e, true)
  | 11 => bif decide (t.kids.length = 0) then aloneF s (shT t) else ((s.push (.gat (shT t) [] s.e)).goes (kid (shT t) 0) s.e, true)
  | 12 => ((s.push (.way (t.arms.map shAm) s.e)).goes (kid (shT t) 0) s.e, true)
  | 13 => ((s.push (.ask t.nm)).goes (kid (shT t) 0) s.e, true)
  | 14 => ((s.push (.hnd (t.arms.map shAm) s.e)).goes (kid (shT t) 0) s.e, true)
  | _ => (s, false)) := by
  have e1 : (decide (needs t.k = -2) || decide ((t.kids.length : Int) < needs t.k)) = false := by simp [h1]; omega
  unfold looksF
  rw [← h]
  simp only [stT_k, stT_nm, stT_pm, stT_n, stT_kl, stT_arms, stT_kids, List.map_take, List.map_drop, List.length_map, e1, cond_false]
  try rfl
theorem looks_no {s : SS} {t : Tm} (h : shT t = s.t) (h1 : needs t.k = -2 ∨ (t.kids.length : Int) < needs t.k) : looksF s = (s, false) := by
  have e1 : (decide (needs t.k = -2) || decide ((t.kids.length : Int) < needs t.k)) = true := by
    rcases h1 with h1 | h1 <;> simp [h1]
  unfold looksF
  rw [← h]
  simp only [stT_k, stT_kl, e1, cond_true]
theorem cc115 : Tryz.prog.concrete 115 = true := by kernel_rfl
theorem cc117 : Tryz.prog.concrete 117 = true := by kernel_rfl
theorem cc121 : Tryz.prog.concrete 121 = true := by kernel_rfl
theorem cc124 : Tryz.prog.concrete 124 = true := by kernel_rfl
theorem cc126 : Tryz.prog.concrete 126 = true := by kernel_rfl
theorem cc128 : Tryz.prog.concrete 128 = true := by kernel_rfl
theorem cc129 : Tryz.prog.concrete 129 = true := by kernel_rfl
theorem en39 : entB Tryz.prog 39 = true := by kernel_rfl
theorem en40 : entB Tryz.prog 40 = true := by kernel_rfl
theorem en44 : entB Tryz.prog 44 = true := by kernel_rfl
theorem en45 : entB Tryz.prog 45 = true := by kernel_rfl
theorem en46 : entB Tryz.prog 46 = true := by kernel_rfl
theorem en47 : entB Tryz.prog 47 = true := by kernel_rfl
theorem fo112_0 : fieldB Tryz.prog 112 0 = some (0, 1) := by kernel_rfl
theorem fo112_1 : fieldB Tryz.prog 112 1 = some (1, 1) := by kernel_rfl
theorem fo112_2 : fieldB Tryz.prog 112 2 = some (2, 21) := by kernel_rfl
theorem fo112_3 : fieldB Tryz.prog 112 3 = some (23, 1) := by kernel_rfl
theorem fo115_0 : fieldB Tryz.prog 115 0 = some (0, 21) := by kernel_rfl
theorem fo115_1 : fieldB Tryz.prog 115 1 = some (21, 1) := by kernel_rfl
theorem fo117_0 : fieldB Tryz.prog 117 0 = some (0, 1) := by kernel_rfl
theorem fo117_1 : fieldB Tryz.prog 117 1 = some (1, 21) := by kernel_rfl
theorem fo117_2 : fieldB Tryz.prog 117 2 = some (22, 1) := by kernel_rfl
theorem fo121_0 : fieldB Tryz.prog 121 0 = some (0, 1) := by kernel_rfl
theorem fo121_1 : fieldB Tryz.prog 121 1 = some (1, 1) := by kernel_rfl
theorem fo124_0 : fieldB Tryz.prog 124 0 = some (0, 21) := by kernel_rfl
theorem fo124_1 : fieldB Tryz.prog 124 1 = some (21, 1) := by kernel_rfl
theorem fo124_2 : fieldB Tryz.prog 124 2 = some (22, 1) := by kernel_rfl
theorem fo126_0 : fieldB Tryz.prog 126 0 = some (0, 1) := by kernel_rfl
theorem fo126_1 : fieldB Tryz.prog 126 1 = some (1, 1) := by kernel_rfl
theorem fo128_0 : fieldB Tryz.prog 128 0 = some (0, 1) := by kernel_rfl
theorem fo129_0 : fieldB Tryz.prog 129 0 = some (0, 1) := by kernel_rfl
theorem fo129_1 : fieldB Tryz.prog 129 1 = some (1, 1) := by kernel_rfl
theorem fo31_3 : fieldB Tryz.prog 31 3 = some (3, 1) := by kernel_rfl
theorem fo82_2 : fieldB Tryz.prog 82 2 = some (5, 1) := by kernel_rfl
theorem sd112 : sizedB Tryz.prog 112 = true := by kernel_rfl
theorem sd115 : sizedB Tryz.prog 115 = true := by kernel_rfl
theorem sd117 : sizedB Tryz.prog 117 = true := by kernel_rfl
theorem sd121 : sizedB Tryz.prog 121 = true := by kernel_rfl
theorem sd124 : sizedB Tryz.prog 124 = true := by kernel_rfl
theorem sd126 : sizedB Tryz.prog 126 = true := by kernel_rfl
theorem sd128 : sizedB Tryz.prog 128 = true := by kernel_rfl
theorem sd129 : sizedB Tryz.prog 129 = true := by kernel_rfl
theorem ze112 : zeroB Tryz.prog 112 = some (.agg #[.string (⟨#[]⟩ : ByteArray), .string (⟨#[]⟩ : ByteArray), .int .i64 0, .int .i64 0, .string (⟨#[]⟩ : ByteArray), .string (⟨#[]⟩ : ByteArray), .int .i64 0, (.slice none 0 0), (.slice none 0 0), .int .i64 0, .string (⟨#[]⟩ : ByteArray), .int .i64 0, (.slice none 0 0), (.slice none 0 0), .int .i64 0, (.slice none 0 0), .int .i64 0, .int .i64 0, .string (⟨#[]⟩ : ByteArray), .int .i64 0, (.slice none 0 0), (.slice none 0 0), .int .i64 0, .pointer none]) := by kernel_rfl
theorem ze115 : zeroB Tryz.prog 115 = some (.agg #[.int .i64 0, .int .i64 0, .string (⟨#[]⟩ : ByteArray), .string (⟨#[]⟩ : ByteArray), .int .i64 0, (.slice none 0 0), (.slice none 0 0), .int .i64 0, .string (⟨#[]⟩ : ByteArray), .int .i64 0, (.slice none 0 0), (.slice none 0 0), .int .i64 0, (.slice none 0 0), .int .i64 0, .int .i64 0, .string (⟨#[]⟩ : ByteArray), .int .i64 0, (.slice none 0 0), (.slice none 0 0), .int .i64 0, .pointer none]) := by kernel_rfl
theorem ze117 : zeroB Tryz.prog 117 = some (.agg #[.string (⟨#[]⟩ : ByteArray), .int .i64 0, .int .i64 0, .string (⟨#[]⟩ : ByteArray), .string (⟨#[]⟩ : ByteArray), .int .i64 0, (.slice none 0 0), (.slice none 0 0), .int .i64 0, .string (⟨#[]⟩ : ByteArray), .int .i64 0, (.slice none 0 0), (.slice none 0 0), .int .i64 0, (.slice none 0 0), .int .i64 0, .int .i64 0, .string (⟨#[]⟩ : ByteArray), .int .i64 0, (.slice none 0 0), (.slice none 0 0), .int .i64 0, .pointer none]) := by kernel_rfl
theorem ze121 : zeroB Tryz.prog 121 = some (.agg #[(.slice none 0 0), .pointer none]) := by kernel_rfl
theorem ze124 : zeroB Tryz.prog 124 = some (.agg #[.int .i64 0, .int .i64 0, .string (⟨#[]⟩ : ByteArray), .string (⟨#[]⟩ : ByteArray), .int .i64 0, (.slice none 0 0), (.slice none 0 0), .int .i64 0, .string (⟨#[]⟩ : ByteArray), .int .i64 0, (.slice none 0 0), (.slice none 0 0), .int .i64 0, (.slice none 0 0), .int .i64 0, .int .i64 0, .string (⟨#[]⟩ : ByteArray), .int .i64 0, (.slice none 0 0), (.slice none 0 0), .int .i64 0, (.slice none 0 0), .pointer none]) := by kernel_rfl
theorem ze126 : zeroB Tryz.prog 126 = some (.agg #[(.slice none 0 0), .pointer none]) := by kernel_rfl
theorem ze128 : zeroB Tryz.prog 128 = some (.agg #[.string (⟨#[]⟩ : ByteArray)]) := by kernel_rfl
theorem ze129 : zeroB Tryz.prog 129 = some (.agg #[(.slice none 0 0), .pointer none]) := by kernel_rfl
theorem looks_any {E : List (Option Nat)} {b : Nat} {x : Sx} {s : SS}  (w : World) (hM : StA E b x w s)  :
  Calls Tryz.prog 32 ([.pointer (some ⟨b, 0, none⟩)] : List Value).toArray w (Pst E b x w (looksF s)) := by
 have ht0 := hM.t; have he0 := hM.e; have hst := hM.st
 have hG := Gr.refl (x.M b) w
 refine At.enter (N := 194) Tryz.func32 rfl rfl (by simp) [(0, .pointer (some ⟨b, 0, none⟩))] (by simp) ?_
 refine .seq (.region (.assign rfl rfl (.ops0 (.thenN (.seq (.drawG (n := 11) mixed (by kernel_rfl) rfl (PanicOk.then PanicOk.body) ?_))))))
 replace hG := hG.drew
 replace hM := hM.drew
 refine .wpcS (i := 0) (d := 10) (.pointer (some ⟨b, 0, none⟩)) (by kernel_rfl) rfl rfl rfl (fun Lx => .move rfl rfl (.ops0 fun a ha => ⟨ha, rfl⟩)) ?_
 refine .wpcS (i := 1) (d := 11) (.pointer (some ⟨b, 0, none⟩)) (by kernel_rfl) rfl rfl rfl (fun Lx => .nilCheck rfl rfl (.ops0 fun a ha => ⟨ha, rfl⟩)) ?_
 refine .wpcS (i := 2) (d := 12) (.pointer (some ⟨b, 0 + 0, none⟩)) (by kernel_rfl) rfl rfl rfl (fun Lx => .fieldAddr rfl fo84_0 rfl (.ops0 fun a ha => ⟨ha, rfl⟩)) ?_
 refine .wpcS (i := 3) (d := 13) (.agg x.t.cs) (by kernel_rfl) rfl rfl rfl (fun Lx => .load rfl (Ld.ownPart ag31 (sz31.trans (congrArg some hM.tsz.symm)) hM.blk (mx_part hM.tsz)) rfl (.ops0 fun a ha => ⟨ha, rfl⟩)) ?_
 refine .wpcS (i := 4) (d := 14) (.pointer (some ⟨b, 0, none⟩)) (by kernel_rfl) rfl rfl rfl (fun Lx => .move rfl rfl (.ops0 fun a ha => ⟨ha, rfl⟩)) ?_
 refine .wpcS (i := 5) (d := 15) (.pointer (some ⟨b, 0, none⟩)) (by kernel_rfl) rfl rfl rfl (fun Lx => .nilCheck rfl rfl (.ops0 fun a ha => ⟨ha, rfl⟩)) ?_
 refine .wpcS (i := 6) (d := 16) (.pointer (some ⟨b, 0 + 21, none⟩)) (by kernel_rfl) rfl rfl rfl (fun Lx => .fieldAddr rfl fo84_1 rfl (.ops0 fun a ha => ⟨ha, rfl⟩)) ?_
 refine .wpcS (i := 7) (d := 17) (x.e) (by kernel_rfl) rfl rfl rfl (fun Lx => .load rfl (Ld.ownCell ag77 hM.blk (mx_at (j := 0) hM.tsz rfl rfl)) rfl (.ops0 fun a ha => ⟨ha, rfl⟩)) ?_
 refine At.wpcE [8] (by kernel_rfl) (by kernel_rfl) (.cons [0, 1, 2, 3, 4, 5, 6, 7] rfl (by kernel_rfl) ?_ .nil)
 refine At.alloc ze31 rfl (fun b1 w1 F1 => ?_)
 have hMqb1 := hM; have hGqb1 := hG
 have mb1 := hM.newM F1
 have hb1 : w1.heap[b1]? = some (.cells #[zI, zI, zS, zS, zI, zN, zN, zI, zS, zI, zN, zN, zI, zN, zI, zI, zS, zI, zN, zN, zI] 31) := F1.new
 replace hG := hG.below F1.bel
 replace hM := hM.below F1.bel
 have hpdb1 := F1.bel
 refine .ops0 ?_
 refine At.wpcN (.cons rfl rfl rfl rfl (fun Lx => ?_) (.cons rfl rfl rfl rfl (fun Lx => ?_) (.cons rfl rfl rfl rfl (fun Lx => ?_) (.cons rfl rfl rfl rfl (fun Lx => ?_) (.cons rfl rfl rfl rfl (fun Lx => ?_) (.cons rfl rfl rfl rfl (fun Lx => ?_) (.cons rfl rfl rfl rfl (fun Lx => ?_) (.cons rfl rfl rfl rfl (fun Lx => ?_) .nil)))))))) ?_
 ·skip
  exact .move rfl rfl (.ops0 fun a ha => ⟨ha, rfl⟩)
 ·skip
  exact .nilCheck rfl rfl (.ops0 fun a ha => ⟨ha, rfl⟩)
 ·skip
  exact .fieldAddr rfl fo84_0 rfl (.ops0 fun a ha => ⟨ha, rfl⟩)
 ·skip
  exact .load rfl (Ld.ownPart ag31 (sz31.trans (congrArg some hM.tsz.symm)) hM.blk (mx_part hM.tsz)) rfl (.ops0 fun a ha => ⟨ha, rfl⟩)
 ·skip
  exact .move rfl rfl (.ops0 fun a ha => ⟨ha, rfl⟩)
 ·skip
  exact .nilCheck rfl rfl (.ops0 fun a ha => ⟨ha, rfl⟩)
 ·skip
  exact .fieldAddr rfl fo84_1 rfl (.ops0 fun a ha => ⟨ha, rfl⟩)
 ·skip
  exact .load rfl (Ld.ownCell ag77 hM.blk (mx_at (j := 0) hM.tsz rfl rfl)) rfl (.ops0 fun a ha => ⟨ha, rfl⟩)
 refine At.wpcE [9] (by kernel_rfl) (by kernel_rfl) (.cons [4, 5, 6, 7] rfl (by kernel_rfl) ?_ .nil)
 refine At.storeAll rfl rfl hb1 (sz31.trans (congrArg some ht0.one.size.symm)) ht0.one.size.symm ht0.one.one (fun w2 S1 => ?_)
 replace hb1 : w2.heap[b1]? = some (.cells x.t.cs 31) := S1.new
 have hpdb1 := S1.below hpdb1 hpdb1.size (Nat.le_of_eq F1.eq.symm); replace hM := hMqb1.below hpdb1; replace hG := hGqb1.below hpdb1
 refine .ops0 ?_
 refine At.wpcN (.cons rfl rfl rfl rfl (fun Lx => ?_) (.cons rfl rfl rfl rfl (fun Lx => ?_) (.cons rfl rfl rfl rfl (fun Lx => ?_) (.cons rfl rfl rfl rfl (fun Lx => ?_) .nil)))) ?_
 ·skip
  exact .move rfl rfl (.ops0 fun a ha => ⟨ha, rfl⟩)
 ·skip
  exact .nilCheck rfl rfl (.ops0 fun a ha => ⟨ha, rfl⟩)
 ·skip
  exact .fieldAddr rfl fo84_1 rfl (.ops0 fun a ha => ⟨ha, rfl⟩)
 ·skip
  exact .load rfl (Ld.ownCell ag77 hM.blk (mx_at (j := 0) hM.tsz rfl rfl)) rfl (.ops0 fun a ha => ⟨ha, rfl⟩)
 refine At.wpcE [10] (by kernel_rfl) (by kernel_rfl) (.cons [] rfl (by kernel_rfl) ?_ .nil)
 refine .assign rfl rfl (.ops0 (.wpcN .nil (.wpcZ (.thenN (.seq (.seq (.region (.load rfl (Ld.own ag31 (sz31.trans (congrArg some ht0.one.size.symm)) hb1) rfl ?_))))))))
 refine At.call en39 rfl rfl (kidsN_any (nc := 0) _ (ht0.gr hG.ext)) (fun e w3 hR => ?_)
 obtain ⟨n1, ok1, rfl, hk1, hbl1⟩ := hR; refine ⟨_, rfl, ?_⟩
 replace hb1 := Below.old hbl1 hb1
 replace hG := hG.below hbl1
 replace hM := hM.below hbl1
 refine .move rfl rfl (.extract rfl rfl rfl (.extract rfl rfl rfl (.assign rfl rfl (.assign rfl rfl (.ops0 (.thenN (.seq (.region ?_))))))))
 refine At.join [(0, .pointer (some ⟨b, 0, none⟩)), (3, .pointer (some ⟨b1, 0, none⟩)), (4, x.e), (31, .bool ((!ok1) || decide ((x.t.kids.length : Int) < n1)))] (fun w' => w3 = w') ?_ (fun w4 hS => ?_)
 ·skip
  refine .move rfl rfl (.not rfl rfl (.move rfl rfl ?_))
  refine At.cases ((!ok1)) (fun hg1 => ?_) (fun hg1 => ?_)
  ·skip
   refine .set (d := 25) (u := .bool true) rfl (congrArg Value.bool hg1) (.no rfl rfl rfl rfl rfl rfl rfl (.no rfl rfl rfl rfl rfl rfl rfl (.no rfl rfl rfl rfl rfl rfl rfl (.no rfl rfl rfl rfl rfl rfl rfl (.no rfl rfl rfl rfl rfl rfl rfl (.pickT rfl rfl rfl ?_))))))
   exact At.joined (sC rfl (sC rfl (sC rfl (Sub.cons (by show some (Value.bool true) = some (Value.bool ((!ok1) || decide ((x.t.kids.length : Int) < n1))); rw [hg1] <;> rfl) sN)))) rfl
  refine .set (d := 25) (u := .bool false) rfl (congrArg Value.bool hg1) (.yes rfl rfl rfl rfl (.move rfl rfl (.yes rfl rfl rfl rfl (.fieldAddr rfl fo31_5 rfl (.yes rfl rfl rfl rfl (.load rfl (Ld.ownCell ag22 hb1 ht0.one.c5) rfl (.yes rfl rfl rfl rfl (.lenSl rfl (ht0.one.kidsAt).okL el22 rfl (.yes rfl rfl rfl rfl (.gtr rfl rfl rfl (.pickF rfl rfl rfl ?_)))))))))))
  exact At.joined (sC rfl (sC rfl (sC rfl (Sub.cons (by show some (Value.bool (decide ((x.t.kids.length : Int) < n1))) = some (Value.bool ((!ok1) || decide ((x.t.kids.length : Int) < n1))); rw [hg1] <;> rfl) sN)))) rfl
 subst hS
 refine .thenN ?_
 refine At.cond (b := ((!ok1) || decide ((x.t.kids.length : Int) < n1))) rfl (fun hc1 => ?_) (fun hc1 => ?_)
 ·skip
  have hno : needs x.t.k = -2 ∨ (x.t.kids.length : Int) < needs x.t.k := by rcases hk1 with ⟨rfl, h2, rfl⟩ | ⟨h2, _⟩; exact .inr (by simpa using hc1); exact .inl h2
  refine .seq (.region (.assign rfl rfl (.ops0 (.thenN (.retc (.thenR (.doneR (ResV.tmp rfl ResV.nil) ?_)))))))
  exact Pst.fin (looks_no hst hno) hM hG
 obtain ⟨hn2, hle⟩ : needs x.t.k ≠ -2 ∧ ¬ ((x.t.kids.length : Int) < needs x.t.k) := by rcases hk1 with ⟨rfl, h2, rfl⟩ | ⟨_, rfl⟩; exact ⟨h2, by simpa using hc1⟩; simp at hc1
 refine .skip (.thenN (.seq (.seq (.region (.fieldAddr rfl fo31_0 rfl (.load rfl (Ld.ownCell ag3 hb1 ht0.one.c0) rfl (.ops0 (.thenN (.block (.seq (.region (.eqI rfl rfl rfl (.assign rfl rfl (.ops0 (.thenN ?_)))))))))))))))
 refine At.cond (b := decide (x.t.k = 1)) rfl (fun hc2 => ?_) (fun hc2 => ?_)
 ·skip
  have hc2' := of_decide_eq_true hc2
  have hl : (0 : Int) ≤ (x.t.kids.length : Int) := by have h := Int.not_lt.1 hle; rw [hc2'] at h; exact h
  refine .seq (.region (.move rfl rfl (.fieldAddr rfl fo31_2 rfl (.load rfl (Ld.ownCell ag9 hb1 ht0.one.c2) rfl ?_))))
  refine At.call en40 rfl rfl (find_any x.t.nm _ (he0.gr hG.ext lR)) (fun e w5 hR => ?_)
  obtain ⟨kf, nf, mf, vf, ff, qf, okf, rfl, hfx, hbl2⟩ := hR; refine ⟨_, rfl, ?_⟩
  replace hb1 := Below.old hbl2 hb1
  replace hG := hG.below hbl2
  replace hM := hM.below hbl2
  rcases hfx with ⟨rfl, yf, hq, hy⟩ | ⟨rfl, hq, rfl, rfl, rfl, rfl, rfl, rfl⟩
  ·skip
   refine .move rfl rfl (.extract rfl rfl rfl (.extract rfl rfl rfl ?_))
   refine At.alloc ze82 rfl (fun b2 w6 F2 => ?_)
   have n_b1_b2 := F2.ne' hb1
   have mb2 := hM.newM F2
   replace hb1 := F2.old hb1
   have hb2 : w6.heap[b2]? = some (.cells #[zI, zI, zS, zN, zN, .pointer none, .pointer none] 82) := F2.new
   refine At.storeAll rfl rfl hb2 sz82 rfl hy.vone (fun w7 S2 => ?_)
   replace hb1 := S2.other hb1 n_b1_b2
   replace hb2 : w7.heap[b2]? = some (.cells #[.int .i64 kf, .int .i64 nf, .string mf, zN, vf, ff, qf] 82) := S2.new
   replace hG := hG.below (F2.bel2 S2)
   replace hM := hM.below (F2.bel2 S2)
   replace hy := hy.gr (Gr.of (F2.bel2 S2) _) lR
   refine .assign rfl rfl (.ops0 (.thenN (.seq (.region (.move rfl rfl (.move rfl rfl (.yes rfl rfl rfl rfl (.move rfl rfl (.yes rfl rfl rfl rfl (.load rfl (Ld.own (C := #[.int .i64 kf, .int .i64 nf, .string mf, zN, vf, ff, qf]) ag82 sz82 hb2) rfl (.yes rfl rfl rfl rfl ?_)))))))))))
   refine At.callM en41 rfl rfl (has_any  _ hM hy) (fun x1 w8 hM G1 => ?_)
   replace hG := hG.trans G1
   obtain ⟨hb1, mb1⟩ := G1.both mb1 hb1
   obtain ⟨hb2, mb2⟩ := G1.both mb2 hb2
   refine .pickT rfl rfl rfl (.assign rfl rfl (.ops0 (.thenN (.retc (.inR (.thenR (.doneR (ResV.tmp rfl ResV.nil) ?_)))))))
   exact Pst.fin (by rw [looks_eq hst hn2 hle, hc2']; simp only [hq, cond_true, cond_false] <;> rfl) hM hG
  refine .move rfl rfl (.extract rfl rfl rfl (.extract rfl rfl rfl ?_))
  refine At.alloc ze82 rfl (fun b3 w9 F3 => ?_)
  have mb3 := hM.newM F3
  have hb3 : w9.heap[b3]? = some (.cells #[zI, zI, zS, zN, zN, .pointer none, .pointer none] 82) := F3.new
  refine At.storeAll rfl rfl hb3 sz82 rfl (by first | (simp [Value.oneCell', ((SlOk.nil)).one]; done) | (simp only [List.all_toArray, List.all_cons, List.all_nil, ((SlOk.nil)).one, Bool.and_true, Bool.true_and] <;> rfl)) (fun w10 S3 => ?_)
  replace hG := hG.below (F3.bel2 S3)
  replace hM := hM.below (F3.bel2 S3)
  refine .assign rfl rfl (.ops0 (.thenN (.seq (.region (.move rfl rfl (.move rfl rfl (.no rfl rfl rfl rfl rfl rfl rfl (.no rfl rfl rfl rfl rfl rfl rfl (.no rfl rfl rfl rfl rfl rfl rfl (.pickF rfl rfl rfl (.assign rfl rfl (.ops0 (.thenN (.retc (.inR (.thenR (.doneR (ResV.tmp rfl ResV.nil) ?_)))))))))))))))))
  exact Pst.fin (by rw [looks_eq hst hn2 hle, hc2']; simp only [hq, cond_true, cond_false] <;> rfl) hM hG
 have hc2' := of_decide_eq_false hc2
 refine .seq (.region (.eqI rfl rfl rfl (.assign rfl rfl (.ops0 (.thenN ?_)))))
 refine At.cond (b := decide (x.t.k = 2)) rfl (fun hc3 => ?_) (fun hc3 => ?_)
 ·skip
  have hc3' := of_decide_eq_true hc3
  have hl : (0 : Int) ≤ (x.t.kids.length : Int) := by have h := Int.not_lt.1 hle; rw [hc3'] at h; exact h
  refine .seq (.region (.move rfl rfl (.fieldAddr rfl fo31_4 rfl (.load rfl (Ld.ownCell ag3 hb1 ht0.one.c4) rfl ?_))))
  refine At.call en42 rfl rfl (numberS_any x.t.n _) (fun e w11 hR => ?_)
  obtain ⟨rfl, hbl3⟩ := hR
  refine ⟨_, rfl, ?_⟩
  replace hb1 := Below.old hbl3 hb1
  replace hG := hG.below hbl3
  replace hM := hM.below hbl3
  refine At.callM en41 rfl rfl (has_any  _ hM (XAt.vI x.t.n)) (fun x2 w12 hM G2 => ?_)
  replace hG := hG.trans G2
  obtain ⟨hb1, mb1⟩ := G2.both mb1 hb1
  refine .assign rfl rfl (.ops0 (.thenN (.retc (.inR (.thenR (.doneR (ResV.tmp rfl ResV.nil) ?_))))))
  exact Pst.fin (by rw [looks_eq hst hn2 hle, hc3']; simp only [cond_true, cond_false] <;> rfl) hM hG
 have hc3' := of_decide_eq_false hc3
 refine .seq (.region (.eqI rfl rfl rfl (.assign rfl rfl (.ops0 (.thenN ?_)))))
 refine At.cond (b := decide (x.t.k = 3)) rfl (fun hc4 => ?_) (fun hc4 => ?_)
 ·skip
  have hc4' := of_decide_eq_true hc4
  have hl : (0 : Int) ≤ (x.t.kids.length : Int) := by have h := Int.not_lt.1 hle; rw [hc4'] at h; exact h
  refine .seq (.region (.move rfl rfl (.fieldAddr rfl fo31_4 rfl (.load rfl (Ld.ownCell ag3 hb1 ht0.one.c4) rfl (.andI rfl rfl rfl (.build (C := #[.int .i64 2, .int .i64 (bits .and .i64 x.t.n 1), zS, zN]) sd45 ze45 rfl (Bld.cons fo45_0 rfl (lB rfl) (Bld.cons fo45_1 rfl (lB rfl) (Bld.nil _))) rfl (.build (C := #[.int .i64 2, .int .i64 (bits .and .i64 x.t.n 1), zS, zN, zN, .pointer none, .pointer none]) sd82 ze82 rfl (Bld.cons fo82_0 rfl (lB rfl) (Bld.nil _)) rfl ?_)))))))
  refine At.callM en41 rfl rfl (has_any  _ hM (XAt.mk (Vs.nil _ _ _) (.nil (by simp)) (.nil (by simp)) (fun e => absurd e (by decide)) (fun _ => and1 _))) (fun x3 w13 hM G3 => ?_)
  replace hG := hG.trans G3
  obtain ⟨hb1, mb1⟩ := G3.both mb1 hb1
  refine .assign rfl rfl (.ops0 (.thenN (.retc (.inR (.thenR (.doneR (ResV.tmp rfl ResV.nil) ?_))))))
  exact Pst.fin (by rw [looks_eq hst hn2 hle, hc4']; simp only [cond_true, cond_false] <;> rfl) hM hG
 have hc4' := of_decide_eq_false hc4
 refine .seq (.region (.eqI rfl rfl rfl (.assign rfl rfl (.ops0 (.thenN ?_)))))
 refine At.cond (b := decide (x.t.k = 4)) rfl (fun hc5 => ?_) (fun hc5 => ?_)
 ·skip
  have hc5' := of_decide_eq_true hc5
  have hl : (0 : Int) ≤ (x.t.kids.length : Int) := by have h := Int.not_lt.1 hle; rw [hc5'] at h; exact h
  refine .seq (.region (.move rfl rfl ?_))
  refine At.call en43 rfl rfl (unit_any _) (fun e w14 hR => ?_)
  obtain ⟨rfl, hbl4⟩ := hR
  refine ⟨_, rfl, ?_⟩
  replace hb1 := Below.old hbl4 hb1
  replace hG := hG.below hbl4
  replace hM := hM.below hbl4
  refine At.callM en41 rfl rfl (has_any  _ hM XAt.vU) (fun x4 w15 hM G4 => ?_)
  replace hG := hG.trans G4
  obtain ⟨hb1, mb1⟩ := G4.both mb1 hb1
  refine .assign rfl rfl (.ops0 (.thenN (.retc (.inR (.thenR (.doneR (ResV.tmp rfl ResV.nil) ?_))))))
  exact Pst.fin (by rw [looks_eq hst hn2 hle, hc5']; simp only [cond_true, cond_false] <;> rfl) hM hG
 have hc5' := of_decide_eq_false hc5
 refine .seq (.region (.eqI rfl rfl rfl (.assign rfl rfl (.ops0 (.thenN ?_)))))
 refine At.cond (b := decide (x.t.k = 5)) rfl (fun hc6 => ?_) (fun hc6 => ?_)
 ·skip
  have hc6' := of_decide_eq_true hc6
  have hl : (1 : Int) ≤ (x.t.kids.length : Int) := by have h := Int.not_lt.1 hle; rw [hc6'] at h; exact h
  refine .seq (.drawG (n := 14) mixed (by kernel_rfl) rfl (PanicOk.then (PanicOk.block (PanicOk.then PanicOk.body))) ?_)
  replace hG := hG.drew
  replace hM := hM.drew
  have hb1 : _ := (show w3.drew.heap[b1]? = _ from hb1)
  refine .wpcS (i := 0) (d := 72) (.pointer (some ⟨b, 0, none⟩)) (by kernel_rfl) rfl rfl rfl (fun Lx => .move rfl rfl (.ops0 fun a ha => ⟨ha, rfl⟩)) ?_
  refine .wpcS (i := 1) (d := 73) (.agg #[.int .i64 6, zI, zS, zN]) (by kernel_rfl) rfl rfl rfl (fun Lx => .build (C := #[.int .i64 6, zI, zS, zN]) sd45 ze45 rfl (Bld.cons fo45_0 rfl (lB rfl) (Bld.nil _)) rfl (.ops0 fun a ha => ⟨ha, rfl⟩)) ?_
  refine .wpcS (i := 2) (d := 74) (.pointer (some ⟨b1, 0 + 2, none⟩)) (by kernel_rfl) rfl rfl rfl (fun Lx => .fieldAddr rfl fo31_2 rfl (.ops0 fun a ha => ⟨ha, rfl⟩)) ?_
  refine .wpcS (i := 3) (d := 75) (.string x.t.nm) (by kernel_rfl) rfl rfl rfl (fun Lx => .load rfl (Ld.ownCell ag9 hb1 ht0.one.c2) rfl (.ops0 fun a ha => ⟨ha, rfl⟩)) ?_
  refine .wpcS (i := 4) (d := 76) (.pointer (some ⟨b1, 0 + 5, none⟩)) (by kernel_rfl) rfl rfl rfl (fun Lx => .fieldAddr rfl fo31_5 rfl (.ops0 fun a ha => ⟨ha, rfl⟩)) ?_
  refine .wpcS (i := 5) (d := 77) (x.t.kv) (by kernel_rfl) rfl rfl rfl (fun Lx => .load rfl (Ld.ownCell ag22 hb1 ht0.one.c5) rfl (.ops0 fun a ha => ⟨ha, rfl⟩)) ?_
  obtain ⟨u1, hu1⟩ := some_of_lt (l := x.t.kids) (i := 0) (by omega)
  refine .wpcS (i := 6) (d := 78) (.pointer (some ⟨vBlock x.t.kv, vOff x.t.kv + 0 * 21, none⟩)) (by kernel_rfl) rfl rfl rfl (fun Lx => .indexAddr (i := 0) rfl rfl (ht0.one.kidsAt).okL (lt_of_some hu1) el22 sz31 rfl (.ops0 fun a ha => ⟨ha, rfl⟩)) ?_
  refine .wpcS (i := 7) (d := 79) (.agg u1.cs) (by kernel_rfl) rfl rfl rfl (fun Lx => .load rfl (Ld.row ag31 (sz31.trans (congrArg some (ht0.kid hu1).one.size.symm)) ((((ht0.gr hG.ext).one.kidsAt)).row hu1)) rfl (.ops0 fun a ha => ⟨ha, rfl⟩)) ?_
  refine .wpcS (i := 8) (d := 80) (x.e) (by kernel_rfl) rfl rfl rfl (fun Lx => .move rfl rfl (.ops0 fun a ha => ⟨ha, rfl⟩)) ?_
  refine .wpcS (i := 9) (d := 81) (.agg (mx [zS, .string x.t.nm] u1.cs [x.e])) (by kernel_rfl) rfl rfl rfl (fun Lx => .build (C := (mx [zS, .string x.t.nm] u1.cs [x.e])) sd112 ze112 rfl (Bld.cons fo112_0 rfl (lB rfl) (Bld.cons fo112_1 rfl (lB rfl) (Bld.mxT (pre := [zS, .string x.t.nm]) (post := [.pointer none]) fo112_2 (ht0.kid hu1).one.size (Nat.le_of_ble_eq_true rfl) rfl rfl (Bld.mxP (post' := [x.e]) (j := 0) fo112_3 he0.one (ht0.kid hu1).one.size rfl rfl (by simp) (Bld.nil _))))) rfl (.ops0 fun a ha => ⟨ha, rfl⟩)) ?_
  refine At.wpcE [10] (by kernel_rfl) (by kernel_rfl) (.cons [0, 1] rfl (by kernel_rfl) ?_ .nil)
  refine At.box rfl rfl (fun b4 w16 F4 => ?_)
  have mb4 := hM.newM F4
  replace hb1 := F4.old hb1
  have hb4 : w16.heap[b4]? = some (.cells (mx [zS, .string x.t.nm] u1.cs [x.e]) 112) := F4.new
  have mb4E := hM.newE F4
  replace hG := hG.below F4.bel
  replace hM := hM.below F4.bel
  refine .ops0 ?_
  refine At.wpcN (.cons rfl rfl rfl rfl (fun Lx => ?_) (.cons rfl rfl rfl rfl (fun Lx => ?_) .nil)) ?_
  ·skip
   exact .move rfl rfl (.ops0 fun a ha => ⟨ha, rfl⟩)
  ·skip
   exact .build (C := #[.int .i64 6, zI, zS, zN]) sd45 ze45 rfl (Bld.cons fo45_0 rfl (lB rfl) (Bld.nil _)) rfl (.ops0 fun a ha => ⟨ha, rfl⟩)
  refine .wpcS (i := 11) (d := 83) (.agg #[.int .i64 6, zI, zS, zN, zN, .pointer (some ⟨b4, 0, none⟩), .pointer none]) (by kernel_rfl) rfl rfl rfl (fun Lx => .build (C := #[.int .i64 6, zI, zS, zN, zN, .pointer (some ⟨b4, 0, none⟩), .pointer none]) sd82 ze82 rfl (Bld.cons fo82_0 rfl (lB rfl) (Bld.cons fo82_2 rfl (lB rfl) (Bld.nil _))) rfl (.ops0 fun a ha => ⟨ha, rfl⟩)) ?_
  refine At.wpcE [12] (by kernel_rfl) (by kernel_rfl) (.cons [] rfl (by kernel_rfl) ?_ .nil)
  refine At.callM en41 rfl rfl (has_any  _ hM (XAt.mk (Vs.nil _ _ _) (.c hb4 mb4E ((ht0.kid hu1).gr hG.ext) (he0.gr hG.ext lR)) (.nil (by simp)) (fun e => absurd e (by decide)) (fun e => absurd e (by decide)))) (fun x5 w17 hM G5 => ?_)
  replace hG := hG.trans G5
  obtain ⟨hb1, mb1⟩ := G5.both mb1 hb1
  obtain ⟨hb4, mb4⟩ := G5.both mb4 hb4
  refine .ops0 (.wpcN .nil ?_)
  refine At.wpcE [13] (by kernel_rfl) (by kernel_rfl) (.cons [] rfl (by kernel_rfl) ?_ .nil)
  refine .assign rfl rfl (.ops0 (.wpcN .nil (.wpcZ (.thenN (.retc (.inR (.thenR (.doneR (ResV.tmp rfl ResV.nil) ?_))))))))
  exact Pst.fin (by rw [looks_eq hst hn2 hle, hc6']; simp only [kid_sh hu1, cond_true, cond_false] <;> rfl) hM hG
 have hc6' := of_decide_eq_false hc6
 refine .seq (.region (.eqI rfl rfl rfl (.assign rfl rfl (.ops0 (.thenN ?_)))))
 refine At.cond (b := decide (x.t.k = 6)) rfl (fun hc7 => ?_) (fun hc7 => ?_)
 ·skip
  have hc7' := of_decide_eq_true hc7
  have hl : (2 : Int) ≤ (x.t.kids.length : Int) := by have h := Int.not_lt.1 hle; rw [hc7'] at h; exact h
  refine .region (.move rfl rfl (.fieldAddr rfl fo31_5 rfl (.load rfl (Ld.ownCell ag22 hb1 ht0.one.c5) rfl ?_)))
  obtain ⟨u2, hu2⟩ := some_of_lt (l := x.t.kids) (i := 1) (by omega)
  refine .indexAddr (i := 1) rfl rfl (ht0.one.kidsAt).okL (lt_of_some hu2) el22 sz31 rfl (.load rfl (Ld.row ag31 (sz31.trans (congrArg some (ht0.kid hu2).one.size.symm)) ((((ht0.gr hG.ext).one.kidsAt)).row hu2)) rfl (.move rfl rfl (.build (C := (mx [] u2.cs [x.e])) sd115 ze115 rfl (Bld.mxT (pre := []) (post := [.pointer none]) fo115_0 (ht0.kid hu2).one.size (Nat.le_of_ble_eq_true rfl) rfl rfl (Bld.mxP (post' := [x.e]) (j := 0) fo115_1 he0.one (ht0.kid hu2).one.size rfl rfl (by simp) (Bld.nil _))) rfl (.iface rfl cc115 rfl ?_))))
  refine At.callM en44 rfl rfl (push_any  _ hM (XAt.arg ((ht0.kid hu2).gr hG.ext) (he0.gr hG.ext lR))) (fun x6 w18 hM G6 => ?_)
  replace hG := hG.trans G6
  obtain ⟨hb1, mb1⟩ := G6.both mb1 hb1
  refine .ops0 (.inN (.thenN (.seq (.region (.move rfl rfl (.fieldAddr rfl fo31_5 rfl (.load rfl (Ld.ownCell ag22 hb1 ht0.one.c5) rfl ?_)))))))
  obtain ⟨u3, hu3⟩ := some_of_lt (l := x.t.kids) (i := 0) (by omega)
  refine .indexAddr (i := 0) rfl rfl (ht0.one.kidsAt).okL (lt_of_some hu3) el22 sz31 rfl (.load rfl (Ld.row ag31 (sz31.trans (congrArg some (ht0.kid hu3).one.size.symm)) ((((ht0.gr hG.ext).one.kidsAt)).row hu3)) rfl (.move rfl rfl ?_))
  refine At.callM en45 rfl rfl (goes_any  _ hM ((ht0.kid hu3).gr hG.ext) (he0.gr hG.ext lR)) (fun x7 w19 hM G7 => ?_)
  replace hG := hG.trans G7
  obtain ⟨hb1, mb1⟩ := G7.both mb1 hb1
  refine .assign rfl rfl (.ops0 (.thenN (.retc (.doneR (ResV.tmp rfl ResV.nil) ?_))))
  exact Pst.fin (by rw [looks_eq hst hn2 hle, hc7']; simp only [kid_sh hu2, kid_sh hu3, cond_true, cond_false] <;> rfl) hM hG
 have hc7' := of_decide_eq_false hc7
 refine .seq (.region (.eqI rfl rfl rfl (.assign rfl rfl (.ops0 (.thenN ?_)))))
 refine At.cond (b := decide (x.t.k = 7)) rfl (fun hc8 => ?_) (fun hc8 => ?_)
 ·skip
  have hc8' := of_decide_eq_true hc8
  have hl : (2 : Int) ≤ (x.t.kids.length : Int) := by have h := Int.not_lt.1 hle; rw [hc8'] at h; exact h
  refine .drawG (n := 11) mixed (by kernel_rfl) rfl (PanicOk.block (PanicOk.then PanicOk.body)) ?_
  replace hG := hG.drew
  replace hM := hM.drew
  have hb1 : _ := (show w3.drew.heap[b1]? = _ from hb1)
  refine .wpcS (i := 0) (d := 98) (.pointer (some ⟨b, 0, none⟩)) (by kernel_rfl) rfl rfl rfl (fun Lx => .move rfl rfl (.ops0 fun a ha => ⟨ha, rfl⟩)) ?_
  refine .wpcS (i := 1) (d := 99) (.pointer (some ⟨b1, 0 + 2, none⟩)) (by kernel_rfl) rfl rfl rfl (fun Lx => .fieldAddr rfl fo31_2 rfl (.ops0 fun a ha => ⟨ha, rfl⟩)) ?_
  refine .wpcS (i := 2) (d := 100) (.string x.t.nm) (by kernel_rfl) rfl rfl rfl (fun Lx => .load rfl (Ld.ownCell ag9 hb1 ht0.one.c2) rfl (.ops0 fun a ha => ⟨ha, rfl⟩)) ?_
  refine .wpcS (i := 3) (d := 101) (.pointer (some ⟨b1, 0 + 5, none⟩)) (by kernel_rfl) rfl rfl rfl (fun Lx => .fieldAddr rfl fo31_5 rfl (.ops0 fun a ha => ⟨ha, rfl⟩)) ?_
  refine .wpcS (i := 4) (d := 102) (x.t.kv) (by kernel_rfl) rfl rfl rfl (fun Lx => .load rfl (Ld.ownCell ag22 hb1 ht0.one.c5) rfl (.ops0 fun a ha => ⟨ha, rfl⟩)) ?_
  obtain ⟨u4, hu4⟩ := some_of_lt (l := x.t.kids) (i := 1) (by omega)
  refine .wpcS (i := 5) (d := 103) (.pointer (some ⟨vBlock x.t.kv, vOff x.t.kv + 1 * 21, none⟩)) (by kernel_rfl) rfl rfl rfl (fun Lx => .indexAddr (i := 1) rfl rfl (ht0.one.kidsAt).okL (lt_of_some hu4) el22 sz31 rfl (.ops0 fun a ha => ⟨ha, rfl⟩)) ?_
  refine .wpcS (i := 6) (d := 104) (.agg u4.cs) (by kernel_rfl) rfl rfl rfl (fun Lx => .load rfl (Ld.row ag31 (sz31.trans (congrArg some (ht0.kid hu4).one.size.symm)) ((((ht0.gr hG.ext).one.kidsAt)).row hu4)) rfl (.ops0 fun a ha => ⟨ha, rfl⟩)) ?_
  refine .wpcS (i := 7) (d := 105) (x.e) (by kernel_rfl) rfl rfl rfl (fun Lx => .move rfl rfl (.ops0 fun a ha => ⟨ha, rfl⟩)) ?_
  refine .wpcS (i := 8) (d := 106) (.agg (mx [.string x.t.nm] u4.cs [x.e])) (by kernel_rfl) rfl rfl rfl (fun Lx => .build (C := (mx [.string x.t.nm] u4.cs [x.e])) sd117 ze117 rfl (Bld.cons fo117_0 rfl (lB rfl) (Bld.mxT (pre := [.string x.t.nm]) (post := [.pointer none]) fo117_1 (ht0.kid hu4).one.size (Nat.le_of_ble_eq_true rfl) rfl rfl (Bld.mxP (post' := [x.e]) (j := 0) fo117_2 he0.one (ht0.kid hu4).one.size rfl rfl (by simp) (Bld.nil _)))) rfl (.ops0 fun a ha => ⟨ha, rfl⟩)) ?_
  refine .wpcS (i := 9) (d := 107) (.iface 117 (.agg (mx [.string x.t.nm] u4.cs [x.e]))) (by kernel_rfl) rfl rfl rfl (fun Lx => .iface rfl cc117 rfl (.ops0 fun a ha => ⟨ha, rfl⟩)) ?_
  refine At.wpcE [10] (by kernel_rfl) (by kernel_rfl) (.cons [] rfl (by kernel_rfl) ?_ .nil)
  refine At.callM en44 rfl rfl (push_any  _ hM (XAt.bnd ((ht0.kid hu4).gr hG.ext) (he0.gr hG.ext lR))) (fun x8 w20 hM G8 => ?_)
  replace hG := hG.trans G8
  obtain ⟨hb1, mb1⟩ := G8.both mb1 hb1
  refine .ops0 (.wpcN .nil (.wpcZ (.inN (.thenN (.seq (.region (.move rfl rfl (.fieldAddr rfl fo31_5 rfl (.load rfl (Ld.ownCell ag22 hb1 ht0.one.c5) rfl ?_)))))))))
  obtain ⟨u5, hu5⟩ := some_of_lt (l := x.t.kids) (i := 0) (by omega)
  refine .indexAddr (i := 0) rfl rfl (ht0.one.kidsAt).okL (lt_of_some hu5) el22 sz31 rfl (.load rfl (Ld.row ag31 (sz31.trans (congrArg some (ht0.kid hu5).one.size.symm)) ((((ht0.gr hG.ext).one.kidsAt)).row hu5)) rfl (.move rfl rfl ?_))
  refine At.callM en45 rfl rfl (goes_any  _ hM ((ht0.kid hu5).gr hG.ext) (he0.gr hG.ext lR)) (fun x9 w21 hM G9 => ?_)
  replace hG := hG.trans G9
  obtain ⟨hb1, mb1⟩ := G9.both mb1 hb1
  refine .assign rfl rfl (.ops0 (.thenN (.retc (.doneR (ResV.tmp rfl ResV.nil) ?_))))
  exact Pst.fin (by rw [looks_eq hst hn2 hle, hc8']; simp only [kid_sh hu4, kid_sh hu5, cond_true, cond_false] <;> rfl) hM hG
 have hc8' := of_decide_eq_false hc8
 refine .seq (.region (.eqI rfl rfl rfl (.assign rfl rfl (.ops0 (.thenN ?_)))))
 refine At.cond (b := decide (x.t.k = 8)) rfl (fun hc9 => ?_) (fun hc9 => ?_)
 ·skip
  have hc9' := of_decide_eq_true hc9
  have hl : (2 : Int) ≤ (x.t.kids.length : Int) := by have h := Int.not_lt.1 hle; rw [hc9'] at h; exact h
  refine .seq ?_
  obtain ⟨u6, hu6⟩ := some_of_lt (l := x.t.kids) (i := 0) (by omega)
  refine .drawG (n := 15) mixed (by kernel_rfl) rfl (PanicOk.then (PanicOk.block (PanicOk.then PanicOk.body))) ?_
  replace hG := hG.drew
  replace hM := hM.drew
  have hb1 : _ := (show w3.drew.heap[b1]? = _ from hb1)
  refine .wpcS (i := 0) (d := 111) (.agg #[.int .i64 6, zI, zS, zN]) (by kernel_rfl) rfl rfl rfl (fun Lx => .build (C := #[.int .i64 6, zI, zS, zN]) sd45 ze45 rfl (Bld.cons fo45_0 rfl (lB rfl) (Bld.nil _)) rfl (.ops0 fun a ha => ⟨ha, rfl⟩)) ?_
  refine .wpcS (i := 1) (d := 112) (.pointer (some ⟨b1, 0 + 2, none⟩)) (by kernel_rfl) rfl rfl rfl (fun Lx => .fieldAddr rfl fo31_2 rfl (.ops0 fun a ha => ⟨ha, rfl⟩)) ?_
  refine .wpcS (i := 2) (d := 113) (.string x.t.nm) (by kernel_rfl) rfl rfl rfl (fun Lx => .load rfl (Ld.ownCell ag9 hb1 ht0.one.c2) rfl (.ops0 fun a ha => ⟨ha, rfl⟩)) ?_
  refine .wpcS (i := 3) (d := 114) (.pointer (some ⟨b1, 0 + 3, none⟩)) (by kernel_rfl) rfl rfl rfl (fun Lx => .fieldAddr rfl fo31_3 rfl (.ops0 fun a ha => ⟨ha, rfl⟩)) ?_
  refine .wpcS (i := 4) (d := 115) (.string x.t.pm) (by kernel_rfl) rfl rfl rfl (fun Lx => .load rfl (Ld.ownCell ag9 hb1 ht0.one.c3) rfl (.ops0 fun a ha => ⟨ha, rfl⟩)) ?_
  refine .wpcS (i := 5) (d := 116) (.pointer (some ⟨b1, 0 + 5, none⟩)) (by kernel_rfl) rfl rfl rfl (fun Lx => .fieldAddr rfl fo31_5 rfl (.ops0 fun a ha => ⟨ha, rfl⟩)) ?_
  refine .wpcS (i := 6) (d := 117) (x.t.kv) (by kernel_rfl) rfl rfl rfl (fun Lx => .load rfl (Ld.ownCell ag22 hb1 ht0.one.c5) rfl (.ops0 fun a ha => ⟨ha, rfl⟩)) ?_
  refine .wpcS (i := 7) (d := 118) (.pointer (some ⟨vBlock x.t.kv, vOff x.t.kv + 0 * 21, none⟩)) (by kernel_rfl) rfl rfl rfl (fun Lx => .indexAddr (i := 0) rfl rfl (ht0.one.kidsAt).okL (lt_of_some hu6) el22 sz31 rfl (.ops0 fun a ha => ⟨ha, rfl⟩)) ?_
  refine .wpcS (i := 8) (d := 119) (.agg u6.cs) (by kernel_rfl) rfl rfl rfl (fun Lx => .load rfl (Ld.row ag31 (sz31.trans (congrArg some (ht0.kid hu6).one.size.symm)) ((((ht0.gr hG.ext).one.kidsAt)).row hu6)) rfl (.ops0 fun a ha => ⟨ha, rfl⟩)) ?_
  refine .wpcS (i := 9) (d := 120) (x.e) (by kernel_rfl) rfl rfl rfl (fun Lx => .move rfl rfl (.ops0 fun a ha => ⟨ha, rfl⟩)) ?_
  refine .wpcS (i := 10) (d := 121) (.agg (mx [.string x.t.nm, .string x.t.pm] u6.cs [x.e])) (by kernel_rfl) rfl rfl rfl (fun Lx => .build (C := (mx [.string x.t.nm, .string x.t.pm] u6.cs [x.e])) sd112 ze112 rfl (Bld.cons fo112_0 rfl (lB rfl) (Bld.cons fo112_1 rfl (lB rfl) (Bld.mxT (pre := [.string x.t.nm, .string x.t.pm]) (post := [.pointer none]) fo112_2 (ht0.kid hu6).one.size (Nat.le_of_ble_eq_true rfl) rfl rfl (Bld.mxP (post' := [x.e]) (j := 0) fo112_3 he0.one (ht0.kid hu6).one.size rfl rfl (by simp) (Bld.nil _))))) rfl (.ops0 fun a ha => ⟨ha, rfl⟩)) ?_
  refine At.wpcE [11, 13] (by kernel_rfl) (by kernel_rfl) (.cons [0] rfl (by kernel_rfl) ?_ (.cons [0, 1, 2, 3, 4, 5, 6, 7, 8, 9, 10] rfl (by kernel_rfl) ?_ .nil))
  ·skip
   refine At.box rfl rfl (fun b5 w22 F5 => ?_)
   have mb5 := hM.newM F5
   replace hb1 := F5.old hb1
   have hb5 : w22.heap[b5]? = some (.cells (mx [.string x.t.nm, .string x.t.pm] u6.cs [x.e]) 112) := F5.new
   have mb5E := hM.newE F5
   replace hG := hG.below F5.bel
   replace hM := hM.below F5.bel
   refine .ops0 ?_
   refine At.wpcN (.cons rfl rfl rfl rfl (fun Lx => ?_) .nil) ?_
   ·skip
    exact .build (C := #[.int .i64 6, zI, zS, zN]) sd45 ze45 rfl (Bld.cons fo45_0 rfl (lB rfl) (Bld.nil _)) rfl (.ops0 fun a ha => ⟨ha, rfl⟩)
   refine .wpcS (i := 12) (d := 123) (.agg #[.int .i64 6, zI, zS, zN, zN, .pointer (some ⟨b5, 0, none⟩), .pointer none]) (by kernel_rfl) rfl rfl rfl (fun Lx => .build (C := #[.int .i64 6, zI, zS, zN, zN, .pointer (some ⟨b5, 0, none⟩), .pointer none]) sd82 ze82 rfl (Bld.cons fo82_0 rfl (lB rfl) (Bld.cons fo82_2 rfl (lB rfl) (Bld.nil _))) rfl (.ops0 fun a ha => ⟨ha, rfl⟩)) ?_
   refine At.wpcE [13] (by kernel_rfl) (by kernel_rfl) (.cons [0, 12] rfl (by kernel_rfl) ?_ .nil)
   refine At.alloc ze82 rfl (fun b6 w23 F6 => ?_)
   have hMqb6 := hM; have hGqb6 := hG
   have n_b1_b6 := F6.ne' hb1
   have n_b5_b6 := F6.ne' hb5
   have mb6 := hM.newM F6
   replace hb1 := F6.old hb1
   replace hb5 := F6.old hb5
   have hb6 : w23.heap[b6]? = some (.cells #[zI, zI, zS, zN, zN, .pointer none, .pointer none] 82) := F6.new
   replace hG := hG.below F6.bel
   replace hM := hM.below F6.bel
   have hpdb6 := F6.bel
   refine .ops0 ?_
   refine At.wpcN (.cons rfl rfl rfl rfl (fun Lx => ?_) (.cons rfl rfl rfl rfl (fun Lx => ?_) .nil)) ?_
   ·skip
    exact .build (C := #[.int .i64 6, zI, zS, zN]) sd45 ze45 rfl (Bld.cons fo45_0 rfl (lB rfl) (Bld.nil _)) rfl (.ops0 fun a ha => ⟨ha, rfl⟩)
   ·skip
    exact .build (C := #[.int .i64 6, zI, zS, zN, zN, .pointer (some ⟨b5, 0, none⟩), .pointer none]) sd82 ze82 rfl (Bld.cons fo82_0 rfl (lB rfl) (Bld.cons fo82_2 rfl (lB rfl) (Bld.nil _))) rfl (.ops0 fun a ha => ⟨ha, rfl⟩)
   refine At.wpcE [14] (by kernel_rfl) (by kernel_rfl) (.cons [] rfl (by kernel_rfl) ?_ .nil)
   refine At.storeAll rfl rfl hb6 sz82 rfl (by first | (simp [Value.oneCell', ((SlOk.nil)).one]; done) | (simp only [List.all_toArray, List.all_cons, List.all_nil, ((SlOk.nil)).one, Bool.and_true, Bool.true_and] <;> rfl)) (fun w24 S4 => ?_)
   replace hb1 := S4.other hb1 n_b1_b6
   replace hb5 := S4.other hb5 n_b5_b6
   replace hb6 : w24.heap[b6]? = some (.cells #[.int .i64 6, zI, zS, zN, zN, .pointer (some ⟨b5, 0, none⟩), .pointer none] 82) := S4.new
   have hpdb6 := S4.below hpdb6 hpdb6.size (Nat.le_of_eq F6.eq.symm); replace hM := hMqb6.below hpdb6; replace hG := hGqb6.below hpdb6
   refine .ops0 (.wpcN .nil (.wpcZ (.thenN (.seq (.drawG (n := 12) mixed (by kernel_rfl) rfl (PanicOk.then (PanicOk.block (PanicOk.then PanicOk.body))) ?_)))))
   replace hG := hG.drew
   replace hM := hM.drew
   have hb1 : _ := (show w24.drew.heap[b1]? = _ from hb1)
   have hb5 : _ := (show w24.drew.heap[b5]? = _ from hb5)
   have hb6 : _ := (show w24.drew.heap[b6]? = _ from hb6)
   refine .wpcS (i := 0) (d := 124) (.pointer (some ⟨b, 0, none⟩)) (by kernel_rfl) rfl rfl rfl (fun Lx => .move rfl rfl (.ops0 fun a ha => ⟨ha, rfl⟩)) ?_
   refine .wpcS (i := 1) (d := 125) (.pointer (some ⟨b1, 0 + 5, none⟩)) (by kernel_rfl) rfl rfl rfl (fun Lx => .fieldAddr rfl fo31_5 rfl (.ops0 fun a ha => ⟨ha, rfl⟩)) ?_
   refine .wpcS (i := 2) (d := 126) (x.t.kv) (by kernel_rfl) rfl rfl rfl (fun Lx => .load rfl (Ld.ownCell ag22 hb1 ht0.one.c5) rfl (.ops0 fun a ha => ⟨ha, rfl⟩)) ?_
   obtain ⟨u7, hu7⟩ := some_of_lt (l := x.t.kids) (i := 1) (by omega)
   refine .wpcS (i := 3) (d := 127) (.pointer (some ⟨vBlock x.t.kv, vOff x.t.kv + 1 * 21, none⟩)) (by kernel_rfl) rfl rfl rfl (fun Lx => .indexAddr (i := 1) rfl rfl (ht0.one.kidsAt).okL (lt_of_some hu7) el22 sz31 rfl (.ops0 fun a ha => ⟨ha, rfl⟩)) ?_
   refine .wpcS (i := 4) (d := 128) (.agg u7.cs) (by kernel_rfl) rfl rfl rfl (fun Lx => .load rfl (Ld.row ag31 (sz31.trans (congrArg some (ht0.kid hu7).one.size.symm)) ((((ht0.gr hG.ext).one.kidsAt)).row hu7)) rfl (.ops0 fun a ha => ⟨ha, rfl⟩)) ?_
   refine .wpcS (i := 5) (d := 129) (x.e) (by kernel_rfl) rfl rfl rfl (fun Lx => .move rfl rfl (.ops0 fun a ha => ⟨ha, rfl⟩)) ?_
   refine .wpcS (i := 6) (d := 130) (.pointer (some ⟨b1, 0 + 2, none⟩)) (by kernel_rfl) rfl rfl rfl (fun Lx => .fieldAddr rfl fo31_2 rfl (.ops0 fun a ha => ⟨ha, rfl⟩)) ?_
   refine .wpcS (i := 7) (d := 131) (.string x.t.nm) (by kernel_rfl) rfl rfl rfl (fun Lx => .load rfl (Ld.ownCell ag9 hb1 ht0.one.c2) rfl (.ops0 fun a ha => ⟨ha, rfl⟩)) ?_
   refine .wpcS (i := 8) (d := 132) (.agg #[.int .i64 6, zI, zS, zN, zN, .pointer (some ⟨b5, 0, none⟩), .pointer none]) (by kernel_rfl) rfl rfl rfl (fun Lx => .load rfl (Ld.own (C := #[.int .i64 6, zI, zS, zN, zN, .pointer (some ⟨b5, 0, none⟩), .pointer none]) ag82 sz82 hb6) rfl (.ops0 fun a ha => ⟨ha, rfl⟩)) ?_
   refine At.wpcE [9] (by kernel_rfl) (by kernel_rfl) (.cons [0, 1, 2, 3, 4] rfl (by kernel_rfl) ?_ .nil)
   refine At.call en46 rfl rfl (with_any x.t.nm _ hM.lt (he0.gr hG.ext lR) (XAt.mk (Vs.nil _ _ _) (.c hb5 mb5E ((ht0.kid hu6).gr hG.ext) (he0.gr hG.ext lR)) (.nil (by simp)) (fun e => absurd e (by decide)) (fun e => absurd e (by decide)))) (fun e w25 hR => ?_)
   obtain ⟨pe1, rfl, hwe1, hbl5⟩ := hR; refine ⟨_, rfl, ?_⟩
   replace hb1 := Below.old hbl5 hb1
   replace hb5 := Below.old hbl5 hb5
   replace hb6 := Below.old hbl5 hb6
   replace hG := hG.below hbl5
   replace hM := hM.below hbl5
   refine .ops0 ?_
   refine At.wpcN (.cons rfl rfl rfl rfl (fun Lx => ?_) (.cons rfl rfl rfl rfl (fun Lx => ?_) (.cons rfl rfl rfl rfl (fun Lx => ?_) (.cons rfl rfl rfl rfl (fun Lx => ?_) (.cons rfl rfl rfl rfl (fun Lx => ?_) .nil))))) ?_
   ·skip
    exact .move rfl rfl (.ops0 fun a ha => ⟨ha, rfl⟩)
   ·skip
    exact .fieldAddr rfl fo31_5 rfl (.ops0 fun a ha => ⟨ha, rfl⟩)
   ·skip
    exact .load rfl (Ld.ownCell ag22 hb1 ht0.one.c5) rfl (.ops0 fun a ha => ⟨ha, rfl⟩)
   ·skip
    exact .indexAddr (i := 1) rfl rfl (ht0.one.kidsAt).okL (lt_of_some hu7) el22 sz31 rfl (.ops0 fun a ha => ⟨ha, rfl⟩)
   ·skip
    exact .load rfl (Ld.row ag31 (sz31.trans (congrArg some (ht0.kid hu7).one.size.symm)) ((((ht0.gr hG.ext).one.kidsAt)).row hu7)) rfl (.ops0 fun a ha => ⟨ha, rfl⟩)
   refine At.wpcE [10] (by kernel_rfl) (by kernel_rfl) (.cons [] rfl (by kernel_rfl) ?_ .nil)
   refine At.callM en45 rfl rfl (goes_any  _ hM ((ht0.kid hu7).gr hG.ext) hwe1) (fun x10 w26 hM G10 => ?_)
   replace hG := hG.trans G10
   obtain ⟨hb1, mb1⟩ := G10.both mb1 hb1
   obtain ⟨hb5, mb5⟩ := G10.both mb5 hb5
   obtain ⟨hb6, mb6⟩ := G10.both mb6 hb6
   refine .ops0 (.wpcN .nil ?_)
   refine At.wpcE [11] (by kernel_rfl) (by kernel_rfl) (.cons [] rfl (by kernel_rfl) ?_ .nil)
   refine .assign rfl rfl (.ops0 (.wpcN .nil (.wpcZ (.thenN (.retc (.inR (.thenR (.doneR (ResV.tmp rfl ResV.nil) ?_))))))))
   exact Pst.fin (by rw [looks_eq hst hn2 hle, hc9']; simp only [kid_sh hu6, kid_sh hu7, cond_true, cond_false] <;> rfl) hM hG
  refine At.alloc ze82 rfl (fun b7 w27 F7 => ?_)
  have hMqb7 := hM; have hGqb7 := hG
  have n_b1_b7 := F7.ne' hb1
  have mb7 := hM.newM F7
  replace hb1 := F7.old hb1
  have hb7 : w27.heap[b7]? = some (.cells #[zI, zI, zS, zN, zN, .pointer none, .pointer none] 82) := F7.new
  replace hG := hG.below F7.bel
  replace hM := hM.below F7.bel
  have hpdb7 := F7.bel
  refine .ops0 ?_
  refine At.wpcN (.cons rfl rfl rfl rfl (fun Lx => ?_) (.cons rfl rfl rfl rfl (fun Lx => ?_) (.cons rfl rfl rfl rfl (fun Lx => ?_) (.cons rfl rfl rfl rfl (fun Lx => ?_) (.cons rfl rfl rfl rfl (fun Lx => ?_) (.cons rfl rfl rfl rfl (fun Lx => ?_) (.cons rfl rfl rfl rfl (fun Lx => ?_) (.cons rfl rfl rfl rfl (fun Lx => ?_) (.cons rfl rfl rfl rfl (fun Lx => ?_) (.cons rfl rfl rfl rfl (fun Lx => ?_) (.cons rfl rfl rfl rfl (fun Lx => ?_) .nil))))))))))) ?_
  ·skip
   exact .build (C := #[.int .i64 6, zI, zS, zN]) sd45 ze45 rfl (Bld.cons fo45_0 rfl (lB rfl) (Bld.nil _)) rfl (.ops0 fun a ha => ⟨ha, rfl⟩)
  ·skip
   exact .fieldAddr rfl fo31_2 rfl (.ops0 fun a ha => ⟨ha, rfl⟩)
  ·skip
   exact .load rfl (Ld.ownCell ag9 hb1 ht0.one.c2) rfl (.ops0 fun a ha => ⟨ha, rfl⟩)
  ·skip
   exact .fieldAddr rfl fo31_3 rfl (.ops0 fun a ha => ⟨ha, rfl⟩)
  ·skip
   exact .load rfl (Ld.ownCell ag9 hb1 ht0.one.c3) rfl (.ops0 fun a ha => ⟨ha, rfl⟩)
  ·skip
   exact .fieldAddr rfl fo31_5 rfl (.ops0 fun a ha => ⟨ha, rfl⟩)
  ·skip
   exact .load rfl (Ld.ownCell ag22 hb1 ht0.one.c5) rfl (.ops0 fun a ha => ⟨ha, rfl⟩)
  ·skip
   exact .indexAddr (i := 0) rfl rfl (ht0.one.kidsAt).okL (lt_of_some hu6) el22 sz31 rfl (.ops0 fun a ha => ⟨ha, rfl⟩)
  ·skip
   exact .load rfl (Ld.row ag31 (sz31.trans (congrArg some (ht0.kid hu6).one.size.symm)) ((((ht0.gr hG.ext).one.kidsAt)).row hu6)) rfl (.ops0 fun a ha => ⟨ha, rfl⟩)
  ·skip
   exact .move rfl rfl (.ops0 fun a ha => ⟨ha, rfl⟩)
  ·skip
   exact .build (C := (mx [.string x.t.nm, .string x.t.pm] u6.cs [x.e])) sd112 ze112 rfl (Bld.cons fo112_0 rfl (lB rfl) (Bld.cons fo112_1 rfl (lB rfl) (Bld.mxT (pre := [.string x.t.nm, .string x.t.pm]) (post := [.pointer none]) fo112_2 (ht0.kid hu6).one.size (Nat.le_of_ble_eq_true rfl) rfl rfl (Bld.mxP (post' := [x.e]) (j := 0) fo112_3 he0.one (ht0.kid hu6).one.size rfl rfl (by simp) (Bld.nil _))))) rfl (.ops0 fun a ha => ⟨ha, rfl⟩)
  refine At.wpcE [11] (by kernel_rfl) (by kernel_rfl) (.cons [0] rfl (by kernel_rfl) ?_ .nil)
  refine At.box rfl rfl (fun b8 w28 F8 => ?_)
  have n_b7_b8 := F8.ne' hb7
  have mb8 := hM.newM F8
  replace hb1 := F8.old hb1
  replace hb7 := F8.old hb7
  have hb8 : w28.heap[b8]? = some (.cells (mx [.string x.t.nm, .string x.t.pm] u6.cs [x.e]) 112) := F8.new
  have mb8E := hM.newE F8
  replace hpdb7 := Below.andThen hpdb7 F8.bel
  replace hG := hG.below F8.bel
  replace hM := hM.below F8.bel
  refine .ops0 ?_
  refine At.wpcN (.cons rfl rfl rfl rfl (fun Lx => ?_) .nil) ?_
  ·skip
   exact .build (C := #[.int .i64 6, zI, zS, zN]) sd45 ze45 rfl (Bld.cons fo45_0 rfl (lB rfl) (Bld.nil _)) rfl (.ops0 fun a ha => ⟨ha, rfl⟩)
  refine .wpcS (i := 12) (d := 123) (.agg #[.int .i64 6, zI, zS, zN, zN, .pointer (some ⟨b8, 0, none⟩), .pointer none]) (by kernel_rfl) rfl rfl rfl (fun Lx => .build (C := #[.int .i64 6, zI, zS, zN, zN, .pointer (some ⟨b8, 0, none⟩), .pointer none]) sd82 ze82 rfl (Bld.cons fo82_0 rfl (lB rfl) (Bld.cons fo82_2 rfl (lB rfl) (Bld.nil _))) rfl (.ops0 fun a ha => ⟨ha, rfl⟩)) ?_
  refine At.wpcE [14] (by kernel_rfl) (by kernel_rfl) (.cons [] rfl (by kernel_rfl) ?_ .nil)
  refine At.storeAll rfl rfl hb7 sz82 rfl (by first | (simp [Value.oneCell', ((SlOk.nil)).one]; done) | (simp only [List.all_toArray, List.all_cons, List.all_nil, ((SlOk.nil)).one, Bool.and_true, Bool.true_and] <;> rfl)) (fun w29 S5 => ?_)
  replace hb1 := S5.other hb1 n_b1_b7
  replace hb8 := S5.other hb8 n_b7_b8.symm
  replace hb7 : w29.heap[b7]? = some (.cells #[.int .i64 6, zI, zS, zN, zN, .pointer (some ⟨b8, 0, none⟩), .pointer none] 82) := S5.new
  have hpdb7 := S5.below hpdb7 hpdb7.size (Nat.le_of_eq F7.eq.symm); replace hM := hMqb7.below hpdb7; replace hG := hGqb7.below hpdb7
  refine .ops0 (.wpcN .nil (.wpcZ (.thenN (.seq (.drawG (n := 12) mixed (by kernel_rfl) rfl (PanicOk.then (PanicOk.block (PanicOk.then PanicOk.body))) ?_)))))
  replace hG := hG.drew
  replace hM := hM.drew
  have hb1 : _ := (show w29.drew.heap[b1]? = _ from hb1)
  have hb7 : _ := (show w29.drew.heap[b7]? = _ from hb7)
  have hb8 : _ := (show w29.drew.heap[b8]? = _ from hb8)
  refine .wpcS (i := 0) (d := 124) (.pointer (some ⟨b, 0, none⟩)) (by kernel_rfl) rfl rfl rfl (fun Lx => .move rfl rfl (.ops0 fun a ha => ⟨ha, rfl⟩)) ?_
  refine .wpcS (i := 1) (d := 125) (.pointer (some ⟨b1, 0 + 5, none⟩)) (by kernel_rfl) rfl rfl rfl (fun Lx => .fieldAddr rfl fo31_5 rfl (.ops0 fun a ha => ⟨ha, rfl⟩)) ?_
  refine .wpcS (i := 2) (d := 126) (x.t.kv) (by kernel_rfl) rfl rfl rfl (fun Lx => .load rfl (Ld.ownCell ag22 hb1 ht0.one.c5) rfl (.ops0 fun a ha => ⟨ha, rfl⟩)) ?_
  obtain ⟨u8, hu8⟩ := some_of_lt (l := x.t.kids) (i := 1) (by omega)
  refine .wpcS (i := 3) (d := 127) (.pointer (some ⟨vBlock x.t.kv, vOff x.t.kv + 1 * 21, none⟩)) (by kernel_rfl) rfl rfl rfl (fun Lx => .indexAddr (i := 1) rfl rfl (ht0.one.kidsAt).okL (lt_of_some hu8) el22 sz31 rfl (.ops0 fun a ha => ⟨ha, rfl⟩)) ?_
  refine .wpcS (i := 4) (d := 128) (.agg u8.cs) (by kernel_rfl) rfl rfl rfl (fun Lx => .load rfl (Ld.row ag31 (sz31.trans (congrArg some (ht0.kid hu8).one.size.symm)) ((((ht0.gr hG.ext).one.kidsAt)).row hu8)) rfl (.ops0 fun a ha => ⟨ha, rfl⟩)) ?_
  refine .wpcS (i := 5) (d := 129) (x.e) (by kernel_rfl) rfl rfl rfl (fun Lx => .move rfl rfl (.ops0 fun a ha => ⟨ha, rfl⟩)) ?_
  refine .wpcS (i := 6) (d := 130) (.pointer (some ⟨b1, 0 + 2, none⟩)) (by kernel_rfl) rfl rfl rfl (fun Lx => .fieldAddr rfl fo31_2 rfl (.ops0 fun a ha => ⟨ha, rfl⟩)) ?_
  refine .wpcS (i := 7) (d := 131) (.string x.t.nm) (by kernel_rfl) rfl rfl rfl (fun Lx => .load rfl (Ld.ownCell ag9 hb1 ht0.one.c2) rfl (.ops0 fun a ha => ⟨ha, rfl⟩)) ?_
  refine .wpcS (i := 8) (d := 132) (.agg #[.int .i64 6, zI, zS, zN, zN, .pointer (some ⟨b8, 0, none⟩), .pointer none]) (by kernel_rfl) rfl rfl rfl (fun Lx => .load rfl (Ld.own (C := #[.int .i64 6, zI, zS, zN, zN, .pointer (some ⟨b8, 0, none⟩), .pointer none]) ag82 sz82 hb7) rfl (.ops0 fun a ha => ⟨ha, rfl⟩)) ?_
  refine At.wpcE [9] (by kernel_rfl) (by kernel_rfl) (.cons [0, 1, 2, 3, 4] rfl (by kernel_rfl) ?_ .nil)
  refine At.call en46 rfl rfl (with_any x.t.nm _ hM.lt (he0.gr hG.ext lR) (XAt.mk (Vs.nil _ _ _) (.c hb8 mb8E ((ht0.kid hu6).gr hG.ext) (he0.gr hG.ext lR)) (.nil (by simp)) (fun e => absurd e (by decide)) (fun e => absurd e (by decide)))) (fun e w30 hR => ?_)
  obtain ⟨pe2, rfl, hwe2, hbl6⟩ := hR; refine ⟨_, rfl, ?_⟩
  replace hb1 := Below.old hbl6 hb1
  replace hb7 := Below.old hbl6 hb7
  replace hb8 := Below.old hbl6 hb8
  replace hG := hG.below hbl6
  replace hM := hM.below hbl6
  refine .ops0 ?_
  refine At.wpcN (.cons rfl rfl rfl rfl (fun Lx => ?_) (.cons rfl rfl rfl rfl (fun Lx => ?_) (.cons rfl rfl rfl rfl (fun Lx => ?_) (.cons rfl rfl rfl rfl (fun Lx => ?_) (.cons rfl rfl rfl rfl (fun Lx => ?_) .nil))))) ?_
  ·skip
   exact .move rfl rfl (.ops0 fun a ha => ⟨ha, rfl⟩)
  ·skip
   exact .fieldAddr rfl fo31_5 rfl (.ops0 fun a ha => ⟨ha, rfl⟩)
  ·skip
   exact .load rfl (Ld.ownCell ag22 hb1 ht0.one.c5) rfl (.ops0 fun a ha => ⟨ha, rfl⟩)
  ·skip
   exact .indexAddr (i := 1) rfl rfl (ht0.one.kidsAt).okL (lt_of_some hu8) el22 sz31 rfl (.ops0 fun a ha => ⟨ha, rfl⟩)
  ·skip
   exact .load rfl (Ld.row ag31 (sz31.trans (congrArg some (ht0.kid hu8).one.size.symm)) ((((ht0.gr hG.ext).one.kidsAt)).row hu8)) rfl (.ops0 fun a ha => ⟨ha, rfl⟩)
  refine At.wpcE [10] (by kernel_rfl) (by kernel_rfl) (.cons [] rfl (by kernel_rfl) ?_ .nil)
  refine At.callM en45 rfl rfl (goes_any  _ hM ((ht0.kid hu8).gr hG.ext) hwe2) (fun x11 w31 hM G11 => ?_)
  replace hG := hG.trans G11
  obtain ⟨hb1, mb1⟩ := G11.both mb1 hb1
  obtain ⟨hb7, mb7⟩ := G11.both mb7 hb7
  obtain ⟨hb8, mb8⟩ := G11.both mb8 hb8
  refine .ops0 (.wpcN .nil ?_)
  refine At.wpcE [11] (by kernel_rfl) (by kernel_rfl) (.cons [] rfl (by kernel_rfl) ?_ .nil)
  refine .assign rfl rfl (.ops0 (.wpcN .nil (.wpcZ (.thenN (.retc (.inR (.thenR (.doneR (ResV.tmp rfl ResV.nil) ?_))))))))
  exact Pst.fin (by rw [looks_eq hst hn2 hle, hc9']; simp only [kid_sh hu6, kid_sh hu8, cond_true, cond_false] <;> rfl) hM hG
 have hc9' := of_decide_eq_false hc9
 refine .seq (.region (.eqI rfl rfl rfl (.assign rfl rfl (.ops0 (.thenN ?_)))))
 refine At.cond (b := decide (x.t.k = 9)) rfl (fun hc10 => ?_) (fun hc10 => ?_)
 ·skip
  have hc10' := of_decide_eq_true hc10
  have hl : (3 : Int) ≤ (x.t.kids.length : Int) := by have h := Int.not_lt.1 hle; rw [hc10'] at h; exact h
  have hl3 : 3 ≤ x.t.kids.length := by omega
  refine .region (.move rfl rfl (.fieldAddr rfl fo31_5 rfl (.load rfl (Ld.ownCell ag22 hb1 ht0.one.c5) rfl (.sliceLH (lo := 1) (hi := 3) rfl rfl rfl (ht0.one.kidsAt).okL el22 sz31 (by decide) hl3 rfl (.move rfl rfl (.build (C := #[(takeV (dropV 21 x.t.kv 1) (3 - 1)), x.e]) sd121 ze121 rfl (Bld.one fo121_0 (((ht0.gr hG.ext).two hl3).2.1.ok).one (by first | decide | exact Nat.le_of_ble_eq_true rfl | simp [Value.cells]) (Bld.one fo121_1 he0.one (by first | decide | exact Nat.le_of_ble_eq_true rfl | simp [Value.cells]) (Bld.nil _))) rfl (.iface rfl cc121 rfl ?_)))))))
  refine At.callM en44 rfl rfl (push_any  _ hM (XAt.frk ((ht0.gr hG.ext).two hl3).1 ((ht0.gr hG.ext).two hl3).2.1 ((ht0.gr hG.ext).two hl3).2.2.1 ((ht0.gr hG.ext).two hl3).2.2.2 (he0.gr hG.ext lR))) (fun x12 w32 hM G12 => ?_)
  replace hG := hG.trans G12
  obtain ⟨hb1, mb1⟩ := G12.both mb1 hb1
  refine .ops0 (.inN (.thenN (.seq (.region (.move rfl rfl (.fieldAddr rfl fo31_5 rfl (.load rfl (Ld.ownCell ag22 hb1 ht0.one.c5) rfl ?_)))))))
  obtain ⟨u9, hu9⟩ := some_of_lt (l := x.t.kids) (i := 0) (by omega)
  refine .indexAddr (i := 0) rfl rfl (ht0.one.kidsAt).okL (lt_of_some hu9) el22 sz31 rfl (.load rfl (Ld.row ag31 (sz31.trans (congrArg some (ht0.kid hu9).one.size.symm)) ((((ht0.gr hG.ext).one.kidsAt)).row hu9)) rfl (.move rfl rfl ?_))
  refine At.callM en45 rfl rfl (goes_any  _ hM ((ht0.kid hu9).gr hG.ext) (he0.gr hG.ext lR)) (fun x13 w33 hM G13 => ?_)
  replace hG := hG.trans G13
  obtain ⟨hb1, mb1⟩ := G13.both mb1 hb1
  refine .assign rfl rfl (.ops0 (.thenN (.retc (.doneR (ResV.tmp rfl ResV.nil) ?_))))
  exact Pst.fin (by rw [looks_eq hst hn2 hle, hc10']; simp only [kid_sh hu9, cond_true, cond_false] <;> rfl) hM hG
 have hc10' := of_decide_eq_false hc10
 refine .seq (.seq (.region (.eqI rfl rfl rfl (.assign rfl rfl (.ops0 (.thenN ?_))))))
 refine At.cond (b := decide (x.t.k = 10)) rfl (fun hc11 => ?_) (fun hc11 => ?_)
 ·skip
  have hc11' := of_decide_eq_true hc11
  have hl : (-1 : Int) ≤ (x.t.kids.length : Int) := by have h := Int.not_lt.1 hle; rw [hc11'] at h; exact h
  refine .set (d := 145) (u := .bool true) rfl (congrArg Value.bool hc11) (.skip (.thenN (.condT rfl (.seq (.seq (.region (.fieldAddr rfl fo31_5 rfl (.load rfl (Ld.ownCell ag22 hb1 ht0.one.c5) rfl (.lenSl rfl (ht0.one.kidsAt).okL el22 rfl (.eqI rfl rfl rfl (.ops0 (.thenN ?_))))))))))))
  refine At.cond (b := decide ((x.t.kids.length : Int) = 0)) rfl (fun hc12 => ?_) (fun hc12 => ?_)
  ·skip
   have hc12' := of_decide_eq_true hc12
   refine .seq (.region (.move rfl rfl (.load rfl (Ld.own ag31 (sz31.trans (congrArg some ht0.one.size.symm)) hb1) rfl ?_)))
   refine At.callM en47 rfl rfl (alone_any  _ hM (ht0.gr hG.ext)) (fun x14 w34 hM G14 => ?_)
   replace hG := hG.trans G14
   obtain ⟨hb1, mb1⟩ := G14.both mb1 hb1
   refine .assign rfl rfl (.ops0 (.thenN (.retc (.thenR (.inR (.thenR (.doneR (ResV.tmp rfl ResV.nil) ?_)))))))
   have hz : decide (x.t.kids.length = 0) = true := by first | (exact decide_eq_true (by omega)) | (exact decide_eq_false (by omega))
   exact Pst.fin (by rw [looks_eq hst hn2 hle, hc11']; simp only [hz, cond_true, cond_false] <;> rfl) hM hG
  have hc12' := of_decide_eq_false hc12
  refine .skip (.thenN (.region (.move rfl rfl (.load rfl (Ld.own ag31 (sz31.trans (congrArg some ht0.one.size.symm)) hb1) rfl (.move rfl rfl (.build (C := (mx [] x.t.cs [zN, x.e])) sd124 ze124 rfl (Bld.mxT (pre := []) (post := [zN, .pointer none]) fo124_0 ht0.one.size (Nat.le_of_ble_eq_true rfl) rfl rfl (Bld.mxP (post' := [zN, .pointer none]) (j := 0) fo124_1 ((SlOk.nil)).one ht0.one.size rfl rfl (by simp) (Bld.mxP (post' := [zN, x.e]) (j := 1) fo124_2 he0.one ht0.one.size rfl rfl (by simp) (Bld.nil _)))) rfl (.iface rfl cc124 rfl ?_)))))))
  refine At.callM en44 rfl rfl (push_any  _ hM (XAt.gat' (ht0.gr hG.ext) (Vs.nil _ _ _) (he0.gr hG.ext lR))) (fun x15 w35 hM G15 => ?_)
  replace hG := hG.trans G15
  obtain ⟨hb1, mb1⟩ := G15.both mb1 hb1
  refine .ops0 (.inN (.thenN (.seq (.region (.move rfl rfl (.fieldAddr rfl fo31_5 rfl (.load rfl (Ld.ownCell ag22 hb1 ht0.one.c5) rfl ?_)))))))
  obtain ⟨u10, hu10⟩ := some_of_lt (l := x.t.kids) (i := 0) (by omega)
  refine .indexAddr (i := 0) rfl rfl (ht0.one.kidsAt).okL (lt_of_some hu10) el22 sz31 rfl (.load rfl (Ld.row ag31 (sz31.trans (congrArg some (ht0.kid hu10).one.size.symm)) ((((ht0.gr hG.ext).one.kidsAt)).row hu10)) rfl (.move rfl rfl ?_))
  refine At.callM en45 rfl rfl (goes_any  _ hM ((ht0.kid hu10).gr hG.ext) (he0.gr hG.ext lR)) (fun x16 w36 hM G16 => ?_)
  replace hG := hG.trans G16
  obtain ⟨hb1, mb1⟩ := G16.both mb1 hb1
  refine .assign rfl rfl (.ops0 (.thenN (.retc (.doneR (ResV.tmp rfl ResV.nil) ?_))))
  have hz : decide (x.t.kids.length = 0) = false := by first | (exact decide_eq_true (by omega)) | (exact decide_eq_false (by omega))
  exact Pst.fin (by rw [looks_eq hst hn2 hle, hc11']; simp only [kid_sh hu10, hz, cond_true, cond_false] <;> rfl) hM hG
 have hc11' := of_decide_eq_false hc11
 refine .region (.eqI rfl rfl rfl (.assign rfl rfl (.ops0 (.thenN ?_))))
 refine At.cond (b := decide (x.t.k = 11)) rfl (fun hc13 => ?_) (fun hc13 => ?_)
 ·skip
  have hc13' := of_decide_eq_true hc13
  have hl : (-1 : Int) ≤ (x.t.kids.length : Int) := by have h := Int.not_lt.1 hle; rw [hc13'] at h; exact h
  refine .seq (.seq (.region (.fieldAddr rfl fo31_5 rfl (.load rfl (Ld.ownCell ag22 hb1 ht0.one.c5) rfl (.lenSl rfl (ht0.one.kidsAt).okL el22 rfl (.eqI rfl rfl rfl (.ops0 (.thenN ?_))))))))
  refine At.cond (b := decide ((x.t.kids.length : Int) = 0)) rfl (fun hc14 => ?_) (fun hc14 => ?_)
  ·skip
   have hc14' := of_decide_eq_true hc14
   refine .seq (.region (.move rfl rfl (.load rfl (Ld.own ag31 (sz31.trans (congrArg some ht0.one.size.symm)) hb1) rfl ?_)))
   refine At.callM en47 rfl rfl (alone_any  _ hM (ht0.gr hG.ext)) (fun x17 w37 hM G17 => ?_)
   replace hG := hG.trans G17
   obtain ⟨hb1, mb1⟩ := G17.both mb1 hb1
   refine .assign rfl rfl (.ops0 (.thenN (.retc (.thenR (.inR (.thenR (.doneR (ResV.tmp rfl ResV.nil) ?_)))))))
   have hz : decide (x.t.kids.length = 0) = true := by first | (exact decide_eq_true (by omega)) | (exact decide_eq_false (by omega))
   exact Pst.fin (by rw [looks_eq hst hn2 hle, hc13']; simp only [hz, cond_true, cond_false] <;> rfl) hM hG
  have hc14' := of_decide_eq_false hc14
  refine .skip (.thenN (.region (.move rfl rfl (.load rfl (Ld.own ag31 (sz31.trans (congrArg some ht0.one.size.symm)) hb1) rfl (.move rfl rfl (.build (C := (mx [] x.t.cs [zN, x.e])) sd124 ze124 rfl (Bld.mxT (pre := []) (post := [zN, .pointer none]) fo124_0 ht0.one.size (Nat.le_of_ble_eq_true rfl) rfl rfl (Bld.mxP (post' := [zN, .pointer none]) (j := 0) fo124_1 ((SlOk.nil)).one ht0.one.size rfl rfl (by simp) (Bld.mxP (post' := [zN, x.e]) (j := 1) fo124_2 he0.one ht0.one.size rfl rfl (by simp) (Bld.nil _)))) rfl (.iface rfl cc124 rfl ?_)))))))
  refine At.callM en44 rfl rfl (push_any  _ hM (XAt.gat' (ht0.gr hG.ext) (Vs.nil _ _ _) (he0.gr hG.ext lR))) (fun x18 w38 hM G18 => ?_)
  replace hG := hG.trans G18
  obtain ⟨hb1, mb1⟩ := G18.both mb1 hb1
  refine .ops0 (.inN (.thenN (.seq (.region (.move rfl rfl (.fieldAddr rfl fo31_5 rfl (.load rfl (Ld.ownCell ag22 hb1 ht0.one.c5) rfl ?_)))))))
  obtain ⟨u11, hu11⟩ := some_of_lt (l := x.t.kids) (i := 0) (by omega)
  refine .indexAddr (i := 0) rfl rfl (ht0.one.kidsAt).okL (lt_of_some hu11) el22 sz31 rfl (.load rfl (Ld.row ag31 (sz31.trans (congrArg some (ht0.kid hu11).one.size.symm)) ((((ht0.gr hG.ext).one.kidsAt)).row hu11)) rfl (.move rfl rfl ?_))
  refine At.callM en45 rfl rfl (goes_any  _ hM ((ht0.kid hu11).gr hG.ext) (he0.gr hG.ext lR)) (fun x19 w39 hM G19 => ?_)
  replace hG := hG.trans G19
  obtain ⟨hb1, mb1⟩ := G19.both mb1 hb1
  refine .assign rfl rfl (.ops0 (.thenN (.retc (.doneR (ResV.tmp rfl ResV.nil) ?_))))
  have hz : decide (x.t.kids.length = 0) = false := by first | (exact decide_eq_true (by omega)) | (exact decide_eq_false (by omega))
  exact Pst.fin (by rw [looks_eq hst hn2 hle, hc13']; simp only [kid_sh hu11, hz, cond_true, cond_false] <;> rfl) hM hG
 have hc13' := of_decide_eq_false hc13
 refine .seq (.region (.eqI rfl rfl rfl (.assign rfl rfl (.ops0 (.thenN ?_)))))
 refine At.cond (b := decide (x.t.k = 12)) rfl (fun hc15 => ?_) (fun hc15 => ?_)
 ·skip
  have hc15' := of_decide_eq_true hc15
  have hl : (1 : Int) ≤ (x.t.kids.length : Int) := by have h := Int.not_lt.1 hle; rw [hc15'] at h; exact h
  refine .region (.move rfl rfl (.fieldAddr rfl fo31_6 rfl (.load rfl (Ld.ownCell ag23 hb1 ht0.one.c6) rfl (.move rfl rfl (.build (C := #[x.t.av, x.e]) sd126 ze126 rfl (Bld.one fo126_0 ((ht0.one.armsAt).okL).one (by first | decide | exact Nat.le_of_ble_eq_true rfl | simp [Value.cells]) (Bld.one fo126_1 he0.one (by first | decide | exact Nat.le_of_ble_eq_true rfl | simp [Value.cells]) (Bld.nil _))) rfl (.iface rfl cc126 rfl ?_))))))
  refine At.callM en44 rfl rfl (push_any  _ hM (XAt.way ((ht0.gr hG.ext).one.armsAt) ((ht0.gr hG.ext).armsOut) ((ht0.gr hG.ext).arms) (he0.gr hG.ext lR))) (fun x20 w40 hM G20 => ?_)
  replace hG := hG.trans G20
  obtain ⟨hb1, mb1⟩ := G20.both mb1 hb1
  refine .ops0 (.inN (.thenN (.seq (.region (.move rfl rfl (.fieldAddr rfl fo31_5 rfl (.load rfl (Ld.ownCell ag22 hb1 ht0.one.c5) rfl ?_)))))))
  obtain ⟨u12, hu12⟩ := some_of_lt (l := x.t.kids) (i := 0) (by omega)
  refine .indexAddr (i := 0) rfl rfl (ht0.one.kidsAt).okL (lt_of_some hu12) el22 sz31 rfl (.load rfl (Ld.row ag31 (sz31.trans (congrArg some (ht0.kid hu12).one.size.symm)) ((((ht0.gr hG.ext).one.kidsAt)).row hu12)) rfl (.move rfl rfl ?_))
  refine At.callM en45 rfl rfl (goes_any  _ hM ((ht0.kid hu12).gr hG.ext) (he0.gr hG.ext lR)) (fun x21 w41 hM G21 => ?_)
  replace hG := hG.trans G21
  obtain ⟨hb1, mb1⟩ := G21.both mb1 hb1
  refine .assign rfl rfl (.ops0 (.thenN (.retc (.doneR (ResV.tmp rfl ResV.nil) ?_))))
  exact Pst.fin (by rw [looks_eq hst hn2 hle, hc15']; simp only [kid_sh hu12, cond_true, cond_false] <;> rfl) hM hG
 have hc15' := of_decide_eq_false hc15
 refine .seq (.region (.eqI rfl rfl rfl (.assign rfl rfl (.ops0 (.thenN ?_)))))
 refine At.cond (b := decide (x.t.k = 13)) rfl (fun hc16 => ?_) (fun hc16 => ?_)
 ·skip
  have hc16' := of_decide_eq_true hc16
  have hl : (1 : Int) ≤ (x.t.kids.length : Int) := by have h := Int.not_lt.1 hle; rw [hc16'] at h; exact h
  refine .region (.move rfl rfl (.fieldAddr rfl fo31_2 rfl (.load rfl (Ld.ownCell ag9 hb1 ht0.one.c2) rfl (.build (C := #[.string x.t.nm]) sd128 ze128 rfl (Bld.cons fo128_0 rfl (lB rfl) (Bld.nil _)) rfl (.iface rfl cc128 rfl ?_)))))
  refine At.callM en44 rfl rfl (push_any  _ hM XAt.ask) (fun x22 w42 hM G22 => ?_)
  replace hG := hG.trans G22
  obtain ⟨hb1, mb1⟩ := G22.both mb1 hb1
  refine .ops0 (.inN (.thenN (.seq (.region (.move rfl rfl (.fieldAddr rfl fo31_5 rfl (.load rfl (Ld.ownCell ag22 hb1 ht0.one.c5) rfl ?_)))))))
  obtain ⟨u13, hu13⟩ := some_of_lt (l := x.t.kids) (i := 0) (by omega)
  refine .indexAddr (i := 0) rfl rfl (ht0.one.kidsAt).okL (lt_of_some hu13) el22 sz31 rfl (.load rfl (Ld.row ag31 (sz31.trans (congrArg some (ht0.kid hu13).one.size.symm)) ((((ht0.gr hG.ext).one.kidsAt)).row hu13)) rfl (.move rfl rfl ?_))
  refine At.callM en45 rfl rfl (goes_any  _ hM ((ht0.kid hu13).gr hG.ext) (he0.gr hG.ext lR)) (fun x23 w43 hM G23 => ?_)
  replace hG := hG.trans G23
  obtain ⟨hb1, mb1⟩ := G23.both mb1 hb1
  refine .assign rfl rfl (.ops0 (.thenN (.retc (.doneR (ResV.tmp rfl ResV.nil) ?_))))
  exact Pst.fin (by rw [looks_eq hst hn2 hle, hc16']; simp only [kid_sh hu13, cond_true, cond_false] <;> rfl) hM hG
 have hc16' := of_decide_eq_false hc16
 refine .seq (.region (.eqI rfl rfl rfl (.assign rfl rfl (.ops0 (.thenN ?_)))))
 refine At.cond (b := decide (x.t.k = 14)) rfl (fun hc17 => ?_) (fun hc17 => ?_)
 ·skip
  have hc17' := of_decide_eq_true hc17
  have hl : (1 : Int) ≤ (x.t.kids.length : Int) := by have h := Int.not_lt.1 hle; rw [hc17'] at h; exact h
  refine .region (.move rfl rfl (.fieldAddr rfl fo31_6 rfl (.load rfl (Ld.ownCell ag23 hb1 ht0.one.c6) rfl (.move rfl rfl (.build (C := #[x.t.av, x.e]) sd129 ze129 rfl (Bld.one fo129_0 ((ht0.one.armsAt).okL).one (by first | decide | exact Nat.le_of_ble_eq_true rfl | simp [Value.cells]) (Bld.one fo129_1 he0.one (by first | decide | exact Nat.le_of_ble_eq_true rfl | simp [Value.cells]) (Bld.nil _))) rfl (.iface rfl cc129 rfl ?_))))))
  refine At.callM en44 rfl rfl (push_any  _ hM (XAt.hnd ((ht0.gr hG.ext).one.armsAt) ((ht0.gr hG.ext).armsOut) ((ht0.gr hG.ext).arms) (he0.gr hG.ext lR))) (fun x24 w44 hM G24 => ?_)
  replace hG := hG.trans G24
  obtain ⟨hb1, mb1⟩ := G24.both mb1 hb1
  refine .ops0 (.inN (.thenN (.seq (.region (.move rfl rfl (.fieldAddr rfl fo31_5 rfl (.load rfl (Ld.ownCell ag22 hb1 ht0.one.c5) rfl ?_)))))))
  obtain ⟨u14, hu14⟩ := some_of_lt (l := x.t.kids) (i := 0) (by omega)
  refine .indexAddr (i := 0) rfl rfl (ht0.one.kidsAt).okL (lt_of_some hu14) el22 sz31 rfl (.load rfl (Ld.row ag31 (sz31.trans (congrArg some (ht0.kid hu14).one.size.symm)) ((((ht0.gr hG.ext).one.kidsAt)).row hu14)) rfl (.move rfl rfl ?_))
  refine At.callM en45 rfl rfl (goes_any  _ hM ((ht0.kid hu14).gr hG.ext) (he0.gr hG.ext lR)) (fun x25 w45 hM G25 => ?_)
  replace hG := hG.trans G25
  obtain ⟨hb1, mb1⟩ := G25.both mb1 hb1
  refine .assign rfl rfl (.ops0 (.thenN (.retc (.doneR (ResV.tmp rfl ResV.nil) ?_))))
  exact Pst.fin (by rw [looks_eq hst hn2 hle, hc17']; simp only [kid_sh hu14, cond_true, cond_false] <;> rfl) hM hG
 have hc17' := of_decide_eq_false hc17
 exact absurd (needs_range hn2) (by omega)
section
variable {M E : List (Option Nat)} {nc : Nat} {w : World} {k n : Int} {nm : ByteArray} {kv fp kp : Value} {y : X}
theorem XAt.h2 (h : XAt M nc w .v (V7 k n nm kv fp kp) y) (hk : k = 2) : n = 0 ∨ n = 1 := by
  obtain ⟨_, _, _, _, _, _, _, _, _, e, _, _, _, _, _, h2⟩ := h.vinv
  injection e with e1 e2; injection e1 with _ e1; injection e2 with e2 _; injection e2 with _ e2
  subst e1 e2; exact h2 hk
theorem XAt.kn (h : XAt M nc w .v (V7 k n nm kv fp kp) y) : y.k = k ∧ y.n = n ∧ y.nm = nm ∧ ∃ rows, Vs M nc w kv rows ∧ y.kids = rows.map Prod.snd := by
  obtain ⟨k', n', nm', kv', fp', kp', rows, f, st, e, rfl, hv, _⟩ := h.vinv
  injection e with e1 e2; injection e2 with e2 e3; injection e3 with e3 e4; injection e4 with _ e4; injection e4 with e4 e5
  injection e1 with _ e1; injection e2 with _ e2; injection e3 with e3
  subst e1 e2 e3 e4
  exact ⟨rfl, rfl, rfl, rows, hv, rfl⟩
theorem XAt.kn1 (h : XAt M nc w .v (V7 k n nm kv fp kp) y) : y.k = k := h.kn.1
theorem XAt.kn2 (h : XAt M nc w .v (V7 k n nm kv fp kp) y) : y.n = n := h.kn.2.1
end
theorem getD_sh {l : List Tm} {i : Nat} {u : Tm} (h : l[i]? = some u) : (l.map shT).getD i t0 = shT u := by simp [h]
theorem two_iff (n : Nat) : ((n : Int) = 2) = (n = 2) := by apply propext; omega
theorem nat_iff (m n : Nat) : ((m : Int) = (n : Int)) = (m = n) := by apply propext; omega
def clP (nm : ByteArray) (a : Am) : Bool := decide (a.nm = nm) && decide (a.vars.length = 2)
def clA (nm : ByteArray) (l : List Am) (i : Nat) : Option Am := (l.drop (max i 1)).find? (clP nm)
theorem clA_eq (nm : ByteArray) (l : List Am) : clF nm (l.map shAm) = (clA nm l 0).map shAm := by
  simp only [clF, clA, ← List.map_tail, List.find?_map]
  rw [show l.drop (max 0 1) = l.tail by cases l <;> rfl]
  rfl
theorem clA_next {nm : ByteArray} {l : List Am} {i : Nat} {u : Am} (hu : l[i]? = some u) (h : (decide (0 < i) && clP nm u) = false) : clA nm l (i + 1) = clA nm l i := by
  cases i with
  | zero => rfl
  | succ i =>
    have e : max (i + 1) 1 = i + 1 := by omega
    have e2 : max (i + 1 + 1) 1 = i + 1 + 1 := by omega
    simp only [clA, e, e2, drop_cons hu, List.find?_cons]
    have : clP nm u = false := by simpa using h
    rw [this]
theorem clA_yes {nm : ByteArray} {l : List Am} {i : Nat} {u : Am} (hu : l[i]? = some u) (h : (decide (0 < i) && clP nm u) = true) : clA nm l i = some u := by
  have h' := Bool.and_eq_true_iff.mp h
  have e : max i 1 = i := by have := of_decide_eq_true h'.1; omega
  simp only [clA, e, drop_cons hu, List.find?_cons, h'.2]
theorem clA_end {nm : ByteArray} {l : List Am} {i : Nat} (h : l.length ≤ i) : clA nm l i = none := by
  simp only [clA]
  rw [List.drop_eq_nil_of_le (by omega)]; rfl
theorem clA_two {nm : ByteArray} {l : List Am} {i : Nat} {a : Am} (h : clA nm l i = some a) : a.vars.length = 2 ∧ a ∈ l := by
  have h1 := List.find?_some h
  have h2 := List.mem_of_find?_eq_some h
  exact ⟨of_decide_eq_true (Bool.and_eq_true_iff.mp h1).2, List.mem_of_mem_drop h2⟩
end Go.Proofs.YtfoolfecjjngpaaGreat
