/-
  What the layer scope computes, in plain words on trees, third part: names that are bound, terms, whole programs. Plain definitions and lemmas; no condition.
-/
import Derived.Test.YtkclfcdppnlkbaaS2
namespace Go.Proofs.Ytkclfcdppnlkbaa
open Go.RowKit

/-- A slice of strings that lies in a slice of such. -/
structure Sq where
  v : Value
  l : List ByteArray
def Sq.cs (q : Sq) : Array Value := #[q.v]
structure SqOk (w : World) (q : Sq) : Prop where
  strs : StrsAt w q.v q.l
theorem SqOk.c0 {w : World} {q : Sq} (_ : SqOk w q) : q.cs[0]? = some q.v := rfl
theorem SqOk.size {w : World} {q : Sq} (_ : SqOk w q) : q.cs.size = 1 := rfl
theorem SqOk.one {w : World} {q : Sq} (h : SqOk w q) : q.cs.all (·.oneCell') = true := by simp [Sq.cs, h.strs.ok.one]
theorem SqOk.keep {w w' : World} {q : Sq} (h : SqOk w q) (hB : Below w.heap.size w w') : SqOk w' q := ⟨h.strs.keep hB⟩
def Sq.all (ls : List Sq) : List ByteArray := ls.flatMap Sq.l
theorem Sq.all_snoc {l : List Sq} {k : Nat} {u : Sq} (hu : l[k]? = some u) : Sq.all (l.take (k + 1)) = Sq.all (l.take k) ++ u.l := flat_snoc Sq.l hu
theorem Sq.all_len {l : List Sq} {k : Nat} {u : Sq} (hu : l[k]? = some u) : (Sq.all (l.take (k + 1))).length = (Sq.all (l.take k)).length + u.l.length := by rw [Sq.all_snoc hu, List.length_append]
theorem Sq.all_le {l : List Sq} {k : Nat} {u : Sq} (hu : l[k]? = some u) : (Sq.all (l.take k)).length + u.l.length ≤ (Sq.all l).length := flat_le1 Sq.l hu

def oneB (p : Pr) (t : Tm) (bound : List ByteArray) : Bool :=
  if decide (t.k = 14) then decide ((t.kids.length : Int) = 1) && handlerOk p.effs t
  else if decide (t.k = 12) then decide ((t.kids.length : Int) = 1) && matchOk p.dats t
  else if decide (t.k = 1) then decide ((t.kids.length : Int) = 0) && !decide (0 < (t.arms.length : Int)) && !decide (t.nm = (⟨#[95]⟩ : ByteArray)) && memB t.nm bound
  else if decide (t.k = 2) || decide (t.k = 3) || decide (t.k = 4) then decide ((t.kids.length : Int) = 0) && !decide (0 < (t.arms.length : Int))
  else if decide (t.k = 5) then decide ((t.kids.length : Int) = 1) && !decide (0 < (t.arms.length : Int))
  else if decide (t.k = 6) || decide (t.k = 7) || decide (t.k = 8) then decide ((t.kids.length : Int) = 2) && !decide (0 < (t.arms.length : Int))
  else if decide (t.k = 9) then decide ((t.kids.length : Int) = 3) && !decide (0 < (t.arms.length : Int))
  else if decide (t.k = 10) then (primN t.nm).2 && decide ((t.kids.length : Int) = (primN t.nm).1) && !decide (0 < (t.arms.length : Int))
  else if decide (t.k = 11) then (findCon p.dats t.nm).isSome && decide ((t.kids.length : Int) = ((cnE (findCon p.dats t.nm)).fields.length : Int)) && !decide (0 < (t.arms.length : Int))
  else if decide (t.k = 13) then (findEff p.effs t.nm).isSome && decide ((t.kids.length : Int) = 1) && !decide (0 < (t.arms.length : Int))
  else false

def insideB (k : Int) (nm pm : ByteArray) (i : Nat) (bound : List ByteArray) : List ByteArray :=
  if (decide (k = 5) || (decide (k = 7) && decide ((i : Int) = 1))) || (decide (k = 8) && decide ((i : Int) = 1)) then bound ++ [nm]
  else if decide (k = 8) then bound ++ [nm, pm] else bound
theorem insideB_len (k : Int) (nm pm : ByteArray) (i : Nat) (bound : List ByteArray) : (insideB k nm pm i bound).length ≤ bound.length + 2 := by
  unfold insideB; split
  · simp
  · split <;> simp

def orO (a b : Option Int) : Option Int := match a with | some x => some x | none => b
mutual
def termS (p : Pr) (bound : List ByteArray) : Tm → Option Int
  | .mk cs k at_ nm pm n kv av kids arms => if oneB p (.mk cs k at_ nm pm n kv av kids arms) bound then orO (kidsS p k nm pm bound 0 kids) (armsS p bound arms) else some at_
def kidsS (p : Pr) (k : Int) (nm pm : ByteArray) (bound : List ByteArray) : Nat → List Tm → Option Int
  | _, [] => none
  | i, u :: r => orO (termS p (insideB k nm pm i bound) u) (kidsS p k nm pm bound (i + 1) r)
def armsS (p : Pr) (bound : List ByteArray) : List Am → Option Int
  | [] => none
  | .mk _ _ _ vars body :: r => orO (termS p (bound ++ vars) body) (armsS p bound r)
end
theorem termS_eq (p : Pr) (bound : List ByteArray) (t : Tm) : termS p bound t = if oneB p t bound then orO (kidsS p t.k t.nm t.pm bound 0 t.kids) (armsS p bound t.arms) else some t.at_ := by
  cases t; rw [termS]; rfl
theorem termS_no {p : Pr} {bound : List ByteArray} {t : Tm} (h : oneB p t bound = false) : termS p bound t = some t.at_ := by rw [termS_eq, h]; rfl
theorem termS_go {p : Pr} {bound : List ByteArray} {t : Tm} (h : oneB p t bound = true) : termS p bound t = orO (kidsS p t.k t.nm t.pm bound 0 t.kids) (armsS p bound t.arms) := by rw [termS_eq, h]; rfl
theorem kidsS_step {p : Pr} {c : Int} {nm pm : ByteArray} {bound : List ByteArray} {l : List Tm} {k : Nat} {u : Tm} (hu : l[k]? = some u) : kidsS p c nm pm bound k (l.drop k) = orO (termS p (insideB c nm pm k bound) u) (kidsS p c nm pm bound (k + 1) (l.drop (k + 1))) := by
  rw [drop_cons hu, kidsS]
theorem armsS_step {p : Pr} {bound : List ByteArray} {l : List Am} {k : Nat} {u : Am} (hu : l[k]? = some u) : armsS p bound (l.drop k) = orO (termS p (bound ++ u.vars) u.body) (armsS p bound (l.drop (k + 1))) := by
  rw [drop_cons hu]; cases u; rw [armsS]; rfl
mutual
def wtT : Tm → Nat
  | .mk _ _ _ _ _ _ _ _ kids arms => 2 + wtL kids + wtA arms
def wtL : List Tm → Nat
  | [] => 0
  | u :: r => wtT u + wtL r
def wtA : List Am → Nat
  | [] => 0
  | .mk _ _ _ vars body :: r => vars.length + wtT body + wtA r
end
theorem wtT_eq (t : Tm) : wtT t = 2 + wtL t.kids + wtA t.arms := by cases t; rw [wtT]; rfl
theorem wtT_two (t : Tm) : 2 ≤ wtT t := by rw [wtT_eq]; omega
theorem wtL_get : ∀ {l : List Tm} {u : Tm}, u ∈ l → wtT u ≤ wtL l := by
  intro l
  induction l with
  | nil => intro u h; cases h
  | cons a l ih =>
    intro u h; rw [wtL]
    rcases List.mem_cons.1 h with rfl | h
    · omega
    · have := ih h; omega
theorem wtA_get : ∀ {l : List Am} {u : Am}, u ∈ l → u.vars.length + wtT u.body ≤ wtA l := by
  intro l
  induction l with
  | nil => intro u h; cases h
  | cons a l ih =>
    intro u h
    cases a with | mk cs nm vv vars body =>
    rw [wtA]
    rcases List.mem_cons.1 h with rfl | h
    · show vars.length + wtT body ≤ _; omega
    · have := ih h; omega
theorem wtL_len (l : List Tm) : 2 * l.length ≤ wtL l := by
  induction l with
  | nil => simp [wtL]
  | cons a l ih => rw [wtL]; have := wtT_two a; simp only [List.length_cons]; omega
theorem wtA_len (l : List Am) : 2 * l.length ≤ wtA l := by
  induction l with
  | nil => simp [wtA]
  | cons a l ih => cases a with | mk cs nm vv vars body => rw [wtA]; have := wtT_two body; simp only [List.length_cons]; omega
theorem wt_kid {t u : Tm} (h : u ∈ t.kids) : wtT u + 2 ≤ wtT t := by rw [wtT_eq t]; have := wtL_get h; omega
theorem wt_arm {t : Tm} {u : Am} (h : u ∈ t.arms) : u.vars.length + wtT u.body + 2 ≤ wtT t := by rw [wtT_eq t]; have := wtA_get h; omega
theorem wt_kids (t : Tm) : t.kids.length ≤ wtT t := by rw [wtT_eq]; have := wtL_len t.kids; omega
theorem wt_arms (t : Tm) : t.arms.length ≤ wtT t := by rw [wtT_eq]; have := wtA_len t.arms; omega

/-- What a term's and a program's check answer: where, and what. -/
def atE (r : Option Int) : Int := match r with | some a => a | none => 0
def erE (r : Option Int) : Int := match r with | some _ => 4 | none => 0
def termE (r : Option Int) : Value := .tuple #[.int .i64 (atE r), .int .i64 (erE r)]
theorem erE_none {r : Option Int} (h : erE r = 0) : r = none := by cases r with | none => rfl | some a => cases h
theorem erE_some {r : Option Int} (h : ¬ erE r = 0) : ∃ a, r = some a := by cases r with | none => exact absurd rfl h | some a => exact ⟨a, rfl⟩
theorem orO_some {r s : Option Int} (h : ¬ erE r = 0) : orO r s = r := by obtain ⟨a, rfl⟩ := erE_some h; rfl
theorem orO_none {r s : Option Int} (h : erE r = 0) : orO r s = s := by rw [erE_none h]; rfl
/-- F2, for programs of no more than so many effects. -/
def checkP (p : Pr) : Int × Int :=
  if decide (65534 < (p.effs.length : Int)) then (0, 6)
  else if !effsB p.dats [con_] [] p.effs || !datsB p.dats [con_] [] p.dats then (0, 4)
  else (atE (termS p [] p.body), erE (termS p [] p.body))
def checkV (r : Int × Int) : Value := .tuple #[.int .i64 r.1, .int .i64 r.2]
end Go.Proofs.Ytkclfcdppnlkbaa
