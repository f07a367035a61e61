/-
  Programs that can be written; the words of terms and programs. Plain definitions and lemmas; no condition.
-/
import Derived.Test.YtkclecfbjfdfkaaGreatDoorP1
import Derived.Test.YtkclecfbjfdfkaaGreatDoorK12
import Derived.Lib.ItoaNum
namespace Go.Proofs.YtkclecfbjfdfkaaGreatDoor
open Go.RowKit

theorem mem2 {α : Type} {Q : α → Prop} {a b : α} (h1 : Q a) (h2 : Q b) : ∀ u ∈ [a, b], Q u := by
  intro u hu; simp at hu; rcases hu with rfl | rfl <;> assumption
theorem Is.dup {N : Nat} {ds : List Deferred} {d : Nat} {v u : Value} {X : List (Nat × Value)} {a : Act} (h : Is N ds ((d, v) :: (d, u) :: X) a) : Is N ds ((d, v) :: X) a := by
  refine ⟨h.size, h.defers, fun t x hl => h.get t x ?_⟩
  simp only [look] at hl ⊢
  by_cases e : d = t
  · rw [beqT e] at hl ⊢; exact hl
  · rw [beqF e] at hl ⊢; exact hl
theorem min_lit' (a b : Nat) : (if (b : Int) < (a : Int) then (b : Int) else (a : Int)) = ((min a b : Nat) : Int) := by split <;> omega
-- ------------------------------------------------------------------ declarations
def opNo (s : Op) : Bool := (!nmB 2 s.nm) || (!tysB [s.arg, s.res])
def effNo (x : Eff) : Bool := (!nmB 3 x.nm) || x.ops.any opNo
def cnNo (c : Cn) : Bool := (!nmB 3 c.nm) || (!tysB c.fields)
def datNo (d : Dat) : Bool := (!nmB 3 d.nm) || d.cons.any cnNo
/-- Can a program be written? -/
def RightB (p : Pr) : Bool := !p.effs.any effNo && (!p.dats.any datNo && writtenB p.body)
structure SzP (p : Pr) : Prop where
  effs : ∀ x ∈ p.effs, x.nm.size ≤ 4194304 ∧ ∀ o ∈ x.ops, o.nm.size ≤ 4194304 ∧ o.arg.nm.size ≤ 4194304 ∧ o.res.nm.size ≤ 4194304
  dats : ∀ d ∈ p.dats, d.nm.size ≤ 4194304 ∧ ∀ c ∈ d.cons, c.nm.size ≤ 4194304 ∧ ∀ t ∈ c.fields, t.nm.size ≤ 4194304
  body : szT p.body
theorem any_no {α : Type} {p : α → Bool} {l : List α} {k : Nat} (hk : l.length ≤ k) (hn : ∀ i x, i < k → l[i]? = some x → p x = false) : l.any p = false := by
  rw [List.any_eq_false]
  intro x hx
  obtain ⟨i, hi⟩ := List.getElem?_of_mem hx
  rw [hn i x (Nat.lt_of_lt_of_le (lt_of_some hi) hk) hi]; decide
theorem any_yes {α : Type} {p : α → Bool} {l : List α} {i : Nat} {x : α} (hi : l[i]? = some x) (h : p x = true) : l.any p = true := List.any_eq_true.2 ⟨x, List.mem_of_getElem? hi, h⟩
-- ------------------------------------------------------------------ words
def E0 : ByteArray := (⟨#[]⟩ : ByteArray)
/-- A term's kind, its words, its words az an atom. -/
structure EA where
  k : Int
  e : List ByteArray
  a : List ByteArray
def zEA : EA := ⟨0, [], []⟩
/-- Some things with a word between each two. -/
def btN (sep : ByteArray) (f : Nat → List ByteArray) : Nat → List ByteArray
  | 0 => []
  | k + 1 => btN sep f k ++ ((if 0 < k then [sep] else []) ++ f k)
/-- Words, each with something behind it. -/
def ptN (ss : List ByteArray) (f : Nat → List ByteArray) : Nat → List ByteArray
  | 0 => []
  | k + 1 => ptN ss f k ++ (ss.getD k E0 :: f k)
def itoaW (n : Int) : ByteArray := ⟨(Lib.itoa n).toArray⟩
def eK (ks : List EA) (i : Nat) : List ByteArray := (ks.getD i zEA).e
def aK (ks : List EA) (i : Nat) : List ByteArray := (ks.getD i zEA).a
def armsW (az : List (List ByteArray)) : List ByteArray := ([(⟨#[123]⟩ : ByteArray)] ++ btN (⟨#[59]⟩ : ByteArray) (fun i => az.getD i []) az.length) ++ [(⟨#[125]⟩ : ByteArray)]
/-- The words of what is an atom by itself. -/
def nodeS (k : Int) (nm : ByteArray) (n : Int) (ks : List EA) : Option (List ByteArray) :=
  if k = 1 then some [nm] else if k = 2 then some [itoaW n] else if k = 3 then some [if n = 0 then (⟨#[102, 97, 108, 115, 101]⟩ : ByteArray) else (⟨#[116, 114, 117, 101]⟩ : ByteArray)] else if k = 4 then some [(⟨#[40]⟩ : ByteArray), (⟨#[41]⟩ : ByteArray)]
  else if k = 10 ∧ nm = (⟨#[114, 101, 97, 100]⟩ : ByteArray) then some [(⟨#[114, 101, 97, 100]⟩ : ByteArray), (⟨#[40]⟩ : ByteArray), (⟨#[41]⟩ : ByteArray)]
  else if k = 11 then some (([nm, (⟨#[40]⟩ : ByteArray)] ++ btN (⟨#[44]⟩ : ByteArray) (eK ks) ks.length) ++ [(⟨#[41]⟩ : ByteArray)]) else none
def nodeE (k : Int) (nm pm : ByteArray) (ks : List EA) (az : List (List ByteArray)) (s : List ByteArray) : List ByteArray :=
  if k = 5 then [(⟨#[102, 117, 110]⟩ : ByteArray), nm] ++ ptN [(⟨#[45, 62]⟩ : ByteArray)] (eK ks) 1
  else if k = 6 then (if (ks.getD 0 zEA).k = 6 then eK ks 0 else aK ks 0) ++ aK ks 1
  else if k = 7 then [(⟨#[108, 101, 116]⟩ : ByteArray), nm] ++ ptN [(⟨#[61]⟩ : ByteArray), (⟨#[105, 110]⟩ : ByteArray)] (eK ks) 2
  else if k = 8 then [(⟨#[114, 101, 99]⟩ : ByteArray), nm, pm] ++ ptN [(⟨#[61]⟩ : ByteArray), (⟨#[105, 110]⟩ : ByteArray)] (eK ks) 2
  else if k = 9 then ptN [(⟨#[105, 102]⟩ : ByteArray), (⟨#[116, 104, 101, 110]⟩ : ByteArray), (⟨#[101, 108, 115, 101]⟩ : ByteArray)] (eK ks) 3
  else if k = 12 then ptN [(⟨#[109, 97, 116, 99, 104]⟩ : ByteArray)] (eK ks) 1 ++ armsW az
  else if k = 14 then ([(⟨#[104, 97, 110, 100, 108, 101]⟩ : ByteArray), nm] ++ eK ks 0) ++ armsW az
  else if k = 13 then [nm ++ (⟨#[33]⟩ : ByteArray)] ++ aK ks 0
  else if k = 10 then (if ks.length = 2 then (aK ks 0 ++ [nm]) ++ aK ks 1 else if ks.length = 1 then [nm] ++ aK ks 0 else s)
  else s
def nodeA (k : Int) (nm pm : ByteArray) (n : Int) (ks : List EA) (az : List (List ByteArray)) : EA := match nodeS k nm n ks with
  | some s => ⟨k, nodeE k nm pm ks az s, s⟩
  | none => ⟨k, nodeE k nm pm ks az [], ([(⟨#[40]⟩ : ByteArray)] ++ nodeE k nm pm ks az []) ++ [(⟨#[41]⟩ : ByteArray)]⟩
mutual
def eaT : Tm → EA
  | .mk _ k _ nm pm n _ _ kids arms => nodeA k nm pm n (eaL kids) (eaA arms)
def eaL : List Tm → List EA
  | [] => []
  | u :: r => eaT u :: eaL r
def eaA : List Am → List (List ByteArray)
  | [] => []
  | .mk _ nm _ vars body :: r => ((([nm] ++ vars) ++ [(⟨#[45, 62]⟩ : ByteArray)]) ++ (eaT body).e) :: eaA r
end
def exprW (t : Tm) : List ByteArray := (eaT t).e
def atomW (t : Tm) : List ByteArray := (eaT t).a
def armW (a : Am) : List ByteArray := (([a.nm] ++ a.vars) ++ [(⟨#[45, 62]⟩ : ByteArray)]) ++ exprW a.body
theorem eaT_eq (t : Tm) : eaT t = nodeA t.k t.nm t.pm t.n (eaL t.kids) (eaA t.arms) := by cases t; rw [eaT]; rfl
theorem eaL_map (l : List Tm) : eaL l = l.map eaT := by
  induction l with
  | nil => rfl
  | cons a l ih => rw [eaL, ih]; rfl
theorem eaA_map (l : List Am) : eaA l = l.map armW := by
  induction l with
  | nil => rfl
  | cons a l ih => cases a; rw [eaA, ih]; rfl
theorem eaT_k (t : Tm) : (eaT t).k = t.k := by rw [eaT_eq]; unfold nodeA; split <;> rfl
theorem eK_at {l : List Tm} {i : Nat} {u : Tm} (h : l[i]? = some u) : eK (eaL l) i = exprW u := by
  unfold eK exprW; rw [eaL_map, List.getD_eq_getElem?_getD, List.getElem?_map, h]; rfl
theorem aK_at {l : List Tm} {i : Nat} {u : Tm} (h : l[i]? = some u) : aK (eaL l) i = atomW u := by
  unfold aK atomW; rw [eaL_map, List.getD_eq_getElem?_getD, List.getElem?_map, h]; rfl
theorem kK_at {l : List Tm} {i : Nat} {u : Tm} (h : l[i]? = some u) : ((eaL l).getD i zEA).k = u.k := by
  rw [eaL_map, List.getD_eq_getElem?_getD, List.getElem?_map, h]; exact eaT_k u
theorem arm_at {l : List Am} {i : Nat} {u : Am} (h : l[i]? = some u) : (eaA l).getD i [] = armW u := by
  rw [eaA_map, List.getD_eq_getElem?_getD, List.getElem?_map, h]; rfl
theorem eaL_len (l : List Tm) : (eaL l).length = l.length := by rw [eaL_map, List.length_map]
theorem eaA_len (l : List Am) : (eaA l).length = l.length := by rw [eaA_map, List.length_map]
-- ------------------------------------------------------------------ the words of declarations
def typW (t : Ty) : ByteArray := if t.k = 4 then t.nm else ([(⟨#[105, 110, 116]⟩ : ByteArray), (⟨#[98, 111, 111, 108]⟩ : ByteArray), (⟨#[117, 110, 105, 116]⟩ : ByteArray)] : List ByteArray).getD (t.k - 1).toNat E0
def opW (s : Op) : List ByteArray := [s.nm, (⟨#[58]⟩ : ByteArray), typW s.arg, (⟨#[45, 62]⟩ : ByteArray), typW s.res]
def effW' (x : Eff) : List ByteArray := ([(⟨#[101, 102, 102, 101, 99, 116]⟩ : ByteArray), x.nm, (⟨#[123]⟩ : ByteArray)] ++ btN (⟨#[59]⟩ : ByteArray) (fun i => (x.ops.map opW).getD i []) x.ops.length) ++ [(⟨#[125]⟩ : ByteArray)]
def cnW' (c : Cn) : List ByteArray := [c.nm] ++ c.fields.map typW
def datW' (d : Dat) : List ByteArray := ([(⟨#[100, 97, 116, 97]⟩ : ByteArray), d.nm, (⟨#[123]⟩ : ByteArray)] ++ btN (⟨#[59]⟩ : ByteArray) (fun i => (d.cons.map cnW').getD i []) d.cons.length) ++ [(⟨#[125]⟩ : ByteArray)]
def declW (p : Pr) : List ByteArray := p.effs.flatMap effW' ++ p.dats.flatMap datW'
def printW (p : Pr) : List ByteArray := declW p ++ exprW p.body
end Go.Proofs.YtkclecfbjfdfkaaGreatDoor
