/-
  What can be written: names, types, terms. Plain definitions and lemmas; no condition.
-/
import Derived.Test.YtkclecfbjfdfkaaGreatDoorL4
import Derived.Test.YtkclecfbjfdfkaaGreatDoorS1
import Derived.Test.YtkclecfbjfdfkaaGreatDoorK11
import Derived.Laws.Small
namespace Go.Proofs.YtkclecfbjfdfkaaGreatDoor
open Go.RowKit

mutual
def wtT : Tm → Nat
  | .mk _ _ _ _ _ _ _ _ kids arms => 2 + wtL kids + wtA arms
def wtL : List Tm → Nat
  | [] => 0
  | u :: r => wtT u + wtL r
def wtA : List Am → Nat
  | [] => 0
  | .mk _ _ _ vars body :: r => vars.length + wtT body + wtA r
end
theorem wtT_eq (t : Tm) : wtT t = 2 + wtL t.kids + wtA t.arms := by cases t; rw [wtT]; rfl
theorem wtT_two (t : Tm) : 2 ≤ wtT t := by rw [wtT_eq]; omega
theorem wtL_get : ∀ {l : List Tm} {u : Tm}, u ∈ l → wtT u ≤ wtL l := by
  intro l
  induction l with
  | nil => intro u h; cases h
  | cons a l ih =>
    intro u h; rw [wtL]
    rcases List.mem_cons.1 h with rfl | h
    · omega
    · have := ih h; omega
theorem wtA_get : ∀ {l : List Am} {u : Am}, u ∈ l → u.vars.length + wtT u.body ≤ wtA l := by
  intro l
  induction l with
  | nil => intro u h; cases h
  | cons a l ih =>
    intro u h
    cases a with | mk cs nm vv vars body =>
    rw [wtA]
    rcases List.mem_cons.1 h with rfl | h
    · show vars.length + wtT body ≤ _; omega
    · have := ih h; omega
theorem wtL_len (l : List Tm) : 2 * l.length ≤ wtL l := by
  induction l with
  | nil => simp [wtL]
  | cons a l ih => rw [wtL]; have := wtT_two a; simp only [List.length_cons]; omega
theorem wtA_len (l : List Am) : 2 * l.length ≤ wtA l := by
  induction l with
  | nil => simp [wtA]
  | cons a l ih => cases a with | mk cs nm vv vars body => rw [wtA]; have := wtT_two body; simp only [List.length_cons]; omega
theorem wt_kid {t u : Tm} (h : u ∈ t.kids) : wtT u + 2 ≤ wtT t := by rw [wtT_eq t]; have := wtL_get h; omega
theorem wt_arm {t : Tm} {u : Am} (h : u ∈ t.arms) : u.vars.length + wtT u.body + 2 ≤ wtT t := by rw [wtT_eq t]; have := wtA_get h; omega
theorem wt_kids (t : Tm) : t.kids.length ≤ wtT t := by rw [wtT_eq]; have := wtL_len t.kids; omega
theorem wt_arms (t : Tm) : t.arms.length ≤ wtT t := by rw [wtT_eq]; have := wtA_len t.arms; omega


/-- The bytes of a text. -/
def byt (s : ByteArray) : List UInt8 := s.data.toList
theorem bs_byt (s : ByteArray) : bs (byt s) = s := (bs_of s).symm
/-- The one word that a text is, if it is one. -/
def oneT (s : ByteArray) : Tk := (lexT (byt s)).getD 0 ⟨0, [], 0, 0⟩
/-- Is a text no name of this kind? -/
def noNm (k : Int) (s : ByteArray) : Bool := (((!decide (lexE (byt s) = 0)) || (!decide (((lexT (byt s)).length : Int) = 1))) || (!decide ((oneT s).k = k))) || (!decide ((oneT s).t = byt s))
def nmB (k : Int) (s : ByteArray) : Bool := !noNm k s
def nmsB (k : Int) (l : List ByteArray) : Bool := !l.any (noNm k)
theorem nms_one (k : Int) (s : ByteArray) : nmsB k [s] = nmB k s := by simp [nmsB, nmB]
theorem oneT_at {s : ByteArray} (h : ((lexT (byt s)).length : Int) = 1) : (lexT (byt s))[0]? = some (oneT s) := by
  unfold oneT
  rw [List.getD_eq_getElem?_getD, List.getElem?_eq_getElem (by omega)]; rfl
theorem byt_bs (l : List UInt8) : byt (bs l) = l := bs_list l
theorem one_is {s : ByteArray} {u : Tk} (h : (lexT (byt s))[0]? = some u) : oneT s = u := by
  unfold oneT
  rw [List.getD_eq_getElem?_getD, h]; rfl
/-- Has a type nothing but its kind, and a name of it? -/
def bareB (t : Ty) : Bool := ((decide (t.var = 0) && decide ((t.args : Int) = 0)) && decide ((t.labels : Int) = 0)) && decide (t.rvar = 0)
def noTy (t : Ty) : Bool := bif decide (t.k = 4) then ((!bareB t) || (!nmB 3 t.nm)) else ((((!bareB t) || (!decide (t.nm = (⟨#[]⟩ : ByteArray)))) || decide (t.k < 1)) || decide (3 < t.k))
def tysB (l : List Ty) : Bool := !l.any noTy
/-- How many kids an operator has. -/
def kidsOf (s : ByteArray) : Int := bif memB s [(⟨#[43]⟩ : ByteArray), (⟨#[45]⟩ : ByteArray), (⟨#[42]⟩ : ByteArray), (⟨#[47]⟩ : ByteArray), (⟨#[60]⟩ : ByteArray), (⟨#[61]⟩ : ByteArray), (⟨#[58, 61]⟩ : ByteArray)] then 2 else bif memB s [(⟨#[112, 114, 105, 110, 116]⟩ : ByteArray), (⟨#[114, 101, 102]⟩ : ByteArray), (⟨#[33]⟩ : ByteArray)] then 1 else bif decide (s = (⟨#[114, 101, 97, 100]⟩ : ByteArray)) then 0 else -1
/-- Has a term just so many kids, and what else it may? -/
def hasB (k : Int) (nm pm : ByteArray) (n : Int) (nk na : Nat) (kids name : Int) (param arms : Bool) : Bool :=
  !((!decide ((nk : Int) = kids)) || (decide (0 < (na : Int)) && (!arms))) && (!((decide (name = 0) && (!decide (nm = (⟨#[]⟩ : ByteArray)))) || ((!decide (name = 0)) && (!nmB name nm))) && (!(((!param) && (!decide (pm = (⟨#[]⟩ : ByteArray)))) || (param && (!nmB 2 pm))) &&
    ((decide (k = 2) || decide (k = 3)) || decide (n = 0))))
def hasT (t : Tm) (nm : ByteArray) (kids name : Int) (param arms : Bool) : Bool := hasB t.k nm t.pm t.n t.kids.length t.arms.length kids name param arms
/-- An arm of a handler, by its place. -/
def hdNo (i : Nat) (a : Am) : Bool := (decide ((i : Int) = 0) && ((!decide (a.nm = (⟨#[114, 101, 116, 117, 114, 110]⟩ : ByteArray))) || (!decide ((a.vars.length : Int) = 1)))) || (decide (0 < (i : Int)) && ((!nmB 2 a.nm) || (!decide ((a.vars.length : Int) = 2))))
def hdFrom : Nat → List Am → Bool
  | _, [] => true
  | i, a :: r => (!hdNo i a) && hdFrom (i + 1) r
theorem hdFrom_step {l : List Am} {i : Nat} {a : Am} (h : l[i]? = some a) : hdFrom i (l.drop i) = ((!hdNo i a) && hdFrom (i + 1) (l.drop (i + 1))) := by
  rw [List.drop_eq_getElem_cons (lt_of_some h), (List.getElem?_eq_some_iff.1 h).2, hdFrom]
/-- Can a term be written, but for what is in it? -/
def aloneB (t : Tm) : Bool :=
  bif decide (t.k = 1) then hasT t t.nm 0 2 false false
  else bif decide (t.k = 2) then hasT t t.nm 0 0 false false && decide (0 ≤ t.n)
  else bif decide (t.k = 3) then hasT t t.nm 0 0 false false && (decide (t.n = 0) || decide (t.n = 1))
  else bif decide (t.k = 4) then hasT t t.nm 0 0 false false
  else bif decide (t.k = 5) then hasT t t.nm 1 2 false false
  else bif decide (t.k = 6) then hasT t t.nm 2 0 false false
  else bif decide (t.k = 7) then hasT t t.nm 2 2 false false
  else bif decide (t.k = 8) then hasT t t.nm 2 2 true false
  else bif decide (t.k = 9) then hasT t t.nm 3 0 false false
  else bif decide (t.k = 10) then hasT t (⟨#[]⟩ : ByteArray) (kidsOf t.nm) 0 false false
  else bif decide (t.k = 11) then hasT t t.nm (t.kids.length : Int) 3 false false
  else bif decide (t.k = 12) then hasT t t.nm 1 0 false true && !t.arms.any (fun a => !nmB 3 a.nm)
  else bif decide (t.k = 13) then hasT t t.nm 1 2 false false
  else bif decide (t.k = 14) then !((!hasT t t.nm 1 3 false true) || decide ((t.arms.length : Int) = 0)) && hdFrom 0 t.arms
  else false
mutual
/-- Can a term be written? -/
def rightB : Tm → Bool
  | .mk cs k at_ nm pm n kv av kids arms => (aloneB (.mk cs k at_ nm pm n kv av kids arms) && rightL kids) && rightA arms
def rightL : List Tm → Bool
  | [] => true
  | u :: r => rightB u && rightL r
def rightA : List Am → Bool
  | [] => true
  | .mk _ _ _ vars body :: r => (nmsB 2 vars && rightB body) && rightA r
end
theorem rightB_eq (t : Tm) : rightB t = ((aloneB t && rightL t.kids) && rightA t.arms) := by cases t; rw [rightB]; rfl
theorem rightL_any (l : List Tm) : rightL l = !l.any (fun u => !rightB u) := by
  induction l with
  | nil => rfl
  | cons a l ih => rw [rightL, ih, List.any_cons]; cases rightB a <;> simp
theorem rightA_any (l : List Am) : rightA l = !l.any (fun a => (!nmsB 2 a.vars) || (!rightB a.body)) := by
  induction l with
  | nil => rfl
  | cons a l ih => cases a with | mk cs nm vv vars body => rw [rightA, ih, List.any_cons]; show _ = !((!nmsB 2 vars || !rightB body) || _); cases nmsB 2 vars <;> cases rightB body <;> simp
theorem right_eq (t : Tm) : rightB t = ((aloneB t && !t.kids.any (fun u => !rightB u)) && !t.arms.any (fun a => (!nmsB 2 a.vars) || (!rightB a.body))) := by rw [rightB_eq, rightL_any, rightA_any]
theorem right_kid {t u : Tm} (h : rightB t = true) (hu : u ∈ t.kids) : rightB u = true := by
  rw [rightB_eq, rightL_any] at h
  simp only [Bool.and_eq_true, Bool.not_eq_true', List.any_eq_false, Bool.not_eq_true] at h
  have := h.1.2 u hu
  simpa using this
theorem right_arm {t : Tm} {a : Am} (h : rightB t = true) (ha : a ∈ t.arms) : nmsB 2 a.vars = true ∧ rightB a.body = true := by
  rw [rightB_eq, rightA_any] at h
  simp only [Bool.and_eq_true, Bool.not_eq_true', List.any_eq_false, Bool.not_eq_true] at h
  have := h.2 a ha
  simpa using this
theorem idx_ge {α : Type} (p : α → Bool) (l : List α) : decide (0 ≤ idxI p l) = l.any p := idxI_geq p l
-- ------------------------------------------------------------------ names that are not too long
mutual
def szT : Tm → Prop
  | .mk _ _ _ nm pm n _ _ kids arms => nm.size ≤ 4194304 ∧ pm.size ≤ 4194304 ∧ (szL kids ∧ szA arms) ∧ n ≤ 9223372036854775807
def szL : List Tm → Prop
  | [] => True
  | u :: r => szT u ∧ szL r
def szA : List Am → Prop
  | [] => True
  | .mk _ nm _ vars body :: r => (nm.size ≤ 4194304 ∧ vars.length ≤ 4194304 ∧ (∀ s ∈ vars, s.size ≤ 4194304) ∧ szT body) ∧ szA r
end
theorem szT_eq (t : Tm) : szT t ↔ t.nm.size ≤ 4194304 ∧ t.pm.size ≤ 4194304 ∧ (szL t.kids ∧ szA t.arms) ∧ t.n ≤ 9223372036854775807 := by cases t; rw [szT]; exact Iff.rfl
theorem szL_get : ∀ {l : List Tm} {u : Tm}, szL l → u ∈ l → szT u := by
  intro l
  induction l with
  | nil => intro u _ h; cases h
  | cons a l ih =>
    intro u h hu
    rw [szL] at h
    rcases List.mem_cons.1 hu with rfl | hu
    · exact h.1
    · exact ih h.2 hu
theorem szA_get : ∀ {l : List Am} {a : Am}, szA l → a ∈ l → a.nm.size ≤ 4194304 ∧ a.vars.length ≤ 4194304 ∧ (∀ s ∈ a.vars, s.size ≤ 4194304) ∧ szT a.body := by
  intro l
  induction l with
  | nil => intro u _ h; cases h
  | cons b l ih =>
    intro a h ha
    cases b with | mk cs nm vv vars body =>
    rw [szA] at h
    rcases List.mem_cons.1 ha with rfl | ha
    · exact h.1
    · exact ih h.2 ha
theorem sz_kid {t u : Tm} (h : szT t) (hu : u ∈ t.kids) : szT u := szL_get ((szT_eq t).1 h).2.2.1.1 hu
theorem sz_arm {t : Tm} {a : Am} (h : szT t) (ha : a ∈ t.arms) : a.nm.size ≤ 4194304 ∧ a.vars.length ≤ 4194304 ∧ (∀ s ∈ a.vars, s.size ≤ 4194304) ∧ szT a.body := szA_get ((szT_eq t).1 h).2.2.1.2 ha
/-- A term with another name. -/
def Tm.withNm (t : Tm) (s : ByteArray) : Tm := .mk (t.cs.setIfInBounds 2 (.string s)) t.k t.at_ s t.pm t.n t.kv t.av t.kids t.arms
theorem TmOk.withNm {w : World} {t : Tm} (h : TmOk w t) (s : ByteArray) : TmOk w (t.withNm s) := by
  have hs := h.size
  have hn : ∀ i, i ≠ 2 → (t.cs.setIfInBounds 2 (.string s))[i]? = t.cs[i]? := fun i hi => Array.getElem?_setIfInBounds_ne (by omega)
  refine .mk ⟨by show (t.cs.setIfInBounds 2 (.string s)).size = 21; simpa using hs, ?_, (hn 0 (by decide)).trans h.c0, (hn 1 (by decide)).trans h.c1, by show (t.cs.setIfInBounds 2 (.string s))[2]? = some (.string s); simp [hs], (hn 3 (by decide)).trans h.c3, (hn 4 (by decide)).trans h.c4, (hn 5 (by decide)).trans h.c5, (hn 6 (by decide)).trans h.c6, h.kidsAt, h.armsAt⟩ h.kids h.arms
  have h1 := h.one
  show (t.cs.setIfInBounds 2 (.string s)).all (·.oneCell') = true
  rw [Array.all_eq_true] at h1 ⊢
  intro i hi
  rw [Array.getElem_setIfInBounds (by simpa using hi)]
  split
  · rfl
  · exact h1 i (by simpa using hi)
-- ------------------------------------------------------------------ how deep
def maxL : List Nat → Nat
  | [] => 0
  | a :: r => max a (maxL r)
mutual
/-- How deep a term is. -/
def dpT : Tm → Nat
  | .mk _ _ _ _ _ _ _ _ kids arms => max (dpL kids) (dpA arms) + 1
def dpL : List Tm → Nat
  | [] => 0
  | u :: r => max (dpT u) (dpL r)
def dpA : List Am → Nat
  | [] => 0
  | .mk _ _ _ _ body :: r => max (dpT body) (dpA r)
end
theorem dpT_eq (t : Tm) : dpT t = max (dpL t.kids) (dpA t.arms) + 1 := by cases t; rw [dpT]; rfl
/-- Can a term be written (it is not too deep)? -/
def writtenB (t : Tm) : Bool := decide ((((min (dpT t) 1000 : Nat)) : Int) ≤ 200) && rightB t
theorem dpL_snoc (l : List Tm) (u : Tm) : dpL (l ++ [u]) = max (dpL l) (dpT u) := by
  induction l with
  | nil => simp [dpL]
  | cons a l ih => rw [List.cons_append, dpL, dpL, ih]; omega
theorem dpA_snoc (l : List Am) (u : Am) : dpA (l ++ [u]) = max (dpA l) (dpT u.body) := by
  induction l with
  | nil => cases u with | mk cs nm vv vars body => simp [dpA, Am.body]
  | cons a l ih => cases a with | mk cs nm vv vars body => rw [List.cons_append, dpA, dpA, ih]; omega
theorem take_snoc {α : Type} {l : List α} {k : Nat} {u : α} (hu : l[k]? = some u) : l.take (k + 1) = l.take k ++ [u] := by rw [List.take_add_one, hu]; rfl
theorem max_lit (a b : Nat) : (if (b : Int) > (a : Int) then (b : Int) else (a : Int)) = ((max a b : Nat) : Int) := by split <;> omega
section
variable {P : Program} {N : Nat} {ds : List Deferred} {L : List (Nat × Value)} {w : World} {ops : Array Oper} {Q : Exit → Act → World → Prop} {rest : List Oper} {d : Nat}
  {ty : TypeId} {pos : String} {aft : Array Edge} {x y : Operand}
theorem At.maxI {t t' : TypeId} {q q' : IntKind} {m n : Int} (hx : ev L x = some (.int q m)) (hy : ev L y = some (.int q' n)) (hN : Nat.blt d N = true) (k : At N ds ((d, .int q (if n > m then n else m)) :: L) (wpList P ops Q rest) w) :
    At N ds L (wpList P ops Q (⟨some d, .call ⟨.builtin .max, #[x, y], #[t, t']⟩, ty, pos, aft, none⟩ :: rest)) w :=
  At.op rfl rfl hN (fun a ha => by
    simp only [execOp, resolve, invoke, builtin, Sem.run_bind, Sem.run_pure, Result.andThen_ok, List.map_toArray, List.map_cons, List.map_nil, ha.ev hx, ha.ev hy, run_max_int2]) k
end
end Go.Proofs.YtkclecfbjfdfkaaGreatDoor
