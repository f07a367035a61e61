/-
  What the layer scope computes, in plain words on trees, second part: what a declaration, an arm, a term is by itself. Plain definitions and lemmas; no condition.
-/
import Derived.Test.YtkclfcdppnlkbaaK8
namespace Go.Proofs.Ytkclfcdppnlkbaa
open Go.RowKit

def kb (bare a b c y : Bool) : Bool := if bare then (if a && b then true else if c then y else false) else false
theorem kb_1 {bare a b c y : Bool} (h : ((bare && a) && b) = true) : kb bare a b c y = true := by revert h; cases bare <;> cases a <;> cases b <;> cases c <;> cases y <;> decide
theorem kb_2 {bare a b c y : Bool} (h : ((bare && a) && b) = false) (h2 : (bare && c) = true) (h3 : (!y) = true) : kb bare a b c y = false := by revert h h2 h3; cases bare <;> cases a <;> cases b <;> cases c <;> cases y <;> decide
theorem kb_3 {bare a b c y : Bool} (h : ((bare && a) && b) = false) (h2 : (bare && c) = true) (h3 : (!y) = false) : kb bare a b c y = true := by revert h h2 h3; cases bare <;> cases a <;> cases b <;> cases c <;> cases y <;> decide
theorem kb_4 {bare a b c y : Bool} (h : ((bare && a) && b) = false) (h2 : (bare && c) = false) : kb bare a b c y = false := by revert h h2; cases bare <;> cases a <;> cases b <;> cases c <;> cases y <;> decide
/-- May a type stand in a declaration? -/
def knownT (dats : List Dat) (t : Ty) : Bool :=
  kb (((decide (t.var = 0) && decide ((t.args : Int) = 0)) && decide ((t.labels : Int) = 0)) && decide (t.rvar = 0)) (decide (t.nm = (⟨#[]⟩ : ByteArray))) ((decide (t.k = 1) || decide (t.k = 2)) || decide (t.k = 3)) (decide (t.k = 4)) (dats.any (datIs t.nm))
def armOk (k : Cn) (a : Am) : Bool := (decide (k.nm = a.nm) && decide ((k.fields.length : Int) = (a.vars.length : Int))) && !twiceFrom [] a.vars
def eq2 {α β : Type} (p : α → β → Bool) : List α → List β → Bool
  | [], [] => true
  | a :: l, b :: m => p a b && eq2 p l m
  | _, _ => false
theorem eq2_len {α β : Type} {p : α → β → Bool} : ∀ {l : List α} {m : List β}, eq2 p l m = true → l.length = m.length := by
  intro l
  induction l with
  | nil => intro m h; cases m with | nil => rfl | cons _ _ => cases h
  | cons a l ih => intro m h; cases m with
    | nil => cases h
    | cons b m => simp only [eq2, Bool.and_eq_true] at h; simp [ih h.2]
theorem eq2_ne {α β : Type} {p : α → β → Bool} {l : List α} {m : List β} (h : ¬ l.length = m.length) : eq2 p l m = false := by
  cases e : eq2 p l m with
  | false => rfl
  | true => exact absurd (eq2_len e) h
theorem eq2_step {α β : Type} {p : α → β → Bool} {l : List α} {m : List β} {k : Nat} {a : α} {b : β} (ha : l[k]? = some a) (hb : m[k]? = some b) : eq2 p (l.drop k) (m.drop k) = (p a b && eq2 p (l.drop (k + 1)) (m.drop (k + 1))) := by
  rw [drop_cons ha, drop_cons hb]; rfl
def hdArm (o : Op) (a : Am) : Bool :=
  match a.vars with
  | [x, y] => decide (a.nm = o.nm) && !decide (x = y)
  | _ => false
def ret_ : ByteArray := ⟨#[114, 101, 116, 117, 114, 110]⟩
/-- Are a handler's arms right? -/
def handlerOk (effs : List Eff) (t : Tm) : Bool :=
  match findHd effs t.nm with
  | none => false
  | some e => match t.arms with
    | [] => false
    | a :: r => decide (a.nm = ret_) && decide (a.vars.length = 1) && eq2 hdArm e.ops r
/-- Are a match's arms right? -/
def matchOk (dats : List Dat) (t : Tm) : Bool :=
  match t.arms with
  | [] => false
  | a :: r => match findCon dats a.nm with
    | none => false
    | some q => eq2 armOk q.1.cons (a :: r)
theorem matchOk_nil {dats : List Dat} {t : Tm} (h : t.arms.length = 0) : matchOk dats t = false := by
  unfold matchOk; rw [List.eq_nil_of_length_eq_zero h]
theorem matchOk_eq {dats : List Dat} {t : Tm} {u : Am} (h : t.arms[0]? = some u) : matchOk dats t = ((findCon dats u.nm).isSome && eq2 armOk (datE (findCon dats u.nm)).cons t.arms) := by
  unfold matchOk
  cases ha : t.arms with
  | nil => rw [ha] at h; cases h
  | cons a r =>
    rw [ha] at h
    simp at h
    subst h
    simp only
    generalize findCon dats a.nm = q
    cases q <;> simp [datE]

/-- Not larger than what is looked at. -/
structure PrSz (p : Pr) : Prop where
  effs : p.effs.length ≤ 1099511627776
  dats : p.dats.length ≤ 1099511627776
  ops : ∀ e ∈ p.effs, e.ops.length ≤ 1099511627776
  cons : ∀ d ∈ p.dats, d.cons.length ≤ 1099511627776
  fields : ∀ d ∈ p.dats, ∀ c ∈ d.cons, c.fields.length ≤ 1099511627776
  opsAll : (p.effs.flatMap fun e => e.ops.map Op.nm).length ≤ 1099511627776
  consAll : (p.dats.flatMap fun e => e.cons.map Cn.nm).length ≤ 1099511627776
section
variable {p : Pr} (h : PrSz p)
include h
theorem PrSz.hl : p.effs.length ≤ 9223372036854775807 ∧ p.dats.length ≤ 9223372036854775807 := by have := h.effs; have := h.dats; omega
theorem PrSz.ho : ∀ e ∈ p.effs, e.ops.length ≤ 9223372036854775807 := fun e he => by have := h.ops e he; omega
theorem PrSz.hc : ∀ d ∈ p.dats, d.cons.length ≤ 9223372036854775807 := fun e he => by have := h.cons e he; omega
theorem PrSz.datE (s : ByteArray) : (datE (findCon p.dats s)).cons.length ≤ 1099511627776 := by
  cases hq : findCon p.dats s with
  | none => exact Nat.zero_le _
  | some q =>
    obtain ⟨e, he, hf⟩ := mem_of_findSome hq
    simp only [conIn, Option.map_eq_some_iff] at hf
    obtain ⟨o, ho, rfl⟩ := hf
    exact h.cons e he
theorem PrSz.cnE (s : ByteArray) : (cnE (findCon p.dats s)).fields.length ≤ 1099511627776 := by
  cases hq : findCon p.dats s with
  | none => exact Nat.zero_le _
  | some q =>
    obtain ⟨e, he, hf⟩ := mem_of_findSome hq
    simp only [conIn, Option.map_eq_some_iff] at hf
    obtain ⟨o, ho, rfl⟩ := hf
    exact h.fields e he o (List.mem_of_find?_eq_some ho)
theorem PrSz.hdE (s : ByteArray) : (hdE (findHd p.effs s)).ops.length ≤ 1099511627776 := by
  cases hq : findHd p.effs s with
  | none => exact Nat.zero_le _
  | some q => exact h.ops q (List.mem_of_find?_eq_some hq)
end
theorem handlerOk_eq {effs : List Eff} {t : Tm} : handlerOk effs t = ((findHd effs t.nm).isSome && match t.arms with
    | [] => false
    | a :: r => decide (a.nm = ret_) && decide (a.vars.length = 1) && eq2 hdArm (hdE (findHd effs t.nm)).ops r) := by
  unfold handlerOk
  cases findHd effs t.nm <;> simp [Go.Proofs.Ytkclfcdppnlkbaa.hdE]
/-- What the code compares ahead of the arms, one after the other. -/
theorem handlerOk_ne {effs : List Eff} {t : Tm} (h : (findHd effs t.nm).isSome = false) : handlerOk effs t = false := by rw [handlerOk_eq, h]; rfl
theorem handlerOk_len {effs : List Eff} {t : Tm} (h : ¬ t.arms.length = 1 + (hdE (findHd effs t.nm)).ops.length) : handlerOk effs t = false := by
  rw [handlerOk_eq]
  cases ha : t.arms with
  | nil => simp
  | cons a r =>
    have : eq2 hdArm (Go.Proofs.Ytkclfcdppnlkbaa.hdE (findHd effs t.nm)).ops r = false := eq2_ne (by rw [ha] at h; simp at h; omega)
    simp [this]
theorem handlerOk_nm {effs : List Eff} {t : Tm} {u : Am} (hu : t.arms[0]? = some u) (h : ¬ u.nm = ret_) : handlerOk effs t = false := by
  rw [handlerOk_eq]
  cases ha : t.arms with
  | nil => rw [ha] at hu; cases hu
  | cons a r => rw [ha] at hu; simp at hu; subst hu; simp [h]
theorem handlerOk_vars {effs : List Eff} {t : Tm} {u : Am} (hu : t.arms[0]? = some u) (h : ¬ u.vars.length = 1) : handlerOk effs t = false := by
  rw [handlerOk_eq]
  cases ha : t.arms with
  | nil => rw [ha] at hu; cases hu
  | cons a r => rw [ha] at hu; simp at hu; subst hu; simp [h]
theorem handlerOk_go {effs : List Eff} {t : Tm} {u : Am} (hu : t.arms[0]? = some u) (h1 : (findHd effs t.nm).isSome = true) (h2 : u.nm = ret_) (h3 : u.vars.length = 1) : handlerOk effs t = eq2 hdArm (hdE (findHd effs t.nm)).ops (t.arms.drop 1) := by
  rw [handlerOk_eq, h1]
  cases ha : t.arms with
  | nil => rw [ha] at hu; cases hu
  | cons a r => rw [ha] at hu; simp at hu; subst hu; simp [h2, h3]
theorem hdArm_eq {o : Op} {a : Am} {x y : ByteArray} (h2 : a.vars.length = 2) (hx : a.vars[0]? = some x) (hy : a.vars[1]? = some y) : hdArm o a = (decide (a.nm = o.nm) && !decide (x = y)) := by
  unfold hdArm
  match hv : a.vars with
  | [] => rw [hv] at hx; cases hx
  | [_] => rw [hv] at hy; cases hy
  | [x', y'] => rw [hv] at hx hy; simp at hx hy; rw [hx, hy]
  | _ :: _ :: _ :: _ => rw [hv] at h2; simp at h2
theorem hdArm_nm {o : Op} {a : Am} (h : ¬ a.nm = o.nm) : hdArm o a = false := by unfold hdArm; split <;> simp [h]
theorem hdArm_len {o : Op} {a : Am} (h : ¬ a.vars.length = 2) : hdArm o a = false := by
  unfold hdArm
  split
  · rename_i x y hv; rw [hv] at h; simp at h
  · rfl
def con_ : ByteArray := ⟨#[99, 111, 110, 115, 111, 108, 101]⟩
def opsB (dats : List Dat) (ops : List ByteArray) : List Op → Bool
  | [] => true
  | o :: r => if (decide (o.nm = (⟨#[]⟩ : ByteArray)) || memB o.nm ops) || !(knownT dats o.arg && knownT dats o.res) then false else opsB dats (ops ++ [o.nm]) r
def effsB (dats : List Dat) (all ops : List ByteArray) : List Eff → Bool
  | [] => true
  | e :: r => if decide (e.nm = (⟨#[]⟩ : ByteArray)) || memB e.nm all then false else opsB dats ops e.ops && effsB dats (all ++ [e.nm]) (ops ++ e.ops.map Op.nm) r
def consB (dats : List Dat) (ops : List ByteArray) : List Cn → Bool
  | [] => true
  | o :: r => if (decide (o.nm = (⟨#[]⟩ : ByteArray)) || memB o.nm ops) || !(o.fields.all (knownT dats)) then false else consB dats (ops ++ [o.nm]) r
def datsB (dats : List Dat) (all ops : List ByteArray) : List Dat → Bool
  | [] => true
  | e :: r => if decide (e.nm = (⟨#[]⟩ : ByteArray)) || memB e.nm all then false else consB dats ops e.cons && datsB dats (all ++ [e.nm]) (ops ++ e.cons.map Cn.nm) r
theorem take_snoc {α β : Type} {l : List α} {k : Nat} {u : α} (f : α → β) (a : List β) (hu : l[k]? = some u) : a ++ (l.take (k + 1)).map f = (a ++ (l.take k).map f) ++ [f u] := by
  have hk := lt_of_some hu
  rw [List.take_succ_eq_append_getElem hk, (List.getElem?_eq_some_iff.1 hu).2, List.map_append, ← List.append_assoc]; rfl
theorem flat_snoc {α β : Type} {l : List α} {k : Nat} {u : α} (f : α → List β) (hu : l[k]? = some u) : (l.take (k + 1)).flatMap f = (l.take k).flatMap f ++ f u := by
  have hk := lt_of_some hu
  rw [List.take_succ_eq_append_getElem hk, (List.getElem?_eq_some_iff.1 hu).2, List.flatMap_append]; simp
theorem flat_le {α β : Type} {l : List α} {k : Nat} (f : α → List β) : ((l.take k).flatMap f).length ≤ (l.flatMap f).length := by
  rw [← List.take_append_drop k l, List.flatMap_append, List.length_append]; simp
theorem flat_le1 {α β : Type} {l : List α} {k : Nat} {u : α} (f : α → List β) (hu : l[k]? = some u) : ((l.take k).flatMap f).length + (f u).length ≤ (l.flatMap f).length := by
  have := flat_le (k := k + 1) (l := l) f
  rw [flat_snoc f hu, List.length_append] at this
  exact this
section
variable {dats : List Dat} {all ops : List ByteArray} {k : Nat}
theorem opsB_step {l : List Op} {u : Op} (hu : l[k]? = some u) (h : ((decide (u.nm = (⟨#[]⟩ : ByteArray)) || memB u.nm ops) || !(knownT dats u.arg && knownT dats u.res)) = false) : opsB dats ops (l.drop k) = opsB dats (ops ++ [u.nm]) (l.drop (k + 1)) := by
  rw [drop_cons hu, opsB, h]; rfl
theorem opsB_bad {l : List Op} {u : Op} (hu : l[k]? = some u) (h : ((decide (u.nm = (⟨#[]⟩ : ByteArray)) || memB u.nm ops) || !(knownT dats u.arg && knownT dats u.res)) = true) : opsB dats ops (l.drop k) = false := by
  rw [drop_cons hu, opsB, h]; rfl
theorem consB_step {l : List Cn} {u : Cn} (hu : l[k]? = some u) (h : ((decide (u.nm = (⟨#[]⟩ : ByteArray)) || memB u.nm ops) || !(u.fields.all (knownT dats))) = false) : consB dats ops (l.drop k) = consB dats (ops ++ [u.nm]) (l.drop (k + 1)) := by
  rw [drop_cons hu, consB, h]; rfl
theorem consB_bad {l : List Cn} {u : Cn} (hu : l[k]? = some u) (h : ((decide (u.nm = (⟨#[]⟩ : ByteArray)) || memB u.nm ops) || !(u.fields.all (knownT dats))) = true) : consB dats ops (l.drop k) = false := by
  rw [drop_cons hu, consB, h]; rfl
theorem effsB_bad {l : List Eff} {u : Eff} (hu : l[k]? = some u) (h : (decide (u.nm = (⟨#[]⟩ : ByteArray)) || memB u.nm all) = true) : effsB dats all ops (l.drop k) = false := by
  rw [drop_cons hu, effsB, h]; rfl
theorem effsB_step {l : List Eff} {u : Eff} (hu : l[k]? = some u) (h : (decide (u.nm = (⟨#[]⟩ : ByteArray)) || memB u.nm all) = false) : effsB dats all ops (l.drop k) = (opsB dats ops u.ops && effsB dats (all ++ [u.nm]) (ops ++ u.ops.map Op.nm) (l.drop (k + 1))) := by
  rw [drop_cons hu, effsB, h]; rfl
theorem datsB_bad {l : List Dat} {u : Dat} (hu : l[k]? = some u) (h : (decide (u.nm = (⟨#[]⟩ : ByteArray)) || memB u.nm all) = true) : datsB dats all ops (l.drop k) = false := by
  rw [drop_cons hu, datsB, h]; rfl
theorem datsB_step {l : List Dat} {u : Dat} (hu : l[k]? = some u) (h : (decide (u.nm = (⟨#[]⟩ : ByteArray)) || memB u.nm all) = false) : datsB dats all ops (l.drop k) = (consB dats ops u.cons && datsB dats (all ++ [u.nm]) (ops ++ u.cons.map Cn.nm) (l.drop (k + 1))) := by
  rw [drop_cons hu, datsB, h]; rfl
end
end Go.Proofs.Ytkclfcdppnlkbaa
