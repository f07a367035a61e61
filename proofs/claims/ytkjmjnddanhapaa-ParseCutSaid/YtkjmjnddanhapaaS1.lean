/-
  What the layer scope computes, in plain words on trees, first part: looking for names. Plain definitions and lemmas; no condition.
-/
import Derived.Test.YtkjmjnddanhapaaD1
namespace Go.Proofs.Ytkjmjnddanhapaa
open Go.RowKit

theorem SlOk.nil : SlOk (.slice none 0 0) 0 := .inl ⟨rfl, rfl⟩
theorem lt_of_some {α : Type} {l : List α} {i : Nat} {x : α} (h : l[i]? = some x) : i < l.length := (List.getElem?_eq_some_iff.1 h).1
theorem sub_cell {C cs : Array Value} {k n j : Nat} {v : Value} (e : C.extract k (k + n) = cs) (h : cs[j]? = some v) : C[k + j]? = some v := by
  subst e
  rw [Array.getElem?_extract] at h
  split at h
  · exact h
  · cases h
theorem StrsAt.own {w : World} {b n c : Nat} {ss : List ByteArray} {T : TypeId} {fr : Nat × Nat} (h : w.heap[b]? = some (.cells (ss.map Value.string).toArray T fr)) (hn : n = ss.length) (hc : n ≤ c) (hm : n ≤ 9223372036854775807 := by decide) : StrsAt w (.slice (some ⟨b, 0, none⟩) n c) ss := by
  subst hn
  refine ⟨.inr ⟨⟨b, 0, none⟩, c, by simp, by simpa using hc, fun _ => rfl⟩, fun i cs hi => ?_, fun i cs hi => ?_, by simpa using hm⟩
  · simp only [List.getElem?_map, Option.map_eq_some_iff] at hi
    obtain ⟨s, _, rfl⟩ := hi; rfl
  · simp only [List.getElem?_map, Option.map_eq_some_iff] at hi
    obtain ⟨s, hs, rfl⟩ := hi
    intro j v hv
    have hj : j = 0 := by have : j < 1 := by have := (Array.getElem?_eq_some_iff.1 hv).1; simpa using this
                          omega
    subst hj
    simp at hv
    subst hv
    simp [World.cell?, h, vBlock, vOff, hs]

-- ------------------------------------------------------------------ the first that is so
def memB (s : ByteArray) (ss : List ByteArray) : Bool := ss.any fun x => decide (x = s)
theorem memB_iff {s : ByteArray} {ss : List ByteArray} : memB s ss = true ↔ s ∈ ss := by simp [memB]
def idxI {α : Type} (p : α → Bool) (l : List α) : Int := match l.findIdx? p with | some i => (i : Int) | none => -1

theorem idxI_yes {α : Type} {p : α → Bool} {l : List α} {k : Nat} {u : α} (hu : l[k]? = some u) (h : p u = true) (hn : ∀ j x, j < k → l[j]? = some x → p x = false) : idxI p l = (k : Int) := by
  have : l.findIdx? p = some k := by
    rw [List.findIdx?_eq_some_iff_getElem]
    have hk := lt_of_some hu
    refine ⟨hk, ?_, fun j hj => ?_⟩
    · have := (List.getElem?_eq_some_iff.1 hu).2; rw [this]; exact h
    · have := hn j l[j] hj (List.getElem?_eq_getElem (by omega)); simpa using this
  simp [idxI, this]
theorem idxI_no {α : Type} {p : α → Bool} {l : List α} {k : Nat} (hk : l.length ≤ k) (hn : ∀ j x, j < k → l[j]? = some x → p x = false) : idxI p l = -1 := by
  have : l.findIdx? p = none := by
    rw [List.findIdx?_eq_none_iff]
    intro x hx
    obtain ⟨j, hj⟩ := List.getElem?_of_mem hx
    exact hn j x (by have := lt_of_some hj; omega) hj
  simp [idxI, this]
theorem next_no {α : Type} {p : α → Bool} {l : List α} {k : Nat} {u : α} (hn : ∀ j x, j < k → l[j]? = some x → p x = false) (hu : l[k]? = some u) (h : p u = false) : ∀ j x, j < k + 1 → l[j]? = some x → p x = false := by
  intro j x hj hx
  by_cases e : j = k
  · subst e; rw [hu] at hx; cases hx; exact h
  · exact hn j x (by omega) hx
theorem idxI_range {α : Type} (p : α → Bool) (l : List α) : -1 ≤ idxI p l ∧ idxI p l < (l.length : Int) := by
  unfold idxI
  split
  · rename_i i h
    have := (List.findIdx?_eq_some_iff_getElem.1 h).1
    omega
  · omega
theorem idxI_neg {α : Type} (p : α → Bool) (l : List α) : decide (idxI p l < 0) = !(l.any p) := by
  unfold idxI
  split
  · rename_i i h
    obtain ⟨h1, h2, _⟩ := List.findIdx?_eq_some_iff_getElem.1 h
    have : l.any p = true := List.any_eq_true.2 ⟨l[i], List.getElem_mem h1, h2⟩
    rw [this]; simp
  · rename_i h
    have : l.any p = false := by rw [List.findIdx?_eq_none_iff] at h; simpa using h
    rw [this]; simp
theorem idxI_geq {α : Type} (p : α → Bool) (l : List α) : decide (0 ≤ idxI p l) = l.any p := by
  have := idxI_neg p l
  by_cases h : idxI p l < 0
  · have h' : ¬ 0 ≤ idxI p l := by omega
    simp [h, h'] at this ⊢; exact this
  · have h' : 0 ≤ idxI p l := by omega
    simp [h, h'] at this ⊢; exact this
theorem idxI_find {α : Type} {p : α → Bool} {l : List α} (h : 0 ≤ idxI p l) : ∃ (i : Nat) (u : α), idxI p l = (i : Int) ∧ l[i]? = some u ∧ l.find? p = some u := by
  unfold idxI at h ⊢
  split at h
  · rename_i i hi
    obtain ⟨h1, h2, h3⟩ := List.findIdx?_eq_some_iff_getElem.1 hi
    refine ⟨i, l[i], rfl, List.getElem?_eq_getElem h1, ?_⟩
    rw [List.find?_eq_some_iff_getElem]
    exact ⟨h2, i, h1, rfl, fun j hj => by simpa using h3 j hj⟩
  · omega
theorem idxI_none {α : Type} {p : α → Bool} {l : List α} (h : idxI p l < 0) : l.find? p = none := by
  have := idxI_neg p l
  rw [List.find?_eq_none]
  intro x hx
  simp [h] at this
  simpa using this x hx
theorem find_yes {α : Type} {p : α → Bool} {l : List α} {k : Nat} {u : α} (hu : l[k]? = some u) (h : p u = true) (hn : ∀ j x, j < k → l[j]? = some x → p x = false) : l.find? p = some u := by
  rw [List.find?_eq_some_iff_getElem]
  refine ⟨h, k, lt_of_some hu, (List.getElem?_eq_some_iff.1 hu).2, fun j hj => ?_⟩
  have := lt_of_some hu
  simpa using hn j l[j] hj (List.getElem?_eq_getElem (by omega))
theorem find_no {α : Type} {p : α → Bool} {l : List α} {k : Nat} (hk : l.length ≤ k) (hn : ∀ j x, j < k → l[j]? = some x → p x = false) : l.find? p = none := by
  rw [List.find?_eq_none]
  intro x hx
  obtain ⟨j, hj⟩ := List.getElem?_of_mem hx
  simp [hn j x (by have := lt_of_some hj; omega) hj]
theorem findSome_yes {α β : Type} {f : α → Option β} {l : List α} {k : Nat} {u : α} {y : β} (hu : l[k]? = some u) (h : f u = some y) (hn : ∀ j x, j < k → l[j]? = some x → f x = none) : l.findSome? f = some y := by
  induction l generalizing k with
  | nil => simp at hu
  | cons a r ih =>
    cases k with
    | zero => simp at hu; subst hu; simp [h]
    | succ k =>
      have h0 := hn 0 a (by omega) rfl
      simp only [List.findSome?_cons, h0]
      exact ih (by simpa using hu) (fun j x hj hx => hn (j + 1) x (by omega) (by simpa using hx))
theorem findSome_no {α β : Type} {f : α → Option β} {l : List α} {k : Nat} (hk : l.length ≤ k) (hn : ∀ j x, j < k → l[j]? = some x → f x = none) : l.findSome? f = none := by
  rw [List.findSome?_eq_none_iff]
  intro x hx
  obtain ⟨j, hj⟩ := List.getElem?_of_mem hx
  exact hn j x (by have := lt_of_some hj; omega) hj
theorem next_none {α β : Type} {f : α → Option β} {l : List α} {k : Nat} {u : α} (hn : ∀ j x, j < k → l[j]? = some x → f x = none) (hu : l[k]? = some u) (h : f u = none) : ∀ j x, j < k + 1 → l[j]? = some x → f x = none := by
  intro j x hj hx
  by_cases e : j = k
  · subst e; rw [hu] at hx; cases hx; exact h
  · exact hn j x (by omega) hx

-- ------------------------------------------------------------------ F1
def emp : ByteArray := ⟨#[]⟩
def zeroTy : Ty := { cs := #[.int .i64 0, .string emp, .int .i64 0, .slice none 0 0, .slice none 0 0, .int .i64 0], k := 0, nm := emp, var := 0, av := .slice none 0 0, args := 0, lv := .slice none 0 0, labels := 0, rvar := 0 }
theorem zeroTy_ok : TyOk zeroTy := ⟨rfl, by simp [zeroTy, Value.oneCell'], rfl, rfl, rfl, rfl, rfl, rfl, SlOk.nil, SlOk.nil⟩
def zeroOp : Op := { cs := #[.string emp, .int .i64 0, .string emp, .int .i64 0, .slice none 0 0, .slice none 0 0, .int .i64 0, .int .i64 0, .string emp, .int .i64 0, .slice none 0 0, .slice none 0 0, .int .i64 0], nm := emp, arg := zeroTy, res := zeroTy }
theorem zeroOp_ok : OpOk zeroOp := ⟨rfl, by simp [zeroOp, Value.oneCell'], rfl, rfl, rfl, zeroTy_ok, zeroTy_ok⟩
def zeroEff : Eff := { cs := #[.string emp, .slice none 0 0], nm := emp, ov := .slice none 0 0, ops := [] }
theorem zeroEff_ok (w : World) : EffOk w zeroEff := ⟨rfl, by simp [zeroEff, Value.oneCell'], rfl, rfl, RowsAt.nil w 13, fun _ h => by cases h⟩
def zeroCn : Cn := { cs := #[.string emp, .slice none 0 0], nm := emp, fv := .slice none 0 0, fields := [] }
theorem zeroCn_ok (w : World) : CnOk w zeroCn := ⟨rfl, by simp [zeroCn, Value.oneCell'], rfl, rfl, RowsAt.nil w 6, fun _ h => by cases h⟩
def zeroDat : Dat := { cs := #[.string emp, .slice none 0 0], nm := emp, cv := .slice none 0 0, cons := [] }
theorem zeroDat_ok (w : World) : DatOk w zeroDat := ⟨rfl, by simp [zeroDat, Value.oneCell'], rfl, rfl, RowsAt.nil w 2, fun _ h => by cases h⟩

def opIs (s : ByteArray) (o : Op) : Bool := decide (o.nm = s)
def effIs (s : ByteArray) (e : Eff) : Bool := decide (e.nm = s)
def cnIs (s : ByteArray) (c : Cn) : Bool := decide (c.nm = s)
def datIs (s : ByteArray) (d : Dat) : Bool := decide (d.nm = s)
def opIn (s : ByteArray) (e : Eff) : Option (Eff × Op) := (e.ops.find? (opIs s)).map fun o => (e, o)
def conIn (s : ByteArray) (d : Dat) : Option (Dat × Cn) := (d.cons.find? (cnIs s)).map fun c => (d, c)
def findEff (l : List Eff) (s : ByteArray) : Option (Eff × Op) := l.findSome? (opIn s)
def findHd (l : List Eff) (s : ByteArray) : Option Eff := l.find? (effIs s)
def findCon (l : List Dat) (s : ByteArray) : Option (Dat × Cn) := l.findSome? (conIn s)
def effE : Option (Eff × Op) → Eff | some p => p.1 | none => zeroEff
def opE : Option (Eff × Op) → Op | some p => p.2 | none => zeroOp
def hdE : Option Eff → Eff | some p => p | none => zeroEff
def datE : Option (Dat × Cn) → Dat | some p => p.1 | none => zeroDat
def cnE : Option (Dat × Cn) → Cn | some p => p.2 | none => zeroCn
theorem mem_of_findSome {α β : Type} {f : α → Option β} {l : List α} {y : β} (h : l.findSome? f = some y) : ∃ x ∈ l, f x = some y := List.exists_of_findSome?_eq_some h
section
variable {w : World} {p : Pr}
theorem effE_ok (h : PrOk w p) (s : ByteArray) : EffOk w (effE (findEff p.effs s)) := by
  cases hq : findEff p.effs s with
  | none => exact zeroEff_ok w
  | some q =>
    obtain ⟨e, he, hf⟩ := mem_of_findSome hq
    simp only [opIn, Option.map_eq_some_iff] at hf
    obtain ⟨o, ho, rfl⟩ := hf
    exact h.effOk e he
theorem opE_ok (h : PrOk w p) (s : ByteArray) : OpOk (opE (findEff p.effs s)) := by
  cases hq : findEff p.effs s with
  | none => exact zeroOp_ok
  | some q =>
    obtain ⟨e, he, hf⟩ := mem_of_findSome hq
    simp only [opIn, Option.map_eq_some_iff] at hf
    obtain ⟨o, ho, rfl⟩ := hf
    exact (h.effOk e he).opOk o (List.mem_of_find?_eq_some ho)
theorem hdE_ok (h : PrOk w p) (s : ByteArray) : EffOk w (hdE (findHd p.effs s)) := by
  cases hq : findHd p.effs s with
  | none => exact zeroEff_ok w
  | some q => exact h.effOk q (List.mem_of_find?_eq_some hq)
theorem datE_ok (h : PrOk w p) (s : ByteArray) : DatOk w (datE (findCon p.dats s)) := by
  cases hq : findCon p.dats s with
  | none => exact zeroDat_ok w
  | some q =>
    obtain ⟨e, he, hf⟩ := mem_of_findSome hq
    simp only [conIn, Option.map_eq_some_iff] at hf
    obtain ⟨o, ho, rfl⟩ := hf
    exact h.datOk e he
theorem cnE_ok (h : PrOk w p) (s : ByteArray) : CnOk w (cnE (findCon p.dats s)) := by
  cases hq : findCon p.dats s with
  | none => exact zeroCn_ok w
  | some q =>
    obtain ⟨e, he, hf⟩ := mem_of_findSome hq
    simp only [conIn, Option.map_eq_some_iff] at hf
    obtain ⟨o, ho, rfl⟩ := hf
    exact (h.datOk e he).conOk o (List.mem_of_find?_eq_some ho)
end
/-- What Effect, Handled and Con answer. -/
def effV (r : Option (Eff × Op)) : Value := .tuple #[.agg (effE r).cs, .agg (opE r).cs, .bool r.isSome]
def hdV (r : Option Eff) : Value := .tuple #[.agg (hdE r).cs, .bool r.isSome]
def conV (r : Option (Dat × Cn)) : Value := .tuple #[.agg (datE r).cs, .agg (cnE r).cs, .bool r.isSome]
/-- How many arguments an operator has, and whether it is one. -/
def primN (s : ByteArray) : Int × Bool :=
  if decide (s = (⟨#[43]⟩ : ByteArray)) || decide (s = (⟨#[45]⟩ : ByteArray)) || decide (s = (⟨#[42]⟩ : ByteArray)) || decide (s = (⟨#[47]⟩ : ByteArray)) || decide (s = (⟨#[60]⟩ : ByteArray)) || decide (s = (⟨#[61]⟩ : ByteArray)) || decide (s = (⟨#[58, 61]⟩ : ByteArray)) then (2, true) else if decide (s = (⟨#[112, 114, 105, 110, 116]⟩ : ByteArray)) || decide (s = (⟨#[114, 101, 102]⟩ : ByteArray)) || decide (s = (⟨#[33]⟩ : ByteArray)) then (1, true) else (0, decide (s = (⟨#[114, 101, 97, 100]⟩ : ByteArray)))
def primV (s : ByteArray) : Value := .tuple #[.int .i64 (primN s).1, .bool (primN s).2]
/-- How many kids a kind of term has; -1: any number; -2: there is no such kind. -/
def kidsN (k : Int) : Int :=
  if decide (k = 1) || decide (k = 2) || decide (k = 3) || decide (k = 4) then 0
  else if decide (k = 5) || decide (k = 12) || decide (k = 13) || decide (k = 14) then 1
  else if decide (k = 6) || decide (k = 7) || decide (k = 8) then 2
  else if decide (k = 9) then 3
  else if decide (k = 10) || decide (k = 11) then -1 else -2
end Go.Proofs.Ytkjmjnddanhapaa
