/-
  What the layer scope computes, in plain words on trees, first part: looking for names. Plain definitions and lemmas; no condition.
-/
import Derived.Test.YtkjmjnddanhapaaD1
namespace Go.Proofs.Ytkjmjnddanhapaa
open Go.RowKit

theorem SlOk.nil : SlOk (.slice none 0 0) 0 := .inl ⟨rfl, rfl⟩
theorem lt_of_some {α : Type} {l : List α} {i : Nat} {x : α} (h : l[i]? = some x) : i < l.length := (List.getElem?_eq_some_iff.1 h).1
theorem sub_cell {C cs : Array Value} {k n j : Nat} {v : Value} (e : C.extract k (k + n) = cs) (h : cs[j]? = some v) : C[k + j]? = some v := by
  subst e
  rw [Array.getElem?_extract] at h
  split at h
  · exact h
  · cases h
theorem StrsAt.own {w : World} {b n c : Nat} {ss : List ByteArray} {T : TypeId} {fr : Nat × Nat} (h : w.heap[b]? = some (.cells (ss.map Value.string).toArray T fr)) (hn : n = ss.length) (hc : n ≤ c) (hm : n ≤ 9223372036854775807 := by decide) : StrsAt w (.slice (some ⟨b, 0, none⟩) n c) ss := by
  subst hn
  refine ⟨.inr ⟨⟨b, 0, none⟩, c, by simp, by simpa using hc, fun _ => rfl⟩, fun i cs hi => ?_, fun i cs hi => ?_, by simpa using hm⟩
  · simp only [List.getElem?_map, Option.map_eq_some_iff] at hi
    obtain ⟨s, _, rfl⟩ := hi; rfl
  · simp only [List.getElem?_map, Option.map_eq_some_iff] at hi
    obtain ⟨s, hs, rfl⟩ := hi
    intro j v hv
    have hj : j = 0 := by have : j < 1 := by have := (Array.getElem?_eq_some_iff.1 hv).1; simpa using this
                          omega
    subst hj
    simp at hv
    subst hv
    simp [World.cell?, h, vBlock, vOff, hs]

-- ------------------------------------------------------------------ the first that is so
def memB (s : ByteArray) (ss : List ByteArray) : Bool := ss.any fun x => decide (x = s)
def idxI {α : Type} (p : α → Bool) (l : List α) : Int := match l.findIdx? p with | some i => (i : Int) | none => -1

theorem idxI_yes {α : Type} {p : α → Bool} {l : List α} {k : Nat} {u : α} (hu : l[k]? = some u) (h : p u = true) (hn : ∀ j x, j < k → l[j]? = some x → p x = false) : idxI p l = (k : Int) := by
  have : l.findIdx? p = some k := by
    rw [List.findIdx?_eq_some_iff_getElem]
    have hk := lt_of_some hu
    refine ⟨hk, ?_, fun j hj => ?_⟩
    · have := (List.getElem?_eq_some_iff.1 hu).2; rw [this]; exact h
    · have := hn j l[j] hj (List.getElem?_eq_getElem (by omega)); simpa using this
  simp [idxI, this]
theorem idxI_no {α : Type} {p : α → Bool} {l : List α} {k : Nat} (hk : l.length ≤ k) (hn : ∀ j x, j < k → l[j]? = some x → p x = false) : idxI p l = -1 := by
  have : l.findIdx? p = none := by
    rw [List.findIdx?_eq_none_iff]
    intro x hx
    obtain ⟨j, hj⟩ := List.getElem?_of_mem hx
    exact hn j x (by have := lt_of_some hj; omega) hj
  simp [idxI, this]
theorem next_no {α : Type} {p : α → Bool} {l : List α} {k : Nat} {u : α} (hn : ∀ j x, j < k → l[j]? = some x → p x = false) (hu : l[k]? = some u) (h : p u = false) : ∀ j x, j < k + 1 → l[j]? = some x → p x = false := by
  intro j x hj hx
  by_cases e : j = k
  · subst e; rw [hu] at hx; cases hx; exact h
  · exact hn j x (by omega) hx
theorem idxI_neg {α : Type} (p : α → Bool) (l : List α) : decide (idxI p l < 0) = !(l.any p) := by
  unfold idxI
  split
  · rename_i i h
    obtain ⟨h1, h2, _⟩ := List.findIdx?_eq_some_iff_getElem.1 h
    have : l.any p = true := List.any_eq_true.2 ⟨l[i], List.getElem_mem h1, h2⟩
    rw [this]; simp
  · rename_i h
    have : l.any p = false := by rw [List.findIdx?_eq_none_iff] at h; simpa using h
    rw [this]; simp
theorem idxI_geq {α : Type} (p : α → Bool) (l : List α) : decide (0 ≤ idxI p l) = l.any p := by
  have := idxI_neg p l
  by_cases h : idxI p l < 0
  · have h' : ¬ 0 ≤ idxI p l := by omega
    simp [h, h'] at this ⊢; exact this
  · have h' : 0 ≤ idxI p l := by omega
    simp [h, h'] at this ⊢; exact this
-- ------------------------------------------------------------------ F1
section
variable {w : World} {p : Pr}
end
end Go.Proofs.Ytkjmjnddanhapaa
