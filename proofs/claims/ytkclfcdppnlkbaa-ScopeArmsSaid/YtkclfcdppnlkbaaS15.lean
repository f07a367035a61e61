/-
  A match of the constructors of one data, second part: sizes, the six matches that the law looks at. Plain definitions and lemmas; no condition.
-/
import Derived.Test.YtkclfcdppnlkbaaS14
namespace Go.Proofs.Ytkclfcdppnlkbaa
open Go.RowKit

theorem min_nat (l : List Int) : ∃ n : Nat, (if (9 : Int) < (l.length : Int) then 9 else (l.length : Int)) = (n : Int) ∧ n ≤ 9 ∧ n ≤ l.length := by
  by_cases h : (9 : Int) < (l.length : Int)
  · exact ⟨9, by rw [if_pos h]; rfl, by omega, by omega⟩
  · exact ⟨l.length, by rw [if_neg h], by omega, by omega⟩
theorem rep_snoc {α : Type} (x : α) (f : Nat) : List.replicate f x ++ [x] = List.replicate (f + 1) x := List.replicate_succ'.symm
theorem mod_nat {a : Int} {n : Nat} (ha : 0 ≤ a) (hn : 0 < n) : ∃ i : Nat, a.tmod (n : Int) = (i : Int) ∧ i < n := by
  have h1 := Int.tmod_nonneg (n : Int) ha
  have h2 := Int.tmod_lt_of_pos a (show (0 : Int) < (n : Int) by omega)
  exact ⟨(a.tmod (n : Int)).toNat, by omega, by omega⟩
theorem leaf_blk {k at_ n : Int} {nm pm : ByteArray} : ∀ b, ¬ tmBlk (ownTm k at_ nm pm n (.slice none 0 0) []) b := fun b hb => by
  rw [tmBlk_eq] at hb
  simp [ownTm, Tm.kids, Tm.arms] at hb
theorem ints_ok {w : World} {m : Nat} {l : List Tm} (h : l = List.replicate m intLeaf) : ∀ u ∈ l, TmOk w u := fun u hu => by rw [h] at hu; rw [List.eq_of_mem_replicate hu]; exact ownTm_leaf w _ _ _ _ _
theorem intTys_ok {m : Nat} {l : List Ty} (h : l = List.replicate m intTy) : ∀ u ∈ l, TyOk u := fun u hu => by rw [h] at hu; rw [List.eq_of_mem_replicate hu]; exact intTy_ok
def ArmGood (n : Nat) (a : Am) : Prop := a.body = unitLeaf ∧ a.vars.length ≤ 4 ∧ ∃ j, j < n ∧ a.nm = conNm j
section
variable {fs : List Int} {n : Nat} {C : List Cn} {A X : List Am} {d : Dat} {ks : List Tm} {kv : Value}
theorem good_of (hA : ArmsOk fs n A) : ∀ a ∈ A, ArmGood n a := fun a ha => by
  obtain ⟨j, hj⟩ := List.mem_iff_getElem?.1 ha
  have h := hA.2 j a hj
  refine ⟨h.2.2, ?_, j, by have := lt_of_some hj; have := hA.1; omega, h.1⟩
  rw [h.2.1, abc_len (cnt_range fs j)]; have := cnt_range fs j; omega
theorem good_more {a : Am} {vv : Value} {vs : List ByteArray} {i : Nat} {z : ByteArray} (hA : ArmsOk fs n A) (hi : A[i]? = some a) (hv : vs = a.vars ++ [z]) : ArmGood n (a.withVars vv vs) := by
  have h := hA.2 i a hi
  refine ⟨h.2.2, ?_, i, by have := lt_of_some hi; have := hA.1; omega, h.1⟩
  show vs.length ≤ 4
  rw [hv, h.2.1, List.length_append, abc_len (cnt_range fs i)]
  have := cnt_range fs i
  simp only [List.length_cons, List.length_nil]; omega
/-- What is known of the data and of the term that is looked at. -/
structure Made (fs : List Int) (n : Nat) (C : List Cn) (d : Dat) (ks : List Tm) : Prop where
  cns : CnsOk fs n C
  two : 2 ≤ n
  nine : n ≤ 9
  cons : d.cons = C
  nm : d.nm = (⟨#[68]⟩ : ByteArray)
  kids : ks = List.replicate (cntN fs 0) intLeaf
theorem Made.right (h : Made fs n C d ks) (hX : X ≠ []) (hg : ∀ a ∈ X, ArmGood n a) : rightB d (ownTm 11 0 (⟨#[65]⟩ : ByteArray) emp 0 kv ks) X = eq2 armOk C X := by
  rw [h.kids]
  exact right_eq h.cns h.two h.nine h.cons h.nm hX (fun a ha => (hg a ha).1) (fun a ha => (hg a ha).2.2)
theorem wt_good : ∀ {X : List Am}, (∀ a ∈ X, ArmGood n a) → wtA X ≤ 6 * X.length := by
  intro X
  induction X with
  | nil => intro _; simp [wtA]
  | cons a r ih =>
    intro h
    have h1 := h a (by simp)
    have h2 := ih fun x hx => h x (List.mem_cons_of_mem _ hx)
    cases a with | mk cs nm vv vars body =>
    obtain ⟨hb, hv, _⟩ := h1
    simp only [Am.body] at hb
    simp only [Am.vars] at hv
    subst hb
    rw [wtA]
    have : wtT unitLeaf = 2 := by simp [unitLeaf, ownTm, wtT, wtL, wtA]
    simp only [List.length_cons]; omega
theorem wt_ints : ∀ m, wtL (List.replicate m intLeaf) = 2 * m := by
  intro m
  induction m with
  | zero => simp [wtL]
  | succ m ih => rw [List.replicate_succ, wtL, ih]; have : wtT intLeaf = 2 := by simp [intLeaf, ownTm, wtT, wtL, wtA]
                 omega
theorem Made.sz (h : Made fs n C d ks) (on : Tm) (X : List Am) : PrSz (rightP d on X) := by
  have hd : (rightP d on X).dats = [d] := rfl
  have he : (rightP d on X).effs = [] := rfl
  have hl := h.cns.1
  have h9 := h.nine
  refine ⟨by rw [he]; simp, by rw [hd]; simp, by rw [he]; simp, ?_, ?_, by rw [he]; simp, ?_⟩
  · rw [hd]; intro x hx; rw [List.mem_singleton.1 hx, h.cons]; omega
  · rw [hd]; intro x hx c hc
    rw [List.mem_singleton.1 hx, h.cons] at hc
    obtain ⟨j, hj⟩ := List.mem_iff_getElem?.1 hc
    rw [(h.cns.2 j c hj).2, List.length_replicate]
    have := cnt_range fs j; omega
  · rw [hd]; simp [h.cons]; omega
theorem Made.wt (h : Made fs n C d ks) (hg : ∀ a ∈ X, ArmGood n a) (hl : X.length ≤ 20) : wtT (rightP d (ownTm 11 0 (⟨#[65]⟩ : ByteArray) emp 0 kv ks) X).body ≤ 4398046511104 := by
  have h1 := wt_good hg
  have h2 := cnt_range fs 0
  have h3 : wtT (ownTm 11 0 (⟨#[65]⟩ : ByteArray) emp 0 kv ks) ≤ 8 := by
    rw [h.kids]
    simp only [ownTm, wtT, wtA, wt_ints]; omega
  show wtT (.mk #[] 12 0 emp emp 0 (.slice none 0 0) (.slice none 0 0) [_] X) ≤ _
  rw [wtT, wtL, wtL]; omega
theorem Made.all (h : Made fs n C d ks) (hA : ArmsOk fs n A) : rightB d (ownTm 11 0 (⟨#[65]⟩ : ByteArray) emp 0 kv ks) A = true := by
  rw [h.right (fun e => by have h1 := hA.1; rw [e] at h1; have h2 := h.two; simp at h1; omega) (good_of hA)]
  exact law_all h.cns hA h.nine
theorem set_ne {α : Type} {l : List α} {i : Nat} {x : α} (h : l ≠ []) : l.set i x ≠ [] := fun e => h (by have := congrArg List.length e; simp at this; exact this)
theorem Made.ne (h : Made fs n C d ks) (hA : ArmsOk fs n A) : A ≠ [] := fun e => by have h1 := hA.1; rw [e] at h1; have h2 := h.two; simp at h1; omega
theorem Made.swap (h : Made fs n C d ks) (hA : ArmsOk fs n A) {i k : Nat} {x y : Am} (hx : A[k]? = some x) (hy : A[i]? = some y) : decide (rightB d (ownTm 11 0 (⟨#[65]⟩ : ByteArray) emp 0 kv ks) ((A.set i x).set k y) = decide ((i : Int) = (k : Int))) = true := by
  have hg := good_of hA
  rw [h.right (set_ne (set_ne (h.ne hA))) (all_setl (all_setl hg (hg x (List.mem_of_getElem? hx))) (hg y (List.mem_of_getElem? hy))), law_swap h.cns hA h.nine hx hy]
  by_cases e : i = k <;> simp [e]
  intro e2; exact e (by omega)
theorem Made.twice (h : Made fs n C d ks) (hA : ArmsOk fs n A) {i k : Nat} {x : Am} (hi : i < n) (hx : A[k]? = some x) : decide (rightB d (ownTm 11 0 (⟨#[65]⟩ : ByteArray) emp 0 kv ks) (A.set i x) = decide ((i : Int) = (k : Int))) = true := by
  have hg := good_of hA
  rw [h.right (set_ne (h.ne hA)) (all_setl hg (hg x (List.mem_of_getElem? hx))), law_set h.cns hA h.nine hi hx]
  by_cases e : i = k <;> simp [e]
  intro e2; exact e (by omega)
theorem Made.more (h : Made fs n C d ks) (hA : ArmsOk fs n A) {i : Nat} {y : Am} {vv : Value} {vs : List ByteArray} {z : ByteArray} (hy : A[i]? = some y) (hv : vs = y.vars ++ [z]) : (!rightB d (ownTm 11 0 (⟨#[65]⟩ : ByteArray) emp 0 kv ks) (A.set i (y.withVars vv vs))) = true := by
  rw [h.right (set_ne (h.ne hA)) (all_setl (good_of hA) (good_more hA hy hv)), law_more h.cns hA hy (show (y.withVars vv vs).vars = y.vars ++ [z] from hv)]; rfl
theorem Made.less (h : Made fs n C d ks) (hA : ArmsOk fs n A) {m : Nat} (hm : m = n - 1) : (!rightB d (ownTm 11 0 (⟨#[65]⟩ : ByteArray) emp 0 kv ks) (A.take m)) = true := by
  have hl := hA.1
  have h2 := h.two
  have hlt : (A.take m).length = m := by rw [List.length_take]; omega
  rw [h.right (fun e => by rw [e] at hlt; simp at hlt; omega) (all_takel (good_of hA)), law_len h.cns (by omega)]; rfl
theorem Made.over (h : Made fs n C d ks) (hA : ArmsOk fs n A) {k : Nat} {x : Am} (hx : A[k]? = some x) : (!rightB d (ownTm 11 0 (⟨#[65]⟩ : ByteArray) emp 0 kv ks) (A ++ [x])) = true := by
  have hg := good_of hA
  rw [h.right (by simp) (all_app hg (mem1 (hg x (List.mem_of_getElem? hx)))), law_len h.cns (by rw [List.length_append, hA.1]; simp)]; rfl
end
end Go.Proofs.Ytkclfcdppnlkbaa
