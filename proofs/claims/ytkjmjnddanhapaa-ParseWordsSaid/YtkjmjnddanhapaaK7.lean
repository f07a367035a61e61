/-
  The walk's own small calculus: statements whose order is open, with calls, new blocks and stores: what the generator's lines lean on. Plain lemmas over any program; no condition beyond those that stand in each statement.
-/
import Derived.Test.YtkjmjnddanhapaaK6
namespace Go.Proofs.Ytkjmjnddanhapaa
open Go.RowKit

section
variable {P : Program} {N : Nat} {ds : List Deferred} {Q : Exit → Act → World → Prop}

theorem PanicOk.body {fn : Func} {R : Ending → World → Prop} : PanicOk (bodyPost P fn R) := fun _ _ _ _ hd h => ⟨hd.trans h.1, h.2⟩
theorem PanicOk.then {K : Act → World → Prop} (h : PanicOk Q) : PanicOk (Exit.then K Q) := fun c a b w hd hh => h c a b w hd hh
theorem PanicOk.block {id : Nat} (h : PanicOk Q) : PanicOk (Exit.inBlock id Q) := fun c a b w hd hh => h c a b w hd hh
theorem PanicOk.norm {K : Act → World → Prop} (h : PanicOk Q) : PanicOk (onNormal K Q) := fun c a b w hd hh => h c a b w hd hh

/-- From what is known it leads to this value, and nothing else happens. -/
def Sees (P : Program) (N : Nat) (ds : List Deferred) (l : List Oper) (Q : Exit → Act → World → Prop) (o : Oper) (L : List (Nat × Value)) (v : Value) (w : World) : Prop :=
  ∀ Lx : List (Nat × Value), At N ds (L ++ Lx) (wpList P l.toArray (onNormal (fun a' w' => Is N ds (dcons o.dst v (L ++ Lx)) a' ∧ w = w') Q) [o]) w
theorem wpList_mono {l : List Oper} {o : Oper} {a : Act} {w : World} {K K' : Act → World → Prop} (h : wpList P l.toArray (onNormal K Q) [o] a w) (hk : ∀ a w, K a w → K' a w) : wpList P l.toArray (onNormal K' Q) [o] a w := by
  unfold wpList at h ⊢
  have hq : ∀ e a w, onNormal K Q e a w → onNormal K' Q e a w := fun e a w he => by cases e <;> first | exact hk _ _ he | exact he
  by_cases hw : Region.wanted o (yielded l.toArray a.tmps) = true
  · rw [if_pos hw] at h ⊢
    rcases h with h | ⟨h1, a0, w0, h2⟩
    · left
      unfold Oper.wp at *
      generalize (execOp a.eval o).run P w = r at *
      cases r with
      | ok n w' =>
        cases n <;> simp only [Oper.upon] at h ⊢ <;>
          first
            | exact hk _ _ h
            | exact Calls.mono h (fun e w'' he => by cases e <;> first | exact hk _ _ he | exact he | (obtain ⟨a0, w0, h0⟩ := he; exact ⟨a0, w0, h0⟩))
            | exact Rows.mono h (fun _ _ he => hk _ _ he)
            | exact h
      | halt x w' => cases x <;> simp only [Oper.upon] at h ⊢ <;> exact h
    · exact .inr ⟨h1, a0, w0, h2⟩
  · rw [if_neg hw] at h ⊢
    exact hk _ _ h

theorem Sees.pt {l : List Oper} {o : Oper} {L : List (Nat × Value)} {v : Value} {w : World} {a : Act} {d : Nat} (hd : o.dst = some d) (h : Sees P N ds l Q o L v w) (hN : d < N) (ha : Is N ds L a) : Pt P l Q o a w v := by
  intro K hK
  have his : Is N ds (L ++ whole a) a := ⟨ha.size, ha.defers, fun t u hu => by
    rw [look_append] at hu
    split at hu
    · rename_i x hx; cases hu; exact ha.get t _ hx
    · exact (is_whole a).get t u hu⟩
  refine wpList_mono (h (whole a) a his) ?_
  rintro a' w' ⟨h1, rfl⟩
  have : a' = a.put o.dst v := by
    refine act_ext (by rw [put_tmps_size, h1.size, ha.size]) (by rw [put_defers, h1.defers, ha.defers]) fun t ht => ?_
    rw [h1.size] at ht
    rw [hd] at h1 ⊢
    by_cases e : d = t
    · subst e
      rw [get_put_eq _ _ (by rw [ha.size]; exact ht)]
      exact h1.get _ v (by simp [dcons, look, Nat.beq_refl])
    · rw [get_put_ne _ _ (by intro q; cases q; exact e rfl)]
      refine h1.get t _ ?_
      simp only [dcons, look]
      rw [beqF e]
      simp only [cond_false]
      rw [look_append]
      split
      · rename_i x hx; rw [ha.get t _ hx]
      · exact look_whole a (by rw [ha.size]; exact ht)
  rw [this]
  exact hK

theorem At.wpcZ {l : List Oper} {lst : Array Bool} {L : List (Nat × Value)} {w : World} (h : At N ds L (Q .normal) w) : At N ds L (wpC P l Q 0 lst) w := h

/-- What only looks: at once. -/
theorem At.wpcS {l : List Oper} {lst : Array Bool} {f : Nat} {L : List (Nat × Value)} {w : World} {i : Nat} {o : Oper} {d : Nat} (v : Value) (hf : firstS l lst = some i) (ho : l[i]? = some o) (hd : o.dst = some d) (hN : Nat.blt d N = true)
    (hs : Sees P N ds l Q o L v w) (k : At N ds ((d, v) :: L) (wpC P l Q f (lst.setIfInBounds i true)) w) : At N ds L (wpC P l Q (f + 1) lst) w := by
  intro a ha
  unfold wpC
  rw [hf]
  intro o' ho'
  rw [ho] at ho'; cases ho'
  have hN' : d < N := by simpa [Nat.blt_eq] using hN
  refine ⟨v, hs.pt hd hN' ha, ?_⟩
  rw [hd]
  exact k _ (ha.put hN)

/-- Again, later. -/
inductive Checks (P : Program) (N : Nat) (ds : List Deferred) (l : List Oper) (Q : Exit → Act → World → Prop) (L : List (Nat × Value)) (w : World) : List Nat → Prop
  | nil : Checks P N ds l Q L w []
  | cons {j : Nat} {r : List Nat} {o : Oper} {d : Nat} {v : Value} : l[j]? = some o → o.dst = some d → Nat.blt d N = true → look L d = some v → Sees P N ds l Q o L v w → Checks P N ds l Q L w r → Checks P N ds l Q L w (j :: r)

theorem Checks.get {l : List Oper} {L : List (Nat × Value)} {w : World} {js : List Nat} (h : Checks P N ds l Q L w js) {a : Act} (ha : Is N ds L a) : ∀ j ∈ js, ∀ p, l[j]? = some p → Pt P l Q p a w (a.tmps.getD (p.dst.getD 0) undef) := by
  induction h with
  | nil => intro j hj; cases hj
  | cons ho hd hN hl hs hr ih =>
    intro j hj p hp
    rcases List.mem_cons.1 hj with e | hj
    · subst e
      rw [ho] at hp; cases hp
      rw [hd]
      simp only [Option.getD_some]
      rw [ha.get _ _ hl]
      exact hs.pt hd (by simpa [Nat.blt_eq] using hN) ha
    · exact ih j hj p hp

def AfterC (P : Program) (l : List Oper) (Q : Exit → Act → World → Prop) (f : Nat) (lst : Array Bool) (js : List Nat) : Act → World → Prop :=
  fun a' w' => (∀ j ∈ js, ∀ p, l[j]? = some p → Pt P l Q p a' w' (a'.tmps.getD (p.dst.getD 0) undef)) ∧ wpC P l Q f lst a' w'

/-- Each of the operations that can come next. -/
inductive Each (P : Program) (N : Nat) (ds : List Deferred) (l : List Oper) (Q : Exit → Act → World → Prop) (f : Nat) (lst : Array Bool) (L : List (Nat × Value)) (w : World) : List Nat → Prop
  | nil : Each P N ds l Q f lst L w []
  | cons {i : Nat} {r : List Nat} {o : Oper} (js : List Nat) : l[i]? = some o → loose l (lst.setIfInBounds i true) = js →
      At N ds L (wpList P l.toArray (onNormal (AfterC P l Q f (lst.setIfInBounds i true) js) Q) [o]) w → Each P N ds l Q f lst L w r → Each P N ds l Q f lst L w (i :: r)

theorem At.wpcE {l : List Oper} {lst : Array Bool} {f : Nat} {L : List (Nat × Value)} {w : World} (is : List Nat) (hf : firstS l lst = none) (hr : Region.ready .any l.toArray lst = is) (h : Each P N ds l Q f lst L w is) : At N ds L (wpC P l Q (f + 1) lst) w := by
  intro a ha
  unfold wpC
  rw [hf]
  simp only
  rw [hr]
  clear hr
  induction h with
  | nil => intro i hi; cases hi
  | cons js ho hl hat _ ih =>
    intro i hi o' ho'
    rcases List.mem_cons.1 hi with e | hi
    · subst e
      rw [ho] at ho'; cases ho'
      have := hat a ha
      unfold AfterC at this
      rw [← hl] at this
      exact this
    · exact ih i hi o' ho'

theorem At.wpcN {l : List Oper} {lst : Array Bool} {f : Nat} {js : List Nat} {L : List (Nat × Value)} {w : World} (hc : Checks P N ds l Q L w js) (k : At N ds L (wpC P l Q f lst) w) : At N ds L (onNormal (AfterC P l Q f lst js) Q .normal) w :=
  fun a ha => ⟨hc.get ha, k a ha⟩

theorem At.drawG {id : Nat} {l : List Oper} {L : List (Nat × Value)} {w : World} {n : Nat} (hm : P.follows .mixedOrders = true) (hok : okC N l = true) (hn : l.length = n) (hq : PanicOk Q) (h : At N ds L (wpC P l Q n (Array.replicate n false)) w.drew) :
    At N ds L ((Code.region id l.toArray true).wp P Q) w := by
  intro a ha
  subst hn
  refine wp_region_any hm ?_
  have hfl : falses (Array.replicate l.length false) = l.length := by simp [falses]
  have := sim_sound hok hq (P := P) _ (Array.replicate l.length false) (Array.replicate l.length false) a a w.drew ⟨by simp, by simp, fun _ h => h, (fun i o ho h1 h2 => by rw [h1] at h2; cases h2),
    (fun i o _ hi => by simp [Array.getElem?_replicate] at hi), (fun i o _ hi => by simp [Array.getElem?_replicate] at hi), ha.size, ha.size, rfl, fun _ _ => rfl⟩ rfl (by rw [hfl]; exact h a ha)
  rw [hfl] at this
  simpa using this

theorem Below.drewB {B : Nat} {w0 w : World} (h : Below B w0 w) : Below B w0 w.drew := ⟨h.os, h.tape, h.output, h.size, h.block⟩
theorem Own.drew {w : World} {e : TypeId} {sz n : Nat} {v : Value} {xs : List Value} (h : Own w e sz v n xs) : Own w.drew e sz v n xs := h.keep fun _ _ => rfl
end
end Go.Proofs.Ytkjmjnddanhapaa
