/-
  Slices of strings of the call's own, appended to; what a call leaves as it was. Plain definitions and lemmas; no condition.
-/
import Derived.Test.YtkjmjnddanhapaaS1
namespace Go.Proofs.Ytkjmjnddanhapaa
open Go.RowKit

/-- A slice of strings of the call's own (T: the type string's number). -/
def OwnS (T : TypeId) (w : World) (v : Value) (ss : List ByteArray) : Prop := Own w T 1 v ss.length (ss.map Value.string)
section
variable {T : TypeId} {w w' : World} {v : Value} {ss : List ByteArray}
theorem OwnS.strs (h : OwnS T w v ss) : StrsAt w v ss := by
  refine ⟨by have := Own.slOk h; simpa using this, fun i cs hi => ?_, fun i cs hi => ?_, ?_⟩
  rotate_left 2
  · rcases h.2 with ⟨_, h0⟩ | ⟨_, cap, _, _, _, _, hnc, hcm, _⟩
    · simp [h0]
    · have : maxLen = 9223372036854775807 := rfl
      simp only [List.length_map]; omega
  · simp only [List.getElem?_map, Option.map_eq_some_iff] at hi
    obtain ⟨s, _, rfl⟩ := hi; rfl
  · simp only [List.getElem?_map, Option.map_eq_some_iff] at hi
    obtain ⟨s, hs, rfl⟩ := hi
    intro j x hx
    have hj : j = 0 := by have : j < 1 := by have := (Array.getElem?_eq_some_iff.1 hx).1; simpa using this
                          omega
    subst hj
    simp at hx
    subst hx
    have hlt := lt_of_some hs
    rcases h.2 with ⟨rfl, h0⟩ | ⟨g, cap, cur, rfl, _, hg, hnc, hcm, hcs, htake⟩
    · omega
    · simp only [Nat.mul_one] at htake hcs
      have : cur.toList[i]? = some (.string s) := by
        have h1 : (cur.toList.take ss.length)[i]? = some (Value.string s) := by rw [htake]; simp [hs]
        rwa [List.getElem?_take_of_lt hlt] at h1
      simp only [vBlock, vOff, Nat.zero_add, Nat.mul_one, Nat.add_zero]
      have h2 : cur[i]? = some (.string s) := by simpa using this
      simp [World.cell?, hg, h2]
theorem OwnS.nil (T : TypeId) (w : World) : OwnS T w (.slice none 0 0) [] := Own.nil w T 1
theorem OwnS.drew (h : OwnS T w v ss) : OwnS T w.drew v ss := Own.drew h
theorem OwnS.one (h : OwnS T w v ss) : v.oneCell' = true := Own.one h
theorem OwnS.fresh {b : Nat} {o : Obj} (h : OwnS T w v ss) (hF : Fresh w w' b o) : OwnS T w' v ss := Own.fresh h hF
theorem OwnS.below (h : OwnS T w v ss) (hB : Below w.heap.size w w') : OwnS T w' v ss := Own.below h hB
theorem OwnS.set {b : Nat} {o : Obj} (h : OwnS T w v ss) (hS : SetB w w' b o) (hne : some b ≠ v.ownBlock) : OwnS T w' v ss := Own.set h hS hne
theorem OwnS.neT (h : OwnS T w v ss) {k : Nat} {C : Array Value} {T' : TypeId} {fr : Nat × Nat} (hk : w.heap[k]? = some (.cells C T' fr)) (hT : Nat.beq T' T = false) : some k ≠ v.ownBlock := Own.neT h hk hT
theorem OwnS.made {b n : Nat} (h : w.heap[b]? = some (.cells (ss.map Value.string).toArray T)) (hn : n = ss.length) (hm : n ≤ maxLen) : OwnS T w (.slice (some ⟨b, 0, none⟩) n n) ss := by
  subst hn
  exact ⟨by simp, .inr ⟨b, _, _, rfl, Nat.zero_le _, h, Nat.le_refl _, hm, by simp, by rw [Nat.mul_one]; exact List.take_of_length_le (by simp)⟩⟩
end

theorem Src.strs {P : Program} {w : World} {t e : TypeId} {v : Value} {ss : List ByteArray} (he : elemB P t = some e) (h : StrsAt w v ss) : Src P 1 t v ss.length (ss.map Value.string) w := by
  rcases h.ok with ⟨rfl, h0⟩ | ⟨⟨b, o, sp⟩, cap, rfl, hc, hsp⟩
  · have : ss = [] := List.eq_nil_of_length_eq_zero h0
    subst this
    exact Src.ofNil w (underlying_elem he) 0
  · refine Src.ofSlice w (underlying_elem he) ⟨b, o, sp⟩ ss.length cap _ (by simp) (fun j u hu => ?_) (fun u hu => by obtain ⟨_, _, rfl⟩ := List.mem_map.1 hu; rfl)
    simp only [List.getElem?_map, Option.map_eq_some_iff] at hu
    obtain ⟨s, hs, rfl⟩ := hu
    obtain rfl : sp = none := hsp (by have := lt_of_some hs; omega)
    have := h.get hs
    rw [add_at]
    simpa [vBlock, vOff] using this

theorem At.appendS {P : Program} {N : Nat} {ds : List Deferred} {L : List (Nat × Value)} {w : World} {ops : Array Oper} {Q : Exit → Act → World → Prop} {rest : List Oper} {d : Nat} {ty : TypeId} {pos : String} {aft : Array Edge} {x y : Operand}
    {t tx T : TypeId} {v xv z : Value} {ss ss' : List ByteArray} (hx : ev L x = some v) (hy : ev L y = some xv) (ht : elemB P t = some T) (htx : elemB P tx = some T) (hs : sizeB P T = some 1) (hb : bytesB P T = some 16) (hz : zeroB P T = some z) (hzs : z.cells.size = 1)
    (hO : OwnS T w v ss) (hS : StrsAt w xv ss') (hl : ss.length + ss'.length ≤ 8796093022208) (hN : Nat.blt d N = true)
    (k : ∀ v' w', OwnS T w' v' (ss ++ ss') → AppR w w' v v' → At N ds ((d, v') :: L) (wpList P ops Q rest) w') :
    At N ds L (wpList P ops Q (⟨some d, .call ⟨.builtin .append, #[x, y], #[t, tx]⟩, ty, pos, aft, none⟩ :: rest)) w :=
  At.append hx hy ht hs hb hz hzs hO (Src.strs htx hS) (by unfold maxLen; omega) (by omega) hN (fun v' w' h1 h2 => k v' w' (by unfold OwnS; rw [List.length_append, List.map_append]; exact h1) h2)

/-- From one world to a later one: what was there stands, but for the blocks in S. -/
structure Fr (S : Nat → Prop) (w w' : World) : Prop where
  os : w'.os = w.os
  tape : w'.tape = w.tape
  output : w'.output = w.output
  size : w.heap.size ≤ w'.heap.size
  old : ∀ k x, ¬ S k → w.heap[k]? = some x → w'.heap[k]? = some x
section
variable {S : Nat → Prop} {w0 w w' : World}
theorem Fr.refl (S : Nat → Prop) (w : World) : Fr S w w := ⟨rfl, rfl, rfl, Nat.le_refl _, fun _ _ _ h => h⟩
theorem Fr.freshF {b : Nat} {o : Obj} (h : Fr S w0 w) (hF : Fresh w w' b o) : Fr S w0 w' :=
  ⟨hF.grown.os.trans h.os, hF.grown.tape.trans h.tape, hF.grown.output.trans h.output, Nat.le_trans h.size hF.grown.size, fun k x hk hx => hF.old (h.old k x hk hx)⟩
theorem Fr.setF {b : Nat} {o : Obj} (h : Fr S w0 w) (hS : SetB w w' b o) (hb : S b ∨ w0.heap.size ≤ b) : Fr S w0 w' :=
  ⟨hS.grown.os.trans h.os, hS.grown.tape.trans h.tape, hS.grown.output.trans h.output, Nat.le_trans h.size hS.grown.size, fun k x hk hx => hS.other (h.old k x hk hx) (by
    intro e; subst e
    rcases hb with hb | hb
    · exact hk hb
    · have := (Array.getElem?_eq_some_iff.1 hx).1; omega)⟩
theorem Fr.appF {v v' : Value} (h : Fr S w0 w) (hA : AppR w w' v v') (hb : ∀ g, v.ownBlock = some g → S g ∨ w0.heap.size ≤ g) : Fr S w0 w' :=
  ⟨hA.grown.os.trans h.os, hA.grown.tape.trans h.tape, hA.grown.output.trans h.output, Nat.le_trans h.size hA.grown.size, fun k x hk hx => hA.old (h.old k x hk hx) (by
    intro e
    rcases hb k e.symm with hb | hb
    · exact hk hb
    · have := (Array.getElem?_eq_some_iff.1 hx).1; omega)⟩
theorem Fr.drewF (h : Fr S w0 w) : Fr S w0 w.drew := ⟨h.os, h.tape, h.output, h.size, h.old⟩
theorem Fr.callF (h : Fr S w0 w) (hB : Below w.heap.size w w') : Fr S w0 w' :=
  ⟨hB.os.trans h.os, hB.tape.trans h.tape, hB.output.trans h.output, Nat.le_trans h.size hB.size, fun k x hk hx => Below.old hB (h.old k x hk hx)⟩
theorem Fr.below {B : Nat} (h : Fr S w w') (hB : Below B w0 w) (hl : B ≤ w.heap.size) (hb : ∀ k, S k → B ≤ k) : Below B w0 w' :=
  hB.trans ⟨h.os, h.tape, h.output, h.size, fun k hk => by
    have hkl : k < w.heap.size := by omega
    rw [Array.getElem?_eq_getElem hkl]
    exact h.old k _ (fun hs => by have := hb k hs; omega) (Array.getElem?_eq_getElem hkl)⟩
/-- What a call that appends to a row leaves of another row. -/
theorem Fr.own {T : TypeId} {u : Value} {ys : List ByteArray} (h : Fr S w w') (hu : OwnS T w u ys) (hne : ∀ g, u.ownBlock = some g → ¬ S g) : OwnS T w' u ys :=
  Own.keep hu fun g hg => by
    have hlt := Own.lt hu hg
    rw [Array.getElem?_eq_getElem hlt]
    exact h.old g _ (hne g hg) (Array.getElem?_eq_getElem hlt)
end
/-- A row's block before and after. -/
def Moved (w : World) (v v' : Value) : Prop := v'.ownBlock = v.ownBlock ∨ ∃ g, v'.ownBlock = some g ∧ w.heap.size ≤ g
theorem Moved.ge {w : World} {v v' : Value} {B : Nat} (h : Moved w v v') (hl : B ≤ w.heap.size) (hb : ∀ g, v.ownBlock = some g → B ≤ g) : ∀ g, v'.ownBlock = some g → B ≤ g := by
  intro g hg
  rcases h with h1 | ⟨g', h1, h2⟩
  · exact hb g (by rw [← h1]; exact hg)
  · rw [h1] at hg; cases hg; omega
theorem Moved.ne {w : World} {v v' : Value} (h : Moved w v v') {g : Nat} (hg : g < w.heap.size) (hne : some g ≠ v.ownBlock) : some g ≠ v'.ownBlock := by
  rcases h with h1 | ⟨g', h1, h2⟩
  · rw [h1]; exact hne
  · rw [h1]; intro e; cases e; omega
theorem Fr.then {S S' : Nat → Prop} {w0 w w' : World} (h : Fr S w0 w) (k : Fr S' w w') (hS : ∀ k, S' k → S k ∨ w0.heap.size ≤ k) : Fr S w0 w' :=
  ⟨k.os.trans h.os, k.tape.trans h.tape, k.output.trans h.output, Nat.le_trans h.size k.size, fun i x hi hx => k.old i x (fun hs => by
    rcases hS i hs with h1 | h1
    · exact hi h1
    · have := (Array.getElem?_eq_some_iff.1 hx).1; omega) (h.old i x hi hx)⟩
theorem drop_cons {α : Type} {l : List α} {k : Nat} {u : α} (hu : l[k]? = some u) : l.drop k = u :: l.drop (k + 1) := by
  have hk := lt_of_some hu
  rw [List.drop_eq_getElem_cons hk, (List.getElem?_eq_some_iff.1 hu).2]
end Go.Proofs.Ytkjmjnddanhapaa
