/-
  Slices of data of the call's own, appended to. Plain lemmas over any program; no condition beyond those that stand in each statement.
-/
import Derived.Test.YtkjmjnddanhapaaK9
namespace Go.Proofs.Ytkjmjnddanhapaa
open Go.RowKit

/-- A slice of the call's own whose elements (of type T, sz cells each) are these, with their cells. -/
def OwnR {α : Type} (T : TypeId) (sz : Nat) (f : α → Array Value) (w : World) (v : Value) (l : List α) : Prop := Own w T sz v l.length ((l.map f).flatMap (·.toList))
section
variable {α : Type} {T : TypeId} {sz : Nat} {f : α → Array Value} {w w' : World} {v : Value} {l : List α}
theorem flat_at {rows : List (Array Value)} {sz i j : Nat} {cs : Array Value} {u : Value} (hs : ∀ r ∈ rows, r.size = sz) (hi : rows[i]? = some cs) (hj : cs[j]? = some u) : (rows.flatMap (·.toList))[i * sz + j]? = some u := by
  have := flat_get hs hi hj; simpa using this
theorem OwnR.nil (T : TypeId) (sz : Nat) (f : α → Array Value) (w : World) : OwnR T sz f w (.slice none 0 0) [] := Own.nil w T sz
theorem OwnR.drew (h : OwnR T sz f w v l) : OwnR T sz f w.drew v l := Own.drew h
theorem OwnR.one (h : OwnR T sz f w v l) : v.oneCell' = true := Own.one h
theorem OwnR.fresh {b : Nat} {o : Obj} (h : OwnR T sz f w v l) (hF : Fresh w w' b o) : OwnR T sz f w' v l := Own.fresh h hF
theorem OwnR.below (h : OwnR T sz f w v l) (hB : Below w.heap.size w w') : OwnR T sz f w' v l := Own.below h hB
theorem OwnR.set {b : Nat} {o : Obj} (h : OwnR T sz f w v l) (hS : SetB w w' b o) (hne : some b ≠ v.ownBlock) : OwnR T sz f w' v l := Own.set h hS hne
theorem OwnR.neT (h : OwnR T sz f w v l) {k : Nat} {C : Array Value} {T' : TypeId} {fr : Nat × Nat} (hk : w.heap[k]? = some (.cells C T' fr)) (hT : Nat.beq T' T = false) : some k ≠ v.ownBlock := Own.neT h hk hT
theorem OwnR.made {b : Nat} (h : w.heap[b]? = some (.cells #[] T)) : OwnR T sz f w (.slice (some ⟨b, 0, none⟩) 0 0) [] :=
  ⟨by simp, .inr ⟨b, _, _, rfl, Nat.zero_le _, h, Nat.le_refl _, Nat.zero_le _, by simp, by simp⟩⟩
theorem OwnR.len (h : OwnR T sz f w v l) : l.length ≤ 9223372036854775807 := by
  rcases h.2 with ⟨_, h0⟩ | ⟨_, cap, _, _, _, _, hnc, hcm, _⟩
  · omega
  · have : maxLen = 9223372036854775807 := rfl
    omega
theorem OwnR.rows (h : OwnR T sz f w v l) (hs : ∀ u ∈ l, (f u).size = sz) : RowsAt w v sz (l.map f) := by
  have hs' : ∀ r ∈ l.map f, r.size = sz := fun r hr => by obtain ⟨u, hu, rfl⟩ := List.mem_map.1 hr; exact hs u hu
  refine ⟨by have := Own.slOk h; simpa using this, fun i cs hi => hs' cs (List.mem_of_getElem? hi), fun i cs hi j x hx => ?_, by have := OwnR.len h; simpa using this⟩
  rcases h.2 with ⟨_, h0⟩ | ⟨g, cap, cur, rfl, _, _, _, _, _, _⟩
  · have : l = [] := List.eq_nil_of_length_eq_zero h0
    subst this; simp at hi
  · have := World.ownsRow.cells (g := g) h rfl _ _ (flat_at hs' hi hx)
    rw [add_at] at this
    show w.cell? ⟨g, 0 + i * sz + j, none⟩ = some x
    rw [Nat.add_assoc]; exact this
theorem Src.rows {P : Program} {t e : TypeId} {xv : Value} (he : elemB P t = some e) (h : RowsAt w xv sz (l.map f)) (hp : 0 < sz) (h1 : ∀ u ∈ l, (f u).all (·.oneCell') = true) : Src P sz t xv l.length ((l.map f).flatMap (·.toList)) w := by
  have hs : ∀ r ∈ l.map f, r.size = sz := fun r hr => by obtain ⟨i, hi⟩ := List.mem_iff_getElem?.1 hr; exact h.size i r hi
  have hlen : ∀ rows : List (Array Value), (∀ r ∈ rows, r.size = sz) → (rows.flatMap (·.toList)).length = rows.length * sz := by
    intro rows
    induction rows with
    | nil => intro _; simp
    | cons a r ih =>
      intro hr
      rw [List.flatMap_cons, List.length_append, ih (fun x hx => hr x (List.mem_cons_of_mem _ hx)), List.length_cons, Nat.add_mul]
      have := hr a (by simp); simp only [Array.length_toList]; omega
  rcases h.okL with ⟨rfl, h0⟩ | ⟨⟨b, o, sp⟩, cap, rfl, hc, hsp⟩
  · have : l = [] := List.eq_nil_of_length_eq_zero h0
    subst this
    exact Src.ofNil w (underlying_elem he) 0
  · refine Src.ofSlice w (underlying_elem he) ⟨b, o, sp⟩ l.length cap _ (by have := hlen _ hs; simpa using this) (fun j u hu => ?_) (fun u hu => ?_)
    · have hj : j < l.length * sz := by have := lt_of_some hu; have h2 := hlen _ hs; simp only [List.length_map] at h2; omega
      have hi : j / sz < (l.map f).length := by rw [List.length_map]; exact (Nat.div_lt_iff_lt_mul hp).2 hj
      obtain ⟨cs, hcs⟩ := some_of_lt hi
      have hsz := h.size _ _ hcs
      have hm : j % sz < cs.size := by rw [hsz]; exact Nat.mod_lt _ hp
      have hx : cs[j % sz]? = some cs[j % sz] := Array.getElem?_eq_getElem hm
      have h3 := flat_at hs hcs hx
      rw [Nat.mul_comm, Nat.div_add_mod] at h3
      rw [h3] at hu
      cases hu
      obtain rfl : sp = none := hsp (by have : l.length ≠ 0 := fun e => by rw [e] at hj; omega
                                        omega)
      have h4 := h.at_ _ _ hcs _ _ hx
      simp only [vBlock, vOff] at h4
      rw [add_at]
      rw [Nat.add_assoc, Nat.mul_comm, Nat.div_add_mod] at h4
      exact h4
    · obtain ⟨cs, hcs, hu'⟩ := List.mem_flatMap.1 hu
      obtain ⟨x, hx, rfl⟩ := List.mem_map.1 hcs
      have := h1 x hx
      rw [← Array.toArray_toList (xs := f x), List.all_toArray] at this
      exact List.all_eq_true.1 this u hu'
end
theorem At.appendR {α : Type} {P : Program} {N : Nat} {ds : List Deferred} {L : List (Nat × Value)} {w : World} {ops : Array Oper} {Q : Exit → Act → World → Prop} {rest : List Oper} {d : Nat} {ty : TypeId} {pos : String} {aft : Array Edge} {x y : Operand}
    {t tx T : TypeId} {v xv z : Value} {f : α → Array Value} {sz by_ : Nat} {l l' : List α} (hx : ev L x = some v) (hy : ev L y = some xv) (ht : elemB P t = some T) (htx : elemB P tx = some T) (hs : sizeB P T = some sz) (hb : bytesB P T = some by_) (hz : zeroB P T = some z) (hzs : z.cells.size = sz)
    (hO : OwnR T sz f w v l) (hS : RowsAt w xv sz (l'.map f)) (hp : 0 < sz) (h1 : ∀ u ∈ l', (f u).all (·.oneCell') = true) (hl : (l.length + l'.length) * by_ ≤ 140737488355328) (hl2 : l.length + l'.length ≤ 9223372036854775807) (hN : Nat.blt d N = true)
    (k : ∀ v' w', OwnR T sz f w' v' (l ++ l') → AppR w w' v v' → At N ds ((d, v') :: L) (wpList P ops Q rest) w') :
    At N ds L (wpList P ops Q (⟨some d, .call ⟨.builtin .append, #[x, y], #[t, tx]⟩, ty, pos, aft, none⟩ :: rest)) w :=
  At.append hx hy ht hs hb hz hzs hO (Src.rows htx hS hp h1) (by unfold maxLen; omega) hl hN (fun v' w' h2 h3 => k v' w' (by unfold OwnR; rw [List.length_append, List.map_append, List.flatMap_append]; exact h2) h3)
theorem rows_own {α : Type} {f : α → Array Value} {w : World} {b m sz : Nat} {ks : List α} {T : TypeId} {fr : Nat × Nat} (h : w.heap[b]? = some (.cells ((ks.map f).flatMap (·.toList)).toArray T fr)) (hk : ∀ u ∈ ks, (f u).size = sz) (hm : m = ks.length) (hl : m ≤ 9223372036854775807) :
    RowsAt w (.slice (some ⟨b, 0, none⟩) m m) sz (ks.map f) :=
  RowsAt.own (rows := ks.map f) h (by intro r hr; obtain ⟨u, hu, rfl⟩ := List.mem_map.1 hr; exact hk u hu) (by simpa using hm) (Nat.le_refl _) hl
theorem Own.neFresh {w w' : World} {e : TypeId} {sz n b : Nat} {v : Value} {xs : List Value} {o : Obj} (h : Own w e sz v n xs) (hF : Fresh w w' b o) : some b ≠ v.ownBlock := fun e => by
  have := h.lt e.symm
  have := hF.eq
  omega
/-- A row of another type is another row. -/
theorem Own.keepT {w w' : World} {e e' : TypeId} {sz sz' n n' : Nat} {v v' u : Value} {xs ys : List Value} (hA : AppR w w' v v') (hv : Own w e sz v n xs) (hu : Own w e' sz' u n' ys) (hT : Nat.beq e e' = false) : Own w' e' sz' u n' ys := by
  refine hA.own hu ?_
  cases h : u.ownBlock with
  | none => exact .inl rfl
  | some g =>
    refine .inr fun e1 => ?_
    rcases hv.2 with ⟨rfl, _⟩ | ⟨g1, cap, cur, rfl, h3, h4, h5⟩
    · cases e1
    · cases e1
      exact hu.neT h4 hT h.symm
theorem all_nil {α : Type} {Q : α → Prop} : ∀ u ∈ ([] : List α), Q u := fun _ h => by cases h
theorem all_app {α : Type} {Q : α → Prop} {a b : List α} (ha : ∀ u ∈ a, Q u) (hb : ∀ u ∈ b, Q u) : ∀ u ∈ a ++ b, Q u := fun u hu => (List.mem_append.1 hu).elim (ha u) (hb u)
end Go.Proofs.Ytkjmjnddanhapaa
