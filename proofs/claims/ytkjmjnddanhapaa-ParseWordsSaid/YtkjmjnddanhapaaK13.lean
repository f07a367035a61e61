/-
  Smaller of two numbers, conversions of numbers and bytes, elements of a row of the call's own written anew; rows of numbers. Plain lemmas over any program; no condition beyond those that stand in each statement.
-/
import Derived.Test.YtkjmjnddanhapaaK12
import Derived.Laws.Small
import Derived.Laws.BytesArg
namespace Go.Proofs.Ytkjmjnddanhapaa
open Go.RowKit

def intKB (P : Program) (t : TypeId) : Option IntKind := match P.underlying t with | some (.int k) => some k | _ => none
theorem underlying_intK {P : Program} {t : TypeId} {k : IntKind} (h : intKB P t = some k) : P.underlying t = some (.int k) := by
  unfold intKB at h
  split at h
  · rename_i k' hk; cases h; exact hk
  · cases h
section
variable {P : Program} {N : Nat} {ds : List Deferred} {L : List (Nat × Value)} {w : World} {ops : Array Oper} {Q : Exit → Act → World → Prop} {rest : List Oper} {d : Nat}
  {ty : TypeId} {pos : String} {aft : Array Edge} {x y : Operand}
theorem At.minI {t t' : TypeId} {q q' : IntKind} {m n : Int} (hx : ev L x = some (.int q m)) (hy : ev L y = some (.int q' n)) (hN : Nat.blt d N = true) (k : At N ds ((d, .int q (if n < m then n else m)) :: L) (wpList P ops Q rest) w) :
    At N ds L (wpList P ops Q (⟨some d, .call ⟨.builtin .min, #[x, y], #[t, t']⟩, ty, pos, aft, none⟩ :: rest)) w :=
  At.op rfl rfl hN (fun a ha => by
    simp only [execOp, resolve, invoke, builtin, Sem.run_bind, Sem.run_pure, Result.andThen_ok, List.map_toArray, List.map_cons, List.map_nil, ha.ev hx, ha.ev hy, run_min_int2]) k
theorem At.convI {s t : TypeId} {q q' : IntKind} {n : Int} (hx : ev L x = some (.int q n)) (hs : intKB P s = some q) (ht : intKB P t = some q') (hN : Nat.blt d N = true) (k : At N ds ((d, .int q' (q'.wrap n)) :: L) (wpList P ops Q rest) w) :
    At N ds L (wpList P ops Q (⟨some d, .convert s t x, ty, pos, aft, none⟩ :: rest)) w :=
  At.op rfl rfl hN (fun a ha => by
    simp [execOp, ha.ev hx, convert, run_underlying (underlying_intK hs), run_underlying (underlying_intK ht), Conv.intToInt]) k
end
/-- A way from an operation to one that it hangs on. -/
def pathB (l : List Oper) : List Nat → Bool
  | a :: b :: r => (match l[a]? with | some o => (predsOf o).contains b | none => false) && pathB l (b :: r)
  | _ => true
def certB (l : List Oper) (lst : Array Bool) (js : List Nat) (certs : List (List Nat)) : Bool :=
  certs.all (fun p => match p with
    | k :: b :: r => lst.getD k false && (match l[k]? with | some o => !isS o | none => false) && pathB l (k :: b :: r) && Nat.ble (r.length + 1) l.length
    | _ => false) &&
  (List.range l.length).all fun j => !(lst.getD j false && (match l[j]? with | some o => isS o | none => false)) || js.contains j || certs.any fun p => p.getLast? == some j
inductive EachC (P : Program) (N : Nat) (ds : List Deferred) (l : List Oper) (Q : Exit → Act → World → Prop) (f : Nat) (lst : Array Bool) (L : List (Nat × Value)) (w : World) : List Nat → Prop
  | nil : EachC P N ds l Q f lst L w []
  | cons {i : Nat} {r : List Nat} {o : Oper} (js : List Nat) (certs : List (List Nat)) : l[i]? = some o → certB l (lst.setIfInBounds i true) js certs = true →
      At N ds L (wpList P l.toArray (onNormal (AfterC P l Q f (lst.setIfInBounds i true) js) Q) [o]) w → EachC P N ds l Q f lst L w r → EachC P N ds l Q f lst L w (i :: r)
theorem flat_len' {α : Type} {f : α → Array Value} {sz : Nat} : ∀ {l : List α}, (∀ u ∈ l, (f u).size = sz) → ((l.map f).flatMap (·.toList)).length = l.length * sz := by
  intro l
  induction l with
  | nil => intro _; simp
  | cons a l ih =>
    intro h
    rw [List.map_cons, List.flatMap_cons, List.length_append, ih (fun u hu => h u (List.mem_cons_of_mem _ hu)), List.length_cons, Nat.add_mul]
    have := h a (by simp); simp only [Array.length_toList]; omega
theorem flat_set {α : Type} {f : α → Array Value} {sz : Nat} {l : List α} {i off : Nat} {x0 x1 : α} {cs : Array Value} {tail : List Value} (hl : ∀ u ∈ l, (f u).size = sz) (hi : l[i]? = some x0) (hcs : f x1 = splice (f x0) off cs) (ho : off + cs.size ≤ sz) :
    (((l.map f).flatMap (·.toList) ++ tail).take (i * sz + off) ++ cs.toList ++ ((l.map f).flatMap (·.toList) ++ tail).drop (i * sz + off + cs.size)) = ((l.set i x1).map f).flatMap (·.toList) ++ tail := by
  have hlt := lt_of_some hi
  have hx0 := hl x0 (List.mem_of_getElem? hi)
  have e0 : l = l.take i ++ x0 :: l.drop (i + 1) := by
    rw [← (List.getElem?_eq_some_iff.1 hi).2, List.getElem_cons_drop, List.take_append_drop]
  have e1 : l.set i x1 = l.take i ++ x1 :: l.drop (i + 1) := by rw [List.set_eq_take_append_cons_drop, if_pos hlt]
  have hA : (((l.take i).map f).flatMap (·.toList)).length = i * sz := by
    rw [flat_len' (fun u hu => hl u (List.mem_of_mem_take hu)), List.length_take]; congr 1; omega
  have hf1 : (f x1).toList = (f x0).toList.take off ++ cs.toList ++ (f x0).toList.drop (off + cs.size) := by rw [hcs]; rfl
  rw [e1]
  conv => lhs; rw [e0]
  simp only [List.map_append, List.map_cons, List.flatMap_append, List.flatMap_cons, hf1, List.append_assoc]
  generalize ((l.take i).map f).flatMap (·.toList) = A at hA ⊢
  generalize ((l.drop (i + 1)).map f).flatMap (·.toList) = B
  have hF : (f x0).toList.length = sz := by simpa using hx0
  generalize (f x0).toList = F at hF ⊢
  rw [List.take_append, List.take_of_length_le (by omega), hA, Nat.add_sub_cancel_left, List.take_append_of_le_length (by omega)]
  rw [List.drop_append, List.drop_eq_nil_of_le (by omega), hA, List.nil_append, show i * sz + off + cs.size - i * sz = off + cs.size by omega, List.drop_append_of_le_length (by omega)]
  simp [List.append_assoc]
/-- An element of a row of the call's own, or a part of it, written anew. -/
theorem At.storeRow {α : Type} {P : Program} {N : Nat} {ds : List Deferred} {L : List (Nat × Value)} {w : World} {ops : Array Oper} {Q : Exit → Act → World → Prop} {rest : List Oper} {ty : TypeId} {pos : String} {aft : Array Edge} {x y : Operand}
    {t T : TypeId} {v u : Value} {f : α → Array Value} {sz i off o : Nat} {l : List α} {x0 : α} (x1 : α) (hx : ev L x = some (.pointer (some ⟨vBlock v, o, none⟩))) (hy : ev L y = some u) (hO : OwnR T sz f w v l) (hi : l[i]? = some x0) (hl : ∀ z ∈ l, (f z).size = sz)
    (ho : o = vOff v + i * sz + off) (hs : sizeB P t = some u.cells.size) (hcs : f x1 = splice (f x0) off u.cells) (hoff : off + u.cells.size ≤ sz) (h1 : u.cells.all (·.oneCell') = true)
    (k : ∀ w', OwnR T sz f w' v (l.set i x1) → AppR w w' v v → At N ds L (wpList P ops Q rest) w') :
    At N ds L (wpList P ops Q (⟨none, .store t x y, ty, pos, aft, none⟩ :: rest)) w := by
  have hlt := lt_of_some hi
  rcases hO.2 with ⟨_, h0⟩ | ⟨g, cap, cur, rfl, hbg, hg, hnc, hcm, hcsz, htake⟩
  · omega
  · simp only [vBlock, vOff, Nat.zero_add] at hx ho
    have hfl := flat_len' (f := f) hl
    have hmul : (i + 1) * sz ≤ l.length * sz := Nat.mul_le_mul_right _ hlt
    have hmul2 : l.length * sz ≤ cap * sz := Nat.mul_le_mul_right _ hnc
    rw [Nat.add_mul, Nat.one_mul] at hmul
    refine At.store hx hy hg hs (by omega) h1 (fun w' S => k w' ⟨?_, .inr ⟨g, cap, _, by rw [List.length_set], hbg, S.new, by rw [List.length_set]; exact hnc, hcm, ?_, ?_⟩⟩ ⟨S.grown, .inl rfl⟩)
    · rw [flat_len' (f := f) (fun z hz => ?_)]
      rcases List.mem_or_eq_of_mem_set hz with h2 | h2
      · exact hl z h2
      · rw [h2, hcs]
        have := hl x0 (List.mem_of_getElem? hi)
        unfold splice; simp; omega
    · unfold splice; simp; omega
    · have hsp : cur.toList = (l.map f).flatMap (·.toList) ++ cur.toList.drop (l.length * sz) := by rw [← htake, List.take_append_drop]
      have e : (splice cur o u.cells).toList = ((l.set i x1).map f).flatMap (·.toList) ++ cur.toList.drop (l.length * sz) := by
        unfold splice
        rw [ho]
        conv => lhs; rw [hsp]
        exact flat_set hl hi hcs hoff
      rw [e, List.length_set]
      have hlen2 : (((l.set i x1).map f).flatMap (·.toList)).length = l.length * sz := by
        rw [flat_len' (f := f) (fun z hz => ?_), List.length_set]
        rcases List.mem_or_eq_of_mem_set hz with h2 | h2
        · exact hl z h2
        · rw [h2, hcs]
          have := hl x0 (List.mem_of_getElem? hi)
          unfold splice; simp; omega
      rw [← hlen2]; exact List.take_left
/-- A block that is none of these. -/
def Nin (o : Option Nat) (M : List (Option Nat)) : Prop := o ≠ none → o ∉ M
theorem Nin.nil (o : Option Nat) : Nin o [] := fun _ h => by cases h
theorem Nin.blk {o : Option Nat} {b : Nat} {M : List (Option Nat)} (h : some b ≠ o) (t : Nin o M) : Nin o (some b :: M) := fun hn hm => by
  rcases List.mem_cons.1 hm with e | e
  · exact h e.symm
  · exact t hn e
theorem Nin.own {o : Option Nat} {v : Value} {M : List (Option Nat)} (h : o ≠ none → v.ownBlock ≠ o) (t : Nin o M) : Nin o (v.ownBlock :: M) := fun hn hm => by
  rcases List.mem_cons.1 hm with e | e
  · exact h hn e.symm
  · exact t hn e
theorem Own.neOwn {w : World} {e e' : TypeId} {sz sz' n n' : Nat} {v u : Value} {xs ys : List Value} (hv : Own w e sz v n xs) (hu : Own w e' sz' u n' ys) (hT : Nat.beq e e' = false) : u.ownBlock ≠ none → v.ownBlock ≠ u.ownBlock := fun hn e1 => by
  rcases hv.2 with ⟨rfl, _⟩ | ⟨g1, cap, cur, rfl, h3, h4, h5⟩
  · exact hn e1.symm
  · exact hu.neT h4 hT e1
theorem Xs.ofCn {M : List (Option Nat)} {w : World} {T : TypeId} {fv : Value} {fl : List Ty} {c : Cn} (h : OwnR T 6 Ty.cs w fv fl) (hok : CnOk w c) (hv : c.fv = fv) (hf : c.fields = fl) (hM : Nin fv.ownBlock M) : Xs kCn M w [c] := fun x hx => by
  obtain rfl := List.mem_singleton.1 hx
  refine ⟨hok, fun b hb hm => ?_⟩
  have hb' : x.fields ≠ [] ∧ b = vBlock x.fv := hb
  rw [hv, hf] at hb'
  have e : fv.ownBlock = some (vBlock fv) := by
    rcases h.2 with ⟨_, h0⟩ | ⟨g, cap, cur, rfl, _⟩
    · exact absurd (List.eq_nil_of_length_eq_zero h0) hb'.1
    · rfl
  exact hM (by rw [e]; simp) (by rw [e, ← hb'.2]; exact hm)
def IntsAt (w : World) (v : Value) (l : List Int) : Prop := RowsAt w v 1 (l.map fun n => #[Value.int .i64 n])
theorem IntsAt.ok {w : World} {v : Value} {l : List Int} (h : IntsAt w v l) : SlOk v l.length := by have := RowsAt.ok h; simpa using this
theorem IntsAt.keep {w w' : World} {v : Value} {l : List Int} (h : IntsAt w v l) (hB : Below w.heap.size w w') : IntsAt w' v l := RowsAt.keep h hB
theorem IntsAt.get {w : World} {v : Value} {l : List Int} (h : IntsAt w v l) {i : Nat} {n : Int} (hi : l[i]? = some n) : w.cell? ⟨vBlock v, vOff v + i * 1, none⟩ = some (.int .i64 n) := by
  have := RowsAt.at_ h i #[.int .i64 n] (by simp [hi]) 0 (.int .i64 n) rfl
  simpa using this
theorem IntsAt.len {w : World} {v : Value} {l : List Int} (h : IntsAt w v l) : l.length ≤ 9223372036854775807 := by have := RowsAt.len h; simpa using this
end Go.Proofs.Ytkjmjnddanhapaa
