/-
  Smaller of two numbers, conversions of numbers and bytes, elements of a row of the call's own written anew; rows of numbers. Plain lemmas over any program; no condition beyond those that stand in each statement.
-/
import Derived.Test.YtkjmjnddanhapaaK12
import Derived.Laws.Small
import Derived.Laws.BytesArg
namespace Go.Proofs.Ytkjmjnddanhapaa
open Go.RowKit

def intKB (P : Program) (t : TypeId) : Option IntKind := match P.underlying t with | some (.int k) => some k | _ => none
theorem underlying_intK {P : Program} {t : TypeId} {k : IntKind} (h : intKB P t = some k) : P.underlying t = some (.int k) := by
  unfold intKB at h
  split at h
  · rename_i k' hk; cases h; exact hk
  · cases h
section
variable {P : Program} {N : Nat} {ds : List Deferred} {L : List (Nat × Value)} {w : World} {ops : Array Oper} {Q : Exit → Act → World → Prop} {rest : List Oper} {d : Nat}
  {ty : TypeId} {pos : String} {aft : Array Edge} {x y : Operand}
theorem At.minI {t t' : TypeId} {q q' : IntKind} {m n : Int} (hx : ev L x = some (.int q m)) (hy : ev L y = some (.int q' n)) (hN : Nat.blt d N = true) (k : At N ds ((d, .int q (if n < m then n else m)) :: L) (wpList P ops Q rest) w) :
    At N ds L (wpList P ops Q (⟨some d, .call ⟨.builtin .min, #[x, y], #[t, t']⟩, ty, pos, aft, none⟩ :: rest)) w :=
  At.op rfl rfl hN (fun a ha => by
    simp only [execOp, resolve, invoke, builtin, Sem.run_bind, Sem.run_pure, Result.andThen_ok, List.map_toArray, List.map_cons, List.map_nil, ha.ev hx, ha.ev hy, run_min_int2]) k
theorem At.convI {s t : TypeId} {q q' : IntKind} {n : Int} (hx : ev L x = some (.int q n)) (hs : intKB P s = some q) (ht : intKB P t = some q') (hN : Nat.blt d N = true) (k : At N ds ((d, .int q' (q'.wrap n)) :: L) (wpList P ops Q rest) w) :
    At N ds L (wpList P ops Q (⟨some d, .convert s t x, ty, pos, aft, none⟩ :: rest)) w :=
  At.op rfl rfl hN (fun a ha => by
    simp [execOp, ha.ev hx, convert, run_underlying (underlying_intK hs), run_underlying (underlying_intK ht), Conv.intToInt]) k
theorem At.convB {s e t : TypeId} {T : TypeId} {b n : Nat} {xs : List Int} {fr : Nat × Nat} (hx : ev L x = some (.slice (some ⟨b, 0, none⟩) n n)) (hb : w.heap[b]? = some (.cells (xs.map (Value.int .u8)).toArray T fr)) (hn : xs.length = n) (hs : elemB P s = some e) (he : intKB P e = some .u8) (ht : strB P t = true)
    (hN : Nat.blt d N = true) (k : At N ds ((d, .string (strOfNums xs)) :: L) (wpList P ops Q rest) w) :
    At N ds L (wpList P ops Q (⟨some d, .convert s t x, ty, pos, aft, none⟩ :: rest)) w :=
  At.op rfl rfl hN (fun a ha => by
    have h := run_convert_bytes_arg (P := P) w s e (underlying_elem hs) (underlying_intK he) b 0 n n xs hn (fun i hi => by
      have hl : i < xs.length := by omega
      have : (xs.map (Value.int .u8)).toArray[i]? = some (.int .u8 xs[i]) := by simp [hl]
      simp only [World.cell?, hb, Nat.zero_add, this]
      simp [List.getD, List.getElem?_eq_getElem hl]) t (underlying_str ht)
    simp only [execOp, ha.ev hx, Sem.run_bind, h, Result.andThen_ok, Sem.run_pure]) k
theorem At.sliceToE {t e : TypeId} {sz n h : Nat} {m : Int} {v : Value} (hx : ev L x = some v) (hy : ev L y = some (.int .i64 m)) (hm : m = (h : Int)) (hv : SlOk v n) (he : elemB P t = some e) (hs : sizeB P e = some sz) (hh : h ≤ n) (hN : Nat.blt d N = true)
    (k : At N ds ((d, takeV v h) :: L) (wpList P ops Q rest) w) :
    At N ds L (wpList P ops Q (⟨some d, .slice t x none (some y) none, ty, pos, aft, none⟩ :: rest)) w := by
  subst hm; exact At.sliceTo hx hy hv he hs hh hN k
end
theorem At.wpcL {P : Program} {N : Nat} {ds : List Deferred} {l : List Oper} {Q : Exit → Act → World → Prop} {f : Nat} {L : List (Nat × Value)} {w : World} {lst : Array Bool} (lst' : Array Bool) (h : lst = lst') (k : At N ds L (wpC P l Q f lst') w) : At N ds L (wpC P l Q f lst) w := h ▸ k
/-- A way from an operation to one that it hangs on. -/
def pathB (l : List Oper) : List Nat → Bool
  | a :: b :: r => (match l[a]? with | some o => (predsOf o).contains b | none => false) && pathB l (b :: r)
  | _ => true
def certB (l : List Oper) (lst : Array Bool) (js : List Nat) (certs : List (List Nat)) : Bool :=
  certs.all (fun p => match p with
    | k :: b :: r => lst.getD k false && (match l[k]? with | some o => !isS o | none => false) && pathB l (k :: b :: r) && Nat.ble (r.length + 1) l.length
    | _ => false) &&
  (List.range l.length).all fun j => !(lst.getD j false && (match l[j]? with | some o => isS o | none => false)) || js.contains j || certs.any fun p => p.getLast? == some j
theorem path_anc {l : List Oper} : ∀ (r : List Nat) (k b j : Nat) (f : Nat), pathB l (k :: b :: r) = true → (k :: b :: r).getLast? = some j → r.length + 1 ≤ f → j ∈ ancs l f k := by
  intro r
  induction r with
  | nil =>
    intro k b j f h hj hf
    obtain ⟨f, rfl⟩ : ∃ g, f = g + 1 := ⟨f - 1, by simp at hf; omega⟩
    simp only [pathB, Bool.and_true] at h
    simp at hj
    subst hj
    rw [ancs]
    cases ho : l[k]? with
    | none => rw [ho] at h; cases h
    | some o =>
      rw [ho] at h
      simp only [List.mem_append]
      exact .inl (by simpa using h)
  | cons c r ih =>
    intro k b j f h hj hf
    obtain ⟨f, rfl⟩ : ∃ g, f = g + 1 := ⟨f - 1, by simp at hf; omega⟩
    rw [pathB, Bool.and_eq_true] at h
    have h1 := ih b c j f h.2 (by simpa using hj) (by simp at hf; omega)
    rw [ancs]
    cases ho : l[k]? with
    | none => rw [ho] at h; cases h.1
    | some o =>
      rw [ho] at h
      simp only [List.mem_append, List.mem_flatMap]
      exact .inr ⟨b, by simpa using h.1, h1⟩
theorem cert_loose {l : List Oper} {lst : Array Bool} {js : List Nat} {certs : List (List Nat)} (h : certB l lst js certs = true) : ∀ j ∈ loose l lst, j ∈ js := by
  intro j hj
  unfold certB at h
  rw [Bool.and_eq_true] at h
  unfold loose at hj
  rw [List.mem_filter] at hj
  simp only [Bool.and_eq_true, Bool.not_eq_true'] at hj
  have h1 := List.all_eq_true.1 h.2 j hj.1
  simp only [Bool.or_eq_true, Bool.not_eq_true', Bool.and_eq_false_iff] at h1
  rcases h1 with (h1 | h1) | h1
  · rcases h1 with h1 | h1
    · rw [hj.2.1.1] at h1; cases h1
    · have h9 := hj.2.1.2.symm.trans h1; cases h9
  · simpa using h1
  · exfalso
    obtain ⟨p, hp, hl⟩ := List.any_eq_true.1 h1
    have h2 := List.all_eq_true.1 h.1 p hp
    match p, h2, hl with
    | k :: b :: r, h2, hl =>
      simp only [Bool.and_eq_true] at h2
      have h3 := path_anc r k b j l.length h2.1.2 (by simpa using hl) (by have := h2.2; rw [Nat.ble_eq] at this; exact this)
      have h4 : sure l lst j = true := by
        unfold sure
        rw [List.any_eq_true]
        have hk : k < l.length := by
          have := h2.1.1.2
          cases ho : l[k]? with
          | none => rw [ho] at this; cases this
          | some o => exact (List.getElem?_eq_some_iff.1 ho).1
        refine ⟨k, List.mem_range.2 hk, ?_⟩
        simp only [Bool.and_eq_true]
        exact ⟨h2.1.1, by simpa [anc] using h3⟩
      rw [h4] at hj; cases hj.2.2
inductive EachC (P : Program) (N : Nat) (ds : List Deferred) (l : List Oper) (Q : Exit → Act → World → Prop) (f : Nat) (lst : Array Bool) (L : List (Nat × Value)) (w : World) : List Nat → Prop
  | nil : EachC P N ds l Q f lst L w []
  | cons {i : Nat} {r : List Nat} {o : Oper} (js : List Nat) (certs : List (List Nat)) : l[i]? = some o → certB l (lst.setIfInBounds i true) js certs = true →
      At N ds L (wpList P l.toArray (onNormal (AfterC P l Q f (lst.setIfInBounds i true) js) Q) [o]) w → EachC P N ds l Q f lst L w r → EachC P N ds l Q f lst L w (i :: r)
theorem At.wpcF {P : Program} {N : Nat} {ds : List Deferred} {l : List Oper} {Q : Exit → Act → World → Prop} {lst : Array Bool} {f : Nat} {L : List (Nat × Value)} {w : World} (is : List Nat) (hf : firstS l lst = none) (hr : Region.ready .any l.toArray lst = is) (h : EachC P N ds l Q f lst L w is) : At N ds L (wpC P l Q (f + 1) lst) w := by
  intro a ha
  unfold wpC
  rw [hf]
  simp only
  rw [hr]
  clear hr
  induction h with
  | nil => intro i hi; cases hi
  | cons js certs ho hc hat _ ih =>
    intro i hi o' ho'
    rcases List.mem_cons.1 hi with e | hi
    · subst e
      rw [ho] at ho'; cases ho'
      exact wpList_mono (hat a ha) fun a w h1 => ⟨fun j hj => h1.1 j (cert_loose hc j hj), h1.2⟩
    · exact ih i hi o' ho'
theorem flat_len' {α : Type} {f : α → Array Value} {sz : Nat} : ∀ {l : List α}, (∀ u ∈ l, (f u).size = sz) → ((l.map f).flatMap (·.toList)).length = l.length * sz := by
  intro l
  induction l with
  | nil => intro _; simp
  | cons a l ih =>
    intro h
    rw [List.map_cons, List.flatMap_cons, List.length_append, ih (fun u hu => h u (List.mem_cons_of_mem _ hu)), List.length_cons, Nat.add_mul]
    have := h a (by simp); simp only [Array.length_toList]; omega
theorem flat_set {α : Type} {f : α → Array Value} {sz : Nat} {l : List α} {i off : Nat} {x0 x1 : α} {cs : Array Value} {tail : List Value} (hl : ∀ u ∈ l, (f u).size = sz) (hi : l[i]? = some x0) (hcs : f x1 = splice (f x0) off cs) (ho : off + cs.size ≤ sz) :
    (((l.map f).flatMap (·.toList) ++ tail).take (i * sz + off) ++ cs.toList ++ ((l.map f).flatMap (·.toList) ++ tail).drop (i * sz + off + cs.size)) = ((l.set i x1).map f).flatMap (·.toList) ++ tail := by
  have hlt := lt_of_some hi
  have hx0 := hl x0 (List.mem_of_getElem? hi)
  have e0 : l = l.take i ++ x0 :: l.drop (i + 1) := by
    rw [← (List.getElem?_eq_some_iff.1 hi).2, List.getElem_cons_drop, List.take_append_drop]
  have e1 : l.set i x1 = l.take i ++ x1 :: l.drop (i + 1) := by rw [List.set_eq_take_append_cons_drop, if_pos hlt]
  have hA : (((l.take i).map f).flatMap (·.toList)).length = i * sz := by
    rw [flat_len' (fun u hu => hl u (List.mem_of_mem_take hu)), List.length_take]; congr 1; omega
  have hf1 : (f x1).toList = (f x0).toList.take off ++ cs.toList ++ (f x0).toList.drop (off + cs.size) := by rw [hcs]; rfl
  rw [e1]
  conv => lhs; rw [e0]
  simp only [List.map_append, List.map_cons, List.flatMap_append, List.flatMap_cons, hf1, List.append_assoc]
  generalize ((l.take i).map f).flatMap (·.toList) = A at hA ⊢
  generalize ((l.drop (i + 1)).map f).flatMap (·.toList) = B
  have hF : (f x0).toList.length = sz := by simpa using hx0
  generalize (f x0).toList = F at hF ⊢
  rw [List.take_append, List.take_of_length_le (by omega), hA, Nat.add_sub_cancel_left, List.take_append_of_le_length (by omega)]
  rw [List.drop_append, List.drop_eq_nil_of_le (by omega), hA, List.nil_append, show i * sz + off + cs.size - i * sz = off + cs.size by omega, List.drop_append_of_le_length (by omega)]
  simp [List.append_assoc]
/-- An element of a row of the call's own, or a part of it, written anew. -/
theorem At.storeRow {α : Type} {P : Program} {N : Nat} {ds : List Deferred} {L : List (Nat × Value)} {w : World} {ops : Array Oper} {Q : Exit → Act → World → Prop} {rest : List Oper} {ty : TypeId} {pos : String} {aft : Array Edge} {x y : Operand}
    {t T : TypeId} {v u : Value} {f : α → Array Value} {sz i off o : Nat} {l : List α} {x0 : α} (x1 : α) (hx : ev L x = some (.pointer (some ⟨vBlock v, o, none⟩))) (hy : ev L y = some u) (hO : OwnR T sz f w v l) (hi : l[i]? = some x0) (hl : ∀ z ∈ l, (f z).size = sz)
    (ho : o = vOff v + i * sz + off) (hs : sizeB P t = some u.cells.size) (hcs : f x1 = splice (f x0) off u.cells) (hoff : off + u.cells.size ≤ sz) (h1 : u.cells.all (·.oneCell') = true)
    (k : ∀ w', OwnR T sz f w' v (l.set i x1) → AppR w w' v v → At N ds L (wpList P ops Q rest) w') :
    At N ds L (wpList P ops Q (⟨none, .store t x y, ty, pos, aft, none⟩ :: rest)) w := by
  have hlt := lt_of_some hi
  rcases hO.2 with ⟨_, h0⟩ | ⟨g, cap, cur, rfl, hbg, hg, hnc, hcm, hcsz, htake⟩
  · omega
  · simp only [vBlock, vOff, Nat.zero_add] at hx ho
    have hfl := flat_len' (f := f) hl
    have hmul : (i + 1) * sz ≤ l.length * sz := Nat.mul_le_mul_right _ hlt
    have hmul2 : l.length * sz ≤ cap * sz := Nat.mul_le_mul_right _ hnc
    rw [Nat.add_mul, Nat.one_mul] at hmul
    refine At.store hx hy hg hs (by omega) h1 (fun w' S => k w' ⟨?_, .inr ⟨g, cap, _, by rw [List.length_set], hbg, S.new, by rw [List.length_set]; exact hnc, hcm, ?_, ?_⟩⟩ ⟨S.grown, .inl rfl⟩)
    · rw [flat_len' (f := f) (fun z hz => ?_)]
      rcases List.mem_or_eq_of_mem_set hz with h2 | h2
      · exact hl z h2
      · rw [h2, hcs]
        have := hl x0 (List.mem_of_getElem? hi)
        unfold splice; simp; omega
    · unfold splice; simp; omega
    · have hsp : cur.toList = (l.map f).flatMap (·.toList) ++ cur.toList.drop (l.length * sz) := by rw [← htake, List.take_append_drop]
      have e : (splice cur o u.cells).toList = ((l.set i x1).map f).flatMap (·.toList) ++ cur.toList.drop (l.length * sz) := by
        unfold splice
        rw [ho]
        conv => lhs; rw [hsp]
        exact flat_set hl hi hcs hoff
      rw [e, List.length_set]
      have hlen2 : (((l.set i x1).map f).flatMap (·.toList)).length = l.length * sz := by
        rw [flat_len' (f := f) (fun z hz => ?_), List.length_set]
        rcases List.mem_or_eq_of_mem_set hz with h2 | h2
        · exact hl z h2
        · rw [h2, hcs]
          have := hl x0 (List.mem_of_getElem? hi)
          unfold splice; simp; omega
      rw [← hlen2]; exact List.take_left
theorem all_setl {α : Type} {Q : α → Prop} {l : List α} {i : Nat} {x : α} (h : ∀ u ∈ l, Q u) (hx : Q x) : ∀ u ∈ l.set i x, Q u := fun u hu => (List.mem_or_eq_of_mem_set hu).elim (h u) fun e => e ▸ hx
theorem all_takel {α : Type} {Q : α → Prop} {l : List α} {n : Nat} (h : ∀ u ∈ l, Q u) : ∀ u ∈ l.take n, Q u := fun u hu => h u (List.mem_of_mem_take hu)
theorem rows_take {α : Type} {w : World} {v : Value} {sz n : Nat} {l : List α} {f : α → Array Value} (h : RowsAt w v sz (l.map f)) (hn : n ≤ l.length) : RowsAt w (takeV v n) sz ((l.take n).map f) := by
  have := RowsAt.take h (h := n) (by simpa using hn)
  rw [← List.map_take] at this
  exact this
theorem cells_size {v : Value} (h : v.oneCell' = true) : v.cells.size = 1 := by rw [cells_one h]; rfl
theorem cells_all {v : Value} (h : v.oneCell' = true) : v.cells.all (·.oneCell') = true := by rw [cells_one h]; simpa using h
def Am.withVars (a : Am) (vv : Value) (vs : List ByteArray) : Am := .mk (a.cs.setIfInBounds 1 vv) a.nm vv vs a.body
theorem withVars_splice {a : Am} {vv : Value} {vs : List ByteArray} (hs : a.cs.size = 23) (h1 : vv.oneCell' = true) : (a.withVars vv vs).cs = splice a.cs 1 vv.cells := by rw [cells_one h1, splice_one (by rw [hs]; decide)]; rfl
theorem AmOk.withVars {w : World} {a : Am} {vv : Value} {vs : List ByteArray} (h : AmOk w a) (hv : StrsAt w vv vs) : AmOk w (a.withVars vv vs) := by
  have hs := h.size
  have hn : ∀ i, i ≠ 1 → (a.cs.setIfInBounds 1 vv)[i]? = a.cs[i]? := fun i hi => Array.getElem?_setIfInBounds_ne (by omega)
  refine .mk ⟨by show (a.cs.setIfInBounds 1 vv).size = 23; simpa using hs, ?_, (hn 0 (by decide)).trans h.c0, by show (a.cs.setIfInBounds 1 vv)[1]? = some vv; simp [hs], hv, ?_⟩ h.body
  · show (a.cs.setIfInBounds 1 vv).all (·.oneCell') = true
    have h1 := h.one
    have h2 := hv.ok.one
    rw [Array.all_eq_true'] at h1 ⊢
    intro x hx
    rw [Array.mem_iff_getElem?] at hx
    obtain ⟨j, hj⟩ := hx
    rw [Array.getElem?_setIfInBounds] at hj
    split at hj
    · split at hj
      · cases hj; exact h2
      · cases hj
    · exact h1 x (Array.mem_of_getElem? hj)
  · show (a.cs.setIfInBounds 1 vv).extract 2 (2 + 21) = a.body.cs
    rw [← h.bodyCs]
    apply Array.ext
    · simp
    · intro j h1 h2
      simp only [Array.getElem_extract]
      rw [Array.getElem_setIfInBounds_ne]
      omega
/-- A block that is none of these. -/
def Nin (o : Option Nat) (M : List (Option Nat)) : Prop := o ≠ none → o ∉ M
theorem Nin.nil (o : Option Nat) : Nin o [] := fun _ h => by cases h
theorem Nin.blk {o : Option Nat} {b : Nat} {M : List (Option Nat)} (h : some b ≠ o) (t : Nin o M) : Nin o (some b :: M) := fun hn hm => by
  rcases List.mem_cons.1 hm with e | e
  · exact h e.symm
  · exact t hn e
theorem Nin.own {o : Option Nat} {v : Value} {M : List (Option Nat)} (h : o ≠ none → v.ownBlock ≠ o) (t : Nin o M) : Nin o (v.ownBlock :: M) := fun hn hm => by
  rcases List.mem_cons.1 hm with e | e
  · exact h hn e.symm
  · exact t hn e
theorem Own.neOwn {w : World} {e e' : TypeId} {sz sz' n n' : Nat} {v u : Value} {xs ys : List Value} (hv : Own w e sz v n xs) (hu : Own w e' sz' u n' ys) (hT : Nat.beq e e' = false) : u.ownBlock ≠ none → v.ownBlock ≠ u.ownBlock := fun hn e1 => by
  rcases hv.2 with ⟨rfl, _⟩ | ⟨g1, cap, cur, rfl, h3, h4, h5⟩
  · exact hn e1.symm
  · exact hu.neT h4 hT e1
theorem Xs.ofCn {M : List (Option Nat)} {w : World} {T : TypeId} {fv : Value} {fl : List Ty} {c : Cn} (h : OwnR T 6 Ty.cs w fv fl) (hok : CnOk w c) (hv : c.fv = fv) (hf : c.fields = fl) (hM : Nin fv.ownBlock M) : Xs kCn M w [c] := fun x hx => by
  obtain rfl := List.mem_singleton.1 hx
  refine ⟨hok, fun b hb hm => ?_⟩
  have hb' : x.fields ≠ [] ∧ b = vBlock x.fv := hb
  rw [hv, hf] at hb'
  have e : fv.ownBlock = some (vBlock fv) := by
    rcases h.2 with ⟨_, h0⟩ | ⟨g, cap, cur, rfl, _⟩
    · exact absurd (List.eq_nil_of_length_eq_zero h0) hb'.1
    · rfl
  exact hM (by rw [e]; simp) (by rw [e, ← hb'.2]; exact hm)
theorem Xs.ofAm {M : List (Option Nat)} {w : World} {T : TypeId} {vv : Value} {vl : List ByteArray} {a : Am} (h : OwnS T w vv vl) (hok : AmOk w a) (hv : a.vv = vv) (hf : a.vars = vl) (hb0 : ∀ b, ¬ tmBlk a.body b) (hM : Nin vv.ownBlock M) : Xs kAm M w [a] := fun x hx => by
  obtain rfl := List.mem_singleton.1 hx
  refine ⟨hok, fun b hb hm => ?_⟩
  have hb' : amBlk x b := hb
  rw [amBlk_eq] at hb'
  rcases hb' with h1 | h1
  · rw [hv, hf] at h1
    have e : vv.ownBlock = some (vBlock vv) := by
      rcases h.2 with ⟨_, h0⟩ | ⟨g, cap, cur, rfl, _⟩
      · exact absurd (List.eq_nil_of_length_eq_zero h0) h1.1
      · rfl
    exact hM (by rw [e]; simp) (by rw [e, ← h1.2]; exact hm)
  · exact hb0 b h1
def IntsAt (w : World) (v : Value) (l : List Int) : Prop := RowsAt w v 1 (l.map fun n => #[Value.int .i64 n])
theorem IntsAt.ok {w : World} {v : Value} {l : List Int} (h : IntsAt w v l) : SlOk v l.length := by have := RowsAt.ok h; simpa using this
theorem IntsAt.keep {w w' : World} {v : Value} {l : List Int} (h : IntsAt w v l) (hB : Below w.heap.size w w') : IntsAt w' v l := RowsAt.keep h hB
theorem IntsAt.get {w : World} {v : Value} {l : List Int} (h : IntsAt w v l) {i : Nat} {n : Int} (hi : l[i]? = some n) : w.cell? ⟨vBlock v, vOff v + i * 1, none⟩ = some (.int .i64 n) := by
  have := RowsAt.at_ h i #[.int .i64 n] (by simp [hi]) 0 (.int .i64 n) rfl
  simpa using this
theorem IntsAt.len {w : World} {v : Value} {l : List Int} (h : IntsAt w v l) : l.length ≤ 9223372036854775807 := by have := RowsAt.len h; simpa using this
end Go.Proofs.Ytkjmjnddanhapaa
