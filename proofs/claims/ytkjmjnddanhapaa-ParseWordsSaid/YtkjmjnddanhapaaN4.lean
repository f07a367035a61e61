/-
  A list in brackets whose parts grow a row in a block that the caller looks at. Plain lemmas over the contract of list; no condition beyond those that stand in each statement.
-/
import Derived.Test.YtkjmjnddanhapaaU2
namespace Go.Proofs.Ytkjmjnddanhapaa
open Go.RowKit

theorem MLt.mono {a b : Nat} {M : List (Option Nat)} (h : MLt a M) (hab : a ≤ b) : MLt b M := fun g hg => Nat.lt_of_lt_of_le (h g hg) hab
theorem ne_ty {w : World} {a b : Nat} {C C' : Array Value} {T T' : TypeId} {f f' : Nat × Nat} (ha : w.heap[a]? = some (.cells C T f)) (hb : w.heap[b]? = some (.cells C' T' f')) (h : Nat.beq T T' = false) : a ≠ b := by
  rintro rfl
  rw [ha] at hb
  simp only [Option.some.injEq, Obj.cells.injEq] at hb
  obtain ⟨-, rfl, -⟩ := hb
  simp at h
theorem AppR.movedTo {w0 w w' : World} {v0 v v' : Value} (hA : AppR w w' v v') (hl : w0.heap.size ≤ w.heap.size) (h : ∀ g, v.ownBlock = some g → v0.ownBlock = some g ∨ w0.heap.size ≤ g) : ∀ g, v'.ownBlock = some g → v0.ownBlock = some g ∨ w0.heap.size ≤ g := by
  intro g hg
  rcases hA.blk with h1 | ⟨g', h1, h2⟩
  · exact h g (by rw [← h1]; exact hg)
  · rw [h1] at hg; cases hg; exact .inr (Nat.le_trans hl h2)
theorem set_snoc {α : Type} (l : List α) (a b : α) : (l ++ [a]).set l.length b = l ++ [b] := by
  induction l with
  | nil => rfl
  | cons x l ih => simp
theorem PR.bind_assoc {α β γ : Type} (r : PR α) (f : α → List Tk → PR β) (g : β → List Tk → PR γ) : (r.bind f).bind g = r.bind fun x ts => (f x ts).bind g := by cases r <;> rfl
theorem RetP.monoS {S S' : Nat → Prop} {wB : World} {b0 : Nat} {e d : Int} {α : Type} {okv : α → Value → World → Prop} {r : PR α} {w w' : World} {en : Ending} (h : RetP S wB b0 e d okv r w en w') (hS : ∀ k, S k → S' k) : RetP S' wB b0 e d okv r w en w' :=
  ⟨⟨h.1.os, h.1.tape, h.1.output, h.1.size, fun k x hk hx => h.1.old k x (fun hs => hk (hS k hs)) hx⟩, h.2⟩
theorem RetP.loose {P : Nat → Prop} {wB : World} {b0 : Nat} {e d : Int} {α : Type} {okv : α → Value → World → Prop} {r : PR α} {w w' : World} {en : Ending} (h : RetP (fun k => P k ∨ w.heap.size ≤ k) wB b0 e d okv r w en w') : RetP P wB b0 e d okv r w en w' :=
  ⟨⟨h.1.os, h.1.tape, h.1.output, h.1.size, fun k x hk hx => h.1.old k x (fun hs => hs.elim hk fun hs => by have := (Array.getElem?_eq_some_iff.1 hx).1; omega) hx⟩, h.2⟩
/-- A reading that is told by another one. -/
theorem RetP.map {S : Nat → Prop} {wB : World} {b0 : Nat} {e d : Int} {α β : Type} {okv : α → Value → World → Prop} {okv' : β → Value → World → Prop} {r : PR α} {f : α → β} {w w' : World} {en : Ending} (h : RetP S wB b0 e d okv r w en w')
    (hk : ∀ x val, okv x val w' → okv' (f x) val w') : RetP S wB b0 e d okv' (r.bind fun x ts => .ok (f x) ts) w en w' := by
  cases r with
  | ok x ts => obtain ⟨hF, val, v, h1, h2, h3, h4⟩ := h; exact ⟨hF, val, v, h1, h2, h3, hk _ _ h4⟩
  | bad a c => exact h
theorem All2.snoc {α β : Type} {R : α → β → Prop} {xs : List α} {ts : List β} {x : α} {t : β} (h : All2 R xs ts) (k : R x t) : All2 R (xs ++ [x]) (ts ++ [t]) := by
  induction h with
  | nil => exact .cons k .nil
  | cons a _ ih => exact .cons a ih
theorem All2.mono {α β : Type} {R R' : α → β → Prop} {xs : List α} {ts : List β} (h : All2 R xs ts) (k : ∀ x t, R x t → R' x t) : All2 R' xs ts := by
  induction h with
  | nil => exact .nil
  | cons a _ ih => exact .cons (k _ _ a) ih
/-- A row in a block that the caller looks at: its elements are these. -/
def GrowI {α β : Type} (K : Kd α) (T sz : Nat) (f : α → Array Value) (R : World → β → α → Prop) (M : List (Option Nat)) (cells : Value → Array Value) (bx tx bp b0 tp NN : Nat) (w0 : World) (l : List β) (n : Nat) (w : World) : Prop :=
  ∃ v es, w.heap[bx]? = some (.cells (cells v) tx) ∧ OwnR T sz f w v es ∧ (∀ g, v.ownBlock = some g → w0.heap.size ≤ g) ∧ Xs K (v.ownBlock :: some b0 :: some bx :: M) w es ∧ All2 (R w0) l es ∧ es.length + n ≤ NN ∧
    w.heap[bp]? = some (.cells #[.pointer (some ⟨b0, 0, none⟩)] tp) ∧ w0.heap.size ≤ w.heap.size ∧ some bx ≠ v.ownBlock
/-- One part more. -/
def GrowOk {α β : Type} (K : Kd α) (T sz : Nat) (f : α → Array Value) (R : World → β → α → Prop) (M : List (Option Nat)) (cells : Value → Array Value) (bx tx bp b0 tp : Nat) (v : Value) (es : List α) (w : World) (y : β) (val : Value) (w' : World) : Prop :=
  val = .tuple #[] ∧ w'.heap[bp]? = some (.cells #[.pointer (some ⟨b0, 0, none⟩)] tp) ∧ ∃ v' u, w'.heap[bx]? = some (.cells (cells v') tx) ∧ OwnR T sz f w' v' (es ++ [u]) ∧ Xs K (v'.ownBlock :: some b0 :: some bx :: M) w' (es ++ [u]) ∧ R w y u ∧ (∀ g, v'.ownBlock = some g → v.ownBlock = some g ∨ w.heap.size ≤ g) ∧ w.heap.size ≤ w'.heap.size ∧ some bx ≠ v'.ownBlock
theorem GrowI.mono {α β : Type} {K : Kd α} {T sz : Nat} {f : α → Array Value} {R : World → β → α → Prop} {M : List (Option Nat)} {cells : Value → Array Value} {bx tx bp b0 tp NN : Nat} {w0 : World} {l : List β} {n m : Nat} {w w' : World} {C : Array Value} {T0 : TypeId} {fr : Nat × Nat}
    (h : GrowI K T sz f R M cells bx tx bp b0 tp NN w0 l n w) (hm : m ≤ n) (hF : Fr (fun k => k = b0) w w') (hb : w.heap[b0]? = some (.cells C T0 fr)) (h1 : Nat.beq T0 tx = false) (h2 : Nat.beq T0 tp = false) (h3 : Nat.beq T0 T = false) : GrowI K T sz f R M cells bx tx bp b0 tp NN w0 l m w' := by
  obtain ⟨v, es, a1, a2, a3, a4, a5, a6, a7, a8, a9⟩ := h
  exact ⟨v, es, hF.oldB a1 (ne_ty hb a1 h1).symm, OwnR.frB a2 hF hb h3, a3, a4.frS hF (by rintro k rfl; simp), a5, by omega, hF.oldB a7 (ne_ty hb a7 h2).symm, Nat.le_trans a8 hF.size, a9⟩
/-- A list whose parts grow a row. -/
theorem grow_list {α β : Type} (K : Kd α) (T sz : Nat) (f : α → Array Value) (R : World → β → α → Prop) (M : List (Option Nat)) (cells : Value → Array Value) (bx tx bp : Nat) {wB : World} {b0 : Nat} {en dp : Int} (ts : List Tk) (v : Value) (op bt nd : ByteArray) (one : List Tk → PR β) (c : FuncId) (w : World)
    (hB0 : Below wB.heap.size wB w) (hSge : ∀ k, k = b0 → wB.heap.size ≤ k) (hts : RowsAt wB v 4 (ts.map Tk.cs)) (hb0 : w.heap[b0]? = some (.cells #[v, .int .i64 en, .int .i64 dp] 81)) (hent : entB Try.prog c = true) (cap : List Value)
    (h1 : Nat.beq 81 tx = false) (h2 : Nat.beq 81 77 = false) (h3 : Nat.beq 81 T = false) (hM : MLt w.heap.size M) (hgx : wB.heap.size ≤ bx) (hbx : w.heap[bx]? = some (.cells (cells (.slice none 0 0)) tx)) (hbp : w.heap[bp]? = some (.cells #[.pointer (some ⟨b0, 0, none⟩)] 77))
    (hR : ∀ (w w0 : World) x u, w0.heap.size ≤ w.heap.size → R w x u → R w0 x u) (hsh : ∀ us, (one us).Sh us.length)
    (hone : ∀ (us : List Tk) (vr : Value) (v : Value) (es : List α) (w1 : World), Below wB.heap.size wB w1 → (∀ k, (k = b0 ∨ k = bx ∨ some k = v.ownBlock) → wB.heap.size ≤ k) → RowsAt wB vr 4 (us.map Tk.cs) → w1.heap[b0]? = some (.cells #[vr, .int .i64 en, .int .i64 dp] 81) → w1.heap[bx]? = some (.cells (cells v) tx) → w1.heap[bp]? = some (.cells #[.pointer (some ⟨b0, 0, none⟩)] 77) → OwnR T sz f w1 v es → Xs K (v.ownBlock :: some b0 :: some bx :: M) w1 es → MLt w1.heap.size M → es.length + us.length ≤ ts.length → some bx ≠ v.ownBlock →
      Calls Try.prog c cap.toArray w1 fun e w2 => RetP (fun k => k = b0 ∨ k = bx ∨ some k = v.ownBlock) wB b0 en dp (GrowOk K T sz f R M cells bx tx bp b0 77 v es w1) (one us) w1 e w2) :
    Calls Try.prog 67 ([.pointer (some ⟨b0, 0, none⟩), .string op, .string bt, .string nd, .func (.func c) #[] cap.toArray] : List Value).toArray w fun e w' =>
      RetP (fun k => k = b0 ∨ k = bx) wB b0 en dp (fun l val w' => val = .tuple #[] ∧ ∃ m, GrowI K T sz f R M cells bx tx bp b0 77 ts.length w l m w') (listP en op bt nd (listOne' one) [] ts) w e w' := by
  have key := list_any ts v op bt nd (listOne' one) (fun l n w1 => GrowI K T sz f R M cells bx tx bp b0 77 ts.length w l n w1) [] (fun k => (k = b0 ∨ k = bx) ∨ w.heap.size ≤ k) c cap w hB0 (fun k hk => by
      rcases hk with (rfl | rfl) | h
      · exact hSge _ rfl
      · exact hgx
      · exact Nat.le_trans hB0.size h) hts hb0 (.inl (.inl rfl)) hent ⟨.slice none 0 0, [], hbx, OwnR.nil _ _ _ _, (fun g h => by cases h), Xs.nil _ _ _, .nil, by simp, hbp, Nat.le_refl _, fun h => by cases h⟩
    (fun l us => (hsh us).bindLe fun _ _ _ => Nat.le_refl _)
    (fun l n m w1 w2 hI hm hF hb => by
      obtain ⟨v', hb⟩ := hb
      exact hI.mono hm hF hb h1 h2 h3)
    (fun l us vr w1 hI hB1 hts1 hb1 => by
      obtain ⟨v1, es, a1, a2, a3, a4, a5, a6, a7, a8, a9⟩ := hI
      refine (hone us vr v1 es w1 hB1 (fun k hk => ?_) hts1 hb1 a1 a7 a2 a4 (hM.mono a8) a6 a9).mono fun e w2 hr => ?_
      · rcases hk with rfl | rfl | h
        · exact hSge _ rfl
        · exact hgx
        · exact Nat.le_trans hB0.size (a3 k h.symm)
      · refine RetP.map (f := fun y => l ++ [y]) (hr.monoS (fun k hk => ?_)) (fun y val hy => ?_)
        · rcases hk with rfl | rfl | h
          · exact .inl (.inl rfl)
          · exact .inl (.inr rfl)
          · exact .inr (a3 k h.symm)
        · obtain ⟨rfl, c1, v', u, c2, c3, c4, c5, c6, c7, c8⟩ := hy
          refine ⟨rfl, fun m hm => ⟨v', es ++ [u], c2, c3, fun g hg => ?_, c4, a5.snoc (hR _ _ _ _ a8 c5), by simp; omega, c1, Nat.le_trans a8 c7, c8⟩⟩
          rcases c6 g hg with h | h
          · exact a3 g h
          · exact Nat.le_trans a8 h)
  exact key.mono fun e w' h => RetP.loose h
-- ------------------------------------------------------------------ operations, constructors
def ownOp (nm : ByteArray) (k1 : Int) (n1 : ByteArray) (k2 : Int) (n2 : ByteArray) : Op :=
  { cs := #[.string nm, .int .i64 k1, .string n1, .int .i64 0, .slice none 0 0, .slice none 0 0, .int .i64 0, .int .i64 k2, .string n2, .int .i64 0, .slice none 0 0, .slice none 0 0, .int .i64 0], nm := nm, arg := ownTy k1 n1, res := ownTy k2 n2 }
theorem ownOp_ok (nm : ByteArray) (k1 : Int) (n1 : ByteArray) (k2 : Int) (n2 : ByteArray) : OpOk (ownOp nm k1 n1 k2 n2) := ⟨rfl, by simp [ownOp, Value.oneCell'], rfl, rfl, rfl, ownTy_ok _ _, ownTy_ok _ _⟩
def ownEff (s : ByteArray) (v : Value) (l : List Op) : Eff := { cs := #[.string s, v], nm := s, ov := v, ops := l }
theorem ownEff_ok {w : World} {s : ByteArray} {v : Value} {l : List Op} (h : RowsAt w v 13 (l.map Op.cs)) (ho : ∀ o ∈ l, OpOk o) : EffOk w (ownEff s v l) := by
  have a1 := h.ok.one; simp only [Value.oneCell'] at a1
  exact ⟨rfl, by simp [ownEff, Value.oneCell', a1], rfl, rfl, h, ho⟩
def ownCn (s : ByteArray) (v : Value) (l : List Ty) : Cn := { cs := #[.string s, v], nm := s, fv := v, fields := l }
theorem ownCn_ok {w : World} {s : ByteArray} {v : Value} {l : List Ty} (h : RowsAt w v 6 (l.map Ty.cs)) (ho : ∀ o ∈ l, TyOk o) : CnOk w (ownCn s v l) := by
  have a1 := h.ok.one; simp only [Value.oneCell'] at a1
  exact ⟨rfl, by simp [ownCn, Value.oneCell', a1], rfl, rfl, h, ho⟩
def ownDat (s : ByteArray) (v : Value) (l : List Cn) : Dat := { cs := #[.string s, v], nm := s, cv := v, cons := l }
theorem ownDat_ok {w : World} {s : ByteArray} {v : Value} {l : List Cn} (h : RowsAt w v 2 (l.map Cn.cs)) (ho : ∀ o ∈ l, CnOk w o) : DatOk w (ownDat s v l) := by
  have a1 := h.ok.one; simp only [Value.oneCell'] at a1
  exact ⟨rfl, by simp [ownDat, Value.oneCell', a1], rfl, rfl, h, ho⟩
def kOp : Kd Op := ⟨fun _ o => OpOk o, fun _ _ => False, fun _ h => h.elim, fun h _ => h⟩
def rOp (_ : World) (x : SOp) (o : Op) : Prop := shOp o = x
def rCn (w : World) (x : SCn) (c : Cn) : Prop := shCn c = x ∧ ∀ b, kCn.blk c b → w.heap.size ≤ b
theorem rCn_mono {w w0 : World} {x : SCn} {u : Cn} (hs : w0.heap.size ≤ w.heap.size) (h : rCn w x u) : rCn w0 x u := ⟨h.1, fun b hb => Nat.le_trans hs (h.2 b hb)⟩
theorem All2.map {α β : Type} {f : β → α} {xs : List α} {ts : List β} (h : All2 (fun x t => f t = x) xs ts) : ts.map f = xs := by
  induction h with
  | nil => rfl
  | cons a _ ih => rw [List.map_cons, a, ih]
theorem All2.all {α β : Type} {R : α → β → Prop} {Q : β → Prop} {xs : List α} {ts : List β} (h : All2 R xs ts) (k : ∀ x t, R x t → Q t) : ∀ t ∈ ts, Q t := by
  induction h with
  | nil => intro t ht; cases ht
  | cons a _ ih => intro t ht; rcases List.mem_cons.1 ht with rfl | h; exact k _ _ a; exact ih t h
/-- One operation; one constructor. -/
def op1P (e : Int) (ts : List Tk) : PR SOp :=
  (wordP e 2 ts).bind fun t ts => (textP e [clB] ts).bind fun _ ts => (typP e ts).bind fun a ts => (textP e [arB] ts).bind fun _ ts => (typP e ts).bind fun r ts => .ok ⟨bs t.t, a, r⟩ ts
def cn1P (e : Int) (ts : List Tk) : PR SCn :=
  (wordP e 3 ts).bind fun t ts => (fieldsP e (ts.length + 1) [] ts).bind fun fs ts => .ok ⟨bs t.t, fs⟩ ts
theorem opP_eq (e : Int) : opP e = listOne' (op1P e) := by
  funext l ts
  simp only [opP, op1P, listOne', PR.bind_assoc, PR.bind_ok]
theorem cnP_eq (e : Int) : cnP e = listOne' (cn1P e) := by
  funext l ts
  simp only [cnP, cn1P, listOne', PR.bind_assoc, PR.bind_ok]
theorem op1_sh (e : Int) (ts : List Tk) : (op1P e ts).Sh ts.length := by
  have h := op_sh e [] ts
  rw [opP_eq, listOne'] at h
  cases hh : op1P e ts with
  | ok x us => rw [hh] at h; exact h
  | bad a c => trivial
theorem cn1_sh (e : Int) (ts : List Tk) : (cn1P e ts).Sh ts.length := by
  have h := cn_sh e [] ts
  rw [cnP_eq, listOne'] at h
  cases hh : cn1P e ts with
  | ok x us => rw [hh] at h; exact h
  | bad a c => trivial
theorem Nin.tail {s : Nat} {o : Option Nat} {M : List (Option Nat)} (h : MLt s M) (hg : ∀ g, o = some g → s ≤ g) : Nin o M := fun hn hm => by
  cases o with
  | none => exact hn rfl
  | some g => have := h g hm; have := hg g rfl; omega
theorem At.storePart {P : Program} {N : Nat} {ds : List Deferred} {L : List (Nat × Value)} {w : World} {ops : Array Oper} {Q : Exit → Act → World → Prop} {rest : List Oper} {ty : TypeId} {pos : String} {aft : Array Edge} {x y : Operand} {t T : TypeId} {b o : Nat} {cs C : Array Value}
    (hx : ev L x = some (.pointer (some ⟨b, o, none⟩))) (hy : ev L y = some (.agg cs)) (hb : w.heap[b]? = some (.cells C T)) (hs : sizeB P t = some cs.size)
    (hr : o + cs.size ≤ C.size) (h1 : cs.all (·.oneCell') = true) (k : ∀ w', SetB w w' b (.cells (splice C o cs) T) → At N ds L (wpList P ops Q rest) w') :
    At N ds L (wpList P ops Q (⟨none, .store t x y, ty, pos, aft, none⟩ :: rest)) w :=
  At.store hx hy hb hs hr (by simpa [Value.cells] using h1) k
theorem SubM.nil {α : Type} {M : List α} : ∀ o ∈ ([] : List α), o ∈ M := fun _ h => by cases h
theorem SubM.cons {α : Type} {M M' : List α} {a : α} (h : a ∈ M) (t : ∀ o ∈ M', o ∈ M) : ∀ o ∈ a :: M', o ∈ M := fun o ho => by
  rcases List.mem_cons.1 ho with rfl | h'
  · exact h
  · exact t o h'
end Go.Proofs.Ytkjmjnddanhapaa
