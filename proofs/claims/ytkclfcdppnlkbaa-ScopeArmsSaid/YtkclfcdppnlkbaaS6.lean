/-
  Programs and terms that a law makes; what the check answers of them. Plain definitions and lemmas; no condition.
-/
import Derived.Test.YtkclfcdppnlkbaaS5
namespace Go.Proofs.Ytkclfcdppnlkbaa
open Go.RowKit

section
variable {P : Program} {N : Nat} {ds : List Deferred} {L : List (Nat × Value)} {w : World} {ops : Array Oper} {Q : Exit → Act → World → Prop} {rest : List Oper}
  {ty : TypeId} {pos : String} {aft : Array Edge} {x y : Operand}
theorem At.storePart {t T : TypeId} {b o : Nat} {cs C : Array Value} (hx : ev L x = some (.pointer (some ⟨b, o, none⟩))) (hy : ev L y = some (.agg cs)) (hb : w.heap[b]? = some (.cells C T)) (hs : sizeB P t = some cs.size)
    (hr : o + cs.size ≤ C.size) (h1 : cs.all (·.oneCell') = true) (k : ∀ w', SetB w w' b (.cells (splice C o cs) T) → At N ds L (wpList P ops Q rest) w') :
    At N ds L (wpList P ops Q (⟨none, .store t x y, ty, pos, aft, none⟩ :: rest)) w :=
  At.store hx hy hb hs hr (by simpa [Value.cells] using h1) k
end

-- ------------------------------------------------------------------ programs turned
def Pr.withEffs (p : Pr) (v : Value) (l : List Eff) : Pr := { p with cs := p.cs.setIfInBounds 0 v, ev := v, effs := l }
def Pr.withDats (p : Pr) (v : Value) (l : List Dat) : Pr := { p with cs := p.cs.setIfInBounds 1 v, dv := v, dats := l }
def Pr.withBody (p : Pr) (b : Tm) : Pr := { p with cs := splice p.cs 2 b.cs, body := b }
section
variable {w : World} {p : Pr}
theorem all_set {cs : Array Value} {i : Nat} {v : Value} (h : cs.all (·.oneCell') = true) (h1 : v.oneCell' = true) : (cs.setIfInBounds i v).all (·.oneCell') = true := by
  rw [Array.all_eq_true'] at h ⊢
  intro x hx
  rw [Array.mem_iff_getElem?] at hx
  obtain ⟨j, hj⟩ := hx
  rw [Array.getElem?_setIfInBounds] at hj
  split at hj
  · split at hj
    · cases hj; exact h1
    · cases hj
  · exact h x (Array.mem_of_getElem? hj)
theorem extract_set {cs : Array Value} {i k n : Nat} {v : Value} (h : i < k) : (cs.setIfInBounds i v).extract k n = cs.extract k n := by
  apply Array.ext
  · simp
  · intro j h1 h2
    simp only [Array.getElem_extract]
    rw [Array.getElem_setIfInBounds_ne]
    omega
theorem PrOk.withEffs {v : Value} {l : List Eff} (h : PrOk w p) (hv : RowsAt w v 2 (l.map Eff.cs)) (he : ∀ e ∈ l, EffOk w e) : PrOk w (p.withEffs v l) := by
  have hs := h.size
  refine ⟨by simpa [Pr.withEffs] using hs, all_set h.one hv.ok.one, by simp [Pr.withEffs, hs], ?_, hv, h.datsAt, he, h.datOk, ?_, h.bodyOk⟩
  · show (p.cs.setIfInBounds 0 v)[1]? = some p.dv
    rw [Array.getElem?_setIfInBounds_ne (by omega)]; exact h.c1
  · show (p.cs.setIfInBounds 0 v).extract 2 (2 + 21) = p.body.cs
    rw [extract_set (by omega)]; exact h.bodyCs
theorem PrOk.withDats {v : Value} {l : List Dat} (h : PrOk w p) (hv : RowsAt w v 2 (l.map Dat.cs)) (he : ∀ e ∈ l, DatOk w e) : PrOk w (p.withDats v l) := by
  have hs := h.size
  refine ⟨by simpa [Pr.withDats] using hs, all_set h.one hv.ok.one, ?_, by simp [Pr.withDats, hs], h.effsAt, hv, h.effOk, he, ?_, h.bodyOk⟩
  · show (p.cs.setIfInBounds 1 v)[0]? = some p.ev
    rw [Array.getElem?_setIfInBounds_ne (by omega)]; exact h.c0
  · show (p.cs.setIfInBounds 1 v).extract 2 (2 + 21) = p.body.cs
    rw [extract_set (by omega)]; exact h.bodyCs
theorem PrOk.withBody {b : Tm} (h : PrOk w p) (hb : TmOk w b) : PrOk w (p.withBody b) := by
  have hs := h.size
  have hbs := hb.size
  have e : splice p.cs 2 b.cs = (p.cs.toList.take 2 ++ b.cs.toList).toArray := by
    unfold splice
    rw [show p.cs.toList.drop (2 + b.cs.size) = [] by simp; omega, List.append_nil]
  have hl : (p.cs.toList.take 2).length = 2 := by simp; omega
  refine ⟨?_, ?_, ?_, ?_, h.effsAt, h.datsAt, h.effOk, h.datOk, ?_, hb⟩
  · show (splice p.cs 2 b.cs).size = 23
    rw [e]; simp; omega
  · show (splice p.cs 2 b.cs).all (·.oneCell') = true
    rw [e, List.all_toArray, List.all_append, Bool.and_eq_true]
    have h1 := h.one
    have h2 := hb.one
    rw [← Array.toArray_toList (xs := p.cs), List.all_toArray] at h1
    rw [← Array.toArray_toList (xs := b.cs), List.all_toArray] at h2
    refine ⟨List.all_eq_true.2 fun x hx => List.all_eq_true.1 h1 x (List.mem_of_mem_take hx), h2⟩
  · show (splice p.cs 2 b.cs)[0]? = some p.ev
    rw [e, List.getElem?_toArray, List.getElem?_append_left (by omega), List.getElem?_take_of_lt (by omega)]
    have := h.c0; simpa using this
  · show (splice p.cs 2 b.cs)[1]? = some p.dv
    rw [e, List.getElem?_toArray, List.getElem?_append_left (by omega), List.getElem?_take_of_lt (by omega)]
    have := h.c1; simpa using this
  · show (splice p.cs 2 b.cs).extract 2 (2 + 21) = b.cs
    rw [e]
    apply Array.ext'
    simp only [List.extract_toArray, List.extract_eq_take_drop]
    rw [List.drop_append_of_le_length (by omega), show List.drop 2 (List.take 2 p.cs.toList) = [] from List.drop_eq_nil_of_le (by omega), List.nil_append, List.take_of_length_le (by simp; omega)]
end

-- ------------------------------------------------------------------ terms made
def ownTm (k at_ : Int) (nm pm : ByteArray) (n : Int) (kv : Value) (kids : List Tm) : Tm :=
  .mk #[.int .i64 k, .int .i64 at_, .string nm, .string pm, .int .i64 n, kv, .slice none 0 0, .int .i64 0, .string emp, .int .i64 0, .slice none 0 0, .slice none 0 0, .int .i64 0, .slice none 0 0, .int .i64 0, .int .i64 0, .string emp, .int .i64 0, .slice none 0 0, .slice none 0 0, .int .i64 0] k at_ nm pm n kv (.slice none 0 0) kids []
theorem ownTm_leaf (w : World) (k at_ : Int) (nm pm : ByteArray) (n : Int) : TmOk w (ownTm k at_ nm pm n (.slice none 0 0) []) :=
  .mk ⟨rfl, by simp [ownTm, Tm.cs, Value.oneCell'], rfl, rfl, rfl, rfl, rfl, rfl, rfl, RowsAt.nil w 21, RowsAt.nil w 23⟩ (fun _ h => by cases h) (fun _ h => by cases h)
theorem ownTm_ok {w : World} {b m : Nat} {ks : List Tm} {T : TypeId} {fr : Nat × Nat} (k at_ : Int) (nm pm : ByteArray) (n : Int) (h : w.heap[b]? = some (.cells ((ks.map Tm.cs).flatMap (·.toList)).toArray T fr)) (hk : ∀ u ∈ ks, TmOk w u) (hm : m = ks.length) (hl : m ≤ 9223372036854775807) :
    TmOk w (ownTm k at_ nm pm n (.slice (some ⟨b, 0, none⟩) m m) ks) :=
  .mk ⟨rfl, by simp [ownTm, Tm.cs, Value.oneCell'], rfl, rfl, rfl, rfl, rfl, rfl, rfl,
    RowsAt.own (rows := ks.map Tm.cs) h (by intro r hr; obtain ⟨u, hu, rfl⟩ := List.mem_map.1 hr; exact (hk u hu).size) (by simpa using hm) (Nat.le_refl _) hl, RowsAt.nil w 23⟩ hk (fun _ h => by cases h)
theorem PrSz.of_eq {p q : Pr} (he : q.effs = p.effs) (hd : q.dats = p.dats) (h : PrSz p) : PrSz q := ⟨by rw [he]; exact h.effs, by rw [hd]; exact h.dats, by rw [he]; exact h.ops, by rw [hd]; exact h.cons, by rw [hd]; exact h.fields, by rw [he]; exact h.opsAll, by rw [hd]; exact h.consAll⟩
theorem mem1 {α : Type} {Q : α → Prop} {a : α} (h : Q a) : ∀ u ∈ [a], Q u := by intro u hu; simp at hu; rw [hu]; exact h
theorem mem2 {α : Type} {Q : α → Prop} {a b : α} (h : Q a) (k : Q b) : ∀ u ∈ [a, b], Q u := by intro u hu; simp at hu; rcases hu with rfl | rfl; exact h; exact k

-- ------------------------------------------------------------------ what the check's answer hangs on
section
variable {p q : Pr}
theorem oneB_congr (he : q.effs = p.effs) (hd : q.dats = p.dats) (t : Tm) (b : List ByteArray) : oneB q t b = oneB p t b := by unfold oneB; rw [he, hd]
mutual
theorem termS_congr (he : q.effs = p.effs) (hd : q.dats = p.dats) : ∀ (t : Tm) (b : List ByteArray), termS q b t = termS p b t
  | .mk cs k at_ nm pm n kv av kids arms, b => by rw [termS, termS, oneB_congr he hd, kidsS_congr he hd kids, armsS_congr he hd arms]
theorem kidsS_congr (he : q.effs = p.effs) (hd : q.dats = p.dats) : ∀ (l : List Tm) (k : Int) (nm pm : ByteArray) (b : List ByteArray) (i : Nat), kidsS q k nm pm b i l = kidsS p k nm pm b i l
  | [], _, _, _, _, _ => rfl
  | t :: l, k, nm, pm, b, i => by rw [kidsS, kidsS, termS_congr he hd t, kidsS_congr he hd l]
theorem armsS_congr (he : q.effs = p.effs) (hd : q.dats = p.dats) : ∀ (l : List Am) (b : List ByteArray), armsS q b l = armsS p b l
  | [], _ => rfl
  | .mk _ _ _ vars body :: l, b => by rw [armsS, armsS, termS_congr he hd body, armsS_congr he hd l]
end
/-- Are the declarations right? -/
def declB (p : Pr) : Bool := !decide (65534 < (p.effs.length : Int)) && effsB p.dats [con_] [] p.effs && datsB p.dats [con_] [] p.dats
theorem declB_congr (he : q.effs = p.effs) (hd : q.dats = p.dats) : declB q = declB p := by unfold declB; rw [he, hd]
theorem checkP_decl (h : declB p = true) : checkP p = (atE (termS p [] p.body), erE (termS p [] p.body)) := by
  unfold declB at h
  simp only [Bool.and_eq_true, Bool.not_eq_true', decide_eq_false_iff_not] at h
  simp [checkP, h.1.1, h.1.2, h.2]
theorem checkP_no (h : declB p = false) (he : q.effs = p.effs) (hd : q.dats = p.dats) : checkP q = checkP p ∧ (checkP p).2 ≠ 0 := by
  unfold checkP
  rw [he, hd]
  unfold declB at h
  by_cases h1 : 65534 < (p.effs.length : Int)
  · simp [h1]
  · cases h2 : effsB p.dats [con_] [] p.effs
    · simp [h1]
    · cases h3 : datsB p.dats [con_] [] p.dats
      · simp [h1]
      · simp [h1, h2, h3] at h
theorem checkP_ok : (checkP p).2 = 0 ↔ declB p = true ∧ termS p [] p.body = none := by
  cases h : declB p with
  | false => have := (checkP_no h rfl rfl).2; simp [this]
  | true =>
    rw [checkP_decl h]
    cases termS p [] p.body <;> simp [erE]
theorem app_term (p : Pr) (v : Value) (x y : Tm) : termS p [] (ownTm 6 0 emp emp 0 v [x, y]) = orO (termS p [] x) (termS p [] y) := by
  rw [termS_go (by simp [oneB, ownTm, Tm.k, Tm.kids, Tm.arms])]
  simp only [ownTm, Tm.kids, Tm.arms, Tm.k, Tm.nm, Tm.pm, kidsS, armsS]
  have hi : ∀ i, insideB 6 emp emp i [] = [] := fun i => by simp [insideB]
  rw [hi, hi]
  cases termS p [] x <;> cases termS p [] y <;> rfl
/-- Both bodies in an application. -/
theorem first_law {b : Pr} {v : Value} (he : q.effs = p.effs) (hd : q.dats = p.dats) (he' : b.effs = p.effs) (hd' : b.dats = p.dats) (hb : b.body = ownTm 6 0 emp emp 0 v [p.body, q.body]) :
    checkP b = if (checkP p).2 = 0 then checkP q else checkP p := by
  cases h : declB p with
  | false =>
    have h1 := checkP_no h he' hd'
    rw [if_neg h1.2]; exact h1.1
  | true =>
    rw [checkP_decl (p := b) (by rw [declB_congr he' hd']; exact h), checkP_decl h, checkP_decl (p := q) (by rw [declB_congr he hd]; exact h), hb, app_term, termS_congr he' hd', termS_congr he' hd', termS_congr he hd]
    cases termS p [] p.body <;> simp [orO, erE]
end
end Go.Proofs.Ytkclfcdppnlkbaa
