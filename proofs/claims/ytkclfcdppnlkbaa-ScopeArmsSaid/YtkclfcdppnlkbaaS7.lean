/-
  Names that are bound more do no harm; what the check answers of the terms that a law wraps around a body. Plain definitions and lemmas; no condition.
-/
import Derived.Test.YtkclfcdppnlkbaaS6
namespace Go.Proofs.Ytkclfcdppnlkbaa
open Go.RowKit

def SubB (a b : List ByteArray) : Prop := ∀ x, memB x a = true → memB x b = true
theorem SubB.app {a b : List ByteArray} (h : SubB a b) (c : List ByteArray) : SubB (a ++ c) (b ++ c) := by
  intro x hx
  rw [memB_append, Bool.or_eq_true] at hx ⊢
  exact hx.imp (h x) id
theorem SubB.nil (b : List ByteArray) : SubB [] b := fun x hx => by simp [memB] at hx
theorem SubB.inside {a b : List ByteArray} (h : SubB a b) (k : Int) (nm pm : ByteArray) (i : Nat) : SubB (insideB k nm pm i a) (insideB k nm pm i b) := by
  unfold insideB
  split
  · exact h.app _
  · split
    · exact h.app _
    · exact h
theorem oneB_mono {p : Pr} {t : Tm} {a b : List ByteArray} (h : SubB a b) (ho : oneB p t a = true) : oneB p t b = true := by
  by_cases h1 : t.k = 1
  · unfold oneB at ho ⊢
    simp only [h1] at ho ⊢
    simp only [Int.reduceEq, decide_false, decide_true, Bool.false_eq_true, if_false, if_true, Bool.and_eq_true] at ho ⊢
    exact ⟨ho.1, h _ ho.2⟩
  · have : oneB p t b = oneB p t a := by unfold oneB; simp [h1]
    rw [this]; exact ho
theorem orO_nil {a b : Option Int} (h : orO a b = none) : a = none ∧ b = none := by cases a with | none => exact ⟨rfl, h⟩ | some x => cases h
mutual
theorem termS_mono (p : Pr) : ∀ (t : Tm) (a b : List ByteArray), SubB a b → termS p a t = none → termS p b t = none
  | .mk cs k at_ nm pm n kv av kids arms, a, b, hs, h => by
    rw [termS] at h ⊢
    cases ho : oneB p (.mk cs k at_ nm pm n kv av kids arms) a with
    | false => rw [ho] at h; cases h
    | true =>
      rw [ho, if_pos rfl] at h
      rw [oneB_mono hs ho, if_pos rfl, kidsS_mono p kids k nm pm a b 0 hs (orO_nil h).1, armsS_mono p arms a b hs (orO_nil h).2]; rfl
theorem kidsS_mono (p : Pr) : ∀ (l : List Tm) (k : Int) (nm pm : ByteArray) (a b : List ByteArray) (i : Nat), SubB a b → kidsS p k nm pm a i l = none → kidsS p k nm pm b i l = none
  | [], _, _, _, _, _, _, _, _ => rfl
  | t :: l, k, nm, pm, a, b, i, hs, h => by
    rw [kidsS] at h ⊢
    rw [termS_mono p t _ _ (hs.inside k nm pm i) (orO_nil h).1, kidsS_mono p l k nm pm a b (i + 1) hs (orO_nil h).2]; rfl
theorem armsS_mono (p : Pr) : ∀ (l : List Am) (a b : List ByteArray), SubB a b → armsS p a l = none → armsS p b l = none
  | [], _, _, _, _ => rfl
  | .mk _ _ _ vars body :: l, a, b, hs, h => by
    rw [armsS] at h ⊢
    rw [termS_mono p body _ _ (hs.app vars) (orO_nil h).1, armsS_mono p l a b hs (orO_nil h).2]; rfl
end

def us_ : ByteArray := ⟨#[95]⟩
section
variable {p : Pr} {x y : ByteArray} {v : Value} {b : List ByteArray} {s t : Tm}
def varTm (y : ByteArray) : Tm := ownTm 1 0 y emp 0 (.slice none 0 0) []
theorem termS_var (p : Pr) (b : List ByteArray) (y : ByteArray) : termS p b (varTm y) = if !decide (y = us_) && memB y b then none else some 0 := by
  rw [termS_eq]
  have : oneB p (varTm y) b = (!decide (y = us_) && memB y b) := by simp only [oneB, varTm, ownTm, Tm.k, Tm.kids, Tm.arms, Tm.nm, us_]; rfl
  rw [this]
  simp [varTm, ownTm, Tm.k, Tm.kids, Tm.arms, Tm.nm, Tm.at_, kidsS, armsS, orO]
theorem termS_var' (hy : ¬ y = us_) : termS p b (varTm y) = if memB y b then none else some 0 := by
  rw [termS_var]; simp [hy]
theorem termS_one (pm : ByteArray) : termS p b (ownTm 5 0 x pm 0 v [t]) = termS p (b ++ [x]) t := by
  rw [termS_go (by simp [oneB, ownTm, Tm.k, Tm.kids, Tm.arms])]
  simp only [ownTm, Tm.kids, Tm.arms, Tm.k, Tm.nm, Tm.pm, kidsS, armsS]
  rw [show insideB 5 x pm 0 b = b ++ [x] by simp [insideB]]
  cases termS p (b ++ [x]) t <;> rfl
theorem termS_let (pm : ByteArray) : termS p b (ownTm 7 0 x pm 0 v [s, t]) = orO (termS p b s) (termS p (b ++ [x]) t) := by
  rw [termS_go (by simp [oneB, ownTm, Tm.k, Tm.kids, Tm.arms])]
  simp only [ownTm, Tm.kids, Tm.arms, Tm.k, Tm.nm, Tm.pm, kidsS, armsS]
  rw [show insideB 7 x pm 0 b = b by simp [insideB], show insideB 7 x pm (0 + 1) b = b ++ [x] by simp [insideB]]
  cases termS p b s <;> cases termS p (b ++ [x]) t <;> rfl
theorem termS_rec (pm : ByteArray) : termS p b (ownTm 8 0 x pm 0 v [s, t]) = orO (termS p (b ++ [x, pm]) s) (termS p (b ++ [x]) t) := by
  rw [termS_go (by simp [oneB, ownTm, Tm.k, Tm.kids, Tm.arms])]
  simp only [ownTm, Tm.kids, Tm.arms, Tm.k, Tm.nm, Tm.pm, kidsS, armsS]
  rw [show insideB 8 x pm 0 b = b ++ [x, pm] by simp [insideB], show insideB 8 x pm (0 + 1) b = b ++ [x] by simp [insideB]]
  cases termS p (b ++ [x, pm]) s <;> cases termS p (b ++ [x]) t <;> rfl
/-- The terms that ScopeBinds makes. -/
def bindsL (x y : ByteArray) (body : Tm) (v1 v2 v3 v4 v5 : Value) : List Tm :=
  [ownTm 5 0 x emp 0 v1 [varTm y], ownTm 7 0 x emp 0 v2 [body, varTm y], ownTm 8 0 x us_ 0 v3 [varTm y, body], ownTm 8 0 us_ x 0 v4 [varTm y, body], ownTm 8 0 x us_ 0 v5 [body, varTm y]]
theorem checkP_body (h : (checkP p).2 = 0) (u : Tm) : checkP (p.withBody u) = (atE (termS p [] u), erE (termS p [] u)) := by
  have hd := (checkP_ok.1 h).1
  rw [checkP_decl (p := p.withBody u) (by rw [declB_congr (p := p) (q := p.withBody u) rfl rfl]; exact hd), termS_congr (p := p) (q := p.withBody u) rfl rfl]
  rfl
theorem body_any (h : (checkP p).2 = 0) (b : List ByteArray) : termS p b p.body = none := termS_mono p p.body [] b (SubB.nil b) (checkP_ok.1 h).2
theorem binds_five {v1 v2 v3 v4 v5 : Value} (h : (checkP p).2 = 0) (hx : ¬ x = us_) (hy : ¬ y = us_) {u : Tm} (hu : u ∈ bindsL x y p.body v1 v2 v3 v4 v5) : decide ((checkP (p.withBody u)).2 = 0) = decide (x = y) := by
  rw [checkP_body h]
  have hb := body_any h
  have hxy : us_ ≠ y := fun e => hy e.symm
  simp only [bindsL, List.mem_cons, List.not_mem_nil, or_false] at hu
  rcases hu with rfl | rfl | rfl | rfl | rfl
  · rw [termS_one, termS_var' hy]; by_cases e : x = y <;> simp [memB, e, erE]
  · rw [termS_let, hb, termS_var' hy]; by_cases e : x = y <;> simp [memB, e, erE, orO]
  · rw [termS_rec, hb, termS_var' hy]; by_cases e : x = y <;> simp [memB, e, erE, orO, hxy]
  · rw [termS_rec, hb, termS_var' hy]; by_cases e : x = y <;> simp [memB, e, erE, orO, hxy]
  · rw [termS_rec, hb, termS_var' hy]; by_cases e : x = y <;> simp [memB, e, erE, orO]
theorem binds_six (h : (checkP p).2 = 0) (hy : ¬ y = us_) : (checkP (p.withBody (ownTm 7 0 x emp 0 v [varTm y, p.body]))).2 = 4 := by
  rw [checkP_body h, termS_let, termS_var' hy]; simp [memB, orO, erE]
theorem binds_seven (h : (checkP p).2 = 0) (hy : ¬ y = us_) : (checkP (p.withBody (ownTm 8 0 us_ x 0 v [p.body, varTm y]))).2 = 4 := by
  have hxy : us_ ≠ y := fun e => hy e.symm
  rw [checkP_body h, termS_rec, termS_var' hy, body_any h]; simp [memB, orO, erE, hxy]
end
theorem mem5 {α : Type} {Q : α → Prop} {a b c d e : α} (h1 : Q a) (h2 : Q b) (h3 : Q c) (h4 : Q d) (h5 : Q e) : ∀ u ∈ [a, b, c, d, e], Q u := by
  intro u hu; simp at hu; rcases hu with rfl | rfl | rfl | rfl | rfl <;> assumption
/-- A row of terms of the call's own. -/
theorem rows_tm {w : World} {b m : Nat} {ks : List Tm} {T : TypeId} {fr : Nat × Nat} (h : w.heap[b]? = some (.cells ((ks.map Tm.cs).flatMap (·.toList)).toArray T fr)) (hk : ∀ u ∈ ks, TmOk w u) (hm : m = ks.length) (hl : m ≤ 9223372036854775807) :
    RowsAt w (.slice (some ⟨b, 0, none⟩) m m) 21 (ks.map Tm.cs) :=
  RowsAt.own (rows := ks.map Tm.cs) h (by intro r hr; obtain ⟨u, hu, rfl⟩ := List.mem_map.1 hr; exact (hk u hu).size) (by simpa using hm) (Nat.le_refl _) hl
theorem splice_twice {cs a b : Array Value} (hc : cs.size = 23) (ha : a.size = 21) (hb : b.size = 21) : splice (splice cs 2 a) 2 b = splice cs 2 b := by
  have hl : (cs.toList.take 2).length = 2 := by simp; omega
  have e : ∀ d : Array Value, d.size = 21 → splice cs 2 d = (cs.toList.take 2 ++ d.toList).toArray := fun d hd => by
    unfold splice
    rw [show cs.toList.drop (2 + d.size) = [] by simp; omega, List.append_nil]
  rw [e a ha, e b hb]
  unfold splice
  have h1 : List.drop (2 + b.size) (List.take 2 cs.toList ++ a.toList) = [] := by simp; omega
  have h2 : List.take 2 (List.take 2 cs.toList ++ a.toList) = List.take 2 cs.toList := by rw [List.take_append_of_le_length (by omega), List.take_take]; rfl
  simp only [h1, h2, List.append_nil]
theorem withBody_size {p : Pr} {a : Tm} (hc : p.cs.size = 23) (ha : a.cs.size = 21) : (p.withBody a).cs.size = 23 := by
  show (splice p.cs 2 a.cs).size = 23
  unfold splice
  simp; omega
theorem binds_wt {x y : ByteArray} {body : Tm} {v1 v2 v3 v4 v5 : Value} {u : Tm} (hu : u ∈ bindsL x y body v1 v2 v3 v4 v5) : wtT u ≤ wtT body + 100 := by
  simp only [bindsL, List.mem_cons, List.not_mem_nil, or_false] at hu
  rcases hu with rfl | rfl | rfl | rfl | rfl <;> simp only [varTm, ownTm, wtT, wtL, wtA] <;> omega
theorem withBody_twice {p : Pr} {a b : Tm} (hc : p.cs.size = 23) (ha : a.cs.size = 21) (hb : b.cs.size = 21) : splice (p.withBody a).cs 2 b.cs = (p.withBody b).cs := splice_twice hc ha hb
theorem withBody_self {w : World} {p : Pr} (h : PrOk w p) : (p.withBody p.body).cs = p.cs := by
  have hs := h.size
  show splice p.cs 2 p.body.cs = p.cs
  have e : p.cs.toList = p.cs.toList.take 2 ++ p.body.cs.toList := by
    rw [← h.bodyCs]
    simp only [Array.toList_extract, List.extract_eq_take_drop]
    rw [List.take_of_length_le (l := List.drop 2 p.cs.toList) (by simp; omega), List.take_append_drop]
  have hb := h.bodyOk.size
  unfold splice
  rw [show p.cs.toList.drop (2 + p.body.cs.size) = [] by simp; omega, List.append_nil, ← e]
end Go.Proofs.Ytkclfcdppnlkbaa
