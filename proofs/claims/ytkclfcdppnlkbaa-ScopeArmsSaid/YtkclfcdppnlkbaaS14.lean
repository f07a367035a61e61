/-
  A match of the constructors of one data: what the check answers of it. Plain definitions and lemmas; no condition.
-/
import Derived.Test.YtkclfcdppnlkbaaS9
import Derived.Test.YtkclfcdppnlkbaaK13
namespace Go.Proofs.Ytkclfcdppnlkbaa
open Go.RowKit

-- ------------------------------------------------------------------ what is made
def intTy : Ty := { cs := #[.int .i64 1, .string emp, .int .i64 0, .slice none 0 0, .slice none 0 0, .int .i64 0], k := 1, nm := emp, var := 0, av := .slice none 0 0, args := 0, lv := .slice none 0 0, labels := 0, rvar := 0 }
theorem intTy_ok : TyOk intTy := ⟨rfl, by simp [intTy, Value.oneCell'], rfl, rfl, rfl, rfl, rfl, rfl, SlOk.nil, SlOk.nil⟩
theorem intTy_known (dats : List Dat) : knownT dats intTy = true := by simp [knownT, kb, intTy, emp]
def unitLeaf : Tm := ownTm 4 0 emp emp 0 (.slice none 0 0) []
def intLeaf : Tm := ownTm 2 0 emp emp 0 (.slice none 0 0) []
def unitArm (nm : ByteArray) (vv : Value) (vs : List ByteArray) : Am :=
  .mk #[.string nm, vv, .int .i64 4, .int .i64 0, .string emp, .string emp, .int .i64 0, .slice none 0 0, .slice none 0 0, .int .i64 0, .string emp, .int .i64 0, .slice none 0 0, .slice none 0 0, .int .i64 0, .slice none 0 0, .int .i64 0, .int .i64 0, .string emp, .int .i64 0, .slice none 0 0, .slice none 0 0, .int .i64 0] nm vv vs unitLeaf
theorem unitArm_ok {w : World} {nm : ByteArray} {vv : Value} {vs : List ByteArray} (h : StrsAt w vv vs) : AmOk w (unitArm nm vv vs) :=
  .mk ⟨rfl, by simp only [unitArm, Am.cs, List.all_toArray, List.all_cons, List.all_nil, h.ok.one, Bool.and_true, Bool.true_and]; rfl, rfl, rfl, h, by simp [unitArm, unitLeaf, ownTm, Am.cs, Am.body, Tm.cs]⟩ (ownTm_leaf w _ _ _ _ _)
theorem ownTm_rows {w : World} {kv : Value} {ks : List Tm} (k at_ : Int) (nm pm : ByteArray) (n : Int) (h : RowsAt w kv 21 (ks.map Tm.cs)) (hk : ∀ u ∈ ks, TmOk w u) : TmOk w (ownTm k at_ nm pm n kv ks) :=
  .mk ⟨rfl, by simp only [ownTm, Tm.cs, List.all_toArray, List.all_cons, List.all_nil, h.ok.one, Bool.and_true, Bool.true_and]; rfl, rfl, rfl, rfl, rfl, rfl, rfl, rfl, h, RowsAt.nil w 23⟩ hk (fun _ h => by cases h)
/-- A match, with its arms in a row; a program with one data and a match. -/
def armTm (kv : Value) (ks : List Tm) (av : Value) (ls : List Am) : Tm :=
  .mk #[.int .i64 12, .int .i64 0, .string emp, .string emp, .int .i64 0, kv, av, .int .i64 0, .string emp, .int .i64 0, .slice none 0 0, .slice none 0 0, .int .i64 0, .slice none 0 0, .int .i64 0, .int .i64 0, .string emp, .int .i64 0, .slice none 0 0, .slice none 0 0, .int .i64 0] 12 0 emp emp 0 kv av ks ls
theorem armTm_ok {w : World} {kv av : Value} {ks : List Tm} {ls : List Am} (h : RowsAt w kv 21 (ks.map Tm.cs)) (hk : ∀ u ∈ ks, TmOk w u) (ha : RowsAt w av 23 (ls.map Am.cs)) (hls : ∀ u ∈ ls, AmOk w u) : TmOk w (armTm kv ks av ls) :=
  .mk ⟨rfl, by simp only [armTm, Tm.cs, List.all_toArray, List.all_cons, List.all_nil, h.ok.one, ha.ok.one, Bool.and_true, Bool.true_and]; rfl, rfl, rfl, rfl, rfl, rfl, rfl, rfl, h, ha⟩ hk hls
def armPr (dv : Value) (ds : List Dat) (kv : Value) (ks : List Tm) (av : Value) (ls : List Am) : Pr :=
  { cs := #[.slice none 0 0, dv, .int .i64 12, .int .i64 0, .string emp, .string emp, .int .i64 0, kv, av, .int .i64 0, .string emp, .int .i64 0, .slice none 0 0, .slice none 0 0, .int .i64 0, .slice none 0 0, .int .i64 0, .int .i64 0, .string emp, .int .i64 0, .slice none 0 0, .slice none 0 0, .int .i64 0], ev := .slice none 0 0, dv := dv, effs := [], dats := ds, body := armTm kv ks av ls }
theorem armPr_ok {w : World} {dv kv av : Value} {ds : List Dat} {ks : List Tm} {ls : List Am} (hd : RowsAt w dv 2 (ds.map Dat.cs)) (hds : ∀ d ∈ ds, DatOk w d) (h : RowsAt w kv 21 (ks.map Tm.cs)) (hk : ∀ u ∈ ks, TmOk w u) (ha : RowsAt w av 23 (ls.map Am.cs)) (hls : ∀ u ∈ ls, AmOk w u) : PrOk w (armPr dv ds kv ks av ls) :=
  ⟨rfl, by simp only [armPr, List.all_toArray, List.all_cons, List.all_nil, hd.ok.one, h.ok.one, ha.ok.one, Bool.and_true, Bool.true_and]; rfl, rfl, rfl, RowsAt.nil w 2, hd, (fun _ h => by cases h), hds, by simp [armPr, armTm, Tm.cs], armTm_ok h hk ha hls⟩
/-- Is a match of these arms right? -/
def rightP (d : Dat) (on : Tm) (ls : List Am) : Pr := { cs := #[], ev := .slice none 0 0, dv := .slice none 0 0, effs := [], dats := [d], body := .mk #[] 12 0 emp emp 0 (.slice none 0 0) (.slice none 0 0) [on] ls }
def rightB (d : Dat) (on : Tm) (ls : List Am) : Bool := decide ((checkP (rightP d on ls)).2 = 0)
theorem armPr_check (dv kv av : Value) (d : Dat) (on : Tm) (ls : List Am) : checkP (armPr dv [d] kv [on] av ls) = checkP (rightP d on ls) := by
  have h1 : termS (armPr dv [d] kv [on] av ls) [] (armTm kv [on] av ls) = termS (rightP d on ls) [] (rightP d on ls).body := by
    rw [termS_congr (p := rightP d on ls) (q := armPr dv [d] kv [on] av ls) rfl rfl]
    unfold armTm rightP
    rw [termS, termS]; rfl
  unfold checkP
  show (if decide (65534 < (([] : List Eff).length : Int)) then ((0 : Int), (6 : Int)) else if !effsB [d] [con_] [] [] || !datsB [d] [con_] [] [d] then (0, 4) else (atE (termS (armPr dv [d] kv [on] av ls) [] (armTm kv [on] av ls)), erE (termS (armPr dv [d] kv [on] av ls) [] (armTm kv [on] av ls)))) = _
  rw [h1]; rfl
theorem armPr_wt (dv kv av : Value) (d : Dat) (on : Tm) (ls : List Am) : wtT (armPr dv [d] kv [on] av ls).body = wtT (rightP d on ls).body := by
  show wtT (armTm kv [on] av ls) = wtT (.mk #[] 12 0 emp emp 0 (.slice none 0 0) (.slice none 0 0) [on] ls)
  unfold armTm; rw [wtT, wtT]
theorem armPr_right (dv kv av : Value) (d : Dat) (on : Tm) (ls : List Am) : decide ((checkP (armPr dv [d] kv [on] av ls)).2 = 0) = rightB d on ls := by rw [armPr_check]; rfl

-- ------------------------------------------------------------------ names
def conNm (a : Nat) : ByteArray := ⟨#[UInt8.ofNat (65 + a)]⟩
def abc : List ByteArray := [⟨#[97]⟩, ⟨#[98]⟩, ⟨#[99]⟩]
theorem conNm_inj {a b : Nat} (ha : a < 9) (hb : b < 9) : conNm a = conNm b ↔ a = b := by
  constructor
  · intro h
    have h1 := congrArg (fun s : ByteArray => s.data.toList.map UInt8.toNat) h
    simp only [conNm, List.map_cons, List.map_nil, List.cons.injEq, and_true, UInt8.toNat_ofNat'] at h1
    omega
  · intro h; rw [h]
theorem conNm_ne (a : Nat) : conNm a ≠ (⟨#[]⟩ : ByteArray) := by
  intro h
  have h1 := congrArg (fun s : ByteArray => s.data.size) h
  simp [conNm] at h1
theorem conNm_of {a : Nat} (h : a < 9) : strOfNums [IntKind.u8.wrap (65 + IntKind.u8.wrap (a : Int))] = conNm a := by
  have : a = 0 ∨ a = 1 ∨ a = 2 ∨ a = 3 ∨ a = 4 ∨ a = 5 ∨ a = 6 ∨ a = 7 ∨ a = 8 := by omega
  rcases this with rfl | rfl | rfl | rfl | rfl | rfl | rfl | rfl | rfl <;> decide +kernel
theorem abc_snoc {f : Nat} (h : f < 3) : abc.take f ++ [strOfNums [IntKind.u8.wrap (97 + IntKind.u8.wrap (f : Int))]] = abc.take (f + 1) := by
  have : f = 0 ∨ f = 1 ∨ f = 2 := by omega
  rcases this with rfl | rfl | rfl <;> decide +kernel
theorem abc_len {m : Nat} (h : m ≤ 3) : (abc.take m).length = m := by simp [abc]; omega
theorem abc_twice {m : Nat} (h : m ≤ 3) : twiceFrom [] (abc.take m) = false := by
  have : m = 0 ∨ m = 1 ∨ m = 2 ∨ m = 3 := by omega
  rcases this with rfl | rfl | rfl | rfl <;> decide +kernel
/-- How many fields a constructor has. -/
def cntN (fs : List Int) (j : Nat) : Nat := (bits .and .i64 (fs.getD j 0) 3).toNat
theorem cnt_range (fs : List Int) (j : Nat) : cntN fs j ≤ 3 := by
  have := and_range (fs.getD j 0) (n := 3) (by decide)
  have h2 : bits .and .i64 (fs.getD j 0) 3 ≤ 3 := this.2
  unfold cntN; omega
theorem cnt_eq {fs : List Int} {j : Nat} {u : Int} (h : fs[j]? = some u) : (cntN fs j : Int) = bits .and .i64 u 3 := by
  have h1 : fs.getD j 0 = u := by simp [List.getD, h]
  have := and_range u (n := 3) (by decide)
  have h2 : 0 ≤ bits .and .i64 u 3 := this.1
  unfold cntN; rw [h1]; omega
/-- Constructors, arms as the law makes them. -/
def CnsOk (fs : List Int) (n : Nat) (l : List Cn) : Prop := l.length = n ∧ ∀ j c, l[j]? = some c → c.nm = conNm j ∧ c.fields = List.replicate (cntN fs j) intTy
def ArmsOk (fs : List Int) (n : Nat) (l : List Am) : Prop := l.length = n ∧ ∀ j c, l[j]? = some c → c.nm = conNm j ∧ c.vars = abc.take (cntN fs j) ∧ c.body = unitLeaf
theorem get_snoc {α : Type} {l : List α} {x c : α} {j : Nat} (h : (l ++ [x])[j]? = some c) : l[j]? = some c ∨ (j = l.length ∧ c = x) := by
  by_cases hj : j < l.length
  · rw [List.getElem?_append_left hj] at h; exact .inl h
  · have h1 := lt_of_some h
    simp only [List.length_append, List.length_cons, List.length_nil] at h1
    have : j = l.length := by omega
    subst this
    simp at h
    exact .inr ⟨rfl, h.symm⟩
theorem CnsOk.snoc {fs : List Int} {n : Nat} {l : List Cn} {c : Cn} (h : CnsOk fs n l) (h1 : c.nm = conNm n) (h2 : c.fields = List.replicate (cntN fs n) intTy) : CnsOk fs (n + 1) (l ++ [c]) :=
  ⟨by simp [h.1], fun j x hx => by
    rcases get_snoc hx with h3 | ⟨rfl, rfl⟩
    · exact h.2 j x h3
    · rw [h.1]; exact ⟨h1, h2⟩⟩
theorem ArmsOk.snoc {fs : List Int} {n : Nat} {l : List Am} {c : Am} (h : ArmsOk fs n l) (h1 : c.nm = conNm n) (h2 : c.vars = abc.take (cntN fs n)) (h3 : c.body = unitLeaf) : ArmsOk fs (n + 1) (l ++ [c]) :=
  ⟨by simp [h.1], fun j x hx => by
    rcases get_snoc hx with h4 | ⟨rfl, rfl⟩
    · exact h.2 j x h4
    · rw [h.1]; exact ⟨h1, h2, h3⟩⟩

-- ------------------------------------------------------------------ the law
theorem eq2_iff {α β : Type} {p : α → β → Bool} : ∀ {l : List α} {m : List β}, eq2 p l m = true ↔ l.length = m.length ∧ ∀ (j : Nat) a b, l[j]? = some a → m[j]? = some b → p a b = true := by
  intro l
  induction l with
  | nil => intro m; cases m with | nil => simp [eq2] | cons _ _ => simp [eq2]
  | cons x l ih =>
    intro m
    cases m with
    | nil => simp [eq2]
    | cons y m =>
      rw [eq2, Bool.and_eq_true, ih]
      constructor
      · rintro ⟨h1, h2, h3⟩
        refine ⟨by simp [h2], fun j a b ha hb => ?_⟩
        cases j with
        | zero => simp at ha hb; rw [← ha, ← hb]; exact h1
        | succ j => simp at ha hb; exact h3 j a b ha hb
      · rintro ⟨h2, h3⟩
        exact ⟨h3 0 x y rfl rfl, by simpa using h2, fun j a b ha hb => h3 (j + 1) a b (by simpa using ha) (by simpa using hb)⟩
section
variable {fs : List Int} {n : Nat} {C : List Cn} {A : List Am} {d : Dat} {on : Tm}
theorem cons_ok (hC : CnsOk fs n C) (hn : n ≤ 9) (dats : List Dat) : consB dats [] C = true := by
  have key : ∀ m k, n = k + m → consB dats ((List.range k).map conNm) (C.drop k) = true := by
    intro m
    induction m with
    | zero => intro k hk; rw [List.drop_eq_nil_of_le (by rw [hC.1]; omega)]; rfl
    | succ m ih =>
      intro k hk
      obtain ⟨c, hc⟩ := some_of_lt (l := C) (i := k) (by rw [hC.1]; omega)
      have hq := hC.2 k c hc
      have hmem : memB c.nm ((List.range k).map conNm) = false := by
        rw [hq.1, memB_map]
        rw [List.any_eq_false]
        intro x hx
        have hx' := List.mem_range.1 hx
        have : ¬ conNm x = conNm k := fun e => by have := (conNm_inj (by omega) (by omega)).1 e; omega
        simpa using this
      rw [consB_step hc (by rw [hmem, hq.1, hq.2, decide_eq_false (conNm_ne k)]; simp [intTy_known])]
      have := ih (k + 1) (by omega)
      rw [List.range_succ, List.map_append, List.map_cons, List.map_nil] at this
      rw [hq.1]; exact this
  exact key n 0 (by omega)
theorem find_con (hC : CnsOk fs n C) (hn : n ≤ 9) (hd : d.cons = C) {j : Nat} {c : Cn} (hj : C[j]? = some c) : findCon [d] (conNm j) = some (d, c) := by
  have hjn := lt_of_some hj
  rw [hC.1] at hjn
  have h1 : C.find? (cnIs (conNm j)) = some c := by
    rw [List.find?_eq_some_iff_getElem]
    refine ⟨by simp [cnIs, (hC.2 j c hj).1], j, lt_of_some hj, (List.getElem?_eq_some_iff.1 hj).2, fun k hk => ?_⟩
    have hk' : k < C.length := by have := lt_of_some hj; omega
    have := (hC.2 k C[k] (List.getElem?_eq_getElem hk')).1
    simp only [cnIs, this, Bool.not_eq_true', decide_eq_false_iff_not]
    intro e
    have := (conNm_inj (by omega) (by omega)).1 e
    omega
  unfold findCon
  simp only [List.findSome?_cons, List.findSome?_nil, conIn, hd, h1, Option.map_some]
theorem arms_none {p : Pr} {b : List ByteArray} : ∀ {l : List Am}, (∀ a ∈ l, a.body = unitLeaf) → armsS p b l = none := by
  intro l
  induction l with
  | nil => intro _; rfl
  | cons a l ih =>
    intro h
    have h1 := h a (by simp)
    cases a
    simp only [Am.body] at h1
    subst h1
    rw [armsS, ih (fun x hx => h x (List.mem_cons_of_mem _ hx))]
    rw [termS_go (by simp [oneB, unitLeaf, ownTm, Tm.k, Tm.kids, Tm.arms])]
    rfl
theorem ints_none {p : Pr} {k : Int} {nm pm : ByteArray} {b : List ByteArray} : ∀ {m i : Nat}, kidsS p k nm pm b i (List.replicate m intLeaf) = none := by
  intro m
  induction m with
  | zero => intro i; rfl
  | succ m ih =>
    intro i
    rw [List.replicate_succ, kidsS, ih, termS_go (by simp [oneB, intLeaf, ownTm, Tm.k, Tm.kids, Tm.arms])]
    rfl
/-- A match of arms that name constructors is right just if these are all, in order. -/
theorem right_eq (hC : CnsOk fs n C) (h2 : 2 ≤ n) (hn : n ≤ 9) (hd : d.cons = C) (hnm : d.nm = (⟨#[68]⟩ : ByteArray)) {kv : Value} {X : List Am} (hX : X ≠ []) (hb : ∀ a ∈ X, a.body = unitLeaf) (hj : ∀ a ∈ X, ∃ j, j < n ∧ a.nm = conNm j) :
    rightB d (ownTm 11 0 (⟨#[65]⟩ : ByteArray) emp 0 kv (List.replicate (cntN fs 0) intLeaf)) X = eq2 armOk C X := by
  obtain ⟨c0, hc0⟩ := some_of_lt (l := C) (i := 0) (by rw [hC.1]; omega)
  have hA : (⟨#[65]⟩ : ByteArray) = conNm 0 := by decide +kernel
  have hf0 := find_con hC hn hd hc0
  have hone : ∀ ks, ks = List.replicate (cntN fs 0) intLeaf → termS (rightP d (ownTm 11 0 (⟨#[65]⟩ : ByteArray) emp 0 kv ks) X) [] (ownTm 11 0 (⟨#[65]⟩ : ByteArray) emp 0 kv ks) = none := by
    intro ks hks
    rw [termS_go]
    · rw [hks]
      simp only [ownTm, Tm.kids, Tm.arms, ints_none, armsS]; rfl
    · unfold oneB
      simp only [ownTm, Tm.k, Tm.kids, Tm.arms, Tm.nm, Int.reduceEq, decide_false, decide_true, Bool.or_self, Bool.false_eq_true, if_false, if_true]
      show ((findCon [d] ⟨#[65]⟩).isSome && decide ((ks.length : Int) = ((cnE (findCon [d] ⟨#[65]⟩)).fields.length : Int)) && !decide (0 < ((([] : List Am).length : Nat) : Int))) = true
      rw [hA, hf0, hks]
      simp [cnE, (hC.2 0 c0 hc0).2]
  have hdecl : declB (rightP d (ownTm 11 0 (⟨#[65]⟩ : ByteArray) emp 0 kv (List.replicate (cntN fs 0) intLeaf)) X) = true := by
    unfold declB
    show (!decide (65534 < ((([] : List Eff).length : Nat) : Int)) && effsB [d] [con_] [] [] && datsB [d] [con_] [] [d]) = true
    have h3 : datsB [d] [con_] [] [d] = true := by
      rw [datsB, hd, cons_ok hC hn, hnm, if_neg (by decide +kernel)]; rfl
    rw [h3]; rfl
  unfold rightB
  rw [checkP_decl hdecl]
  have hbody : termS (rightP d (ownTm 11 0 (⟨#[65]⟩ : ByteArray) emp 0 kv (List.replicate (cntN fs 0) intLeaf)) X) [] (rightP d (ownTm 11 0 (⟨#[65]⟩ : ByteArray) emp 0 kv (List.replicate (cntN fs 0) intLeaf)) X).body = if eq2 armOk C X then none else some 0 := by
    rw [termS_eq]
    have ho : oneB (rightP d (ownTm 11 0 (⟨#[65]⟩ : ByteArray) emp 0 kv (List.replicate (cntN fs 0) intLeaf)) X) (rightP d (ownTm 11 0 (⟨#[65]⟩ : ByteArray) emp 0 kv (List.replicate (cntN fs 0) intLeaf)) X).body [] = eq2 armOk C X := by
      unfold oneB
      simp only [rightP, Tm.k, Tm.kids, Int.reduceEq, decide_false, decide_true, Bool.false_eq_true, if_false, if_true]
      show (decide (((1 : Nat) : Int) = 1) && matchOk [d] _) = _
      rw [show decide (((1 : Nat) : Int) = 1) = true from rfl, Bool.true_and]
      unfold matchOk
      simp only [Tm.arms]
      cases X with
      | nil => exact absurd rfl hX
      | cons a r =>
        obtain ⟨j, hj1, hj2⟩ := hj a (by simp)
        obtain ⟨c, hc⟩ := some_of_lt (l := C) (i := j) (by rw [hC.1]; omega)
        simp only [hj2, find_con hC hn hd hc, hd]
    rw [ho]
    cases heq : eq2 armOk C X with
    | false => rfl
    | true =>
      simp only [if_true]
      show orO (kidsS _ 12 emp emp [] 0 [_]) (armsS _ [] X) = none
      rw [arms_none hb, kidsS, kidsS, show insideB 12 emp emp 0 [] = [] from rfl, hone _ rfl]; rfl
  rw [hbody]
  cases eq2 armOk C X <;> rfl
theorem armOk_iff {c : Cn} {a : Am} {j k : Nat} (hc : c.nm = conNm j ∧ c.fields = List.replicate (cntN fs j) intTy) (ha : a.nm = conNm k ∧ a.vars = abc.take (cntN fs k) ∧ a.body = unitLeaf) (hj : j < 9) (hk : k < 9) : armOk c a = decide (j = k) := by
  unfold armOk
  rw [hc.1, hc.2, ha.1, ha.2.1, abc_twice (cnt_range fs k), abc_len (cnt_range fs k)]
  by_cases h : j = k
  · subst h; simp
  · rw [decide_eq_false fun e => h ((conNm_inj hj hk).1 e)]; simp [h]
theorem arms_names (hA : ArmsOk fs n A) : ∀ a ∈ A, ∃ j, j < n ∧ a.nm = conNm j := fun a ha => by
  obtain ⟨j, hj⟩ := List.mem_iff_getElem?.1 ha
  exact ⟨j, by have := lt_of_some hj; have := hA.1; omega, (hA.2 j a hj).1⟩
theorem arms_bodies (hA : ArmsOk fs n A) : ∀ a ∈ A, a.body = unitLeaf := fun a ha => by
  obtain ⟨j, hj⟩ := List.mem_iff_getElem?.1 ha
  exact (hA.2 j a hj).2.2
/-- All in order. -/
theorem law_all (hC : CnsOk fs n C) (hA : ArmsOk fs n A) (hn : n ≤ 9) : eq2 armOk C A = true := eq2_iff.2 ⟨by rw [hC.1, hA.1], fun j c a hc ha => by
  have := lt_of_some hc
  have := hC.1
  rw [armOk_iff (hC.2 j c hc) (hA.2 j a ha) (by omega) (by omega)]; simp⟩
/-- One in another's place. -/
theorem law_set (hC : CnsOk fs n C) (hA : ArmsOk fs n A) (hn : n ≤ 9) {i k : Nat} {x : Am} (hi : i < n) (hx : A[k]? = some x) : eq2 armOk C (A.set i x) = decide (i = k) := by
  have hk : k < n := by have := lt_of_some hx; have := hA.1; omega
  by_cases h : i = k
  · subst h
    have : A.set i x = A := by
      rw [← (List.getElem?_eq_some_iff.1 hx).2]; exact List.set_getElem_self _
    rw [this, law_all hC hA hn]; simp
  · rw [decide_eq_false h]
    cases hq : eq2 armOk C (A.set i x) with
    | false => rfl
    | true =>
      obtain ⟨c, hc⟩ := some_of_lt (l := C) (i := i) (by have := hC.1; omega)
      have h1 := (eq2_iff.1 hq).2 i c x hc (by rw [List.getElem?_set_self (by have := hA.1; omega)])
      rw [armOk_iff (hC.2 i c hc) (hA.2 k x hx) (by omega) (by omega)] at h1
      exact absurd (of_decide_eq_true h1) h
/-- Two changed about. -/
theorem law_swap (hC : CnsOk fs n C) (hA : ArmsOk fs n A) (hn : n ≤ 9) {i k : Nat} {x y : Am} (hx : A[k]? = some x) (hy : A[i]? = some y) : eq2 armOk C ((A.set i x).set k y) = decide (i = k) := by
  have hk : k < n := by have := lt_of_some hx; have := hA.1; omega
  have hi : i < n := by have := lt_of_some hy; have := hA.1; omega
  by_cases h : i = k
  · subst h
    obtain rfl : x = y := by rw [hy] at hx; exact (Option.some.inj hx).symm
    have h1 : A.set i x = A := by rw [← (List.getElem?_eq_some_iff.1 hy).2]; exact List.set_getElem_self _
    rw [h1, h1, law_all hC hA hn]; simp
  · rw [decide_eq_false h]
    cases hq : eq2 armOk C ((A.set i x).set k y) with
    | false => rfl
    | true =>
      obtain ⟨c, hc⟩ := some_of_lt (l := C) (i := i) (by have := hC.1; omega)
      have h1 := (eq2_iff.1 hq).2 i c x hc (by rw [List.getElem?_set_ne (fun e => h e.symm), List.getElem?_set_self (by have := hA.1; omega)])
      rw [armOk_iff (hC.2 i c hc) (hA.2 k x hx) (by omega) (by omega)] at h1
      exact absurd (of_decide_eq_true h1) h
/-- One name too many. -/
theorem law_more (hC : CnsOk fs n C) (hA : ArmsOk fs n A) {i : Nat} {x y : Am} {z : ByteArray} (hy : A[i]? = some y) (hx : x.vars = y.vars ++ [z]) : eq2 armOk C (A.set i x) = false := by
  have hi : i < n := by have := lt_of_some hy; have := hA.1; omega
  cases hq : eq2 armOk C (A.set i x) with
  | false => rfl
  | true =>
    obtain ⟨c, hc⟩ := some_of_lt (l := C) (i := i) (by have := hC.1; omega)
    have h1 := (eq2_iff.1 hq).2 i c x hc (by rw [List.getElem?_set_self (by have := hA.1; omega)])
    unfold armOk at h1
    rw [hx, (hA.2 i y hy).2.1, (hC.2 i c hc).2] at h1
    have h2 := abc_len (cnt_range fs i)
    simp only [Bool.and_eq_true, decide_eq_true_eq, List.length_replicate, List.length_append, List.length_cons, List.length_nil] at h1
    omega
theorem law_len (hC : CnsOk fs n C) {X : List Am} (h : X.length ≠ n) : eq2 armOk C X = false := eq2_ne (by rw [hC.1]; exact fun e => h e.symm)
end
end Go.Proofs.Ytkclfcdppnlkbaa
