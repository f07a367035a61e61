/-
  What is within a term stands in its words; the words' texts together are shorter. Plain lemmas; no condition beyond those that stand in each statement.
-/
import Derived.Test.YtkclecfbjfdfkaaGreatDoorP6
import Derived.Laws.Strings2
namespace Go.Proofs.YtkclecfbjfdfkaaGreatDoor
open Go.RowKit

/-- These rows of words stand in that one, one behind the other. -/
def emb : List (List ByteArray) → List ByteArray → Prop
  | [], _ => True
  | p :: ps, ws => ∃ a b, ws = a ++ (p ++ b) ∧ emb ps b
theorem emb.pre : ∀ {ps : List (List ByteArray)} {b : List ByteArray} (a : List ByteArray), emb ps b → emb ps (a ++ b)
  | [], _, _, _ => trivial
  | _ :: _, _, c, ⟨a, b, h, k⟩ => ⟨c ++ a, b, by rw [h, List.append_assoc], k⟩
theorem emb.post : ∀ {ps : List (List ByteArray)} {b : List ByteArray} (a : List ByteArray), emb ps b → emb ps (b ++ a)
  | [], _, _, _ => trivial
  | _ :: _, _, c, ⟨a, b, h, k⟩ => ⟨a, b ++ c, by rw [h]; simp, k.post c⟩
theorem emb.app : ∀ {ps qs : List (List ByteArray)} {a b : List ByteArray}, emb ps a → emb qs b → emb (ps ++ qs) (a ++ b)
  | [], _, a, _, _, k => k.pre a
  | _ :: _, _, _, _, ⟨a, b, h, k⟩, q => ⟨a, b ++ _, by rw [h]; simp, k.app q⟩
theorem emb.one (p : List ByteArray) : emb [p] p := ⟨[], [], by simp, trivial⟩
theorem emb.mem : ∀ {ps : List (List ByteArray)} {ws p : List ByteArray}, emb ps ws → p ∈ ps → ∃ a b, ws = a ++ (p ++ b)
  | [], _, _, _, h => by cases h
  | q :: ps, ws, p, ⟨a, b, h, k⟩, hp => by
    rcases List.mem_cons.1 hp with rfl | hp
    · exact ⟨a, b, h⟩
    · obtain ⟨c, d, e⟩ := k.mem hp
      exact ⟨a ++ (q ++ c), d, by rw [h, e]; simp⟩
/-- How long words are with a blank behind each. -/
def bl : List ByteArray → Nat
  | [] => 0
  | x :: r => x.size + 1 + bl r
theorem bl_app (a b : List ByteArray) : bl (a ++ b) = bl a + bl b := by
  induction a with
  | nil => simp [bl]
  | cons x r ih => rw [List.cons_append, bl, bl, ih]; omega
theorem bl_len (a : List ByteArray) : a.length ≤ bl a := by
  induction a with
  | nil => simp
  | cons x r ih => rw [bl]; simp only [List.length_cons]; omega
theorem byt_len (x : ByteArray) : (byt x).length = x.size := by cases x; simp [byt, ByteArray.size]
theorem join_bl : ∀ (ws : List ByteArray), ws ≠ [] → (joinL ws).length + 1 = bl ws := by
  intro ws
  induction ws with
  | nil => intro h; exact absurd rfl h
  | cons x r ih =>
    intro _
    cases r with
    | nil => rw [join_one, byt_len]; simp [bl]
    | cons y r => rw [join_cons, List.length_append, List.length_cons, byt_len, bl]; have := ih (by simp); omega
def sumBl : List (List ByteArray) → Nat
  | [] => 0
  | x :: r => bl x + sumBl r
theorem emb.sum : ∀ {ps : List (List ByteArray)} {ws : List ByteArray}, emb ps ws → sumBl ps ≤ bl ws
  | [], _, _ => Nat.zero_le _
  | _ :: _, _, ⟨a, b, h, k⟩ => by have := k.sum; rw [h, bl_app, bl_app, sumBl]; omega
/-- These stand in that, and are not all of it. -/
structure Str (ps : List (List ByteArray)) (ws : List ByteArray) : Prop where
  emb : emb ps ws
  more : ps.length ≤ 1 → sumBl ps + 1 ≤ bl ws
  none : ps = [] → 2 ≤ bl ws
theorem Str.cons {ps : List (List ByteArray)} {ws : List ByteArray} (x : ByteArray) (h : Go.Proofs.YtkclecfbjfdfkaaGreatDoor.emb ps ws) (hw : ws ≠ []) : Str ps (x :: ws) := by
  have hs := h.sum
  have hl : 1 ≤ bl ws := by have := bl_len ws; have := List.length_pos_iff.2 hw; omega
  exact ⟨h.pre [x], fun _ => by rw [bl]; omega, fun _ => by rw [bl]; omega⟩
theorem Str.two {ps : List (List ByteArray)} {ws : List ByteArray} (h : Go.Proofs.YtkclecfbjfdfkaaGreatDoor.emb ps ws) (hp : 2 ≤ ps.length) : Str ps ws := ⟨h, fun h => by omega, fun h => by rw [h] at hp; simp at hp⟩
theorem Str.nil {ws : List ByteArray} (h : 2 ≤ bl ws) : Str [] ws := ⟨trivial, fun _ => by simp [sumBl]; omega, fun _ => h⟩
-- ------------------------------------------------------------------ a term's
theorem expr_atom {u : Tm} (h : rightB u = true) : emb [exprW u] (atomW u) := by
  have hu := right_f h
  have h1 := hu.lo
  have h2 := hu.hi
  have par : atomW u = ([(⟨#[40]⟩ : ByteArray)] ++ exprW u) ++ [(⟨#[41]⟩ : ByteArray)] → emb [exprW u] (atomW u) := fun e => by rw [e]; exact ((emb.one _).pre _).post _
  have same : exprW u = atomW u → emb [exprW u] (atomW u) := fun e => by rw [e]; exact emb.one _
  by_cases e1 : u.k = 1
  · exact same (exprW_1 e1)
  by_cases e2 : u.k = 2
  · exact same (exprW_2 e2)
  by_cases e3 : u.k = 3
  · exact same (exprW_3 e3)
  by_cases e4 : u.k = 4
  · exact same (exprW_4 e4)
  by_cases e11 : u.k = 11
  · exact same (exprW_11 e11)
  by_cases er : u.k = 10 ∧ u.nm = (⟨#[114, 101, 97, 100]⟩ : ByteArray)
  · have hk := hu.k10 er.1
    rw [er.2, kids_read] at hk
    exact same (exprW_read er.1 er.2 (by omega) (by omega))
  · exact par (atomW_other e1 e2 e3 e4 er e11)
theorem emb_pt (ss : List ByteArray) (l : List Tm) : ∀ k, k ≤ l.length → emb ((l.take k).map exprW) (ptN ss (eK (eaL l)) k) := by
  intro k
  induction k with
  | zero => intro _; exact trivial
  | succ k ih =>
    intro hk
    obtain ⟨u, hu⟩ := some_of_lt (l := l) (i := k) (by omega)
    rw [take_snoc hu, List.map_append, ptN, eK_at hu]
    exact (ih (by omega)).app ((emb.one (exprW u)).pre [ss.getD k E0])
theorem emb_bt (sep : ByteArray) (f : Nat → List ByteArray) (ps : List (List ByteArray)) (h : ∀ i p, ps[i]? = some p → emb [p] (f i)) : ∀ k, k ≤ ps.length → emb (ps.take k) (btN sep f k) := by
  intro k
  induction k with
  | zero => intro _; exact trivial
  | succ k ih =>
    intro hk
    obtain ⟨u, hu⟩ := some_of_lt (l := ps) (i := k) (by omega)
    rw [take_snoc hu, btN]
    exact (ih (by omega)).app ((h k u hu).pre _)
theorem emb_arms (l : List Am) : emb (l.map fun a => exprW a.body) (armsW (eaA l)) := by
  have h := emb_bt (⟨#[59]⟩ : ByteArray) (fun i => (eaA l).getD i []) (l.map fun a => exprW a.body) (fun i p hp => by
    rw [List.getElem?_map, Option.map_eq_some_iff] at hp
    obtain ⟨a, ha, rfl⟩ := hp
    rw [arm_at ha]; unfold armW
    exact (emb.one _).pre _) l.length (by simp)
  rw [List.take_of_length_le (by simp)] at h
  unfold armsW
  rw [eaA_len]
  exact (h.pre _).post _
theorem has_arms {k n : Int} {nm pm : ByteArray} {nk na : Nat} {kids name : Int} {param : Bool} (h : hasB k nm pm n nk na kids name param false = true) : na = 0 := by
  unfold hasB at h
  simp only [Bool.and_eq_true, Bool.not_eq_true', Bool.or_eq_false_iff, Bool.not_eq_false', decide_eq_true_eq, Bool.not_false, Bool.and_true, decide_eq_false_iff_not] at h
  omega
theorem no_arms {t : Tm} (h : rightB t = true) (h12 : t.k ≠ 12) (h14 : t.k ≠ 14) : t.arms = [] := by
  have hf := right_f h
  have := hf.lo
  have := hf.hi
  rw [rightB_eq] at h
  simp only [Bool.and_eq_true] at h
  have h := h.1.1
  have key : t.arms.length = 0 → t.arms = [] := List.length_eq_zero_iff.1
  apply key
  have hs : t.k = 1 ∨ t.k = 2 ∨ t.k = 3 ∨ t.k = 4 ∨ t.k = 5 ∨ t.k = 6 ∨ t.k = 7 ∨ t.k = 8 ∨ t.k = 9 ∨ t.k = 10 ∨ t.k = 11 ∨ t.k = 13 := by omega
  rcases hs with e | e | e | e | e | e | e | e | e | e | e | e <;> simp [aloneB, e] at h
  all_goals first | exact has_arms h | exact has_arms h.1
theorem no_kids {t : Tm} (h : rightB t = true) (hk : t.k = 1 ∨ t.k = 2 ∨ t.k = 3 ∨ t.k = 4) : t.kids = [] := by
  rw [rightB_eq] at h
  simp only [Bool.and_eq_true] at h
  have h := h.1.1
  apply List.length_eq_zero_iff.1
  rcases hk with e | e | e | e <;> simp [aloneB, e] at h
  all_goals first | (have := has_kids h; omega) | (have := has_kids h.1; omega)
theorem nm_size {k : Int} {s : ByteArray} (h : nmB k s = true) : 1 ≤ s.size := by
  by_cases hs : s.size = 0
  · have e : byt s = [] := List.length_eq_zero_iff.1 (by rw [byt_len]; exact hs)
    unfold nmB noNm at h
    have hl : lexT (byt s) = [] := by
      rw [e]
      exact (lex_ok (l := []) (by simp) (lexW_end (by rw [skip_zero rfl]))).1
    rw [hl] at h
    simp at h
  · omega
theorem var_name {t : Tm} (h : rightB t = true) (hk : t.k = 1) : 1 ≤ t.nm.size := by
  rw [rightB_eq] at h
  simp only [Bool.and_eq_true] at h
  have h := h.1.1
  simp [aloneB, hk] at h
  unfold hasT hasB at h
  simp only [Bool.and_eq_true, Bool.not_eq_true', Bool.or_eq_false_iff, Bool.and_eq_false_iff, Bool.not_eq_false', decide_eq_true_eq, decide_eq_false_iff_not] at h
  refine nm_size (k := 2) ?_
  rcases h.2.1.2 with h | h
  · exact absurd h (by decide)
  · exact h
theorem itoa_pos (n : Int) (h : 0 ≤ n) : 1 ≤ (itoaW n).size := by
  have : Lib.itoa n ≠ [] := by
    unfold Lib.itoa
    rw [if_neg (by omega)]
    intro e
    have := congrArg List.length e
    rw [Lib.decDigits] at this
    split at this <;> simp at this
  show 1 ≤ (Lib.itoa n).toArray.size
  rw [List.size_toArray]
  exact List.length_pos_iff.2 this
def partsT (t : Tm) : List Tm := t.kids ++ t.arms.map Am.body
theorem take_all {α : Type} {l : List α} {n : Nat} (h : l.length = n) : l.take n = l := List.take_of_length_le (by omega)
theorem str_term {t : Tm} (h : rightB t = true) : Str ((partsT t).map exprW) (exprW t) := by
  have hf := right_f h
  have h1 := hf.lo
  have h2 := hf.hi
  have hat : ∀ u ∈ t.kids, emb [exprW u] (atomW u) := fun u hu => expr_atom (right_kid h hu)
  have hp : partsT t = t.kids ++ t.arms.map Am.body := rfl
  by_cases e12 : t.k = 12
  · have hl := hf.k12 e12
    obtain ⟨u, hu⟩ := some_of_lt (l := t.kids) (i := 0) (by omega)
    have hq := emb_pt [(⟨#[109, 97, 116, 99, 104]⟩ : ByteArray)] t.kids 1 (by omega)
    rw [take_all hl] at hq
    rw [hp, exprW_12 e12, List.map_append, List.map_map]
    have e : ptN [(⟨#[109, 97, 116, 99, 104]⟩ : ByteArray)] (eK (eaL t.kids)) 1 = (⟨#[109, 97, 116, 99, 104]⟩ : ByteArray) :: exprW u := by simp [ptN, eK_at hu]
    have hk : t.kids.map exprW = [exprW u] := by
      cases hh : t.kids with
      | nil => rw [hh] at hl; simp at hl
      | cons a r =>
        rw [hh] at hl hu
        have hr : r = [] := List.length_eq_zero_iff.1 (by simpa using hl)
        subst hr
        simp at hu; subst hu; rfl
    rw [e, hk, List.cons_append]
    exact Str.cons _ ((emb.one _).app (emb_arms t.arms)) (by simp [armsW])
  by_cases e14 : t.k = 14
  · have hl := hf.k14 e14
    obtain ⟨u, hu⟩ := some_of_lt (l := t.kids) (i := 0) (by omega)
    have hk : t.kids.map exprW = [exprW u] := by
      cases hh : t.kids with
      | nil => rw [hh] at hl; simp at hl
      | cons a r =>
        rw [hh] at hl hu
        have hr : r = [] := List.length_eq_zero_iff.1 (by simpa using hl)
        subst hr
        simp at hu; subst hu; rfl
    rw [hp, exprW_14 e14, List.map_append, List.map_map, hk, eK_at hu]
    show Str _ ((⟨#[104, 97, 110, 100, 108, 101]⟩ : ByteArray) :: (([t.nm] ++ exprW u) ++ armsW (eaA t.arms)))
    exact Str.cons _ (((emb.one _).pre _).app (emb_arms t.arms)) (by simp)
  have ha := no_arms h e12 e14
  rw [hp, ha, List.map_nil, List.append_nil]
  by_cases e1 : t.k = 1
  · rw [no_kids h (.inl e1), exprW_1 e1, atomW_1 e1]
    refine Str.nil ?_
    have := var_name h e1
    simp [bl]; omega
  by_cases e2 : t.k = 2
  · rw [no_kids h (.inr (.inl e2)), exprW_2 e2, atomW_2 e2]
    refine Str.nil ?_
    have := itoa_pos t.n (hf.n2 e2)
    simp [bl]; omega
  by_cases e3 : t.k = 3
  · rw [no_kids h (.inr (.inr (.inl e3))), exprW_3 e3, atomW_3 e3]
    refine Str.nil ?_
    split <;> decide
  by_cases e4 : t.k = 4
  · rw [no_kids h (.inr (.inr (.inr e4))), exprW_4 e4, atomW_4 e4]
    exact Str.nil (by decide)
  by_cases e5 : t.k = 5
  · have hq := emb_pt [(⟨#[45, 62]⟩ : ByteArray)] t.kids 1 (by have := hf.k5 e5; omega)
    rw [take_all (hf.k5 e5)] at hq
    rw [exprW_5 e5]
    exact Str.cons _ (hq.pre [t.nm]) (by simp)
  by_cases e7 : t.k = 7
  · have hq := emb_pt [(⟨#[61]⟩ : ByteArray), (⟨#[105, 110]⟩ : ByteArray)] t.kids 2 (by have := hf.k7 e7; omega)
    rw [take_all (hf.k7 e7)] at hq
    rw [exprW_7 e7]
    exact Str.cons _ (hq.pre [t.nm]) (by simp)
  by_cases e8 : t.k = 8
  · have hq := emb_pt [(⟨#[61]⟩ : ByteArray), (⟨#[105, 110]⟩ : ByteArray)] t.kids 2 (by have := hf.k8 e8; omega)
    rw [take_all (hf.k8 e8)] at hq
    rw [exprW_8 e8]
    exact Str.cons _ (hq.pre [t.nm, t.pm]) (by simp)
  by_cases e9 : t.k = 9
  · have hq := emb_pt [(⟨#[105, 102]⟩ : ByteArray), (⟨#[116, 104, 101, 110]⟩ : ByteArray), (⟨#[101, 108, 115, 101]⟩ : ByteArray)] t.kids 3 (by have := hf.k9 e9; omega)
    rw [take_all (hf.k9 e9)] at hq
    rw [exprW_9 e9]
    exact Str.two hq (by rw [List.length_map]; have := hf.k9 e9; omega)
  have two : ∀ {x y : List ByteArray}, t.kids.length = 2 → (∀ u, t.kids[0]? = some u → emb [exprW u] x) → (∀ u, t.kids[1]? = some u → emb [exprW u] y) → emb (t.kids.map exprW) (x ++ y) := fun {x y} hl hx hy => by
    cases hh : t.kids with
    | nil => rw [hh] at hl; simp at hl
    | cons a r =>
      cases r with
      | nil => rw [hh] at hl; simp at hl
      | cons b r =>
        rw [hh] at hl hx hy
        have hr : r = [] := List.length_eq_zero_iff.1 (by simpa using hl)
        subst hr
        exact (hx a rfl).app (hy b rfl)
  by_cases e6 : t.k = 6
  · have hl := hf.k6 e6
    rw [exprW_6 e6]
    refine Str.two (two hl (fun u hu => ?_) (fun u hu => ?_)) (by rw [List.length_map]; omega)
    · split
      · rw [eK_at hu]; exact emb.one _
      · rw [aK_at hu]; exact hat u (List.mem_of_getElem? hu)
    · rw [aK_at hu]; exact hat u (List.mem_of_getElem? hu)
  by_cases e10 : t.k = 10
  · have hk := hf.k10 e10
    rcases kidsOf_cases t.nm with e | e | e | e
    · have hl : t.kids.length = 2 := by omega
      have hn : t.nm ≠ (⟨#[114, 101, 97, 100]⟩ : ByteArray) := fun he => by rw [he, kids_read] at e; omega
      rw [exprW_op2 e10 hn hl]
      refine Str.two (two hl (fun u hu => ?_) (fun u hu => ?_)) (by rw [List.length_map]; omega)
      · rw [aK_at hu]; exact (hat u (List.mem_of_getElem? hu)).post _
      · rw [aK_at hu]; exact hat u (List.mem_of_getElem? hu)
    · have hl : t.kids.length = 1 := by omega
      have hn : t.nm ≠ (⟨#[114, 101, 97, 100]⟩ : ByteArray) := fun he => by rw [he, kids_read] at e; omega
      rw [exprW_op1 e10 hn hl]
      obtain ⟨u, hu⟩ := some_of_lt (l := t.kids) (i := 0) (by omega)
      have hk : t.kids.map exprW = [exprW u] := by
        cases hh : t.kids with
        | nil => rw [hh] at hl; simp at hl
        | cons a r =>
          rw [hh] at hl hu
          have hr : r = [] := List.length_eq_zero_iff.1 (by simpa using hl)
          subst hr
          simp at hu; subst hu; rfl
      rw [hk, aK_at hu]
      have hx := hat u (List.mem_of_getElem? hu)
      refine Str.cons _ hx fun he => ?_
      have he : atomW u = [] := he
      rw [he] at hx
      obtain ⟨a, b, h1, _⟩ := hx
      have h1 := congrArg List.length h1
      have := List.length_pos_iff.2 (exprW_ne (right_kid h (List.mem_of_getElem? hu)))
      simp at h1; omega
    · have hl : t.kids.length = 0 := by omega
      rw [List.length_eq_zero_iff.1 hl, exprW_read e10 (kids_zero e) (by omega) (by omega), atomW_read e10 (kids_zero e)]
      exact Str.nil (by decide)
    · omega
  by_cases e11 : t.k = 11
  · rw [exprW_11 e11, atomW_11 e11]
    have hq := emb_bt (⟨#[44]⟩ : ByteArray) (eK (eaL t.kids)) (t.kids.map exprW) (fun i p hp => by
      rw [List.getElem?_map, Option.map_eq_some_iff] at hp
      obtain ⟨a, ha, rfl⟩ := hp
      rw [eK_at ha]; exact emb.one _) t.kids.length (by simp)
    rw [List.take_of_length_le (by simp)] at hq
    exact Str.cons _ ((hq.pre [(⟨#[40]⟩ : ByteArray)]).post _) (by simp)
  by_cases e13 : t.k = 13
  · have hl := hf.k13 e13
    obtain ⟨u, hu⟩ := some_of_lt (l := t.kids) (i := 0) (by omega)
    have hk : t.kids.map exprW = [exprW u] := by
      cases hh : t.kids with
      | nil => rw [hh] at hl; simp at hl
      | cons a r =>
        rw [hh] at hl hu
        have hr : r = [] := List.length_eq_zero_iff.1 (by simpa using hl)
        subst hr
        simp at hu; subst hu; rfl
    rw [exprW_13 e13, hk, aK_at hu]
    have hx := hat u (List.mem_of_getElem? hu)
    refine Str.cons _ hx fun he => ?_
    have he : atomW u = [] := he
    rw [he] at hx
    obtain ⟨a, b, h1, _⟩ := hx
    have h1 := congrArg List.length h1
    have := List.length_pos_iff.2 (exprW_ne (right_kid h (List.mem_of_getElem? hu)))
    simp at h1; omega
  · omega
-- ------------------------------------------------------------------ as texts
theorem join_mid {a p b : List ByteArray} (hp : p ≠ []) : ∃ x y, joinL (a ++ (p ++ b)) = x ++ (joinL p ++ y) := by
  have h1 : ∃ y, joinL (p ++ b) = joinL p ++ y := by
    by_cases hb : b = []
    · exact ⟨[], by rw [hb]; simp⟩
    · exact ⟨_, join_app p b hp hb⟩
  obtain ⟨y, hy⟩ := h1
  by_cases ha : a = []
  · exact ⟨[], y, by rw [ha, List.nil_append, hy, List.nil_append]⟩
  · exact ⟨joinL a ++ [32], y, by rw [join_app a (p ++ b) ha (by simp [hp]), hy]; simp⟩
theorem dpL_le : ∀ {l : List Tm} {u : Tm}, u ∈ l → dpT u ≤ dpL l
  | [], _, h => by cases h
  | a :: r, u, h => by
    rw [dpL]
    rcases List.mem_cons.1 h with rfl | h
    · omega
    · have := dpL_le h; omega
theorem dpA_le : ∀ {l : List Am} {a : Am}, a ∈ l → dpT a.body ≤ dpA l
  | [], _, h => by cases h
  | .mk _ _ _ _ body :: r, a, h => by
    rw [dpA]
    rcases List.mem_cons.1 h with rfl | h
    · show dpT body ≤ _; omega
    · have := dpA_le h; omega
theorem part_written {t u : Tm} (h : writtenB t = true) (hu : u ∈ partsT t) : writtenB u = true := by
  unfold writtenB at h ⊢
  simp only [Bool.and_eq_true, decide_eq_true_eq] at h ⊢
  have hd : dpT u ≤ dpT t ∧ rightB u = true := by
    rw [dpT_eq t]
    rcases List.mem_append.1 hu with hu | hu
    · exact ⟨by have := dpL_le hu; omega, right_kid h.2 hu⟩
    · obtain ⟨a, ha, rfl⟩ := List.mem_map.1 hu
      exact ⟨by have := dpA_le ha; omega, (right_arm h.2 ha).2⟩
  exact ⟨by omega, hd.2⟩
theorem part_in {t u : Tm} (h : writtenB t = true) (hu : u ∈ partsT t) : ∃ x y, termL t = x ++ (termL u ++ y) := by
  have hw := part_written h hu
  have he := (str_term (written_right h)).emb
  obtain ⟨a, b, e⟩ := he.mem (List.mem_map.2 ⟨u, hu, rfl⟩)
  unfold termL
  rw [if_pos h, if_pos hw, e]
  exact join_mid (exprW_ne (written_right hw))
def sumT : List Tm → Nat
  | [] => 0
  | u :: r => (termL u).length + sumT r
theorem sumT_app (a b : List Tm) : sumT (a ++ b) = sumT a + sumT b := by
  induction a with
  | nil => simp [sumT]
  | cons x r ih => rw [List.cons_append, sumT, sumT, ih]; omega
theorem sumT_bl : ∀ {l : List Tm}, (∀ u ∈ l, writtenB u = true) → sumT l + l.length = sumBl (l.map exprW)
  | [], _ => rfl
  | u :: r, h => by
    have hu := h u (by simp)
    have := sumT_bl (l := r) fun x hx => h x (List.mem_cons_of_mem _ hx)
    have hj := join_bl (exprW u) (exprW_ne (written_right hu))
    have e : termL u = joinL (exprW u) := by unfold termL; rw [if_pos hu]
    rw [sumT, List.map_cons, sumBl, e, List.length_cons]; omega
theorem sum_less {t : Tm} (h : writtenB t = true) : sumT (partsT t) < (termL t).length := by
  have hs := str_term (written_right h)
  have h1 := sumT_bl (l := partsT t) fun u hu => part_written h hu
  have hj := join_bl (exprW t) (exprW_ne (written_right h))
  have e : termL t = joinL (exprW t) := by unfold termL; rw [if_pos h]
  have h2 := hs.emb.sum
  have h3 := hs.more
  have h4 := hs.none
  rw [List.length_map] at h3
  rw [e]
  by_cases hl : (partsT t).length ≤ 1
  · have := h3 hl
    by_cases hz : (partsT t).length = 0
    · have hn : partsT t = [] := List.length_eq_zero_iff.1 hz
      have := h4 (by rw [hn]; rfl)
      rw [hn] at h1 ⊢
      simp only [sumT] at *; omega
    · omega
  · omega
theorem parts_at {t : Tm} {k : Nat} {a : Am} (ha : t.arms[k]? = some a) : (t.kids ++ (t.arms.take k).map Am.body) ++ [a.body] = t.kids ++ (t.arms.take (k + 1)).map Am.body := by
  rw [take_snoc ha]; simp
theorem sumT_next {l : List Tm} {k : Nat} {u : Tm} (hu : l[k]? = some u) : sumT (l.take (k + 1)) = sumT (l.take k) + (termL u).length := by
  rw [take_snoc hu, sumT_app]; simp [sumT]
theorem sumT_le (l : List Tm) (k : Nat) : sumT (l.take k) ≤ sumT l := by
  conv => rhs; rw [← List.take_append_drop k l, sumT_app]
  omega
theorem parts_ok {w : World} {t : Tm} (h : TmOk w t) : ∀ u ∈ partsT t, TmOk w u := fun u hu => by
  rcases List.mem_append.1 hu with hu | hu
  · exact h.kids u hu
  · obtain ⟨a, ha, rfl⟩ := List.mem_map.1 hu
    exact (h.arms a ha).body
theorem parts_take {w : World} {t : Tm} (h : TmOk w t) (k : Nat) : ∀ u ∈ t.kids ++ (t.arms.take k).map Am.body, TmOk w u := fun u hu => by
  rcases List.mem_append.1 hu with hu | hu
  · exact h.kids u hu
  · obtain ⟨a, ha, rfl⟩ := List.mem_map.1 hu
    exact (h.arms a (List.mem_of_mem_take ha)).body
theorem parts_sz {t : Tm} (h : szT t) : ∀ u ∈ partsT t, szT u := fun u hu => by
  rcases List.mem_append.1 hu with hu | hu
  · exact sz_kid h hu
  · obtain ⟨a, ha, rfl⟩ := List.mem_map.1 hu
    exact (sz_arm h ha).2.2.2
theorem parts_wt {t : Tm} : ∀ u ∈ partsT t, wtT u ≤ wtT t := fun u hu => by
  rcases List.mem_append.1 hu with hu | hu
  · have := wt_kid hu; omega
  · obtain ⟨a, ha, rfl⟩ := List.mem_map.1 hu
    have := wt_arm ha; omega
-- ------------------------------------------------------------------ steps
theorem rows_tm {w : World} {b m : Nat} {ks : List Tm} {T : TypeId} {fr : Nat × Nat} (h : w.heap[b]? = some (.cells ((ks.map Tm.cs).flatMap (·.toList)).toArray T fr)) (hk : ∀ u ∈ ks, TmOk w u) (hm : m = ks.length) (hl : m ≤ 9223372036854775807) :
    RowsAt w (.slice (some ⟨b, 0, none⟩) m m) 21 (ks.map Tm.cs) :=
  RowsAt.own (rows := ks.map Tm.cs) h (by intro r hr; obtain ⟨u, hu, rfl⟩ := List.mem_map.1 hr; exact (hk u hu).size) (by simpa using hm) (Nat.le_refl _) hl
section
variable {P : Program} {N : Nat} {ds : List Deferred} {L : List (Nat × Value)} {w : World} {ops : Array Oper} {Q : Exit → Act → World → Prop} {rest : List Oper} {d : Nat}
  {ty : TypeId} {pos : String} {aft : Array Edge} {x y z : Operand}
theorem At.partB {t : TypeId} {l : List UInt8} {lo hi : Nat} (hx : ev L x = some (.string (bs l))) (hy : ev L y = some (.int .i64 (lo : Int))) (hz : ev L z = some (.int .i64 (hi : Int))) (ht : strB P t = true) (hlh : lo ≤ hi) (hh : hi ≤ l.length) (hN : Nat.blt d N = true)
    (k : At N ds ((d, .string (bs ((l.drop lo).take (hi - lo)))) :: L) (wpList P ops Q rest) w) :
    At N ds L (wpList P ops Q (⟨some d, .slice t x (some y) (some z) none, ty, pos, aft, none⟩ :: rest)) w :=
  At.op rfl rfl hN (fun a ha => by
    have hu := underlying_str ht
    have := run_slice_string (P := P) w t (bs l) .i64 .i64 (lo : Int) (hi : Int) hu (by omega) (by omega) (by rw [bs_size]; omega)
    rw [Int.toNat_natCast, Int.toNat_natCast, bs_extract] at this
    simp only [execOp, ha.ev hx, ha.ev hy, ha.ev hz, Option.map_some, Option.map_none, run_sliceAt_string (P := P) w t _ _ _ _ hu, Sem.run_bind, this, Result.andThen_ok, Sem.run_pure]) k
end
end Go.Proofs.YtkclecfbjfdfkaaGreatDoor
