/-
  Each word of a program that can be written is a word; how long its text is where the program is not too large; what Lex makes of it. Plain lemmas; no condition beyond those that stand in each statement.
-/
import Derived.Test.YtkclecfbjfdfkaaGreatDoorP10
namespace Go.Proofs.YtkclecfbjfdfkaaGreatDoor
open Go.RowKit

theorem has_name {k n : Int} {nm pm : ByteArray} {nk na : Nat} {kids name : Int} {param arms : Bool} (h : hasB k nm pm n nk na kids name param arms = true) (hn : name ≠ 0) : nmB name nm = true := by
  unfold hasB at h
  simp only [Bool.and_eq_true, Bool.not_eq_true', Bool.or_eq_false_iff, Bool.and_eq_false_iff, Bool.not_eq_false', decide_eq_true_eq, decide_eq_false_iff_not] at h
  rcases h.2.1.2 with h | h
  · exact absurd h hn
  · exact h
theorem has_param {k n : Int} {nm pm : ByteArray} {nk na : Nat} {kids name : Int} {arms : Bool} (h : hasB k nm pm n nk na kids name true arms = true) : nmB 2 pm = true := by
  unfold hasB at h
  simp only [Bool.and_eq_true, Bool.not_eq_true', Bool.or_eq_false_iff, Bool.and_eq_false_iff, Bool.not_eq_false'] at h
  have h := h.2.2.1.2
  simpa using h
theorem op_word {s : ByteArray} (h : kidsOf s ≠ -1) : WordOk s ∧ s.size ≤ 5 := by
  have hl : s = (⟨#[43]⟩ : ByteArray) ∨ s = (⟨#[45]⟩ : ByteArray) ∨ s = (⟨#[42]⟩ : ByteArray) ∨ s = (⟨#[47]⟩ : ByteArray) ∨ s = (⟨#[60]⟩ : ByteArray) ∨ s = (⟨#[61]⟩ : ByteArray) ∨ s = (⟨#[58, 61]⟩ : ByteArray) ∨ s = (⟨#[112, 114, 105, 110, 116]⟩ : ByteArray) ∨ s = (⟨#[114, 101, 102]⟩ : ByteArray) ∨ s = (⟨#[33]⟩ : ByteArray) ∨ s = (⟨#[114, 101, 97, 100]⟩ : ByteArray) := by
    unfold kidsOf at h
    cases h1 : memB s [(⟨#[43]⟩ : ByteArray), (⟨#[45]⟩ : ByteArray), (⟨#[42]⟩ : ByteArray), (⟨#[47]⟩ : ByteArray), (⟨#[60]⟩ : ByteArray), (⟨#[61]⟩ : ByteArray), (⟨#[58, 61]⟩ : ByteArray)] with
    | true => simp [memB] at h1; rcases h1 with h1 | h1 | h1 | h1 | h1 | h1 | h1 <;> simp [h1]
    | false =>
      rw [h1, cond_false] at h
      cases h2 : memB s [(⟨#[112, 114, 105, 110, 116]⟩ : ByteArray), (⟨#[114, 101, 102]⟩ : ByteArray), (⟨#[33]⟩ : ByteArray)] with
      | true => simp [memB] at h2; rcases h2 with h2 | h2 | h2 <;> simp [h2]
      | false =>
        rw [h2, cond_false] at h
        by_cases h3 : s = (⟨#[114, 101, 97, 100]⟩ : ByteArray)
        · simp [h3]
        · rw [decide_eq_false h3, cond_false] at h
          exact absurd rfl h
  rcases hl with rfl | rfl | rfl | rfl | rfl | rfl | rfl | rfl | rfl | rfl | rfl <;> exact ⟨lit (by decide +kernel), by decide⟩
structure RightN (t : Tm) : Prop where
  n2 : t.k = 1 ∨ t.k = 5 ∨ t.k = 7 ∨ t.k = 8 ∨ t.k = 13 → nmB 2 t.nm = true
  n3 : t.k = 11 ∨ t.k = 14 → nmB 3 t.nm = true
  p8 : t.k = 8 → nmB 2 t.pm = true
  a12 : t.k = 12 → ∀ a ∈ t.arms, nmB 3 a.nm = true
  a14 : t.k = 14 → ∀ a ∈ t.arms, a.nm = (⟨#[114, 101, 116, 117, 114, 110]⟩ : ByteArray) ∨ nmB 2 a.nm = true
theorem hd_from : ∀ (l : List Am) (i : Nat), hdFrom i l = true → ∀ a ∈ l, a.nm = (⟨#[114, 101, 116, 117, 114, 110]⟩ : ByteArray) ∨ nmB 2 a.nm = true := by
  intro l
  induction l with
  | nil => intro i _ a ha; cases ha
  | cons b l ih =>
    intro i h a ha
    rw [hdFrom] at h
    simp only [Bool.and_eq_true, Bool.not_eq_true'] at h
    rcases List.mem_cons.1 ha with rfl | ha
    · have h := h.1
      unfold hdNo at h
      simp only [Bool.or_eq_false_iff, Bool.and_eq_false_iff, decide_eq_false_iff_not, Bool.not_eq_false', decide_eq_true_eq] at h
      rcases h.1 with h1 | h1
      · rcases h.2 with h2 | h2
        · omega
        · exact .inr h2.1
      · exact .inl h1.1
    · exact ih (i + 1) h.2 a ha
theorem right_n {t : Tm} (h : rightB t = true) : RightN t := by
  rw [rightB_eq] at h
  simp only [Bool.and_eq_true] at h
  have h := h.1.1
  refine ⟨fun e => ?_, fun e => ?_, fun e => ?_, fun e => ?_, fun e => ?_⟩
  · rcases e with e | e | e | e | e <;> simp [aloneB, e] at h <;> exact has_name h (by decide)
  · rcases e with e | e <;> simp [aloneB, e] at h
    · exact has_name h (by decide)
    · exact has_name h.1.1 (by decide)
  · simp [aloneB, e] at h; exact has_param h
  · simp [aloneB, e] at h; exact h.2
  · simp [aloneB, e] at h; exact hd_from _ 0 h.2
theorem vars_n {l : List ByteArray} (h : nmsB 2 l = true) : ∀ s ∈ l, nmB 2 s = true := fun s hs => by
  unfold nmsB at h
  simp only [Bool.not_eq_true', List.any_eq_false, Bool.not_eq_true] at h
  unfold nmB
  rw [h s hs]; rfl
theorem words_w : ∀ (n : Nat) (t : Tm), wtT t = n → szT t → rightB t = true → Wo (exprW t) ∧ Wo (atomW t) := by
  intro n
  induction n using Nat.strongRecOn with
  | _ n ih =>
    intro t hn hz hr
    have hz' := (szT_eq t).1 hz
    have hf := right_f hr
    have hN := right_n hr
    have hlo := hf.lo
    have hhi := hf.hi
    have hk : ∀ x ∈ eaL t.kids, Wo x.e ∧ Wo x.a := fun x hx => by
      rw [eaL_map] at hx
      obtain ⟨u, hu, rfl⟩ := List.mem_map.1 hx
      exact ih (wtT u) (by have := wt_kid hu; omega) u rfl (sz_kid hz hu) (right_kid hr hu)
    have hA : ∀ a ∈ t.arms, WordOk a.nm := fun a ha => by
      by_cases e12 : t.k = 12
      · exact nm_word (hN.a12 e12 a ha) (by decide)
      by_cases e14 : t.k = 14
      · rcases hN.a14 e14 a ha with e | e
        · rw [e]; exact lit (by decide +kernel)
        · exact nm_word e (by decide)
      exfalso
      have hno : t.arms.length = 0 := by
        have hq := hr
        rw [rightB_eq] at hq
        simp only [Bool.and_eq_true] at hq
        have hq := hq.1.1
        have key : ∀ {nm : ByteArray} {kids name : Int} {param : Bool}, hasT t nm kids name param false = true → t.arms.length = 0 := fun {nm kids name param} h => by
          unfold hasT hasB at h
          simp only [Bool.and_eq_true, Bool.not_eq_true', Bool.or_eq_false_iff, Bool.not_eq_false', decide_eq_true_eq, Bool.not_false, Bool.and_true, decide_eq_false_iff_not] at h
          omega
        have hs : t.k = 1 ∨ t.k = 2 ∨ t.k = 3 ∨ t.k = 4 ∨ t.k = 5 ∨ t.k = 6 ∨ t.k = 7 ∨ t.k = 8 ∨ t.k = 9 ∨ t.k = 10 ∨ t.k = 11 ∨ t.k = 13 := by omega
        rcases hs with e | e | e | e | e | e | e | e | e | e | e | e <;> simp [aloneB, e] at hq
        all_goals first | exact key hq | exact key hq.1
      rw [List.length_eq_zero_iff.1 hno] at ha; cases ha
    have ha : ∀ x ∈ eaA t.arms, Wo x := fun x hx => by
      rw [eaA_map] at hx
      obtain ⟨a, ha, rfl⟩ := List.mem_map.1 hx
      have hs := sz_arm hz ha
      have hb := (ih (wtT a.body) (by have := wt_arm ha; omega) a.body rfl hs.2.2.2 (right_arm hr ha).2).1
      unfold armW
      exact Wo.app (Wo.app (Wo.app (Wo.cons (hA a ha) Wo.nil) (fun x hx => nm_word (vars_n (right_arm hr ha).1 x hx) (by decide))) (Wo.lit (by decide +kernel) Wo.nil)) hb
    have := nodeA_w (k := t.k) (nm := t.nm) (pm := t.pm) (n := t.n) (ks := eaL t.kids) (az := eaA t.arms) (fun e => by
      rcases e with e | e | e | e | e | e | e
      · exact nm_word (hN.n2 (by simp [e])) (by decide)
      · exact nm_word (hN.n2 (by simp [e])) (by decide)
      · exact nm_word (hN.n2 (by simp [e])) (by decide)
      · exact nm_word (hN.n2 (by simp [e])) (by decide)
      · exact (op_word (by have := hf.k10 e; omega)).1
      · exact nm_word (hN.n3 (by simp [e])) (by decide)
      · exact nm_word (hN.n3 (by simp [e])) (by decide)) (fun e => nm_word (hN.p8 e) (by decide)) (fun e => do_word (hN.n2 (by simp [e]))) (fun e => (itoa_word (hf.n2 e) hz'.2.2.2).1) hk ha
    unfold exprW atomW
    rw [eaT_eq]; exact this
-- ------------------------------------------------------------------ how long
/-- How long words are with a blank behind each. -/
def wl : List ByteArray → Nat
  | [] => 0
  | x :: r => x.size + 1 + wl r
theorem wl_app (a b : List ByteArray) : wl (a ++ b) = wl a + wl b := by
  induction a with
  | nil => simp [wl]
  | cons x r ih => rw [List.cons_append, wl, wl, ih]; omega
theorem wl_len (a : List ByteArray) : a.length ≤ wl a := by
  induction a with
  | nil => simp
  | cons x r ih => rw [wl]; simp only [List.length_cons]; omega
theorem wl_mem {l : List ByteArray} {x : ByteArray} (h : x ∈ l) : x.size + 1 ≤ wl l := by
  induction l with
  | nil => cases h
  | cons y r ih =>
    rw [wl]
    rcases List.mem_cons.1 h with rfl | h
    · omega
    · have := ih h; omega
theorem wl_all {l : List ByteArray} {c : Nat} (h : ∀ x ∈ l, x.size ≤ c) : wl l ≤ l.length * (c + 1) := by
  induction l with
  | nil => simp [wl]
  | cons y r ih =>
    have h1 := h y List.mem_cons_self
    have h2 := ih fun x hx => h x (List.mem_cons_of_mem _ hx)
    rw [wl, List.length_cons, Nat.add_mul]; omega
theorem join_wl : ∀ (ws : List ByteArray), (joinL ws).length ≤ wl ws := by
  intro ws
  induction ws with
  | nil => simp [join_nil]
  | cons x r ih =>
    have hx : (byt x).length = x.size := by cases x; simp [byt, ByteArray.size]
    cases r with
    | nil => rw [join_one, hx]; simp [wl]
    | cons y r => rw [join_cons, List.length_append, List.length_cons, hx, wl]; omega
def mL (x : EA) : Nat := max (wl x.e) (wl x.a)
def sumL : List EA → Nat
  | [] => 0
  | x :: r => mL x + sumL r
def sumR : List (List ByteArray) → Nat
  | [] => 0
  | x :: r => (wl x + 2) + sumR r
theorem sumL_next {ks : List EA} {n : Nat} {x : EA} (h : ks[n]? = some x) : sumL (ks.take (n + 1)) = sumL (ks.take n) + mL x := by
  induction ks generalizing n with
  | nil => cases h
  | cons y r ih =>
    cases n with
    | zero => cases h; simp [sumL]
    | succ n => rw [List.take_succ_cons, List.take_succ_cons, sumL, sumL, ih h]; omega
theorem sumR_next {l : List (List ByteArray)} {n : Nat} {x : List ByteArray} (h : l[n]? = some x) : sumR (l.take (n + 1)) = sumR (l.take n) + (wl x + 2) := by
  induction l generalizing n with
  | nil => cases h
  | cons y r ih =>
    cases n with
    | zero => cases h; simp [sumR]
    | succ n => rw [List.take_succ_cons, List.take_succ_cons, sumR, sumR, ih h]; omega
theorem bt_kids {sep : ByteArray} (hs : sep.size ≤ 1) (ks : List EA) : ∀ n, n ≤ ks.length → wl (btN sep (eK ks) n) ≤ sumL (ks.take n) + 2 * n := by
  intro n
  induction n with
  | zero => intro _; simp [btN, wl]
  | succ n ih =>
    intro hn
    obtain ⟨x, hx⟩ := some_of_lt (l := ks) (i := n) (by omega)
    have := ih (by omega)
    have he : eK ks n = x.e := by unfold eK; rw [List.getD_eq_getElem?_getD, hx]; rfl
    have hq : wl (if 0 < n then [sep] else ([] : List ByteArray)) ≤ 2 := by split <;> simp [wl]; omega
    rw [btN, sumL_next hx, he, wl_app, wl_app]; unfold mL; omega
theorem bt_rows {sep : ByteArray} (hs : sep.size ≤ 1) (l : List (List ByteArray)) : ∀ n, n ≤ l.length → wl (btN sep (fun i => l.getD i []) n) ≤ sumR (l.take n) := by
  intro n
  induction n with
  | zero => intro _; simp [btN, wl]
  | succ n ih =>
    intro hn
    obtain ⟨x, hx⟩ := some_of_lt (l := l) (i := n) (by omega)
    have := ih (by omega)
    have he : l.getD n [] = x := by rw [List.getD_eq_getElem?_getD, hx]; rfl
    have hq : wl (if 0 < n then [sep] else ([] : List ByteArray)) ≤ 2 := by split <;> simp [wl]; omega
    rw [btN, sumR_next hx, he, wl_app, wl_app]; omega
theorem three_sum (ks : List EA) : wl (eK ks 0) + wl (aK ks 1) ≤ sumL ks ∧ wl (aK ks 0) + wl (aK ks 1) ≤ sumL ks ∧ wl (eK ks 0) + (wl (eK ks 1) + wl (eK ks 2)) ≤ sumL ks := by
  cases ks with
  | nil => simp [eK, aK, zEA, sumL, wl]
  | cons x r =>
    cases r with
    | nil => simp [eK, aK, zEA, sumL, mL, wl]; omega
    | cons y r =>
      cases r with
      | nil => simp [eK, aK, zEA, sumL, mL, wl]; omega
      | cons z r => simp [eK, aK, sumL, mL]; omega
theorem arms_wl (az : List (List ByteArray)) : wl (armsW az) ≤ 4 + sumR az := by
  have h := bt_rows (sep := (⟨#[59]⟩ : ByteArray)) (by decide) az az.length (Nat.le_refl _)
  rw [List.take_length] at h
  have e1 : ((⟨#[123]⟩ : ByteArray)).size = 1 := rfl
  have e2 : ((⟨#[125]⟩ : ByteArray)).size = 1 := rfl
  unfold armsW
  simp only [wl_app, wl, e1, e2]; omega
theorem nodeS_wl {k : Int} {nm : ByteArray} {n : Int} {ks : List EA} {s : List ByteArray} (hn : nm.size ≤ 60) (hi : k = 2 → (itoaW n).size ≤ 21) (h : nodeS k nm n ks = some s) : wl s ≤ 65 + (sumL ks + 2 * ks.length) := by
  have hb := bt_kids (sep := (⟨#[44]⟩ : ByteArray)) (by decide) ks ks.length (Nat.le_refl _)
  rw [List.take_length] at hb
  have e1 : ((⟨#[40]⟩ : ByteArray)).size = 1 := rfl
  have e2 : ((⟨#[41]⟩ : ByteArray)).size = 1 := rfl
  have e3 : ((⟨#[114, 101, 97, 100]⟩ : ByteArray)).size = 4 := rfl
  have e4 : ((⟨#[102, 97, 108, 115, 101]⟩ : ByteArray)).size = 5 := rfl
  have e5 : ((⟨#[116, 114, 117, 101]⟩ : ByteArray)).size = 4 := rfl
  unfold nodeS at h
  split at h
  · cases h; simp only [wl]; omega
  · split at h
    · rename_i h2; cases h; have := hi h2; simp only [wl]; omega
    · split at h
      · cases h
        split <;> simp only [wl, e4, e5] <;> omega
      · split at h
        · cases h; simp only [wl, e1, e2]; omega
        · split at h
          · cases h; simp only [wl, e1, e2, e3]; omega
          · split at h
            · cases h; simp only [wl_app, wl, e1, e2]; omega
            · cases h
theorem nodeE_wl (k : Int) (nm pm : ByteArray) (ks : List EA) (az : List (List ByteArray)) (s : List ByteArray) (hn : nm.size ≤ 60) (hp : pm.size ≤ 60) (hs : wl s ≤ 140 + (sumL ks + 2 * ks.length) + sumR az) : wl (nodeE k nm pm ks az s) ≤ 140 + (sumL ks + 2 * ks.length) + sumR az := by
  have ha := arms_wl az
  obtain ⟨h1, h2, h3⟩ := three_sum ks
  have d1 : ((⟨#[102, 117, 110]⟩ : ByteArray)).size = 3 := rfl
  have d2 : ((⟨#[45, 62]⟩ : ByteArray)).size = 2 := rfl
  have d3 : ((⟨#[108, 101, 116]⟩ : ByteArray)).size = 3 := rfl
  have d4 : ((⟨#[61]⟩ : ByteArray)).size = 1 := rfl
  have d5 : ((⟨#[105, 110]⟩ : ByteArray)).size = 2 := rfl
  have d6 : ((⟨#[114, 101, 99]⟩ : ByteArray)).size = 3 := rfl
  have d7 : ((⟨#[105, 102]⟩ : ByteArray)).size = 2 := rfl
  have d8 : ((⟨#[116, 104, 101, 110]⟩ : ByteArray)).size = 4 := rfl
  have d9 : ((⟨#[101, 108, 115, 101]⟩ : ByteArray)).size = 4 := rfl
  have d10 : ((⟨#[109, 97, 116, 99, 104]⟩ : ByteArray)).size = 5 := rfl
  have d11 : ((⟨#[104, 97, 110, 100, 108, 101]⟩ : ByteArray)).size = 6 := rfl
  have d12 : (nm ++ (⟨#[33]⟩ : ByteArray)).size = nm.size + 1 := by rw [ByteArray.size_append]; rfl
  unfold nodeE
  by_cases c0 : k = 5
  · rw [if_pos c0]; simp only [ptN, wl_app, wl, List.nil_append, List.getD_cons_zero, d1, d2]; omega
  rw [if_neg c0]
  by_cases c1 : k = 6
  · rw [if_pos c1]
    by_cases hx : (ks.getD 0 zEA).k = 6
    · rw [if_pos hx, wl_app]; omega
    · rw [if_neg hx, wl_app]; omega
  rw [if_neg c1]
  by_cases c2 : k = 7
  · rw [if_pos c2]; simp only [ptN, wl_app, wl, List.nil_append, List.getD_cons_zero, List.getD_cons_succ, d3, d4, d5]; omega
  rw [if_neg c2]
  by_cases c3 : k = 8
  · rw [if_pos c3]; simp only [ptN, wl_app, wl, List.nil_append, List.getD_cons_zero, List.getD_cons_succ, d4, d5, d6]; omega
  rw [if_neg c3]
  by_cases c4 : k = 9
  · rw [if_pos c4]; simp only [ptN, wl_app, wl, List.nil_append, List.getD_cons_zero, List.getD_cons_succ, d7, d8, d9]; omega
  rw [if_neg c4]
  by_cases c5 : k = 12
  · rw [if_pos c5]; simp only [ptN, wl_app, wl, List.nil_append, List.getD_cons_zero, d10]; omega
  rw [if_neg c5]
  by_cases c6 : k = 14
  · rw [if_pos c6]; simp only [wl_app, wl, d11]; omega
  rw [if_neg c6]
  by_cases c7 : k = 13
  · rw [if_pos c7]; simp only [wl_app, wl, d12]; omega
  rw [if_neg c7]
  by_cases c8 : k = 10
  · rw [if_pos c8]
    by_cases hx : ks.length = 2
    · rw [if_pos hx]; simp only [wl_app, wl]; omega
    · rw [if_neg hx]
      by_cases hy : ks.length = 1
      · rw [if_pos hy]; simp only [wl_app, wl]; omega
      · rw [if_neg hy]; exact hs
  rw [if_neg c8]; exact hs
theorem nodeA_wl {k : Int} {nm pm : ByteArray} {n : Int} {ks : List EA} {az : List (List ByteArray)} (hn : nm.size ≤ 60) (hp : pm.size ≤ 60) (hi : k = 2 → (itoaW n).size ≤ 21) : wl (nodeA k nm pm n ks az).e ≤ 140 + (sumL ks + 2 * ks.length) + sumR az ∧ wl (nodeA k nm pm n ks az).a ≤ 144 + (sumL ks + 2 * ks.length) + sumR az := by
  have e1 : ((⟨#[40]⟩ : ByteArray)).size = 1 := rfl
  have e2 : ((⟨#[41]⟩ : ByteArray)).size = 1 := rfl
  unfold nodeA
  cases h : nodeS k nm n ks with
  | some s =>
    have hs := nodeS_wl hn hi h
    exact ⟨nodeE_wl k nm pm ks az s hn hp (by omega), by show wl s ≤ _; omega⟩
  | none =>
    have := nodeE_wl k nm pm ks az [] hn hp (by simp [wl])
    refine ⟨this, ?_⟩
    simp only [wl_app, wl, e1, e2]; omega
mutual
/-- How many terms, and names of arms. -/
def cntT : Tm → Nat
  | .mk _ _ _ _ _ _ _ _ kids arms => 1 + cntL kids + cntA arms
def cntL : List Tm → Nat
  | [] => 0
  | u :: r => cntT u + cntL r
def cntA : List Am → Nat
  | [] => 0
  | .mk _ _ _ vars body :: r => vars.length + cntT body + cntA r
end
theorem cntT_eq (t : Tm) : cntT t = 1 + cntL t.kids + cntA t.arms := by cases t; rw [cntT]; rfl
mutual
/-- Are the names small? -/
def smT : Tm → Prop
  | .mk _ k _ nm pm n _ _ kids arms => nm.size ≤ 60 ∧ pm.size ≤ 60 ∧ (k = 2 → (itoaW n).size ≤ 21) ∧ smL kids ∧ smA arms
def smL : List Tm → Prop
  | [] => True
  | u :: r => smT u ∧ smL r
def smA : List Am → Prop
  | [] => True
  | .mk _ nm _ vars body :: r => (nm.size ≤ 60 ∧ (∀ s ∈ vars, s.size ≤ 60) ∧ smT body) ∧ smA r
end
mutual
theorem wlT : ∀ t : Tm, smT t → wl (eaT t).e + 70 ≤ 220 * cntT t ∧ wl (eaT t).a + 66 ≤ 220 * cntT t
  | .mk cs k at_ nm pm n kv av kids arms, h => by
    rw [smT] at h
    have h1 := wlL kids h.2.2.2.1
    have h2 := wlA arms h.2.2.2.2
    have h3 := nodeA_wl (k := k) (n := n) (ks := eaL kids) (az := eaA arms) h.1 h.2.1 h.2.2.1
    rw [eaT, cntT]
    omega
theorem wlL : ∀ l : List Tm, smL l → sumL (eaL l) + 66 * (eaL l).length ≤ 220 * cntL l
  | [], _ => by simp [eaL, sumL]
  | u :: r, h => by
    rw [smL] at h
    have h1 := wlT u h.1
    have h2 := wlL r h.2
    rw [eaL, sumL, cntL, List.length_cons]; unfold mL; omega
theorem wlA : ∀ l : List Am, smA l → sumR (eaA l) ≤ 220 * cntA l
  | [], _ => by simp [eaA, sumR]
  | .mk cs nm vv vars body :: r, h => by
    rw [smA] at h
    have h1 := wlT body h.1.2.2
    have h2 := wlA r h.2
    have h3 := wl_all h.1.2.1
    have h4 := h.1.1
    have e1 : ((⟨#[45, 62]⟩ : ByteArray)).size = 2 := rfl
    rw [eaA, sumR, cntA]
    simp only [wl_app, wl, e1]; omega
end
theorem smT_eq (t : Tm) : smT t ↔ t.nm.size ≤ 60 ∧ t.pm.size ≤ 60 ∧ (t.k = 2 → (itoaW t.n).size ≤ 21) ∧ smL t.kids ∧ smA t.arms := by cases t; rw [smT]; exact Iff.rfl
end Go.Proofs.YtkclecfbjfdfkaaGreatDoor
