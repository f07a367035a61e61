/-
  How many words a text has, and how long they are. Plain lemmas; no condition beyond those that stand in each statement.
-/
import Derived.Test.YtkclecfbjfdfkaaGreatDoorP4
import Derived.Lib.ItoaLen
namespace Go.Proofs.YtkclecfbjfdfkaaGreatDoor
open Go.RowKit

def mEA (x : EA) : Nat := max (x.e.length + 1) x.a.length
def sumM : List EA → Nat
  | [] => 0
  | x :: r => mEA x + sumM r
def sumB : List (List ByteArray) → Nat
  | [] => 0
  | x :: r => (x.length + 1) + sumB r
theorem sumM_take (ks : List EA) : ∀ n, sumM (ks.take n) ≤ sumM ks := by
  induction ks with
  | nil => intro n; simp [sumM]
  | cons x r ih => intro n; cases n with | zero => simp [sumM] | succ n => rw [List.take_succ_cons, sumM, sumM]; have := ih n; omega
theorem sumM_next {ks : List EA} {n : Nat} {x : EA} (h : ks[n]? = some x) : sumM (ks.take (n + 1)) = sumM (ks.take n) + mEA x := by
  induction ks generalizing n with
  | nil => cases h
  | cons y r ih =>
    cases n with
    | zero => cases h; simp [sumM]
    | succ n => rw [List.take_succ_cons, List.take_succ_cons, sumM, sumM, ih h]; omega
theorem sumB_take (l : List (List ByteArray)) : ∀ n, sumB (l.take n) ≤ sumB l := by
  induction l with
  | nil => intro n; simp [sumB]
  | cons x r ih => intro n; cases n with | zero => simp [sumB] | succ n => rw [List.take_succ_cons, sumB, sumB]; have := ih n; omega
theorem sumB_next {l : List (List ByteArray)} {n : Nat} {x : List ByteArray} (h : l[n]? = some x) : sumB (l.take (n + 1)) = sumB (l.take n) + (x.length + 1) := by
  induction l generalizing n with
  | nil => cases h
  | cons y r ih =>
    cases n with
    | zero => cases h; simp [sumB]
    | succ n => rw [List.take_succ_cons, List.take_succ_cons, sumB, sumB, ih h]; omega
theorem eK_cases (ks : List EA) (i : Nat) : (∃ x, ks[i]? = some x ∧ eK ks i = x.e ∧ aK ks i = x.a) ∨ (eK ks i = [] ∧ aK ks i = []) := by
  unfold eK aK
  cases h : ks[i]? with
  | none => exact .inr (by rw [List.getD_eq_getElem?_getD, h]; exact ⟨rfl, rfl⟩)
  | some x => exact .inl ⟨x, rfl, by rw [List.getD_eq_getElem?_getD, h]; exact ⟨rfl, rfl⟩⟩
theorem ptN_sum (ss : List ByteArray) (ks : List EA) : ∀ n, (ptN ss (eK ks) n).length ≤ n + sumM (ks.take n) := by
  intro n
  induction n with
  | zero => simp [ptN]
  | succ n ih =>
    rw [ptN]; simp only [List.length_append, List.length_cons]
    rcases eK_cases ks n with ⟨x, h1, h2, _⟩ | ⟨h2, _⟩
    · rw [sumM_next h1, h2]; unfold mEA; omega
    · rw [h2]
      have : sumM (ks.take n) ≤ sumM (ks.take (n + 1)) := by
        have := sumM_take (ks.take (n + 1)) n
        rw [List.take_take] at this
        rw [show min n (n + 1) = n by omega] at this; exact this
      simp; omega
theorem ptN_all (ss : List ByteArray) (ks : List EA) (n : Nat) : (ptN ss (eK ks) n).length ≤ n + sumM ks := by
  have := ptN_sum ss ks n
  have := sumM_take ks n
  omega
theorem btN_sum (sep : ByteArray) (ks : List EA) : ∀ n, n ≤ ks.length → (btN sep (eK ks) n).length ≤ sumM (ks.take n) := by
  intro n
  induction n with
  | zero => intro _; simp [btN]
  | succ n ih =>
    intro hn
    obtain ⟨x, hx⟩ := some_of_lt (l := ks) (i := n) (by omega)
    have := ih (by omega)
    rw [btN, sumM_next hx]
    have he : eK ks n = x.e := by unfold eK; rw [List.getD_eq_getElem?_getD, hx]; rfl
    rw [he]
    have hs : (if 0 < n then [sep] else ([] : List ByteArray)).length ≤ 1 := by split <;> simp
    simp only [List.length_append]; unfold mEA; omega
theorem btB_sum (sep : ByteArray) (l : List (List ByteArray)) : ∀ n, n ≤ l.length → (btN sep (fun i => l.getD i []) n).length ≤ sumB (l.take n) := by
  intro n
  induction n with
  | zero => intro _; simp [btN]
  | succ n ih =>
    intro hn
    obtain ⟨x, hx⟩ := some_of_lt (l := l) (i := n) (by omega)
    have := ih (by omega)
    rw [btN, sumB_next hx]
    have he : l.getD n [] = x := by rw [List.getD_eq_getElem?_getD, hx]; rfl
    have hs : (if 0 < n then [sep] else ([] : List ByteArray)).length ≤ 1 := by split <;> simp
    simp only [List.length_append, he]; omega
theorem arms_sum (l : List (List ByteArray)) : (armsW l).length ≤ 2 + sumB l := by
  have h1 := btB_sum (⟨#[59]⟩ : ByteArray) l l.length (Nat.le_refl _)
  have h2 := sumB_take l l.length
  unfold armsW
  simp only [List.length_append, List.length_cons, List.length_nil]; omega
theorem two_sum (ks : List EA) : (eK ks 0).length + (aK ks 1).length ≤ sumM ks ∧ (aK ks 0).length + (aK ks 1).length ≤ sumM ks ∧ (eK ks 0).length ≤ sumM ks := by
  cases ks with
  | nil => simp [eK, aK, zEA, sumM]
  | cons x r =>
    cases r with
    | nil => simp [eK, aK, zEA, sumM, mEA]; omega
    | cons y r => simp [eK, aK, sumM, mEA]; omega
theorem nodeS_len {k : Int} {nm : ByteArray} {n : Int} {ks : List EA} {s : List ByteArray} (h : nodeS k nm n ks = some s) : s.length ≤ 3 + sumM ks := by
  have hb := btN_sum (⟨#[44]⟩ : ByteArray) ks ks.length (Nat.le_refl _)
  have ht := sumM_take ks ks.length
  unfold nodeS at h
  repeat' (split at h)
  all_goals first | (cases h; done) | (cases h; simp only [List.length_append, List.length_cons, List.length_nil]; omega)
theorem nodeE_len (k : Int) (nm pm : ByteArray) (ks : List EA) (az : List (List ByteArray)) (s : List ByteArray) (hs : s.length ≤ 3 + sumM ks) : (nodeE k nm pm ks az s).length ≤ 5 + sumM ks + sumB az := by
  have hp := fun ss n => ptN_all ss ks n
  have ha := arms_sum az
  obtain ⟨h1, h2, h3⟩ := two_sum ks
  unfold nodeE
  repeat' split
  all_goals (try simp only [List.length_append, List.length_cons, List.length_nil])
  all_goals first
    | omega
    | (have := hp [(⟨#[45, 62]⟩ : ByteArray)] 1; omega)
    | (have := hp [(⟨#[61]⟩ : ByteArray), (⟨#[105, 110]⟩ : ByteArray)] 2; omega)
    | (have := hp [(⟨#[105, 102]⟩ : ByteArray), (⟨#[116, 104, 101, 110]⟩ : ByteArray), (⟨#[101, 108, 115, 101]⟩ : ByteArray)] 3; omega)
    | (have := hp [(⟨#[109, 97, 116, 99, 104]⟩ : ByteArray)] 1; omega)
theorem nodeA_len (k : Int) (nm pm : ByteArray) (n : Int) (ks : List EA) (az : List (List ByteArray)) : (nodeA k nm pm n ks az).e.length ≤ 5 + sumM ks + sumB az ∧ (nodeA k nm pm n ks az).a.length ≤ 7 + sumM ks + sumB az := by
  unfold nodeA
  cases h : nodeS k nm n ks with
  | some s =>
    have hs := nodeS_len h
    exact ⟨nodeE_len k nm pm ks az s hs, by show s.length ≤ _; omega⟩
  | none =>
    have := nodeE_len k nm pm ks az [] (by simp)
    exact ⟨this, by simp only [List.length_append, List.length_cons, List.length_nil]; omega⟩
mutual
theorem lenT : ∀ t : Tm, (eaT t).e.length + 3 ≤ 5 * wtT t ∧ (eaT t).a.length + 1 ≤ 5 * wtT t
  | .mk cs k at_ nm pm n kv av kids arms => by
    have h1 := lenL kids
    have h2 := lenA arms
    have h3 := nodeA_len k nm pm n (eaL kids) (eaA arms)
    rw [eaT, wtT]
    omega
theorem lenL : ∀ l : List Tm, sumM (eaL l) ≤ 5 * wtL l
  | [] => by simp [eaL, sumM]
  | u :: r => by
    have h1 := lenT u
    have h2 := lenL r
    rw [eaL, sumM, wtL]; unfold mEA; omega
theorem lenA : ∀ l : List Am, sumB (eaA l) ≤ 5 * wtA l
  | [] => by simp [eaA, sumB]
  | .mk cs nm vv vars body :: r => by
    have h1 := lenT body
    have h2 := lenA r
    rw [eaA, sumB, wtA]
    simp only [List.length_append, List.length_cons, List.length_nil]; omega
end
-- ------------------------------------------------------------------ none is too long
def Q (l : List ByteArray) : Prop := ∀ x ∈ l, x.size ≤ 4194306
theorem Q.nil : Q [] := fun _ h => by cases h
theorem Q.app {a b : List ByteArray} (h : Q a) (k : Q b) : Q (a ++ b) := fun x hx => (List.mem_append.1 hx).elim (h x) (k x)
theorem Q.cons {a : ByteArray} {b : List ByteArray} (h : a.size ≤ 4194306) (k : Q b) : Q (a :: b) := fun x hx => by
  rcases List.mem_cons.1 hx with e | e
  · rw [e]; exact h
  · exact k x e
theorem Q.bt {sep : ByteArray} {f : Nat → List ByteArray} (hs : sep.size ≤ 4194306) (hf : ∀ i, Q (f i)) : ∀ n, Q (btN sep f n) := by
  intro n
  induction n with
  | zero => exact Q.nil
  | succ n ih => rw [btN]; refine ih.app (Q.app ?_ (hf n)); split; exact Q.cons hs Q.nil; exact Q.nil
theorem Q.pt {ss : List ByteArray} {f : Nat → List ByteArray} (hs : ∀ i, (ss.getD i E0).size ≤ 4194306) (hf : ∀ i, Q (f i)) : ∀ n, Q (ptN ss f n) := by
  intro n
  induction n with
  | zero => exact Q.nil
  | succ n ih => rw [ptN]; exact ih.app (Q.cons (hs n) (hf n))
theorem getD_size {ss : List ByteArray} (h : ∀ x ∈ ss, x.size ≤ 4194306) (i : Nat) : (ss.getD i E0).size ≤ 4194306 := by
  rw [List.getD_eq_getElem?_getD]
  cases e : ss[i]? with
  | none => decide
  | some x => exact h x (List.mem_of_getElem? e)
structure QK (ks : List EA) : Prop where
  e : ∀ i, Q (eK ks i)
  a : ∀ i, Q (aK ks i)
theorem QK.of {ks : List EA} (h : ∀ x ∈ ks, Q x.e ∧ Q x.a) : QK ks := ⟨fun i => by
    rcases eK_cases ks i with ⟨x, h1, h2, _⟩ | ⟨h2, _⟩
    · rw [h2]; exact (h x (List.mem_of_getElem? h1)).1
    · rw [h2]; exact Q.nil, fun i => by
    rcases eK_cases ks i with ⟨x, h1, _, h2⟩ | ⟨_, h2⟩
    · rw [h2]; exact (h x (List.mem_of_getElem? h1)).2
    · rw [h2]; exact Q.nil⟩
theorem itoa_size {n : Int} (h0 : 0 ≤ n) (h1 : n ≤ 9223372036854775807) : (itoaW n).size ≤ 4194306 := by
  have := Lib.itoa_length_le n (by omega) h1
  show (Lib.itoa n).toArray.size ≤ _
  rw [List.size_toArray]; omega
theorem nodeA_q {k : Int} {nm pm : ByteArray} {n : Int} {ks : List EA} {az : List (List ByteArray)} (hn : nm.size ≤ 4194304) (hp : pm.size ≤ 4194304) (hi : k = 2 → (itoaW n).size ≤ 4194306) (hk : QK ks) (ha : ∀ x ∈ az, Q x) : Q (nodeA k nm pm n ks az).e ∧ Q (nodeA k nm pm n ks az).a := by
  have hn' : nm.size ≤ 4194306 := by omega
  have hp' : pm.size ≤ 4194306 := by omega
  have hz : Q (armsW az) := by
    unfold armsW
    refine Q.app (Q.app (Q.cons (by decide) Q.nil) (Q.bt (by decide) (fun i => ?_) _)) (Q.cons (by decide) Q.nil)
    rw [List.getD_eq_getElem?_getD]
    cases e : az[i]? with
    | none => exact Q.nil
    | some x => exact ha x (List.mem_of_getElem? e)
  have hS : ∀ s, nodeS k nm n ks = some s → Q s := by
    intro s h
    unfold nodeS at h
    split at h
    · cases h; exact Q.cons hn' Q.nil
    · split at h
      · rename_i h2; cases h; exact Q.cons (hi h2) Q.nil
      · split at h
        · cases h; refine Q.cons ?_ Q.nil; split <;> decide
        · split at h
          · cases h; exact Q.cons (by decide) (Q.cons (by decide) Q.nil)
          · split at h
            · cases h; exact Q.cons (by decide) (Q.cons (by decide) (Q.cons (by decide) Q.nil))
            · split at h
              · cases h; exact Q.app (Q.app (Q.cons hn' (Q.cons (by decide) Q.nil)) (Q.bt (by decide) hk.e _)) (Q.cons (by decide) Q.nil)
              · cases h
  have hE : ∀ s, Q s → Q (nodeE k nm pm ks az s) := by
    intro s hs
    have hb : (nm ++ (⟨#[33]⟩ : ByteArray)).size ≤ 4194306 := by rw [ByteArray.size_append]; show nm.size + 1 ≤ _; omega
    have hg : ∀ ss : List ByteArray, (∀ x ∈ ss, x.size ≤ 4194306) → ∀ n, Q (ptN ss (eK ks) n) := fun ss h n => Q.pt (getD_size h) hk.e n
    have l1 : ∀ a : ByteArray, a.size ≤ 4194306 → ∀ x ∈ [a], x.size ≤ 4194306 := fun a h x hx => by rw [List.mem_singleton] at hx; rw [hx]; exact h
    have l2 : ∀ a b : ByteArray, a.size ≤ 4194306 → b.size ≤ 4194306 → ∀ x ∈ [a, b], x.size ≤ 4194306 := fun a b h1 h2 x hx => by
      rcases List.mem_cons.1 hx with e | e
      · rw [e]; exact h1
      · exact l1 b h2 x e
    have l3 : ∀ a b c : ByteArray, a.size ≤ 4194306 → b.size ≤ 4194306 → c.size ≤ 4194306 → ∀ x ∈ [a, b, c], x.size ≤ 4194306 := fun a b c h1 h2 h3 x hx => by
      rcases List.mem_cons.1 hx with e | e
      · rw [e]; exact h1
      · exact l2 b c h2 h3 x e
    unfold nodeE
    by_cases c0 : k = 5
    · rw [if_pos c0]
      exact Q.app (Q.cons (by decide) (Q.cons hn' Q.nil)) (hg _ (l1 _ (by decide)) 1)
    rw [if_neg c0]
    by_cases c1 : k = 6
    · rw [if_pos c1]
      refine Q.app ?_ (hk.a 1)
      by_cases hx : (ks.getD 0 zEA).k = 6
      · rw [if_pos hx]; exact hk.e 0
      · rw [if_neg hx]; exact hk.a 0
    rw [if_neg c1]
    by_cases c2 : k = 7
    · rw [if_pos c2]
      exact Q.app (Q.cons (by decide) (Q.cons hn' Q.nil)) (hg _ (l2 _ _ (by decide) (by decide)) 2)
    rw [if_neg c2]
    by_cases c3 : k = 8
    · rw [if_pos c3]
      exact Q.app (Q.cons (by decide) (Q.cons hn' (Q.cons hp' Q.nil))) (hg _ (l2 _ _ (by decide) (by decide)) 2)
    rw [if_neg c3]
    by_cases c4 : k = 9
    · rw [if_pos c4]
      exact hg _ (l3 _ _ _ (by decide) (by decide) (by decide)) 3
    rw [if_neg c4]
    by_cases c5 : k = 12
    · rw [if_pos c5]
      exact Q.app (hg _ (l1 _ (by decide)) 1) hz
    rw [if_neg c5]
    by_cases c6 : k = 14
    · rw [if_pos c6]
      exact Q.app (Q.app (Q.cons (by decide) (Q.cons hn' Q.nil)) (hk.e 0)) hz
    rw [if_neg c6]
    by_cases c7 : k = 13
    · rw [if_pos c7]
      exact Q.app (Q.cons hb Q.nil) (hk.a 0)
    rw [if_neg c7]
    by_cases c8 : k = 10
    · rw [if_pos c8]
      by_cases hx : ks.length = 2
      · rw [if_pos hx]; exact Q.app (Q.app (hk.a 0) (Q.cons hn' Q.nil)) (hk.a 1)
      · rw [if_neg hx]
        by_cases hy : ks.length = 1
        · rw [if_pos hy]; exact Q.app (Q.cons hn' Q.nil) (hk.a 0)
        · rw [if_neg hy]; exact hs
    rw [if_neg c8]
    exact hs
  unfold nodeA
  cases h : nodeS k nm n ks with
  | some s => exact ⟨hE s (hS s h), hS s h⟩
  | none => exact ⟨hE [] Q.nil, Q.app (Q.app (Q.cons (by decide) Q.nil) (hE [] Q.nil)) (Q.cons (by decide) Q.nil)⟩
theorem words_q : ∀ (n : Nat) (t : Tm), wtT t = n → szT t → rightB t = true → Q (exprW t) ∧ Q (atomW t) := by
  intro n
  induction n using Nat.strongRecOn with
  | _ n ih =>
    intro t hn hz hr
    have hz' := (szT_eq t).1 hz
    have hf := right_f hr
    have hk : QK (eaL t.kids) := QK.of fun x hx => by
      rw [eaL_map] at hx
      obtain ⟨u, hu, rfl⟩ := List.mem_map.1 hx
      exact ih (wtT u) (by have := wt_kid hu; omega) u rfl (sz_kid hz hu) (right_kid hr hu)
    have ha : ∀ x ∈ eaA t.arms, Q x := fun x hx => by
      rw [eaA_map] at hx
      obtain ⟨a, ha, rfl⟩ := List.mem_map.1 hx
      have hs := sz_arm hz ha
      have hb := (ih (wtT a.body) (by have := wt_arm ha; omega) a.body rfl hs.2.2.2 (right_arm hr ha).2).1
      unfold armW
      exact Q.app (Q.app (Q.app (Q.cons (by omega) Q.nil) (fun x hx => by have := hs.2.2.1 x hx; omega)) (Q.cons (by decide) Q.nil)) hb
    have := nodeA_q (k := t.k) (n := t.n) hz'.1 hz'.2.1 (fun h2 => itoa_size (hf.n2 h2) hz'.2.2.2) hk ha
    unfold exprW atomW
    rw [eaT_eq]; exact this
theorem few_t {t : Tm} (hz : szT t) (hr : rightB t = true) (hw : wtT t ≤ 4194304) : FewW (exprW t) := by
  have h1 := (lenT t).1
  exact ⟨by show (eaT t).e.length ≤ _; omega, (words_q _ t rfl hz hr).1⟩
end Go.Proofs.YtkclecfbjfdfkaaGreatDoor
