/-
  The words of a program that can be written are words; its text is theirs, and not too long where the program is not too large. Plain lemmas; no condition beyond those that stand in each statement.
-/
import Derived.Test.YtkclecfbjfdfkaaGreatDoorP6
import Derived.Test.YtkclecfbjfdfkaaGreatDoorL9
namespace Go.Proofs.YtkclecfbjfdfkaaGreatDoor
open Go.RowKit

-- ------------------------------------------------------------------ one word
/-- A text that is a word. -/
def WordOk (x : ByteArray) : Prop := ∃ t : Tk, Wd t ∧ textW t = byt x
theorem wd_mk {m : List UInt8} {k n : Int} (h : wordR m = ⟨⟨k, m, n, 0⟩, m.length, true⟩) (hk : k ≠ 6) (hh : ∀ u r, m = u :: r → blkB u = false ∧ u ≠ 35) (hne : m ≠ []) : Wd ⟨k, m, n, 0⟩ ∧ textW ⟨k, m, n, 0⟩ = m := by
  have ht : textW ⟨k, m, n, 0⟩ = m := by unfold textW; exact if_neg hk
  exact ⟨⟨by rw [ht]; exact hne, fun u r e => hh u r (ht ▸ e), by rw [ht, h]; rfl⟩, ht⟩
def headB : List UInt8 → Bool
  | [] => false
  | u :: _ => !blkB u && decide (u ≠ 35)
theorem head_b {m : List UInt8} (h : headB m = true) : (∀ u r, m = u :: r → blkB u = false ∧ u ≠ 35) ∧ m ≠ [] := by
  cases m with
  | nil => cases h
  | cons a b => simp only [headB, Bool.and_eq_true, Bool.not_eq_true', decide_eq_true_eq] at h; exact ⟨fun u r e => by cases e; exact h, by simp⟩
/-- Is a text read as itself? -/
def litB (x : ByteArray) : Bool := decide ((wordR (byt x)).tok.t = byt x) && (decide ((wordR (byt x)).tok.a = 0) && (decide ((wordR (byt x)).n = (byt x).length) && ((wordR (byt x)).ok && (decide ((wordR (byt x)).tok.k ≠ 6) && headB (byt x)))))
theorem lit {x : ByteArray} (h : litB x = true) : WordOk x := by
  simp only [litB, Bool.and_eq_true, decide_eq_true_eq] at h
  obtain ⟨h1, h2, h3, h4, h5, h6⟩ := h
  obtain ⟨h7, h8⟩ := head_b h6
  have := wd_mk (m := byt x) (k := (wordR (byt x)).tok.k) (n := (wordR (byt x)).tok.n) (by
    generalize wordR (byt x) = r at *
    obtain ⟨⟨a, b, c, d⟩, e, f⟩ := r
    simp only at h1 h2 h3 h4
    rw [h1, h2, h3, h4]) h5 h7 h8
  exact ⟨_, this⟩
-- ------------------------------------------------------------------ names
theorem nm_facts {k : Int} {s : ByteArray} (h : nmB k s = true) : ∃ t : Tk, Wd t ∧ t.k = k ∧ t.t = byt s := by
  unfold nmB noNm at h
  simp only [Bool.not_eq_true', Bool.or_eq_false_iff, Bool.not_eq_false', decide_eq_true_eq] at h
  obtain ⟨⟨⟨h1, h2⟩, h3⟩, h4⟩ := h
  have hl : lexW 0 (byt s) = .ok (lexT (byt s)) := by
    by_cases hb : 1048576 < (byt s).length
    · rw [(lex_big hb).2.2] at h1; exact absurd h1 (by decide)
    · cases hl : lexW 0 (byt s) with
      | ok ts => rw [(lex_ok hb hl).1]
      | bad p => rw [(lex_bad hb hl).2.2] at h1; exact absurd h1 (by decide)
  exact ⟨oneT s, lexW_wd _ _ (Nat.le_refl _) _ _ hl _ (List.mem_of_getElem? (oneT_at h2)), h3, h4⟩
theorem nm_word {k : Int} {s : ByteArray} (h : nmB k s = true) (hk : k ≠ 6) : WordOk s := by
  obtain ⟨t, h1, h2, h3⟩ := nm_facts h
  exact ⟨t, h1, by unfold textW; rw [if_neg (by rw [h2]; exact hk)]; exact h3⟩
theorem wordR_name {m : List UInt8} {k : Int} {t : List UInt8} {n : Int} {j : Nat} (h : wordR m = ⟨⟨k, t, n, 0⟩, j, true⟩) (hk : k = 2 ∨ k = 3) : ruleOf (m.getD 0 0) = .l ∧ nameR m = ⟨⟨k, t, n, 0⟩, j, true⟩ := by
  unfold wordR at h
  cases hr : ruleOf (m.getD 0 0) with
  | l => rw [hr] at h; exact ⟨rfl, h⟩
  | d =>
    rw [hr] at h
    exfalso
    have h : numR m = _ := h
    unfold numR at h
    cases hn : numGo 0 (digs m) with
    | none => rw [hn] at h; have := congrArg WR.ok h; simp at this
    | some v => rw [hn] at h; have := congrArg (fun r => r.tok.k) h; simp at this; omega
  | s =>
    rw [hr] at h
    exfalso
    have h : signR m = _ := h
    unfold signR at h
    cases hn : signsS.find? (preB m) with
    | none => rw [hn] at h; have := congrArg WR.ok h; simp at this
    | some v => rw [hn] at h; have := congrArg (fun r => r.tok.k) h; simp at this; omega
theorem name_len {m : List UInt8} {k : Int} {t : List UInt8} {n : Int} {j : Nat} (h : nameR m = ⟨⟨k, t, n, 0⟩, j, true⟩) : ¬ 60 < whileN nameB m ∧ t = nameT m := by
  unfold nameR at h
  split at h
  · have := congrArg WR.ok h; simp at this
  · refine ⟨by assumption, ?_⟩
    repeat' (split at h)
    all_goals (have := congrArg (fun r => r.tok.t) h; exact this.symm)
theorem nm_le {k : Int} {s : ByteArray} (h : nmB k s = true) (hk : k = 2 ∨ k = 3) : s.size ≤ 60 := by
  obtain ⟨t, h1, h2, h3⟩ := nm_facts h
  have hw := h1.word
  have ht : textW t = t.t := by unfold textW; exact if_neg (by rw [h2]; omega)
  have e : t.put 0 = ⟨k, t.t, t.n, 0⟩ := by unfold Tk.put; rw [h2]; rfl
  rw [e] at hw
  obtain ⟨h4, h5⟩ := wordR_name hw hk
  obtain ⟨h6, h7⟩ := name_len h5
  have hl : (nameT (textW t)).length = whileN nameB (textW t) := by unfold nameT; rw [List.length_take]; have := whileN_le nameB (textW t); omega
  have hb : (byt s).length = s.size := by cases s; simp [byt, ByteArray.size]
  rw [← hb, ← h3, h7]; omega
/-- A name with its mark: what is done. -/
theorem do_word {s : ByteArray} (h : nmB 2 s = true) : WordOk (s ++ (⟨#[33]⟩ : ByteArray)) := by
  obtain ⟨t, h1, h2, h3⟩ := nm_facts h
  have ht : textW t = byt s := by unfold textW; rw [if_neg (by rw [h2]; decide)]; exact h3
  have hw := h1.word
  have e : t.put 0 = ⟨2, byt s, t.n, 0⟩ := by unfold Tk.put; rw [h2, h3]; rfl
  rw [e, ht] at hw
  obtain ⟨h4, h5⟩ := wordR_name hw (.inl rfl)
  have hne : byt s ≠ [] := ht ▸ h1.ne
  have hb : byt (s ++ (⟨#[33]⟩ : ByteArray)) = byt s ++ [33] := by simp [byt]
  have hj : nameR (byt s) = ⟨⟨2, byt s, t.n, 0⟩, (byt s).length, true⟩ := h5
  have hx : ∀ u ∈ ([33] : List UInt8).head?, nameB u = false := fun u hu => by cases hu; decide
  have w1 : ¬ 60 < whileN nameB (byt s) := (name_len hj).1
  have w2 : nameT (byt s) = byt s := (name_len hj).2.symm
  have w3 : whileN nameB (byt s) = (byt s).length := by
    have hl : (nameT (byt s)).length = whileN nameB (byt s) := by unfold nameT; rw [List.length_take]; have := whileN_le nameB (byt s); omega
    rw [w2] at hl; exact hl.symm
  have w4 : ¬ largB ((byt s).getD 0 0) = true := fun hl => by
    unfold nameR at hj
    rw [if_neg w1, if_pos hl] at hj
    have := congrArg (fun r => r.tok.k) hj; simp at this
  have w5 : ¬ kwB (nameT (byt s)) = true := fun hl => by
    unfold nameR at hj
    rw [if_neg w1, if_neg w4, if_pos hl] at hj
    have := congrArg (fun r => r.tok.k) hj; simp at this
  have v1 : whileN nameB (byt s ++ [33]) = (byt s).length := by unfold whileN; rw [tw_stop hx]; exact w3
  have v2 : nameT (byt s ++ [33]) = byt s := by rw [nameT_eq, tw_stop hx, ← nameT_eq, w2]
  have v3 : (byt s ++ [33]).getD 0 0 = (byt s).getD 0 0 := by obtain ⟨c, r, hcr⟩ := List.exists_cons_of_ne_nil hne; rw [hcr]; rfl
  have v4 : (byt s).length < (byt s ++ [33]).length ∧ ((byt s ++ [33]).getD (byt s).length 0).toNat = 33 := by
    refine ⟨by simp, ?_⟩
    rw [List.getD_eq_getElem?_getD, List.getElem?_append_right (Nat.le_refl _), Nat.sub_self]; rfl
  have hr : wordR (byt s ++ [33]) = ⟨⟨6, byt s, 0, 0⟩, (byt s ++ [33]).length, true⟩ := by
    unfold wordR
    rw [v3, h4]
    show nameR (byt s ++ [33]) = _
    unfold nameR
    rw [v1, v2, v3, if_neg (by rw [← w3]; exact w1), if_neg w4, if_neg (by rw [← w2]; exact w5), if_pos v4]
    simp
  refine ⟨⟨6, byt s, 0, 0⟩, ⟨?_, ?_, ?_⟩, by rw [hb]; rfl⟩
  · show byt s ++ [33] ≠ []; simp
  · intro u r e
    have e : byt s ++ [33] = u :: r := e
    obtain ⟨c, q, hcr⟩ := List.exists_cons_of_ne_nil hne
    rw [hcr] at e
    cases e
    exact h1.head u q (by rw [ht, hcr])
  · exact hr
-- ------------------------------------------------------------------ numbers
def decVal (l : List UInt8) (a : Nat) : Nat := l.foldl (fun a c => 10 * a + (c.toNat - 48)) a
theorem decVal_cons (c : UInt8) (l : List UInt8) (a : Nat) : decVal (c :: l) a = decVal l (10 * a + (c.toNat - 48)) := by unfold decVal; rw [List.foldl_cons]
theorem decVal_ge : ∀ (l : List UInt8) (a : Nat), a ≤ decVal l a := by
  intro l
  induction l with
  | nil => intro a; exact Nat.le_refl _
  | cons c l ih => intro a; rw [decVal_cons]; exact Nat.le_trans (by omega) (ih _)
theorem numGo_val : ∀ (l : List UInt8) (a : Nat), decVal l a ≤ 9223372036854775807 → numGo a l = some (decVal l a) := by
  intro l
  induction l with
  | nil => intro a _; rfl
  | cons c l ih =>
    intro a h
    have h1 := decVal_ge l (10 * a + (c.toNat - 48))
    rw [decVal_cons] at h ⊢
    rw [numGo, if_neg (by omega), ih _ h]
theorem tw_every {p : UInt8 → Bool} : ∀ (l : List UInt8), (∀ c ∈ l, p c = true) → l.takeWhile p = l := by
  intro l
  induction l with
  | nil => intro _; rfl
  | cons c l ih => intro h; rw [List.takeWhile_cons, if_pos (h c List.mem_cons_self), ih fun d hd => h d (List.mem_cons_of_mem _ hd)]
theorem digit_not {c : UInt8} (h : digB c = true) : blkB c = false ∧ c ≠ 35 := by
  have : ∀ n : Fin 256, (!digB (UInt8.ofNat n.val) || (!blkB (UInt8.ofNat n.val) && UInt8.ofNat n.val != 35)) = true := by decide +kernel
  have := this ⟨c.toNat, c.toNat_lt⟩
  rw [show UInt8.ofNat (⟨c.toNat, c.toNat_lt⟩ : Fin 256).val = c from UInt8.ofNat_toNat, h] at this
  simpa using this
theorem digit_ok (d : Nat) (h : d < 10) : digB (UInt8.ofNat (48 + d)) = true ∧ (UInt8.ofNat (48 + d)).toNat = 48 + d := by
  have : ∀ n : Fin 10, digB (UInt8.ofNat (48 + n.val)) = true ∧ (UInt8.ofNat (48 + n.val)).toNat = 48 + n.val := by decide +kernel
  exact this ⟨d, h⟩
theorem dec_digits : ∀ (n u : Nat), u ≤ n → (∀ c ∈ Lib.decDigits u, digB c = true) ∧ decVal (Lib.decDigits u) 0 = u := by
  intro n
  induction n with
  | zero =>
    intro u hu
    have : u = 0 := by omega
    subst this
    rw [Lib.decDigits_one (by omega)]
    exact ⟨fun c hc => by rw [List.mem_singleton] at hc; rw [hc]; exact (digit_ok 0 (by omega)).1, by decide⟩
  | succ n ih =>
    intro u hu
    by_cases h : u < 10
    · rw [Lib.decDigits_one h]
      refine ⟨fun c hc => by rw [List.mem_singleton] at hc; rw [hc]; exact (digit_ok u h).1, ?_⟩
      rw [decVal_cons, (digit_ok u h).2]
      show 10 * 0 + (48 + u - 48) = u
      omega
    · obtain ⟨h1, h2⟩ := ih (u / 10) (by omega)
      have hm := digit_ok (u % 10) (by omega)
      rw [Lib.decDigits, dif_neg h]
      refine ⟨fun c hc => ?_, ?_⟩
      · rcases List.mem_append.1 hc with hc | hc
        · exact h1 c hc
        · rw [List.mem_singleton] at hc; rw [hc]; exact hm.1
      · unfold decVal at h2 ⊢
        rw [List.foldl_append, h2]
        simp only [List.foldl_cons, List.foldl_nil]
        rw [hm.2]; omega
theorem itoa_word {n : Int} (h0 : 0 ≤ n) (h1 : n ≤ 9223372036854775807) : WordOk (itoaW n) ∧ (itoaW n).size ≤ 21 := by
  obtain ⟨u, rfl⟩ := Int.eq_ofNat_of_zero_le h0
  have hu : byt (itoaW (u : Int)) = Lib.decDigits u := by
    unfold itoaW byt Lib.itoa
    rw [if_neg (by omega)]; simp
  obtain ⟨h2, h3⟩ := dec_digits u u (Nat.le_refl _)
  have hne : Lib.decDigits u ≠ [] := by
    intro e
    rw [Lib.decDigits] at e
    split at e <;> simp at e
  obtain ⟨c, r, hcr⟩ := List.exists_cons_of_ne_nil hne
  have hc : digB c = true := h2 c (by rw [hcr]; simp)
  have hr : wordR (Lib.decDigits u) = ⟨⟨1, Lib.decDigits u, (u : Int), 0⟩, (Lib.decDigits u).length, true⟩ := by
    have e : wordR (Lib.decDigits u) = numR (Lib.decDigits u) := by unfold wordR ruleOf; rw [hcr, List.getD_cons_zero, if_pos hc]; rfl
    have ht : digs (Lib.decDigits u) = Lib.decDigits u := by rw [digs_eq, tw_every _ h2]
    have hw : whileN digB (Lib.decDigits u) = (Lib.decDigits u).length := by unfold whileN; rw [tw_every _ h2]
    rw [e]
    unfold numR
    rw [ht, numGo_val _ _ (by rw [h3]; omega), hw, h3]
  have := wd_mk hr (by decide) (fun v q e => by rw [hcr] at e; cases e; exact digit_not hc) hne
  refine ⟨⟨_, this.1, by rw [hu]; exact this.2⟩, ?_⟩
  have hl := Lib.itoa_length_le (u : Int) (by omega) h1
  show (Lib.itoa (u : Int)).toArray.size ≤ _
  rw [List.size_toArray]; exact hl
-- ------------------------------------------------------------------ many words
def Wo (l : List ByteArray) : Prop := ∀ x ∈ l, WordOk x
theorem Wo.nil : Wo [] := fun _ h => by cases h
theorem Wo.app {a b : List ByteArray} (h : Wo a) (k : Wo b) : Wo (a ++ b) := fun x hx => (List.mem_append.1 hx).elim (h x) (k x)
theorem Wo.cons {a : ByteArray} {b : List ByteArray} (h : WordOk a) (k : Wo b) : Wo (a :: b) := fun x hx => by
  rcases List.mem_cons.1 hx with e | e
  · rw [e]; exact h
  · exact k x e
theorem Wo.lit {a : ByteArray} {b : List ByteArray} (h : litB a = true) (k : Wo b) : Wo (a :: b) := Wo.cons (Go.Proofs.YtkclecfbjfdfkaaGreatDoor.lit h) k
theorem Wo.bt {sep : ByteArray} {f : Nat → List ByteArray} (hs : litB sep = true) (hf : ∀ i, Wo (f i)) : ∀ n, Wo (btN sep f n) := by
  intro n
  induction n with
  | zero => exact Wo.nil
  | succ n ih => rw [btN]; refine ih.app (Wo.app ?_ (hf n)); split; exact Wo.lit hs Wo.nil; exact Wo.nil
theorem Wo.pt {ss : List ByteArray} {f : Nat → List ByteArray} (hf : ∀ i, Wo (f i)) : ∀ n, (∀ i, i < n → litB (ss.getD i E0) = true) → Wo (ptN ss f n) := by
  intro n
  induction n with
  | zero => intro _; exact Wo.nil
  | succ n ih => intro hs; rw [ptN]; exact (ih fun i hi => hs i (by omega)).app (Wo.lit (hs n (by omega)) (hf n))
theorem only0 {ss : List ByteArray} (h : litB (ss.getD 0 E0) = true) : ∀ i, i < 1 → litB (ss.getD i E0) = true := fun i hi => by
  have : i = 0 := by omega
  subst this
  exact h
theorem wo_ea {ks : List EA} (h : ∀ x ∈ ks, Wo x.e ∧ Wo x.a) : (∀ i, Wo (eK ks i)) ∧ ∀ i, Wo (aK ks i) := ⟨fun i => by
    rcases eK_cases ks i with ⟨x, h1, h2, _⟩ | ⟨h2, _⟩
    · rw [h2]; exact (h x (List.mem_of_getElem? h1)).1
    · rw [h2]; exact Wo.nil, fun i => by
    rcases eK_cases ks i with ⟨x, h1, _, h2⟩ | ⟨_, h2⟩
    · rw [h2]; exact (h x (List.mem_of_getElem? h1)).2
    · rw [h2]; exact Wo.nil⟩
theorem wo_getD {l : List (List ByteArray)} (h : ∀ x ∈ l, Wo x) (i : Nat) : Wo (l.getD i []) := by
  rw [List.getD_eq_getElem?_getD]
  cases e : l[i]? with
  | none => exact Wo.nil
  | some x => exact h x (List.mem_of_getElem? e)
theorem nodeA_w {k : Int} {nm pm : ByteArray} {n : Int} {ks : List EA} {az : List (List ByteArray)} (hn : k = 1 ∨ k = 5 ∨ k = 7 ∨ k = 8 ∨ k = 10 ∨ k = 11 ∨ k = 14 → WordOk nm) (hp : k = 8 → WordOk pm) (hd : k = 13 → WordOk (nm ++ (⟨#[33]⟩ : ByteArray))) (hi : k = 2 → WordOk (itoaW n)) (hk : ∀ x ∈ ks, Wo x.e ∧ Wo x.a) (ha : ∀ x ∈ az, Wo x) : Wo (nodeA k nm pm n ks az).e ∧ Wo (nodeA k nm pm n ks az).a := by
  obtain ⟨hke, hka⟩ := wo_ea hk
  have hz : Wo (armsW az) := by
    unfold armsW
    exact Wo.app (Wo.app (Wo.lit (by decide +kernel) Wo.nil) (Wo.bt (by decide +kernel) (wo_getD ha) _)) (Wo.lit (by decide +kernel) Wo.nil)
  have hS : ∀ s, nodeS k nm n ks = some s → Wo s := by
    intro s h
    unfold nodeS at h
    split at h
    · rename_i h1; cases h; exact Wo.cons (hn (.inl h1)) Wo.nil
    · split at h
      · rename_i h2; cases h; exact Wo.cons (hi h2) Wo.nil
      · split at h
        · cases h
          split
          · exact Wo.lit (by decide +kernel) Wo.nil
          · exact Wo.lit (by decide +kernel) Wo.nil
        · split at h
          · cases h; exact Wo.lit (by decide +kernel) (Wo.lit (by decide +kernel) Wo.nil)
          · split at h
            · cases h; exact Wo.lit (by decide +kernel) (Wo.lit (by decide +kernel) (Wo.lit (by decide +kernel) Wo.nil))
            · split at h
              · rename_i h6; cases h; exact Wo.app (Wo.app (Wo.cons (hn (by simp [h6])) (Wo.lit (by decide +kernel) Wo.nil)) (Wo.bt (by decide +kernel) hke _)) (Wo.lit (by decide +kernel) Wo.nil)
              · cases h
  have hE : ∀ s, Wo s → Wo (nodeE k nm pm ks az s) := by
    intro s hs
    unfold nodeE
    by_cases c0 : k = 5
    · rw [if_pos c0]
      exact Wo.app (Wo.lit (by decide +kernel) (Wo.cons (hn (by simp [c0])) Wo.nil)) (Wo.pt hke 1 (only0 (by decide +kernel)))
    rw [if_neg c0]
    by_cases c1 : k = 6
    · rw [if_pos c1]
      refine Wo.app ?_ (hka 1)
      by_cases hx : (ks.getD 0 zEA).k = 6
      · rw [if_pos hx]; exact hke 0
      · rw [if_neg hx]; exact hka 0
    rw [if_neg c1]
    have two : ∀ i, i < 2 → litB ((([(⟨#[61]⟩ : ByteArray), (⟨#[105, 110]⟩ : ByteArray)] : List ByteArray)).getD i E0) = true := fun i hi => by
      have : i = 0 ∨ i = 1 := by omega
      rcases this with rfl | rfl <;> decide +kernel
    by_cases c2 : k = 7
    · rw [if_pos c2]
      exact Wo.app (Wo.lit (by decide +kernel) (Wo.cons (hn (by simp [c2])) Wo.nil)) (Wo.pt hke 2 two)
    rw [if_neg c2]
    by_cases c3 : k = 8
    · rw [if_pos c3]
      exact Wo.app (Wo.lit (by decide +kernel) (Wo.cons (hn (by simp [c3])) (Wo.cons (hp c3) Wo.nil))) (Wo.pt hke 2 two)
    rw [if_neg c3]
    by_cases c4 : k = 9
    · rw [if_pos c4]
      exact Wo.pt hke 3 (fun i hi => by
        have : i = 0 ∨ i = 1 ∨ i = 2 := by omega
        rcases this with rfl | rfl | rfl <;> decide +kernel)
    rw [if_neg c4]
    by_cases c5 : k = 12
    · rw [if_pos c5]
      exact Wo.app (Wo.pt hke 1 (only0 (by decide +kernel))) hz
    rw [if_neg c5]
    by_cases c6 : k = 14
    · rw [if_pos c6]
      exact Wo.app (Wo.app (Wo.lit (by decide +kernel) (Wo.cons (hn (by simp [c6])) Wo.nil)) (hke 0)) hz
    rw [if_neg c6]
    by_cases c7 : k = 13
    · rw [if_pos c7]
      exact Wo.app (Wo.cons (hd c7) Wo.nil) (hka 0)
    rw [if_neg c7]
    by_cases c8 : k = 10
    · rw [if_pos c8]
      by_cases hx : ks.length = 2
      · rw [if_pos hx]; exact Wo.app (Wo.app (hka 0) (Wo.cons (hn (by simp [c8])) Wo.nil)) (hka 1)
      · rw [if_neg hx]
        by_cases hy : ks.length = 1
        · rw [if_pos hy]; exact Wo.app (Wo.cons (hn (by simp [c8])) Wo.nil) (hka 0)
        · rw [if_neg hy]; exact hs
    rw [if_neg c8]
    exact hs
  unfold nodeA
  cases h : nodeS k nm n ks with
  | some s => exact ⟨hE s (hS s h), hS s h⟩
  | none => exact ⟨hE [] Wo.nil, Wo.app (Wo.app (Wo.lit (by decide +kernel) Wo.nil) (hE [] Wo.nil)) (Wo.lit (by decide +kernel) Wo.nil)⟩
end Go.Proofs.YtkclecfbjfdfkaaGreatDoor
