/-
  A source, a line feed, and what comes behind: the words of both. Plain lemmas; no condition beyond those that stand in each statement.
-/
import Derived.Test.YtkjmjnddanhapaaN25
import Derived.Test.YtkjmjnddanhapaaN10
namespace Go.Proofs.Ytkjmjnddanhapaa
open Go.RowKit

/-- A byte that ends a word. -/
def Stp (u : UInt8) : Prop := blkB u = true ∨ u = 35
theorem stp_cases {u : UInt8} (h : Stp u) : u = 32 ∨ u = 9 ∨ u = 13 ∨ u = 10 ∨ u = 35 := by
  rcases h with h | h
  · rcases (blk_iff u).1 h with h | h | h | h <;> simp [h]
  · simp [h]
theorem stp_dig {u : UInt8} (h : Stp u) : digB u = false := by rcases stp_cases h with rfl | rfl | rfl | rfl | rfl <;> decide
theorem stp_name {u : UInt8} (h : Stp u) : nameB u = false := by rcases stp_cases h with rfl | rfl | rfl | rfl | rfl <;> decide
theorem stp_not {u : UInt8} (h : Stp u) : u ≠ 33 ∧ u ≠ 62 ∧ u ≠ 61 := by rcases stp_cases h with rfl | rfl | rfl | rfl | rfl <;> decide
/-- What lies behind a word: nothing, or a byte that ends it. -/
def Stop (x : List UInt8) : Prop := ∀ u ∈ x.head?, Stp u
theorem stop_cons {u : UInt8} {x : List UInt8} (h : Stp u) : Stop (u :: x) := fun v hv => by cases hv; exact h
theorem skS_nil_nl : ∀ (l : List UInt8) (c : Bool) (r : List UInt8), skS c l = [] → skS c (l ++ 10 :: r) = skS false r := by
  intro l
  induction l with
  | nil => intro c r _; cases c; rw [List.nil_append, skS, if_pos (by decide)]; rw [List.nil_append, skS, if_neg (by decide)]
  | cons u l ih =>
    intro c r h
    rw [List.cons_append]
    cases c with
    | false =>
      rw [skS] at h ⊢
      split at h
      · rw [if_pos (by assumption)]; exact ih _ _ h
      · split at h
        · rw [if_neg (by assumption), if_pos (by assumption)]; exact ih _ _ h
        · cases h
    | true =>
      rw [skS] at h ⊢
      split at h
      · rw [if_pos (by assumption)]; exact ih _ _ h
      · rw [if_neg (by assumption)]; exact ih _ _ h
theorem skS_app : ∀ (l : List UInt8) (c : Bool) (x : List UInt8), skS c l ≠ [] → skS c (l ++ x) = skS c l ++ x := by
  intro l
  induction l with
  | nil => intro c x h; exact absurd (by cases c <;> rfl) h
  | cons u l ih =>
    intro c x h
    rw [List.cons_append]
    cases c with
    | false =>
      rw [skS] at h
      rw [skS, skS]
      split
      · rw [if_pos (by assumption)] at h; exact ih _ _ h
      · rw [if_neg (by assumption)] at h
        split
        · rw [if_pos (by assumption)] at h; exact ih _ _ h
        · rfl
    | true =>
      rw [skS] at h
      rw [skS, skS]
      split
      · rw [if_pos (by assumption)] at h; exact ih _ _ h
      · rw [if_neg (by assumption)] at h; exact ih _ _ h
theorem skip_nl {l r : List UInt8} (h : skip l = []) : skip (l ++ 10 :: r) = skip r := by rw [skip_eq] at h; rw [skip_eq, skip_eq, skS_nil_nl _ _ _ h]
theorem skip_app {l x : List UInt8} (h : skip l ≠ []) : skip (l ++ x) = skip l ++ x := by rw [skip_eq] at h; rw [skip_eq, skip_eq, skS_app _ _ _ h]
theorem skip_blk {u : UInt8} {r : List UInt8} (h : blkB u = true) : skip (u :: r) = skip r := by rw [skip_eq, skip_eq, skS, if_pos h]
theorem tw_stop {p : UInt8 → Bool} {m x : List UInt8} (h : ∀ u ∈ x.head?, p u = false) : (m ++ x).takeWhile p = m.takeWhile p := by
  induction m with
  | nil =>
    cases x with
    | nil => rfl
    | cons u x => rw [List.nil_append, List.takeWhile_cons, if_neg (by rw [h u rfl]; decide)]; rfl
  | cons v m ih => rw [List.cons_append, List.takeWhile_cons, List.takeWhile_cons, ih]
theorem numR_stop {m x : List UInt8} (h : Stop x) : numR (m ++ x) = numR m := by
  have e : (m ++ x).takeWhile digB = m.takeWhile digB := tw_stop fun u hu => stp_dig (h u hu)
  unfold numR whileN
  rw [digs_eq, digs_eq, e]
theorem sign_len {y : ByteArray} (h : y ∈ signsS) : (∃ a, y.data.toList = [a]) ∨ ∃ a b, y.data.toList = [a, b] ∧ (b = 62 ∨ b = 61) := by
  simp only [signsS, List.mem_cons, List.not_mem_nil, or_false] at h
  rcases h with rfl | rfl | rfl | rfl | rfl | rfl | rfl | rfl | rfl | rfl | rfl | rfl | rfl | rfl | rfl | rfl
  · exact .inr ⟨45, 62, rfl, .inl rfl⟩
  · exact .inr ⟨58, 61, rfl, .inr rfl⟩
  all_goals exact .inl ⟨_, rfl⟩
theorem preB_stop {m x : List UInt8} {y : ByteArray} (hm : m ≠ []) (h : Stop x) (hy : y ∈ signsS) : preB (m ++ x) y = preB m y := by
  obtain ⟨c, r, rfl⟩ := List.exists_cons_of_ne_nil hm
  unfold preB Lib.hasPrefix
  rcases sign_len hy with ⟨a, e⟩ | ⟨a, b, e, hb⟩
  · rw [e]; simp [List.isPrefixOf]
  · rw [e]
    cases r with
    | cons c2 r => simp [List.isPrefixOf]
    | nil =>
      cases x with
      | nil => rfl
      | cons u x =>
        have := stp_not (h u rfl)
        have hbu : (b == u) = false := by rcases hb with rfl | rfl; simpa using fun e => this.2.1 e.symm; simpa using fun e => this.2.2 e.symm
        simp [List.isPrefixOf, hbu]
theorem find_cong {α : Type} {p q : α → Bool} {l : List α} (h : ∀ y ∈ l, p y = q y) : l.find? p = l.find? q := by
  induction l with
  | nil => rfl
  | cons a l ih => rw [List.find?_cons, List.find?_cons, h a List.mem_cons_self, ih fun y hy => h y (List.mem_cons_of_mem _ hy)]
theorem signR_stop {m x : List UInt8} (hm : m ≠ []) (h : Stop x) : signR (m ++ x) = signR m := by
  unfold signR
  rw [find_cong (q := preB m) fun y hy => preB_stop hm h hy]
theorem nameR_stop {m x : List UInt8} (hm : m ≠ []) (h : Stop x) : nameR (m ++ x) = nameR m := by
  have e : (m ++ x).takeWhile nameB = m.takeWhile nameB := tw_stop fun u hu => stp_name (h u hu)
  have ew : whileN nameB (m ++ x) = whileN nameB m := by unfold whileN; rw [e]
  have et : nameT (m ++ x) = nameT m := by rw [nameT_eq, nameT_eq, e]
  have e0 : (m ++ x).getD 0 0 = m.getD 0 0 := by obtain ⟨c, r, rfl⟩ := List.exists_cons_of_ne_nil hm; rfl
  have ec : (whileN nameB m < (m ++ x).length ∧ ((m ++ x).getD (whileN nameB m) 0).toNat = 33) ↔ (whileN nameB m < m.length ∧ (m.getD (whileN nameB m) 0).toNat = 33) := by
    have hle := whileN_le nameB m
    by_cases hlt : whileN nameB m < m.length
    · have : (m ++ x).getD (whileN nameB m) 0 = m.getD (whileN nameB m) 0 := by
        rw [List.getD_eq_getElem?_getD, List.getD_eq_getElem?_getD, List.getElem?_append_left hlt]
      rw [this]; simp [hlt]; omega
    · have he : whileN nameB m = m.length := by omega
      constructor
      · rintro ⟨_, h2⟩
        exfalso
        cases x with
        | nil => rw [he, List.append_nil, List.getD_eq_getElem?_getD, List.getElem?_eq_none (Nat.le_refl _)] at h2; exact absurd h2 (by decide)
        | cons u x =>
          have hu := (stp_not (h u rfl)).1
          rw [he, List.getD_eq_getElem?_getD, List.getElem?_append_right (Nat.le_refl _), Nat.sub_self] at h2
          exact hu (UInt8.toNat.inj (by simpa using h2))
      · rintro ⟨h1, _⟩; omega
  unfold nameR
  rw [ew, et, e0]
  simp only [ec]
theorem wordR_stop {m x : List UInt8} (hm : m ≠ []) (h : Stop x) : wordR (m ++ x) = wordR m := by
  have e0 : (m ++ x).getD 0 0 = m.getD 0 0 := by obtain ⟨c, r, rfl⟩ := List.exists_cons_of_ne_nil hm; rfl
  unfold wordR
  rw [e0]
  cases ruleOf (m.getD 0 0) with
  | d => exact numR_stop h
  | l => exact nameR_stop hm h
  | s => exact signR_stop hm h
def LR.andThen (x y : LR) : LR := match x with
  | .ok ts => LR.pre ts y
  | .bad p => .bad p
theorem LR.pre_andThen (ts : List Tk) (x y : LR) : LR.andThen (LR.pre ts x) y = LR.pre ts (LR.andThen x y) := by cases x <;> cases y <;> simp [LR.andThen, LR.pre]
theorem stop_nl (r : List UInt8) : Stop (10 :: r) := stop_cons (.inl (by decide))
/-- Words, a line feed, anything. -/
theorem lexW_nl : ∀ (n : Nat) (l : List UInt8), l.length ≤ n → ∀ (a : Nat) (r : List UInt8), lexW a (l ++ 10 :: r) = LR.andThen (lexW a l) (lexW (a + l.length + 1) r) := by
  intro n
  induction n with
  | zero =>
    intro l hl a r
    have : l = [] := List.length_eq_zero_iff.1 (by omega)
    subst this
    rw [lexW_end (show skip [] = [] from skip_zero rfl)]
    show lexW a (10 :: r) = LR.pre [] _
    have hs : skip (10 :: r) = skip r := skip_blk (by decide)
    have hle := skip_le _ r (Nat.le_refl _)
    rw [lexW_cong (a' := a + 1) hs (by rw [hs]; simp only [List.length_cons]; omega)]
    show _ = LR.pre [] (lexW (a + 0 + 1) r)
    cases lexW (a + 1) r <;> simp [LR.pre]
  | succ n ih =>
    intro l hl a r
    by_cases hs : skip l = []
    · have h1 := skip_nl (r := r) hs
      have hle := skip_le _ r (Nat.le_refl _)
      rw [lexW_end hs, lexW_cong (a' := a + l.length + 1) h1 (by rw [h1]; simp only [List.length_append, List.length_cons]; omega)]
      show _ = LR.pre [] _
      cases lexW (a + l.length + 1) r <;> simp [LR.pre]
    · have h1 : skip (l ++ 10 :: r) = skip l ++ 10 :: r := skip_app hs
      have hne : skip (l ++ 10 :: r) ≠ [] := by rw [h1]; simp
      have hw : wordR (skip l ++ 10 :: r) = wordR (skip l) := wordR_stop hs (stop_nl r)
      have hle := skip_le _ l (Nat.le_refl _)
      have hp : a + ((l ++ 10 :: r).length - (skip (l ++ 10 :: r)).length) = a + (l.length - (skip l).length) := by rw [h1]; simp only [List.length_append, List.length_cons]; omega
      cases hk : (wordR (skip l)).ok with
      | false =>
        rw [lexW_bad hs hk, lexW_bad hne (by rw [h1, hw]; exact hk), hp]; rfl
      | true =>
        have hwl := word_le hs hk
        rw [lexW_word hs hk, lexW_word hne (by rw [h1, hw]; exact hk), hp, h1, hw, LR.pre_andThen]
        rw [List.drop_append_of_le_length hwl.2, ih _ (by simp only [List.length_drop]; omega)]
        congr 3
        simp only [List.length_drop]; omega
def Tk.add (d : Nat) (t : Tk) : Tk := { t with a := t.a + (d : Int) }
def LR.add (d : Nat) : LR → LR
  | .ok ts => .ok (ts.map (Tk.add d))
  | .bad p => .bad (p + d)
theorem LR.pre_add (d : Nat) (ts : List Tk) (x : LR) : LR.add d (LR.pre ts x) = LR.pre (ts.map (Tk.add d)) (LR.add d x) := by cases x <;> simp [LR.add, LR.pre]
theorem put_add (t : Tk) (p d : Nat) : Tk.add d (t.put p) = t.put (p + d) := by unfold Tk.add Tk.put; simp
theorem lexW_add (d : Nat) : ∀ (n : Nat) (l : List UInt8), l.length ≤ n → ∀ a : Nat, lexW (a + d) l = LR.add d (lexW a l) := by
  intro n
  induction n with
  | zero =>
    intro l hl a
    have : l = [] := List.length_eq_zero_iff.1 (by omega)
    subst this
    rw [lexW_end (show skip [] = [] from skip_zero rfl), lexW_end (show skip [] = [] from skip_zero rfl)]; rfl
  | succ n ih =>
    intro l hl a
    by_cases hs : skip l = []
    · rw [lexW_end hs, lexW_end hs]; rfl
    · have hle := skip_le _ l (Nat.le_refl _)
      cases hk : (wordR (skip l)).ok with
      | false => rw [lexW_bad hs hk, lexW_bad hs hk]; show LR.bad _ = LR.bad _; congr 1; omega
      | true =>
        have hwl := word_le hs hk
        rw [lexW_word hs hk, lexW_word hs hk, LR.pre_add]
        rw [show a + d + (l.length - (skip l).length) + (wordR (skip l)).n = a + (l.length - (skip l).length) + (wordR (skip l)).n + d by omega, ih _ (by simp only [List.length_drop]; omega)]
        simp only [List.map_cons, List.map_nil, put_add]
        rw [show a + d + (l.length - (skip l).length) = a + (l.length - (skip l).length) + d by omega]
/-- The same word, wherever it stands. -/
def SmT (t u : Tk) : Prop := t.k = u.k ∧ t.t = u.t ∧ t.n = u.n
/-- Words, a line feed, and words. -/
theorem Lx.behind {l r : List UInt8} {ts : List Tk} {Q : List Tk → Prop} (hl : lexW 0 l = .ok ts) (h : Lx r Q) : Lx (l ++ 10 :: r) (fun us => ∃ d : Nat, ∃ x, us = ts.map (Tk.add d) ++ x ∧ Q x) := fun a => by
  have h1 := lexW_add a _ l (Nat.le_refl _) 0
  rw [Nat.zero_add, hl] at h1
  obtain ⟨x, h2, h3⟩ := h (a + l.length + 1)
  refine ⟨ts.map (Tk.add a) ++ x, ?_, a, x, rfl, h3⟩
  rw [lexW_nl _ l (Nat.le_refl _), h1, h2]; rfl
theorem lx_op {r : List UInt8} {Q : List Tk → Prop} (h : Lx r (fun ts => ∀ a, Q (⟨5, [40], 0, a⟩ :: ts))) : Lx (40 :: r) Q :=
  Lx.word (w := [40]) (k := 5) (n := 0) h (by kernel_rfl) (by decide) (by kernel_rfl)
theorem lx_cl {r : List UInt8} {Q : List Tk → Prop} (h : Lx r (fun ts => ∀ a, Q (⟨5, [41], 0, a⟩ :: ts))) : Lx (41 :: r) Q :=
  Lx.word (w := [41]) (k := 5) (n := 0) h (by kernel_rfl) (by decide) (by kernel_rfl)
/-- So many of one sign. -/
inductive Sg (b : UInt8) : Nat → List Tk → Prop
  | nil : Sg b 0 []
  | cons {n : Nat} {l : List Tk} (a : Int) (h : Sg b n l) : Sg b (n + 1) (⟨5, [b], 0, a⟩ :: l)
theorem lx_cls : ∀ n, Lx (List.replicate n 41) (Sg 41 n) := by
  intro n
  induction n with
  | zero => exact Lx.nil .nil
  | succ n ih => exact lx_cl (ih.mono fun ts h a => .cons a h)
theorem lx_ops {r : List UInt8} {Q : List Tk → Prop} : ∀ n, Lx r (fun ts => ∀ l, Sg 40 n l → Q (l ++ ts)) → Lx (List.replicate n 40 ++ r) Q := by
  intro n
  induction n generalizing Q with
  | zero => intro h; exact h.mono fun ts h => h [] .nil
  | succ n ih => intro h; exact lx_op (ih (h.mono fun ts h l hl a => h _ (.cons a hl)))
end Go.Proofs.Ytkjmjnddanhapaa
