/-
  What comes behind a word does not matter to it; what lies between words. Plain lemmas; no condition beyond those that stand in each statement.
-/
import Derived.Test.YtkclecfbjfdfkaaGreatDoorL6
namespace Go.Proofs.YtkclecfbjfdfkaaGreatDoor
open Go.RowKit

-- ------------------------------------------------------------------ bytes
theorem blk_iff (u : UInt8) : blkB u = true ↔ u = 32 ∨ u = 9 ∨ u = 13 ∨ u = 10 := by
  unfold blkB
  simp only [Lib.indexByte]
  constructor
  · intro h
    by_cases h1 : (32 : UInt8) = u; · exact .inl h1.symm
    by_cases h2 : (9 : UInt8) = u; · exact .inr (.inl h2.symm)
    by_cases h3 : (13 : UInt8) = u; · exact .inr (.inr (.inl h3.symm))
    by_cases h4 : (10 : UInt8) = u; · exact .inr (.inr (.inr h4.symm))
    simp [h1, h2, h3, h4] at h
  · rintro (rfl | rfl | rfl | rfl) <;> decide
theorem line_iff (u : UInt8) : lineB u = true ↔ u ≠ 10 := by
  unfold lineB
  simp only [Bool.not_eq_true', decide_eq_false_iff_not]
  constructor
  · intro h e; apply h; rw [e]; rfl
  · intro h e; apply h; apply UInt8.toNat.inj; simpa using (by omega : u.toNat = 10)
/-- A byte that ends a word. -/
def Stp (u : UInt8) : Prop := blkB u = true ∨ u = 35
theorem stp_cases {u : UInt8} (h : Stp u) : u = 32 ∨ u = 9 ∨ u = 13 ∨ u = 10 ∨ u = 35 := by
  rcases h with h | h
  · rcases (blk_iff u).1 h with h | h | h | h <;> simp [h]
  · simp [h]
theorem stp_dig {u : UInt8} (h : Stp u) : digB u = false := by rcases stp_cases h with rfl | rfl | rfl | rfl | rfl <;> decide
theorem stp_name {u : UInt8} (h : Stp u) : nameB u = false := by rcases stp_cases h with rfl | rfl | rfl | rfl | rfl <;> decide
theorem stp_not {u : UInt8} (h : Stp u) : u ≠ 33 ∧ u ≠ 62 ∧ u ≠ 61 := by rcases stp_cases h with rfl | rfl | rfl | rfl | rfl <;> decide
/-- What lies behind a word: nothing, or a byte that ends it. -/
def Stop (x : List UInt8) : Prop := ∀ u ∈ x.head?, Stp u
theorem stop_nil : Stop [] := fun u h => by cases h
theorem stop_cons {u : UInt8} {x : List UInt8} (h : Stp u) : Stop (u :: x) := fun v hv => by cases hv; exact h
-- ------------------------------------------------------------------ skipping
def skS : Bool → List UInt8 → List UInt8
  | _, [] => []
  | false, u :: l => if blkB u then skS false l else if u = 35 then skS true l else u :: l
  | true, u :: l => if lineB u then skS true l else skS false l
theorem skS_f (u : UInt8) (l : List UInt8) : skS false (u :: l) = if blkB u then skS false l else if u = 35 then skS true l else u :: l := rfl
theorem skS_t (u : UInt8) (l : List UInt8) : skS true (u :: l) = if lineB u then skS true l else skS false l := rfl
theorem skS_true (l : List UInt8) : skS true l = skS false (l.drop (whileN lineB l)) := by
  induction l with
  | nil => rfl
  | cons u l ih =>
    rw [skS_t]
    by_cases h : lineB u = true
    · rw [if_pos h, ih]
      have : whileN lineB (u :: l) = whileN lineB l + 1 := by unfold whileN; rw [List.takeWhile_cons, if_pos h, List.length_cons]
      rw [this, List.drop_succ_cons]
    · rw [if_neg h]
      have : whileN lineB (u :: l) = 0 := by unfold whileN; rw [List.takeWhile_cons, if_neg h]; rfl
      rw [this, List.drop_zero]
      have h10 : u = 10 := by
        by_cases e : u = 10
        · exact e
        · exact absurd ((line_iff u).2 e) h
      rw [skS_f, if_pos (by rw [h10]; decide)]
theorem skS_blk (l : List UInt8) : skS false l = skS false (l.drop (whileN blkB l)) := by
  induction l with
  | nil => rfl
  | cons u l ih =>
    by_cases h : blkB u = true
    · have : whileN blkB (u :: l) = whileN blkB l + 1 := by unfold whileN; rw [List.takeWhile_cons, if_pos h, List.length_cons]
      rw [this, List.drop_succ_cons, ← ih, skS_f, if_pos h]
    · have : whileN blkB (u :: l) = 0 := by unfold whileN; rw [List.takeWhile_cons, if_neg h]; rfl
      rw [this, List.drop_zero]
theorem n35 (u : UInt8) : decide ((u.toNat : Int) = 35) = decide (u = 35) := by
  apply decide_eq_decide.2
  constructor
  · intro h; apply UInt8.toNat.inj; simpa using (by omega : u.toNat = 35)
  · intro h; rw [h]; rfl
theorem skip_skS : ∀ (n : Nat) (l : List UInt8), l.length ≤ n → skip l = skS false l := by
  intro n
  induction n with
  | zero => intro l hl; have : l = [] := List.length_eq_zero_iff.1 (by omega); subst this; rw [skip_zero rfl]; rfl
  | succ n ih =>
    intro l hl
    have hle := blank1_le l
    by_cases h : blank1 l = 0
    · rw [skip_zero h]
      cases l with
      | nil => rfl
      | cons u l =>
        unfold blank1 at h
        by_cases hb : blkB u = true
        · have : 0 < whileN blkB (u :: l) := whileN_pos hb
          rw [if_neg (by simp; omega)] at h; omega
        · have hw : whileN blkB (u :: l) = 0 := by unfold whileN; rw [List.takeWhile_cons, if_neg hb]; rfl
          rw [if_pos (by rw [hw]; rfl)] at h
          dsimp only at h
          rw [n35] at h
          by_cases h5 : u = 35
          · rw [if_pos (by simpa using h5)] at h
            have : 0 < whileN lineB (u :: l) := whileN_pos (by rw [h5]; decide)
            omega
          · rw [skS, if_neg hb, if_neg h5]
    · rw [skip_more h, ih _ (by simp only [List.length_drop]; omega)]
      cases l with
      | nil => rfl
      | cons u l =>
        unfold blank1
        by_cases hb : blkB u = true
        · have : 0 < whileN blkB (u :: l) := whileN_pos hb
          rw [if_neg (by simp; omega), ← skS_blk]
        · have hw : whileN blkB (u :: l) = 0 := by unfold whileN; rw [List.takeWhile_cons, if_neg hb]; rfl
          rw [if_pos (by rw [hw]; rfl)]
          dsimp only
          rw [n35]
          by_cases h5 : u = 35
          · rw [if_pos (by simpa using h5)]
            have : whileN lineB (u :: l) = whileN lineB l + 1 := by unfold whileN; rw [List.takeWhile_cons, if_pos (by rw [h5]; decide), List.length_cons]
            rw [this, List.drop_succ_cons, ← skS_true]
            rw [show skS false (u :: l) = skS true l by rw [skS, if_neg hb, if_pos h5]]
          · rw [if_neg (by simpa using h5), List.drop_zero]
theorem skip_eq (l : List UInt8) : skip l = skS false l := skip_skS _ l (Nat.le_refl _)
theorem skS_nil_nl : ∀ (l : List UInt8) (c : Bool) (r : List UInt8), skS c l = [] → skS c (l ++ 10 :: r) = skS false r := by
  intro l
  induction l with
  | nil => intro c r _; cases c; rw [List.nil_append, skS, if_pos (by decide)]; rw [List.nil_append, skS, if_neg (by decide)]
  | cons u l ih =>
    intro c r h
    rw [List.cons_append]
    cases c with
    | false =>
      rw [skS] at h ⊢
      split at h
      · rw [if_pos (by assumption)]; exact ih _ _ h
      · split at h
        · rw [if_neg (by assumption), if_pos (by assumption)]; exact ih _ _ h
        · cases h
    | true =>
      rw [skS] at h ⊢
      split at h
      · rw [if_pos (by assumption)]; exact ih _ _ h
      · rw [if_neg (by assumption)]; exact ih _ _ h
theorem skS_app : ∀ (l : List UInt8) (c : Bool) (x : List UInt8), skS c l ≠ [] → skS c (l ++ x) = skS c l ++ x := by
  intro l
  induction l with
  | nil => intro c x h; exact absurd (by cases c <;> rfl) h
  | cons u l ih =>
    intro c x h
    rw [List.cons_append]
    cases c with
    | false =>
      rw [skS] at h
      rw [skS, skS]
      split
      · rw [if_pos (by assumption)] at h; exact ih _ _ h
      · rw [if_neg (by assumption)] at h
        split
        · rw [if_pos (by assumption)] at h; exact ih _ _ h
        · rfl
    | true =>
      rw [skS] at h
      rw [skS, skS]
      split
      · rw [if_pos (by assumption)] at h; exact ih _ _ h
      · rw [if_neg (by assumption)] at h; exact ih _ _ h
theorem skS_head : ∀ (l : List UInt8) (c : Bool) (u : UInt8) (r : List UInt8), skS c l = u :: r → blkB u = false ∧ u ≠ 35 := by
  intro l
  induction l with
  | nil => intro c u r h; cases c <;> cases h
  | cons v l ih =>
    intro c u r h
    cases c with
    | false =>
      rw [skS] at h
      split at h
      · exact ih _ _ _ h
      · split at h
        · exact ih _ _ _ h
        · rename_i h1 h2; cases h; exact ⟨by simpa using h1, h2⟩
    | true =>
      rw [skS] at h
      split at h <;> exact ih _ _ _ h
theorem skS_stop {u : UInt8} {r : List UInt8} (h : blkB u = false ∧ u ≠ 35) : skS false (u :: r) = u :: r := by rw [skS, if_neg (by rw [h.1]; decide), if_neg h.2]
theorem skip_skip (l : List UInt8) : skip (skip l) = skip l := by
  rw [skip_eq l]
  cases h : skS false l with
  | nil => rw [skip_zero rfl]
  | cons u r => rw [skip_eq, skS_stop (skS_head _ _ _ _ h)]
theorem skip_nl {l r : List UInt8} (h : skip l = []) : skip (l ++ 10 :: r) = skip r := by rw [skip_eq] at h; rw [skip_eq, skip_eq, skS_nil_nl _ _ _ h]
theorem skip_app {l x : List UInt8} (h : skip l ≠ []) : skip (l ++ x) = skip l ++ x := by rw [skip_eq] at h; rw [skip_eq, skip_eq, skS_app _ _ _ h]
theorem skip_head {l r : List UInt8} {u : UInt8} (h : skip l = u :: r) : blkB u = false ∧ u ≠ 35 := skS_head l false u r (by rw [← skip_eq]; exact h)
theorem skip_stop {u : UInt8} {r : List UInt8} (h : blkB u = false ∧ u ≠ 35) : skip (u :: r) = u :: r := by rw [skip_eq, skS_stop h]
theorem skip_blk {u : UInt8} {r : List UInt8} (h : blkB u = true) : skip (u :: r) = skip r := by rw [skip_eq, skip_eq, skS, if_pos h]
theorem skip_note {x r : List UInt8} (h : ∀ u ∈ x, u ≠ 10) : skip (35 :: (x ++ 10 :: r)) = skip r := by
  rw [skip_eq, skip_eq, skS, if_neg (by decide), if_pos rfl]
  induction x with
  | nil => rw [List.nil_append, skS, if_neg (by decide)]
  | cons u x ih => rw [List.cons_append, skS, if_pos ((line_iff u).2 (h u List.mem_cons_self)), ih (fun v hv => h v (List.mem_cons_of_mem _ hv))]
theorem lexW_cong {a a' : Nat} {l l' : List UInt8} (h : skip l = skip l') (e : a + (l.length - (skip l).length) = a' + (l'.length - (skip l').length)) : lexW a l = lexW a' l' := by
  by_cases hs : skip l = []
  · rw [lexW_end hs, lexW_end (by rw [← h]; exact hs)]
  · have hs' : skip l' ≠ [] := by rw [← h]; exact hs
    cases hk : (wordR (skip l)).ok with
    | false => rw [lexW_bad hs hk, lexW_bad hs' (by rw [← h]; exact hk), e]
    | true => rw [lexW_word hs hk, lexW_word hs' (by rw [← h]; exact hk), e]; simp only [← h]
-- ------------------------------------------------------------------ what comes behind a word
theorem tw_stop {p : UInt8 → Bool} {m x : List UInt8} (h : ∀ u ∈ x.head?, p u = false) : (m ++ x).takeWhile p = m.takeWhile p := by
  induction m with
  | nil =>
    cases x with
    | nil => rfl
    | cons u x => rw [List.nil_append, List.takeWhile_cons, if_neg (by rw [h u rfl]; decide)]; rfl
  | cons v m ih => rw [List.cons_append, List.takeWhile_cons, List.takeWhile_cons, ih]
theorem takeWhile_take {p : UInt8 → Bool} (m : List UInt8) : m.take (whileN p m) = m.takeWhile p := by
  unfold whileN
  conv => lhs; arg 2; rw [← List.takeWhile_append_dropWhile (p := p) (l := m)]
  rw [List.take_left]
theorem digs_eq (m : List UInt8) : digs m = m.takeWhile digB := takeWhile_take m
theorem nameT_eq (m : List UInt8) : nameT m = m.takeWhile nameB := takeWhile_take m
theorem numR_stop {m x : List UInt8} (h : Stop x) : numR (m ++ x) = numR m := by
  have e : (m ++ x).takeWhile digB = m.takeWhile digB := tw_stop fun u hu => stp_dig (h u hu)
  unfold numR whileN
  rw [digs_eq, digs_eq, e]
theorem sign_len {y : ByteArray} (h : y ∈ signsS) : (∃ a, y.data.toList = [a]) ∨ ∃ a b, y.data.toList = [a, b] ∧ (b = 62 ∨ b = 61) := by
  simp only [signsS, List.mem_cons, List.not_mem_nil, or_false] at h
  rcases h with rfl | rfl | rfl | rfl | rfl | rfl | rfl | rfl | rfl | rfl | rfl | rfl | rfl | rfl | rfl | rfl
  · exact .inr ⟨45, 62, rfl, .inl rfl⟩
  · exact .inr ⟨58, 61, rfl, .inr rfl⟩
  all_goals exact .inl ⟨_, rfl⟩
theorem preB_stop {m x : List UInt8} {y : ByteArray} (hm : m ≠ []) (h : Stop x) (hy : y ∈ signsS) : preB (m ++ x) y = preB m y := by
  obtain ⟨c, r, rfl⟩ := List.exists_cons_of_ne_nil hm
  unfold preB Lib.hasPrefix
  rcases sign_len hy with ⟨a, e⟩ | ⟨a, b, e, hb⟩
  · rw [e]; simp [List.isPrefixOf]
  · rw [e]
    cases r with
    | cons c2 r => simp [List.isPrefixOf]
    | nil =>
      cases x with
      | nil => rfl
      | cons u x =>
        have := stp_not (h u rfl)
        have hbu : (b == u) = false := by rcases hb with rfl | rfl; simpa using fun e => this.2.1 e.symm; simpa using fun e => this.2.2 e.symm
        simp [List.isPrefixOf, hbu]
theorem find_cong {α : Type} {p q : α → Bool} {l : List α} (h : ∀ y ∈ l, p y = q y) : l.find? p = l.find? q := by
  induction l with
  | nil => rfl
  | cons a l ih => rw [List.find?_cons, List.find?_cons, h a List.mem_cons_self, ih fun y hy => h y (List.mem_cons_of_mem _ hy)]
theorem signR_stop {m x : List UInt8} (hm : m ≠ []) (h : Stop x) : signR (m ++ x) = signR m := by
  unfold signR
  rw [find_cong (q := preB m) fun y hy => preB_stop hm h hy]
theorem nameR_stop {m x : List UInt8} (hm : m ≠ []) (h : Stop x) : nameR (m ++ x) = nameR m := by
  have e : (m ++ x).takeWhile nameB = m.takeWhile nameB := tw_stop fun u hu => stp_name (h u hu)
  have ew : whileN nameB (m ++ x) = whileN nameB m := by unfold whileN; rw [e]
  have et : nameT (m ++ x) = nameT m := by rw [nameT_eq, nameT_eq, e]
  have e0 : (m ++ x).getD 0 0 = m.getD 0 0 := by obtain ⟨c, r, rfl⟩ := List.exists_cons_of_ne_nil hm; rfl
  have ec : (whileN nameB m < (m ++ x).length ∧ ((m ++ x).getD (whileN nameB m) 0).toNat = 33) ↔ (whileN nameB m < m.length ∧ (m.getD (whileN nameB m) 0).toNat = 33) := by
    have hle := whileN_le nameB m
    by_cases hlt : whileN nameB m < m.length
    · have : (m ++ x).getD (whileN nameB m) 0 = m.getD (whileN nameB m) 0 := by
        rw [List.getD_eq_getElem?_getD, List.getD_eq_getElem?_getD, List.getElem?_append_left hlt]
      rw [this]; simp [hlt]; omega
    · have he : whileN nameB m = m.length := by omega
      constructor
      · rintro ⟨_, h2⟩
        exfalso
        cases x with
        | nil => rw [he, List.append_nil, List.getD_eq_getElem?_getD, List.getElem?_eq_none (Nat.le_refl _)] at h2; exact absurd h2 (by decide)
        | cons u x =>
          have hu := (stp_not (h u rfl)).1
          rw [he, List.getD_eq_getElem?_getD, List.getElem?_append_right (Nat.le_refl _), Nat.sub_self] at h2
          exact hu (UInt8.toNat.inj (by simpa using h2))
      · rintro ⟨h1, _⟩; omega
  unfold nameR
  rw [ew, et, e0]
  simp only [ec]
theorem wordR_stop {m x : List UInt8} (hm : m ≠ []) (h : Stop x) : wordR (m ++ x) = wordR m := by
  have e0 : (m ++ x).getD 0 0 = m.getD 0 0 := by obtain ⟨c, r, rfl⟩ := List.exists_cons_of_ne_nil hm; rfl
  unfold wordR
  rw [e0]
  cases ruleOf (m.getD 0 0) with
  | d => exact numR_stop h
  | l => exact nameR_stop hm h
  | s => exact signR_stop hm h
end Go.Proofs.YtkclecfbjfdfkaaGreatDoor
