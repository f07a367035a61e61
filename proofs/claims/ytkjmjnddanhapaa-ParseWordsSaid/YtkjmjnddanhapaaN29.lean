/-
  A source, a line feed, and what comes behind: the words of both. Plain lemmas; no condition beyond those that stand in each statement.
-/
import Derived.Test.YtkjmjnddanhapaaN25
import Derived.Test.YtkjmjnddanhapaaN10
namespace Go.Proofs.Ytkjmjnddanhapaa
open Go.RowKit

/-- A byte that ends a word. -/
def Stp (u : UInt8) : Prop := blkB u = true ∨ u = 35
theorem stp_cases {u : UInt8} (h : Stp u) : u = 32 ∨ u = 9 ∨ u = 13 ∨ u = 10 ∨ u = 35 := by
  rcases h with h | h
  · rcases (blk_iff u).1 h with h | h | h | h <;> simp [h]
  · simp [h]
theorem stp_dig {u : UInt8} (h : Stp u) : digB u = false := by rcases stp_cases h with rfl | rfl | rfl | rfl | rfl <;> decide
theorem stp_name {u : UInt8} (h : Stp u) : nameB u = false := by rcases stp_cases h with rfl | rfl | rfl | rfl | rfl <;> decide
theorem stp_not {u : UInt8} (h : Stp u) : u ≠ 33 ∧ u ≠ 62 ∧ u ≠ 61 := by rcases stp_cases h with rfl | rfl | rfl | rfl | rfl <;> decide
/-- What lies behind a word: nothing, or a byte that ends it. -/
def Stop (x : List UInt8) : Prop := ∀ u ∈ x.head?, Stp u
theorem stop_cons {u : UInt8} {x : List UInt8} (h : Stp u) : Stop (u :: x) := fun v hv => by cases hv; exact h
theorem skS_head : ∀ (l : List UInt8) (c : Bool) (u : UInt8) (r : List UInt8), skS c l = u :: r → blkB u = false ∧ u ≠ 35 := by
  intro l
  induction l with
  | nil => intro c u r h; cases c <;> cases h
  | cons v l ih =>
    intro c u r h
    cases c with
    | false =>
      rw [skS] at h
      split at h
      · exact ih _ _ _ h
      · split at h
        · exact ih _ _ _ h
        · rename_i h1 h2; cases h; exact ⟨by simpa using h1, h2⟩
    | true =>
      rw [skS] at h
      split at h <;> exact ih _ _ _ h
theorem skS_stop {u : UInt8} {r : List UInt8} (h : blkB u = false ∧ u ≠ 35) : skS false (u :: r) = u :: r := by rw [skS, if_neg (by rw [h.1]; decide), if_neg h.2]
theorem skip_blk {u : UInt8} {r : List UInt8} (h : blkB u = true) : skip (u :: r) = skip r := by rw [skip_eq, skip_eq, skS, if_pos h]
theorem skip_stop {u : UInt8} {r : List UInt8} (h : blkB u = false ∧ u ≠ 35) : skip (u :: r) = u :: r := by rw [skip_eq, skS_stop h]
theorem tw_stop {p : UInt8 → Bool} {m x : List UInt8} (h : ∀ u ∈ x.head?, p u = false) : (m ++ x).takeWhile p = m.takeWhile p := by
  induction m with
  | nil =>
    cases x with
    | nil => rfl
    | cons u x => rw [List.nil_append, List.takeWhile_cons, if_neg (by rw [h u rfl]; decide)]; rfl
  | cons v m ih => rw [List.cons_append, List.takeWhile_cons, List.takeWhile_cons, ih]
theorem numR_stop {m x : List UInt8} (h : Stop x) : numR (m ++ x) = numR m := by
  have e : (m ++ x).takeWhile digB = m.takeWhile digB := tw_stop fun u hu => stp_dig (h u hu)
  unfold numR whileN
  rw [digs_eq, digs_eq, e]
theorem sign_len {y : ByteArray} (h : y ∈ signsS) : (∃ a, y.data.toList = [a]) ∨ ∃ a b, y.data.toList = [a, b] ∧ (b = 62 ∨ b = 61) := by
  simp only [signsS, List.mem_cons, List.not_mem_nil, or_false] at h
  rcases h with rfl | rfl | rfl | rfl | rfl | rfl | rfl | rfl | rfl | rfl | rfl | rfl | rfl | rfl | rfl | rfl
  · exact .inr ⟨45, 62, rfl, .inl rfl⟩
  · exact .inr ⟨58, 61, rfl, .inr rfl⟩
  all_goals exact .inl ⟨_, rfl⟩
theorem preB_stop {m x : List UInt8} {y : ByteArray} (hm : m ≠ []) (h : Stop x) (hy : y ∈ signsS) : preB (m ++ x) y = preB m y := by
  obtain ⟨c, r, rfl⟩ := List.exists_cons_of_ne_nil hm
  unfold preB Lib.hasPrefix
  rcases sign_len hy with ⟨a, e⟩ | ⟨a, b, e, hb⟩
  · rw [e]; simp [List.isPrefixOf]
  · rw [e]
    cases r with
    | cons c2 r => simp [List.isPrefixOf]
    | nil =>
      cases x with
      | nil => rfl
      | cons u x =>
        have := stp_not (h u rfl)
        have hbu : (b == u) = false := by rcases hb with rfl | rfl; simpa using fun e => this.2.1 e.symm; simpa using fun e => this.2.2 e.symm
        simp [List.isPrefixOf, hbu]
theorem find_cong {α : Type} {p q : α → Bool} {l : List α} (h : ∀ y ∈ l, p y = q y) : l.find? p = l.find? q := by
  induction l with
  | nil => rfl
  | cons a l ih => rw [List.find?_cons, List.find?_cons, h a List.mem_cons_self, ih fun y hy => h y (List.mem_cons_of_mem _ hy)]
theorem signR_stop {m x : List UInt8} (hm : m ≠ []) (h : Stop x) : signR (m ++ x) = signR m := by
  unfold signR
  rw [find_cong (q := preB m) fun y hy => preB_stop hm h hy]
theorem nameR_stop {m x : List UInt8} (hm : m ≠ []) (h : Stop x) : nameR (m ++ x) = nameR m := by
  have e : (m ++ x).takeWhile nameB = m.takeWhile nameB := tw_stop fun u hu => stp_name (h u hu)
  have ew : whileN nameB (m ++ x) = whileN nameB m := by unfold whileN; rw [e]
  have et : nameT (m ++ x) = nameT m := by rw [nameT_eq, nameT_eq, e]
  have e0 : (m ++ x).getD 0 0 = m.getD 0 0 := by obtain ⟨c, r, rfl⟩ := List.exists_cons_of_ne_nil hm; rfl
  have ec : (whileN nameB m < (m ++ x).length ∧ ((m ++ x).getD (whileN nameB m) 0).toNat = 33) ↔ (whileN nameB m < m.length ∧ (m.getD (whileN nameB m) 0).toNat = 33) := by
    have hle := whileN_le nameB m
    by_cases hlt : whileN nameB m < m.length
    · have : (m ++ x).getD (whileN nameB m) 0 = m.getD (whileN nameB m) 0 := by
        rw [List.getD_eq_getElem?_getD, List.getD_eq_getElem?_getD, List.getElem?_append_left hlt]
      rw [this]; simp [hlt]; omega
    · have he : whileN nameB m = m.length := by omega
      constructor
      · rintro ⟨_, h2⟩
        exfalso
        cases x with
        | nil => rw [he, List.append_nil, List.getD_eq_getElem?_getD, List.getElem?_eq_none (Nat.le_refl _)] at h2; exact absurd h2 (by decide)
        | cons u x =>
          have hu := (stp_not (h u rfl)).1
          rw [he, List.getD_eq_getElem?_getD, List.getElem?_append_right (Nat.le_refl _), Nat.sub_self] at h2
          exact hu (UInt8.toNat.inj (by simpa using h2))
      · rintro ⟨h1, _⟩; omega
  unfold nameR
  rw [ew, et, e0]
  simp only [ec]
theorem wordR_stop {m x : List UInt8} (hm : m ≠ []) (h : Stop x) : wordR (m ++ x) = wordR m := by
  have e0 : (m ++ x).getD 0 0 = m.getD 0 0 := by obtain ⟨c, r, rfl⟩ := List.exists_cons_of_ne_nil hm; rfl
  unfold wordR
  rw [e0]
  cases ruleOf (m.getD 0 0) with
  | d => exact numR_stop h
  | l => exact nameR_stop hm h
  | s => exact signR_stop hm h
def LR.andThen (x y : LR) : LR := match x with
  | .ok ts => LR.pre ts y
  | .bad p => .bad p
def Tk.add (d : Nat) (t : Tk) : Tk := { t with a := t.a + (d : Int) }
def LR.add (d : Nat) : LR → LR
  | .ok ts => .ok (ts.map (Tk.add d))
  | .bad p => .bad (p + d)
/-- The same word, wherever it stands. -/
def SmT (t u : Tk) : Prop := t.k = u.k ∧ t.t = u.t ∧ t.n = u.n
/-- So many of one sign. -/
inductive Sg (b : UInt8) : Nat → List Tk → Prop
  | nil : Sg b 0 []
  | cons {n : Nat} {l : List Tk} (a : Int) (h : Sg b n l) : Sg b (n + 1) (⟨5, [b], 0, a⟩ :: l)
end Go.Proofs.Ytkjmjnddanhapaa
