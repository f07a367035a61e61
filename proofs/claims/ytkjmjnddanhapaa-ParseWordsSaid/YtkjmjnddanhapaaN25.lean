/-
  What lies between words; a source cut ahead of one of its words. Plain lemmas; no condition beyond those that stand in each statement.
-/
import Derived.Test.YtkjmjnddanhapaaN9
namespace Go.Proofs.Ytkjmjnddanhapaa
open Go.RowKit

theorem blk_iff (u : UInt8) : blkB u = true ↔ u = 32 ∨ u = 9 ∨ u = 13 ∨ u = 10 := by
  unfold blkB
  simp only [Lib.indexByte]
  constructor
  · intro h
    by_cases h1 : (32 : UInt8) = u; · exact .inl h1.symm
    by_cases h2 : (9 : UInt8) = u; · exact .inr (.inl h2.symm)
    by_cases h3 : (13 : UInt8) = u; · exact .inr (.inr (.inl h3.symm))
    by_cases h4 : (10 : UInt8) = u; · exact .inr (.inr (.inr h4.symm))
    simp [h1, h2, h3, h4] at h
  · rintro (rfl | rfl | rfl | rfl) <;> decide
theorem line_iff (u : UInt8) : lineB u = true ↔ u ≠ 10 := by
  unfold lineB
  simp only [Bool.not_eq_true', decide_eq_false_iff_not]
  constructor
  · intro h e; apply h; rw [e]; rfl
  · intro h e; apply h; apply UInt8.toNat.inj; simpa using (by omega : u.toNat = 10)
def skS : Bool → List UInt8 → List UInt8
  | _, [] => []
  | false, u :: l => if blkB u then skS false l else if u = 35 then skS true l else u :: l
  | true, u :: l => if lineB u then skS true l else skS false l
theorem skS_f (u : UInt8) (l : List UInt8) : skS false (u :: l) = if blkB u then skS false l else if u = 35 then skS true l else u :: l := rfl
theorem skS_t (u : UInt8) (l : List UInt8) : skS true (u :: l) = if lineB u then skS true l else skS false l := rfl
theorem skS_true (l : List UInt8) : skS true l = skS false (l.drop (whileN lineB l)) := by
  induction l with
  | nil => rfl
  | cons u l ih =>
    rw [skS_t]
    by_cases h : lineB u = true
    · rw [if_pos h, ih]
      have : whileN lineB (u :: l) = whileN lineB l + 1 := by unfold whileN; rw [List.takeWhile_cons, if_pos h, List.length_cons]
      rw [this, List.drop_succ_cons]
    · rw [if_neg h]
      have : whileN lineB (u :: l) = 0 := by unfold whileN; rw [List.takeWhile_cons, if_neg h]; rfl
      rw [this, List.drop_zero]
      have h10 : u = 10 := by
        by_cases e : u = 10
        · exact e
        · exact absurd ((line_iff u).2 e) h
      rw [skS_f, if_pos (by rw [h10]; decide)]
theorem skS_blk (l : List UInt8) : skS false l = skS false (l.drop (whileN blkB l)) := by
  induction l with
  | nil => rfl
  | cons u l ih =>
    by_cases h : blkB u = true
    · have : whileN blkB (u :: l) = whileN blkB l + 1 := by unfold whileN; rw [List.takeWhile_cons, if_pos h, List.length_cons]
      rw [this, List.drop_succ_cons, ← ih, skS_f, if_pos h]
    · have : whileN blkB (u :: l) = 0 := by unfold whileN; rw [List.takeWhile_cons, if_neg h]; rfl
      rw [this, List.drop_zero]
theorem n35 (u : UInt8) : decide ((u.toNat : Int) = 35) = decide (u = 35) := by
  apply decide_eq_decide.2
  constructor
  · intro h; apply UInt8.toNat.inj; simpa using (by omega : u.toNat = 35)
  · intro h; rw [h]; rfl
theorem skip_skS : ∀ (n : Nat) (l : List UInt8), l.length ≤ n → skip l = skS false l := by
  intro n
  induction n with
  | zero => intro l hl; have : l = [] := List.length_eq_zero_iff.1 (by omega); subst this; rw [skip_zero rfl]; rfl
  | succ n ih =>
    intro l hl
    have hle := blank1_le l
    by_cases h : blank1 l = 0
    · rw [skip_zero h]
      cases l with
      | nil => rfl
      | cons u l =>
        unfold blank1 at h
        by_cases hb : blkB u = true
        · have : 0 < whileN blkB (u :: l) := whileN_pos hb
          rw [if_neg (by simp; omega)] at h; omega
        · have hw : whileN blkB (u :: l) = 0 := by unfold whileN; rw [List.takeWhile_cons, if_neg hb]; rfl
          rw [if_pos (by rw [hw]; rfl)] at h
          dsimp only at h
          rw [n35] at h
          by_cases h5 : u = 35
          · rw [if_pos (by simpa using h5)] at h
            have : 0 < whileN lineB (u :: l) := whileN_pos (by rw [h5]; decide)
            omega
          · rw [skS, if_neg hb, if_neg h5]
    · rw [skip_more h, ih _ (by simp only [List.length_drop]; omega)]
      cases l with
      | nil => rfl
      | cons u l =>
        unfold blank1
        by_cases hb : blkB u = true
        · have : 0 < whileN blkB (u :: l) := whileN_pos hb
          rw [if_neg (by simp; omega), ← skS_blk]
        · have hw : whileN blkB (u :: l) = 0 := by unfold whileN; rw [List.takeWhile_cons, if_neg hb]; rfl
          rw [if_pos (by rw [hw]; rfl)]
          dsimp only
          rw [n35]
          by_cases h5 : u = 35
          · rw [if_pos (by simpa using h5)]
            have : whileN lineB (u :: l) = whileN lineB l + 1 := by unfold whileN; rw [List.takeWhile_cons, if_pos (by rw [h5]; decide), List.length_cons]
            rw [this, List.drop_succ_cons, ← skS_true]
            rw [show skS false (u :: l) = skS true l by rw [skS, if_neg hb, if_pos h5]]
          · rw [if_neg (by simpa using h5), List.drop_zero]
theorem skip_eq (l : List UInt8) : skip l = skS false l := skip_skS _ l (Nat.le_refl _)
theorem takeWhile_take {p : UInt8 → Bool} (m : List UInt8) : m.take (whileN p m) = m.takeWhile p := by
  unfold whileN
  conv => lhs; arg 2; rw [← List.takeWhile_append_dropWhile (p := p) (l := m)]
  rw [List.take_left]
theorem digs_eq (m : List UInt8) : digs m = m.takeWhile digB := takeWhile_take m
theorem nameT_eq (m : List UInt8) : nameT m = m.takeWhile nameB := takeWhile_take m
theorem find_sub {α : Type} {p q : α → Bool} {x : α} : ∀ {l : List α}, l.find? p = some x → (∀ y, q y = true → p y = true) → q x = true → l.find? q = some x := by
  intro l
  induction l with
  | nil => intro h; cases h
  | cons a l ih =>
    intro h hs hx
    rw [List.find?_cons] at h ⊢
    by_cases ha : p a = true
    · rw [ha] at h; cases h; rw [hx]
    · have hqa : q a = false := by by_cases hq : q a = true; exact absurd (hs a hq) ha; simpa using hq
      rw [show p a = false by simpa using ha] at h
      rw [hqa]; exact ih h hs hx
theorem take_head {m : List UInt8} {n : Nat} (hn : 0 < n) : (m.take n).getD 0 0 = m.getD 0 0 := by
  cases m with
  | nil => simp
  | cons c r => obtain ⟨k, rfl⟩ := Nat.exists_eq_succ_of_ne_zero (Nat.ne_of_gt hn); rfl
theorem LR.pre_ok {ts out : List Tk} {x : LR} (h : LR.pre ts x = .ok out) : ∃ r, x = .ok r ∧ out = ts ++ r := by
  cases x with
  | ok r => cases h; exact ⟨r, rfl, rfl⟩
  | bad p => cases h
theorem skip_drop : ∀ (l : List UInt8) (c : Bool), l.drop (l.length - (skS c l).length) = skS c l := by
  intro l
  induction l with
  | nil => intro c; cases c <;> rfl
  | cons u l ih =>
    have hle : ∀ c, (skS c l).length ≤ l.length := fun c => by
      have := congrArg List.length (ih c); simp only [List.length_drop] at this; omega
    intro c
    cases c with
    | false =>
      rw [skS_f]
      split
      · rw [List.length_cons, show l.length + 1 - (skS false l).length = (l.length - (skS false l).length) + 1 by have := hle false; omega, List.drop_succ_cons, ih]
      · split
        · rw [List.length_cons, show l.length + 1 - (skS true l).length = (l.length - (skS true l).length) + 1 by have := hle true; omega, List.drop_succ_cons, ih]
        · simp
    | true =>
      rw [skS_t]
      split
      · rw [List.length_cons, show l.length + 1 - (skS true l).length = (l.length - (skS true l).length) + 1 by have := hle true; omega, List.drop_succ_cons, ih]
      · rw [List.length_cons, show l.length + 1 - (skS false l).length = (l.length - (skS false l).length) + 1 by have := hle false; omega, List.drop_succ_cons, ih]
theorem BytesAt.take {w : World} {v : Value} {l : List UInt8} (h : BytesAt w v l) {k : Nat} (hk : k ≤ l.length) : BytesAt w (takeV v k) (l.take k) := by
  have := RowsAt.take h (h := k) (by simpa using hk)
  unfold BytesAt; rw [List.map_take]; exact this
theorem min_lit (a b : Nat) : (if (b : Int) < (a : Int) then (b : Int) else (a : Int)) = ((min a b : Nat) : Int) := by split <;> omega
theorem BytesAt.eqL {w : World} {v : Value} {l l' : List UInt8} (h : BytesAt w v l) (e : l = l') : BytesAt w v l' := e ▸ h
end Go.Proofs.Ytkjmjnddanhapaa
