/-
  A source cut ahead of one of its words. Plain lemmas; no condition beyond those that stand in each statement.
-/
import Derived.Test.YtkjmjnddanhapaaN25
import Derived.Test.YtkjmjnddanhapaaN24
import Derived.Test.YtkjmjnddanhapaaN27
import Derived.Test.YtkjmjnddanhapaaN10
namespace Go.Proofs.Ytkjmjnddanhapaa
open Go.RowKit

theorem skS_take : ∀ (l : List UInt8) (c : Bool) (j : Nat), skS c (l.take (l.length - (skS c l).length + j)) = (skS c l).take j := by
  intro l
  induction l with
  | nil => intro c j; cases c <;> simp [skS]
  | cons u l ih =>
    intro c j
    have hle : ∀ c, (skS c l).length ≤ l.length := fun c => by
      have := congrArg List.length (skip_drop l c); simp only [List.length_drop] at this; omega
    have e : ∀ c, (u :: l).length - (skS c l).length + j = (l.length - (skS c l).length + j) + 1 := fun c => by have := hle c; simp only [List.length_cons]; omega
    cases c with
    | false =>
      by_cases hb : blkB u = true
      · have h1 : skS false (u :: l) = skS false l := by rw [skS_f, if_pos hb]
        rw [h1, e, List.take_succ_cons, skS_f, if_pos hb, ih]
      · by_cases h5 : u = 35
        · have h1 : skS false (u :: l) = skS true l := by rw [skS_f, if_neg hb, if_pos h5]
          rw [h1, e, List.take_succ_cons, skS_f, if_neg hb, if_pos h5, ih]
        · have h1 : skS false (u :: l) = u :: l := by rw [skS_f, if_neg hb, if_neg h5]
          rw [h1, Nat.sub_self, Nat.zero_add]
          cases j with
          | zero => rfl
          | succ j => rw [List.take_succ_cons, skS_f, if_neg hb, if_neg h5]
    | true =>
      by_cases hb : lineB u = true
      · have h1 : skS true (u :: l) = skS true l := by rw [skS_t, if_pos hb]
        rw [h1, e, List.take_succ_cons, skS_t, if_pos hb, ih]
      · have h1 : skS true (u :: l) = skS false l := by rw [skS_t, if_neg hb]
        rw [h1, e, List.take_succ_cons, skS_t, if_neg hb, ih]
theorem skip_take (l : List UInt8) (j : Nat) : skip (l.take (l.length - (skip l).length + j)) = (skip l).take j := by
  rw [skip_eq l, skip_eq]; exact skS_take l false j
theorem tw_take {p : UInt8 → Bool} : ∀ (m : List UInt8) (q : Nat), whileN p m ≤ q → (m.take q).takeWhile p = m.takeWhile p := by
  intro m
  induction m with
  | nil => intro q _; simp
  | cons u m ih =>
    intro q h
    by_cases hu : p u = true
    · have e : whileN p (u :: m) = whileN p m + 1 := by unfold whileN; rw [List.takeWhile_cons, if_pos hu, List.length_cons]
      obtain ⟨r, rfl⟩ : ∃ r, q = r + 1 := ⟨q - 1, by omega⟩
      rw [List.take_succ_cons, List.takeWhile_cons, List.takeWhile_cons, if_pos hu, if_pos hu, ih r (by omega)]
    · cases q with
      | zero => rw [List.takeWhile_cons, if_neg hu]; rfl
      | succ r => rw [List.take_succ_cons, List.takeWhile_cons, List.takeWhile_cons, if_neg hu, if_neg hu]
theorem num_cut {m : List UInt8} {q : Nat} (hk : (numR m).ok = true) (hq : (numR m).n ≤ q) : numR (m.take q) = numR m := by
  have hw : whileN digB m ≤ q := by
    unfold numR at hk hq
    cases hn : numGo 0 (digs m) with
    | none => rw [hn] at hk; cases hk
    | some v => rw [hn] at hq; exact hq
  have e := tw_take m q hw
  unfold numR whileN
  rw [digs_eq, digs_eq, e]
theorem name_cut {m : List UInt8} {q : Nat} (h0 : 0 < q) (hk : (nameR m).ok = true) (hq : (nameR m).n ≤ q) : nameR (m.take q) = nameR m := by
  have hle := whileN_le nameB m
  by_cases h1 : 60 < whileN nameB m
  · unfold nameR at hk; rw [if_pos h1] at hk; cases hk
  · have hw : whileN nameB m ≤ q := by
      unfold nameR at hq
      rw [if_neg h1] at hq
      split at hq
      · exact hq
      · split at hq
        · exact hq
        · split at hq
          · exact Nat.le_trans (Nat.le_succ _) hq
          · exact hq
    have e := tw_take m q hw
    have ew : whileN nameB (m.take q) = whileN nameB m := by unfold whileN; rw [e]
    have et : nameT (m.take q) = nameT m := by rw [nameT_eq, nameT_eq, e]
    have e0 := take_head (m := m) h0
    have hlen : (m.take q).length ≤ q := by rw [List.length_take]; omega
    have hg : whileN nameB m < q → (m.take q).getD (whileN nameB m) 0 = m.getD (whileN nameB m) 0 := fun h => by
      rw [List.getD_eq_getElem?_getD, List.getD_eq_getElem?_getD, List.getElem?_take_of_lt h]
    unfold nameR
    unfold nameR at hq
    rw [ew, et, e0, if_neg h1, if_neg h1]
    rw [if_neg h1] at hq
    by_cases h2 : largB (m.getD 0 0) = true
    · rw [if_pos h2, if_pos h2]
    · rw [if_neg h2, if_neg h2]
      rw [if_neg h2] at hq
      by_cases h3 : kwB (nameT m) = true
      · rw [if_pos h3, if_pos h3]
      · rw [if_neg h3, if_neg h3]
        rw [if_neg h3] at hq
        by_cases h4 : whileN nameB m < m.length ∧ (m.getD (whileN nameB m) 0).toNat = 33
        · rw [if_pos h4] at hq
          have hlt : whileN nameB m < q := hq
          rw [if_pos h4, if_pos ⟨by rw [List.length_take]; omega, by rw [hg hlt]; exact h4.2⟩]
        · rw [if_neg h4, if_neg]
          rintro ⟨h5, h6⟩
          have hlt : whileN nameB m < q := by omega
          rw [hg hlt] at h6
          exact h4 ⟨by rw [List.length_take] at h5; omega, h6⟩
theorem sign_cut {m : List UInt8} {q : Nat} (hk : (signR m).ok = true) (hq : (signR m).n ≤ q) : signR (m.take q) = signR m := by
  unfold signR at hk hq ⊢
  cases hf : signsS.find? (preB m) with
  | none => rw [hf] at hk; cases hk
  | some x =>
    rw [hf] at hq
    have hp : preB m x = true := List.find?_some hf
    have hs : x.data.toList.length = x.size := by cases x; simp [ByteArray.size]
    have hpre : x.data.toList <+: m := List.isPrefixOf_iff_prefix.1 hp
    have : signsS.find? (preB (m.take q)) = some x := find_sub hf (fun y hy => by
      unfold preB Lib.hasPrefix at hy ⊢
      exact List.isPrefixOf_iff_prefix.2 ((List.isPrefixOf_iff_prefix.1 hy).trans (List.take_prefix _ _))) (by
      unfold preB Lib.hasPrefix
      refine List.isPrefixOf_iff_prefix.2 (List.prefix_take_iff.2 ⟨hpre, ?_⟩)
      rw [hs]; exact hq)
    rw [this]
theorem word_cut {m : List UInt8} {q : Nat} (hm : m ≠ []) (hk : (wordR m).ok = true) (hq : (wordR m).n ≤ q) : wordR (m.take q) = wordR m := by
  have hpos := (word_le hm hk).1
  have hh := take_head (m := m) (n := q) (by omega)
  unfold wordR at hk hq hpos ⊢
  rw [hh]
  revert hk hq hpos
  cases ruleOf (m.getD 0 0) with
  | d => exact fun hk hq _ => num_cut hk hq
  | l => exact fun hk hq hp => name_cut (by show 0 < q; exact Nat.lt_of_lt_of_le hp hq) hk hq
  | s => exact fun hk hq _ => sign_cut hk hq
/-- Cut ahead of a word: the words ahead of it. -/
theorem lexW_cut : ∀ (n : Nat) (l : List UInt8), l.length ≤ n → ∀ (a : Nat) (ts : List Tk), lexW a l = .ok ts → ∀ (k : Nat) (t : Tk), ts[k]? = some t → ∃ q : Nat, t.a = ((a + q : Nat) : Int) ∧ q ≤ l.length ∧ lexW a (l.take q) = .ok (ts.take k) := by
  intro n
  induction n with
  | zero =>
    intro l hl a ts h k t ht
    have : l = [] := List.length_eq_zero_iff.1 (by omega)
    subst this
    rw [lexW_end (show skip [] = [] from skip_zero rfl)] at h; cases h; cases ht
  | succ n ih =>
    intro l hl a ts h k t ht
    by_cases hs : skip l = []
    · rw [lexW_end hs] at h; cases h; cases ht
    · have hle := skip_le _ l (Nat.le_refl _)
      cases hk : (wordR (skip l)).ok with
      | false => rw [lexW_bad hs hk] at h; cases h
      | true =>
        have hwl := word_le hs hk
        rw [lexW_word hs hk] at h
        obtain ⟨r, hr, rfl⟩ := LR.pre_ok h
        cases k with
        | zero =>
          cases ht
          refine ⟨l.length - (skip l).length, rfl, by omega, ?_⟩
          have := skip_take l 0
          rw [Nat.add_zero, List.take_zero] at this
          rw [lexW_end this, List.take_zero]
        | succ k =>
          obtain ⟨q, h1, h2, h3⟩ := ih _ (by simp only [List.length_drop]; omega) _ _ hr k t ht
          simp only [List.length_drop] at h2
          refine ⟨l.length - (skip l).length + ((wordR (skip l)).n + q), by rw [h1]; congr 1; omega, by omega, ?_⟩
          have hsk := skip_take l ((wordR (skip l)).n + q)
          have hw : wordR (skip (l.take (l.length - (skip l).length + ((wordR (skip l)).n + q)))) = wordR (skip l) := by rw [hsk]; exact word_cut hs hk (Nat.le_add_right _ _)
          have hl2 : ((skip l).take ((wordR (skip l)).n + q)).length = (wordR (skip l)).n + q := by rw [List.length_take]; omega
          have hne : skip (l.take (l.length - (skip l).length + ((wordR (skip l)).n + q))) ≠ [] := by
            rw [hsk]; intro e; have := congrArg List.length e; rw [hl2, List.length_nil] at this; omega
          have hl3 : (l.take (l.length - (skip l).length + ((wordR (skip l)).n + q))).length - (skip (l.take (l.length - (skip l).length + ((wordR (skip l)).n + q)))).length = l.length - (skip l).length := by
            rw [hsk, hl2, List.length_take]; omega
          rw [lexW_word hne (by rw [hw]; exact hk), hw, hl3, hsk, List.drop_take, Nat.add_sub_cancel_left, h3]
          rfl
theorem rem_pick (x : Int) {n : Nat} (hn : 0 < n) : ∃ k : Nat, (bits .and .i64 x 65535).tmod (n : Int) = (k : Int) ∧ k < n := by
  have h1 : 0 ≤ bits .and .i64 x 65535 := (and_range x (n := 65535) (by decide)).1
  have h2 := Int.tmod_nonneg (n : Int) h1
  have h3 := Int.tmod_lt_of_pos (bits .and .i64 x 65535) (b := (n : Int)) (by omega)
  exact ⟨((bits .and .i64 x 65535).tmod (n : Int)).toNat, by omega, by omega⟩
theorem parse_zero {l : List UInt8} (h : (parseR l).2.2 = 0) : lexE l = 0 ∧ ∃ x us, parseR l = (some x, 0, 0) ∧ programP (l.length : Int) (lexT l) = .ok x us := by
  by_cases hE : lexE l = 0
  · refine ⟨hE, ?_⟩
    cases hr : programP (l.length : Int) (lexT l) with
    | bad a c =>
      rw [parseR_bad hE hr] at h
      rcases program_code hr with h1 | h1
      · rw [h1] at h; exact absurd (show (3 : Int) = 0 from h) (by decide)
      · rw [h1] at h; exact absurd (show (6 : Int) = 0 from h) (by decide)
    | ok x us =>
      by_cases hd : 200 < dS x.body
      · rw [parseR_deep hE hr hd] at h; exact absurd (show (6 : Int) = 0 from h) (by decide)
      · exact ⟨x, us, parseR_ok hE hr hd, rfl⟩
  · rw [parseR_lex hE] at h; exact absurd h hE
/-- What is left of a program that is cut. -/
theorem cut_parse {l : List UInt8} (hl : l.length ≤ 1048576) {x : SPr} (hp : parseR l = (some x, 0, 0)) {k : Nat} {t : Tk} (ht : (lexT l)[k]? = some t) :
    ∃ q : Nat, t.a = (q : Int) ∧ q ≤ l.length ∧ ((parseR (l.take q)).2.2 = 0 ∨ (parseR (l.take q)).2 = ((q : Int), 3) ∨ (parseR (l.take q)).2.2 = 6) := by
  cases hw : lexW 0 l with
  | bad p =>
    have h1 := lex_bad (by omega) hw
    rw [parseR_lex (by rw [h1.2.2]; decide)] at hp
    cases hp
  | ok ts =>
    obtain ⟨e1, e2, e3⟩ := lex_ok (by omega) hw
    rw [e1] at ht
    obtain ⟨q, h1, h2, h3⟩ := lexW_cut _ l (Nat.le_refl _) 0 ts hw k t ht
    rw [Nat.zero_add] at h1
    have hq : (l.take q).length = q := by rw [List.length_take]; omega
    obtain ⟨f1, f2, f3⟩ := lex_ok (l := l.take q) (by omega) h3
    refine ⟨q, h1, h2, ?_⟩
    cases hr : programP (l.length : Int) (lexT l) with
    | bad a c =>
      rw [parseR_bad e3 hr] at hp
      cases hp
    | ok p ws =>
      rw [e1, ← List.take_append_drop k ts] at hr
      rcases cut_program (e2 := ((l.take q).length : Int)) hr with ⟨y, hy⟩ | hy | ⟨a, hy⟩
      · rw [← f1] at hy
        by_cases hd : 200 < dS y.body
        · rw [parseR_deep f3 hy hd]; exact Or.inr (Or.inr rfl)
        · rw [parseR_ok f3 hy hd]; exact Or.inl rfl
      · rw [← f1] at hy; rw [parseR_bad f3 hy, hq]; exact Or.inr (Or.inl rfl)
      · rw [← f1] at hy; rw [parseR_bad f3 hy]; exact Or.inr (Or.inr rfl)
end Go.Proofs.Ytkjmjnddanhapaa
