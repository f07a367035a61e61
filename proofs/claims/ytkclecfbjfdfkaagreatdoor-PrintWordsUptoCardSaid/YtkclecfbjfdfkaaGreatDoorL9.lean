/-
  The words of a source: behind one another, further on, written anew. Plain lemmas; no condition beyond those that stand in each statement.
-/
import Derived.Test.YtkclecfbjfdfkaaGreatDoorL8
namespace Go.Proofs.YtkclecfbjfdfkaaGreatDoor
open Go.RowKit

def LR.andThen (x y : LR) : LR := match x with
  | .ok ts => LR.pre ts y
  | .bad p => .bad p
theorem LR.pre_andThen (ts : List Tk) (x y : LR) : LR.andThen (LR.pre ts x) y = LR.pre ts (LR.andThen x y) := by cases x <;> cases y <;> simp [LR.andThen, LR.pre]
theorem LR.pre_ok {ts out : List Tk} {x : LR} (h : LR.pre ts x = .ok out) : ∃ r, x = .ok r ∧ out = ts ++ r := by
  cases x with
  | ok r => cases h; exact ⟨r, rfl, rfl⟩
  | bad p => cases h
theorem LR.pre_bad {ts : List Tk} {x : LR} {p : Nat} (h : LR.pre ts x = .bad p) : x = .bad p := by
  cases x with
  | ok r => cases h
  | bad p => cases h; rfl
theorem stop_nl (r : List UInt8) : Stop (10 :: r) := stop_cons (.inl (by decide))
/-- Words, a line feed, anything. -/
theorem lexW_nl : ∀ (n : Nat) (l : List UInt8), l.length ≤ n → ∀ (a : Nat) (r : List UInt8), lexW a (l ++ 10 :: r) = LR.andThen (lexW a l) (lexW (a + l.length + 1) r) := by
  intro n
  induction n with
  | zero =>
    intro l hl a r
    have : l = [] := List.length_eq_zero_iff.1 (by omega)
    subst this
    rw [lexW_end (show skip [] = [] from skip_zero rfl)]
    show lexW a (10 :: r) = LR.pre [] _
    have hs : skip (10 :: r) = skip r := skip_blk (by decide)
    have hle := skip_le _ r (Nat.le_refl _)
    rw [lexW_cong (a' := a + 1) hs (by rw [hs]; simp only [List.length_cons]; omega)]
    show _ = LR.pre [] (lexW (a + 0 + 1) r)
    cases lexW (a + 1) r <;> simp [LR.pre]
  | succ n ih =>
    intro l hl a r
    by_cases hs : skip l = []
    · have h1 := skip_nl (r := r) hs
      have hle := skip_le _ r (Nat.le_refl _)
      rw [lexW_end hs, lexW_cong (a' := a + l.length + 1) h1 (by rw [h1]; simp only [List.length_append, List.length_cons]; omega)]
      show _ = LR.pre [] _
      cases lexW (a + l.length + 1) r <;> simp [LR.pre]
    · have h1 : skip (l ++ 10 :: r) = skip l ++ 10 :: r := skip_app hs
      have hne : skip (l ++ 10 :: r) ≠ [] := by rw [h1]; simp
      have hw : wordR (skip l ++ 10 :: r) = wordR (skip l) := wordR_stop hs (stop_nl r)
      have hle := skip_le _ l (Nat.le_refl _)
      have hp : a + ((l ++ 10 :: r).length - (skip (l ++ 10 :: r)).length) = a + (l.length - (skip l).length) := by rw [h1]; simp only [List.length_append, List.length_cons]; omega
      cases hk : (wordR (skip l)).ok with
      | false =>
        rw [lexW_bad hs hk, lexW_bad hne (by rw [h1, hw]; exact hk), hp]; rfl
      | true =>
        have hwl := word_le hs hk
        rw [lexW_word hs hk, lexW_word hne (by rw [h1, hw]; exact hk), hp, h1, hw, LR.pre_andThen]
        rw [List.drop_append_of_le_length hwl.2, ih _ (by simp only [List.length_drop]; omega)]
        congr 3
        simp only [List.length_drop]; omega
def Tk.add (d : Nat) (t : Tk) : Tk := { t with a := t.a + (d : Int) }
def LR.add (d : Nat) : LR → LR
  | .ok ts => .ok (ts.map (Tk.add d))
  | .bad p => .bad (p + d)
theorem LR.pre_add (d : Nat) (ts : List Tk) (x : LR) : LR.add d (LR.pre ts x) = LR.pre (ts.map (Tk.add d)) (LR.add d x) := by cases x <;> simp [LR.add, LR.pre]
theorem put_add (t : Tk) (p d : Nat) : Tk.add d (t.put p) = t.put (p + d) := by unfold Tk.add Tk.put; simp
theorem lexW_add (d : Nat) : ∀ (n : Nat) (l : List UInt8), l.length ≤ n → ∀ a : Nat, lexW (a + d) l = LR.add d (lexW a l) := by
  intro n
  induction n with
  | zero =>
    intro l hl a
    have : l = [] := List.length_eq_zero_iff.1 (by omega)
    subst this
    rw [lexW_end (show skip [] = [] from skip_zero rfl), lexW_end (show skip [] = [] from skip_zero rfl)]; rfl
  | succ n ih =>
    intro l hl a
    by_cases hs : skip l = []
    · rw [lexW_end hs, lexW_end hs]; rfl
    · have hle := skip_le _ l (Nat.le_refl _)
      cases hk : (wordR (skip l)).ok with
      | false => rw [lexW_bad hs hk, lexW_bad hs hk]; show LR.bad _ = LR.bad _; congr 1; omega
      | true =>
        have hwl := word_le hs hk
        rw [lexW_word hs hk, lexW_word hs hk, LR.pre_add]
        rw [show a + d + (l.length - (skip l).length) + (wordR (skip l)).n = a + (l.length - (skip l).length) + (wordR (skip l)).n + d by omega, ih _ (by simp only [List.length_drop]; omega)]
        simp only [List.map_cons, List.map_nil, put_add]
        rw [show a + d + (l.length - (skip l).length) = a + (l.length - (skip l).length) + d by omega]
-- ------------------------------------------------------------------ each word alone
theorem textW_put (t : Tk) (a : Nat) : textW (t.put a) = textW t := rfl
theorem put_put (t : Tk) (a b : Nat) : (t.put a).put b = t.put b := rfl
/-- A word that is read as itself. -/
structure Wd (t : Tk) : Prop where
  ne : textW t ≠ []
  head : ∀ u r, textW t = u :: r → blkB u = false ∧ u ≠ 35
  word : wordR (textW t) = ⟨t.put 0, (textW t).length, true⟩
theorem put_self {t : Tk} (h : t.a = 0) : t.put 0 = t := by unfold Tk.put; cases t; simp at h; simp [h]
theorem wd_of {l : List UInt8} (hs : skip l ≠ []) (hk : (wordR (skip l)).ok = true) (a : Nat) : Wd ((wordR (skip l)).tok.put a) := by
  have hw := word_le hs hk
  obtain ⟨hf, hc⟩ := word_wf hs hk
  have ht : textW ((wordR (skip l)).tok.put a) = (skip l).take (wordR (skip l)).n := by rw [textW_put, hf.txt]
  refine ⟨?_, ?_, ?_⟩
  · rw [ht]; intro e; have := congrArg List.length e; rw [List.length_take, List.length_nil] at this; omega
  · intro u r e
    rw [ht] at e
    cases hm : skip l with
    | nil => exact absurd hm hs
    | cons v m =>
      rw [hm] at e
      obtain ⟨k, hk'⟩ := Nat.exists_eq_succ_of_ne_zero (Nat.ne_of_gt (by rw [hm] at hw; exact hw.1))
      rw [hk'] at e
      cases e
      exact skip_head hm
  · rw [ht, hc, put_put, put_self hf.a0]
    have : ((skip l).take (wordR (skip l)).n).length = (wordR (skip l)).n := by rw [List.length_take]; omega
    rw [this]
    cases hr : wordR (skip l) with
    | mk t n ok => rw [hr] at hk; simp at hk; rw [hk]
theorem lexW_wd : ∀ (n : Nat) (l : List UInt8), l.length ≤ n → ∀ (a : Nat) (ts : List Tk), lexW a l = .ok ts → ∀ t ∈ ts, Wd t := by
  intro n
  induction n with
  | zero =>
    intro l hl a ts h
    have : l = [] := List.length_eq_zero_iff.1 (by omega)
    subst this
    rw [lexW_end (show skip [] = [] from skip_zero rfl)] at h; cases h; intro t ht; cases ht
  | succ n ih =>
    intro l hl a ts h
    by_cases hs : skip l = []
    · rw [lexW_end hs] at h; cases h; intro t ht; cases ht
    · have hle := skip_le _ l (Nat.le_refl _)
      cases hk : (wordR (skip l)).ok with
      | false => rw [lexW_bad hs hk] at h; cases h
      | true =>
        have hwl := word_le hs hk
        rw [lexW_word hs hk] at h
        obtain ⟨r, hr, rfl⟩ := LR.pre_ok h
        intro t ht
        rcases List.mem_append.1 ht with ht | ht
        · rw [List.mem_singleton] at ht; rw [ht]; exact wd_of hs hk _
        · exact ih _ (by simp only [List.length_drop]; omega) _ _ hr t ht
/-- A word, and behind it what ends it. -/
theorem lexW_cons {t : Tk} (h : Wd t) {x : List UInt8} (hx : Stop x) (a : Nat) : lexW a (textW t ++ x) = LR.pre [t.put a] (lexW (a + (textW t).length) x) := by
  have hsk : skip (textW t ++ x) = textW t ++ x := by
    obtain ⟨u, r, e⟩ := List.exists_cons_of_ne_nil h.ne
    rw [e, List.cons_append]; exact skip_stop (h.head u r e)
  have hne : skip (textW t ++ x) ≠ [] := by rw [hsk]; intro e; exact h.ne (List.append_eq_nil_iff.1 e).1
  have hw : wordR (skip (textW t ++ x)) = ⟨t.put 0, (textW t).length, true⟩ := by rw [hsk, wordR_stop h.ne hx, h.word]
  rw [lexW_word hne (by rw [hw]), hw, hsk]
  simp [put_put]
theorem lexW_one {t : Tk} (h : Wd t) (a : Nat) : lexW a (textW t) = .ok [t.put a] := by
  have := lexW_cons h stop_nil a
  rw [List.append_nil, lexW_end (show skip [] = [] from skip_zero rfl)] at this
  rw [this]; rfl
-- ------------------------------------------------------------------ but for where they begin
def strip (l : List Tk) : List Tk := l.map fun t => t.put 0
theorem putI_eq {x y : Tk} (h : x.put 0 = y.put 0) : x.putI y.a = y := by
  cases x; cases y; simp [Tk.put] at h; simp [Tk.putI, h]
theorem sameB_strip : ∀ {a b : List Tk}, strip a = strip b → sameB false a b = true := by
  intro a
  induction a with
  | nil => intro b h; cases b with
    | nil => rfl
    | cons y b => cases h
  | cons x a ih =>
    intro b h
    cases b with
    | nil => cases h
    | cons y b =>
      simp only [strip, List.map_cons, List.cons.injEq] at h
      rw [sameB, ih h.2, Bool.and_true]
      simpa using putI_eq h.1
theorem textL_one (t : Tk) : textL [t] = textW t := by simp [textL, Lib.join, List.intercalate]
theorem textL_cons (t s : Tk) (r : List Tk) : textL (t :: s :: r) = textW t ++ 32 :: textL (s :: r) := by simp [textL, Lib.join, List.intercalate]
/-- Words written are the words. -/
theorem lex_text : ∀ (ts : List Tk), (∀ t ∈ ts, Wd t) → ∀ a : Nat, ∃ ts', lexW a (textL ts) = .ok ts' ∧ strip ts' = strip ts := by
  intro ts
  induction ts with
  | nil => intro _ a; exact ⟨[], lexW_end (show skip [] = [] from skip_zero rfl), rfl⟩
  | cons t r ih =>
    intro h a
    have ht := h t List.mem_cons_self
    cases r with
    | nil => exact ⟨[t.put a], by rw [textL_one]; exact lexW_one ht a, by simp [strip, put_put]⟩
    | cons s r =>
      obtain ⟨ts', h1, h2⟩ := ih (fun u hu => h u (List.mem_cons_of_mem _ hu)) (a + (textW t).length + 1)
      refine ⟨t.put a :: ts', ?_, by simp only [strip, List.map_cons, put_put] at h2 ⊢; rw [h2]⟩
      rw [textL_cons, lexW_cons ht (stop_cons (.inl (by decide)))]
      have hs : skip (32 :: textL (s :: r)) = skip (textL (s :: r)) := skip_blk (by decide)
      have hle := skip_le _ (textL (s :: r)) (Nat.le_refl _)
      rw [lexW_cong (a' := a + (textW t).length + 1) hs (by rw [hs]; simp only [List.length_cons]; omega), h1]; rfl
/-- What may lie between two words. -/
structure Gap (g : List UInt8) : Prop where
  stop : ∀ x, Stop (g ++ x)
  skip : ∀ x, skip (g ++ x) = skip x
theorem lex_gap : ∀ (l : List (Tk × List UInt8)), (∀ p ∈ l, Wd p.1 ∧ Gap p.2) → ∀ a : Nat, ∃ ts', lexW a (l.flatMap fun p => textW p.1 ++ p.2) = .ok ts' ∧ strip ts' = strip (l.map (·.1)) := by
  intro l
  induction l with
  | nil => intro _ a; exact ⟨[], lexW_end (show skip [] = [] from skip_zero rfl), rfl⟩
  | cons p l ih =>
    intro h a
    obtain ⟨hw, hg⟩ := h p List.mem_cons_self
    obtain ⟨ts', h1, h2⟩ := ih (fun q hq => h q (List.mem_cons_of_mem _ hq)) (a + (textW p.1).length + p.2.length)
    refine ⟨p.1.put a :: ts', ?_, by simp only [strip, List.map_cons, put_put] at h2 ⊢; rw [h2]⟩
    rw [List.flatMap_cons, List.append_assoc, lexW_cons hw (hg.stop _)]
    have hs := hg.skip (l.flatMap fun p => textW p.1 ++ p.2)
    have hle := skip_le _ (l.flatMap fun p => textW p.1 ++ p.2) (Nat.le_refl _)
    rw [lexW_cong (a' := a + (textW p.1).length + p.2.length) hs (by rw [hs]; simp only [List.length_append]; omega), h1]; rfl
-- ------------------------------------------------------------------ where they stand
/-- Each word begins behind the one ahead, within the source, with its own bytes. -/
def PosL (l : List UInt8) : Nat → List Tk → Prop
  | _, [] => True
  | e, t :: r => ∃ p : Nat, t.a = (p : Int) ∧ e ≤ p ∧ p + t.t.length ≤ l.length ∧ (l.drop p).take t.t.length = t.t ∧ t.t ≠ [] ∧ 1 ≤ t.k ∧ t.k ≤ 6 ∧ (t.k ≠ 1 → t.n = 0) ∧ PosL l (p + t.t.length) r
theorem skip_drop : ∀ (l : List UInt8) (c : Bool), l.drop (l.length - (skS c l).length) = skS c l := by
  intro l
  induction l with
  | nil => intro c; cases c <;> rfl
  | cons u l ih =>
    have hle : ∀ c, (skS c l).length ≤ l.length := fun c => by
      have := congrArg List.length (ih c); simp only [List.length_drop] at this; omega
    intro c
    cases c with
    | false =>
      rw [skS_f]
      split
      · rw [List.length_cons, show l.length + 1 - (skS false l).length = (l.length - (skS false l).length) + 1 by have := hle false; omega, List.drop_succ_cons, ih]
      · split
        · rw [List.length_cons, show l.length + 1 - (skS true l).length = (l.length - (skS true l).length) + 1 by have := hle true; omega, List.drop_succ_cons, ih]
        · simp
    | true =>
      rw [skS_t]
      split
      · rw [List.length_cons, show l.length + 1 - (skS true l).length = (l.length - (skS true l).length) + 1 by have := hle true; omega, List.drop_succ_cons, ih]
      · rw [List.length_cons, show l.length + 1 - (skS false l).length = (l.length - (skS false l).length) + 1 by have := hle false; omega, List.drop_succ_cons, ih]
theorem lexW_pos (L : List UInt8) : ∀ (n a : Nat), L.length - a ≤ n → a ≤ L.length → ∀ (ts : List Tk), lexW a (L.drop a) = .ok ts → ∀ e ≤ a, PosL L e ts := by
  intro n
  induction n with
  | zero =>
    intro a hn ha ts h e he
    have : L.drop a = [] := List.drop_eq_nil_of_le (by omega)
    rw [this, lexW_end (show skip [] = [] from skip_zero rfl)] at h; cases h; trivial
  | succ n ih =>
    intro a hn ha ts h e he
    by_cases hs : skip (L.drop a) = []
    · rw [lexW_end hs] at h; cases h; trivial
    · have hle := skip_le _ (L.drop a) (Nat.le_refl _)
      cases hk : (wordR (skip (L.drop a))).ok with
      | false => rw [lexW_bad hs hk] at h; cases h
      | true =>
        have hwl := word_le hs hk
        obtain ⟨hf, _⟩ := word_wf hs hk
        have hd : (L.drop a).drop ((L.drop a).length - (skip (L.drop a)).length) = skip (L.drop a) := by rw [skip_eq]; exact skip_drop _ _
        rw [lexW_word hs hk] at h
        obtain ⟨r, hr, rfl⟩ := LR.pre_ok h
        simp only [List.length_drop] at hle hwl hr hd ⊢
        generalize hm : skip (L.drop a) = m at *
        rw [List.drop_drop] at hd
        have hlen := congrArg List.length hd
        simp only [List.length_drop] at hlen
        have hft := hf.le
        refine ⟨a + (L.length - a - m.length), rfl, by omega, ?_, ?_, hf.ne, hf.k1, hf.k6, hf.n0, ?_⟩
        · show a + (L.length - a - m.length) + (wordR m).tok.t.length ≤ L.length; omega
        · show (L.drop (a + (L.length - a - m.length))).take (wordR m).tok.t.length = (wordR m).tok.t
          rw [hd, hf.at_]
        · rw [← hd, List.drop_drop, hd] at hr
          exact ih _ (by omega) (by omega) _ hr _ (by show a + (L.length - a - m.length) + (wordR m).tok.t.length ≤ _; omega)
end Go.Proofs.YtkclecfbjfdfkaaGreatDoor
