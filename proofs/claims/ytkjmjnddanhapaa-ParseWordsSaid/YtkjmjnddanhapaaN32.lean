/-
  The text of words, read again, is the words; where what is read stands; what two readings of the same words have in common. Plain lemmas; no condition beyond those that stand in each statement.
-/
import Derived.Test.YtkjmjnddanhapaaN22
import Derived.Test.YtkjmjnddanhapaaN29
namespace Go.Proofs.Ytkjmjnddanhapaa
open Go.RowKit

theorem take_one {α : Type} {l : List α} {k : Nat} {u : α} (hu : l[k]? = some u) : l.take (k + 1) = l.take k ++ [u] := by rw [List.take_add_one, hu]; rfl
/-- A word as it is written. -/
def textW (t : Tk) : List UInt8 := if t.k = 6 then t.t ++ [33] else t.t
/-- The text of words. -/
def textL (l : List Tk) : List UInt8 := Lib.join (l.map textW) [32]
theorem stop_nil : Stop [] := fun u h => by cases h
theorem skip_head {l r : List UInt8} {u : UInt8} (h : skip l = u :: r) : blkB u = false ∧ u ≠ 35 := skS_head l false u r (by rw [← skip_eq]; exact h)
theorem tw_self {p : UInt8 → Bool} (m : List UInt8) : (m.takeWhile p).takeWhile p = m.takeWhile p := by
  induction m with
  | nil => rfl
  | cons u m ih =>
    rw [List.takeWhile_cons]
    split
    · rw [List.takeWhile_cons, if_pos (by assumption), ih]
    · rfl
theorem tw_pre {p : UInt8 → Bool} (m x : List UInt8) (hx : ∀ u ∈ x.head?, p u = false) : (m.takeWhile p ++ x).takeWhile p = m.takeWhile p := by rw [tw_stop hx, tw_self]
/-- What is so of each word that is read. -/
structure WF (m : List UInt8) (r : WR) : Prop where
  txt : textW r.tok = m.take r.n
  k1 : 1 ≤ r.tok.k
  k6 : r.tok.k ≤ 6
  n0 : r.tok.k ≠ 1 → r.tok.n = 0
  ne : r.tok.t ≠ []
  le : r.tok.t.length ≤ r.n
  at_ : m.take r.tok.t.length = r.tok.t
  a0 : r.tok.a = 0
theorem num_wf {m : List UInt8} (hp : 0 < whileN digB m) (hk : (numR m).ok = true) : WF m (numR m) ∧ numR (m.take (numR m).n) = numR m := by
  unfold numR at hk ⊢
  cases hn : numGo 0 (digs m) with
  | none => rw [hn] at hk; cases hk
  | some v =>
    have hlen : (digs m).length = whileN digB m := by unfold digs; rw [List.length_take]; have := whileN_le digB m; omega
    have hne : digs m ≠ [] := fun e => by rw [e] at hlen; simp at hlen; omega
    refine ⟨⟨rfl, by dsimp only; decide, by dsimp only; decide, fun h => absurd rfl h, hne, Nat.le_of_eq hlen, ?_, rfl⟩, ?_⟩
    · show m.take (digs m).length = digs m; rw [hlen]; rfl
    · show (match numGo 0 (digs (m.take (whileN digB m))) with | none => _ | some v => _) = _
      have e1 : m.take (whileN digB m) = m.takeWhile digB := takeWhile_take m
      have e2 : digs (m.take (whileN digB m)) = digs m := by rw [digs_eq, e1, tw_self, digs_eq]
      have e3 : whileN digB (m.take (whileN digB m)) = whileN digB m := by rw [e1]; unfold whileN; rw [tw_self]
      rw [e2, hn, e3]
theorem name_take {m : List UInt8} : (nameT m).length = whileN nameB m := by unfold nameT; rw [List.length_take]; have := whileN_le nameB m; omega
theorem name_wf {m : List UInt8} (hp : 0 < whileN nameB m) (hk : (nameR m).ok = true) : WF m (nameR m) ∧ nameR (m.take (nameR m).n) = nameR m := by
  have hlen := name_take (m := m)
  have hle := whileN_le nameB m
  have hne : nameT m ≠ [] := fun e => by rw [e] at hlen; simp at hlen; omega
  have e1 : m.take (whileN nameB m) = m.takeWhile nameB := takeWhile_take m
  have hat : m.take (nameT m).length = nameT m := by rw [hlen]; rfl
  have w2 : whileN nameB (nameT m) = whileN nameB m := by unfold nameT; rw [e1]; unfold whileN; rw [tw_self]
  have t2 : nameT (nameT m) = nameT m := by rw [nameT_eq, nameT_eq, tw_self]
  have hd : (nameT m).getD 0 0 = m.getD 0 0 := by
    unfold nameT
    cases m with
    | nil => simp
    | cons c r => obtain ⟨k, hk⟩ := Nat.exists_eq_succ_of_ne_zero (Nat.ne_of_gt hp); rw [hk]; rfl
  have hnc : ¬ (whileN nameB m < (nameT m).length ∧ ((nameT m).getD (whileN nameB m) 0).toNat = 33) := by rw [hlen]; omega
  by_cases h1 : 60 < whileN nameB m
  · unfold nameR at hk; rw [if_pos h1] at hk; cases hk
  · by_cases h2 : largB (m.getD 0 0) = true
    · have e : nameR m = ⟨⟨3, nameT m, 0, 0⟩, whileN nameB m, true⟩ := by unfold nameR; rw [if_neg h1, if_pos h2]
      rw [e]
      refine ⟨⟨rfl, by dsimp only; decide, by dsimp only; decide, fun _ => rfl, hne, Nat.le_of_eq hlen, hat, rfl⟩, ?_⟩
      show nameR (nameT m) = _
      unfold nameR
      rw [w2, t2, hd, if_neg h1, if_pos h2]
    · by_cases h3 : kwB (nameT m) = true
      · have e : nameR m = ⟨⟨4, nameT m, 0, 0⟩, whileN nameB m, true⟩ := by unfold nameR; rw [if_neg h1, if_neg h2, if_pos h3]
        rw [e]
        refine ⟨⟨rfl, by dsimp only; decide, by dsimp only; decide, fun _ => rfl, hne, Nat.le_of_eq hlen, hat, rfl⟩, ?_⟩
        show nameR (nameT m) = _
        unfold nameR
        rw [w2, t2, hd, if_neg h1, if_neg h2, if_pos h3]
      · by_cases h4 : whileN nameB m < m.length ∧ (m.getD (whileN nameB m) 0).toNat = 33
        · have e : nameR m = ⟨⟨6, nameT m, 0, 0⟩, whileN nameB m + 1, true⟩ := by unfold nameR; rw [if_neg h1, if_neg h2, if_neg h3, if_pos h4]
          have h33 : m[whileN nameB m]? = some 33 := by
            have := h4.2
            rw [List.getD_eq_getElem?_getD, List.getElem?_eq_getElem h4.1] at this
            rw [List.getElem?_eq_getElem h4.1]
            exact congrArg some (UInt8.toNat.inj (by simpa using this))
          have et : m.take (whileN nameB m + 1) = nameT m ++ [33] := take_one h33
          rw [e]
          refine ⟨⟨?_, by dsimp only; decide, by dsimp only; decide, fun _ => rfl, hne, Nat.le_trans (Nat.le_of_eq hlen) (Nat.le_succ _), hat, rfl⟩, ?_⟩
          · show textW ⟨6, nameT m, 0, 0⟩ = m.take (whileN nameB m + 1)
            rw [et]; rfl
          · show nameR (m.take (whileN nameB m + 1)) = _
            have h33n : ∀ u ∈ ([33] : List UInt8).head?, nameB u = false := fun u hu => by cases hu; decide
            have w3 : whileN nameB (nameT m ++ [33]) = whileN nameB m := by unfold whileN; rw [nameT_eq, tw_pre m [33] h33n]
            have t3 : nameT (nameT m ++ [33]) = nameT m := by rw [nameT_eq, nameT_eq, tw_pre m [33] h33n]
            have hd3 : (nameT m ++ [33]).getD 0 0 = m.getD 0 0 := by
              rw [← hd]; obtain ⟨c, r, hcr⟩ := List.exists_cons_of_ne_nil hne; rw [hcr]; rfl
            have h5 : whileN nameB m < (nameT m ++ [33]).length ∧ ((nameT m ++ [33]).getD (whileN nameB m) 0).toNat = 33 := by
              refine ⟨by rw [List.length_append, hlen]; simp, ?_⟩
              rw [List.getD_eq_getElem?_getD, ← hlen, List.getElem?_append_right (Nat.le_refl _), Nat.sub_self]; rfl
            rw [et]
            unfold nameR
            rw [w3, t3, hd3, if_neg h1, if_neg h2, if_neg h3, if_pos h5]
        · have e : nameR m = ⟨⟨2, nameT m, 0, 0⟩, whileN nameB m, true⟩ := by unfold nameR; rw [if_neg h1, if_neg h2, if_neg h3, if_neg h4]
          rw [e]
          refine ⟨⟨rfl, by dsimp only; decide, by dsimp only; decide, fun _ => rfl, hne, Nat.le_of_eq hlen, hat, rfl⟩, ?_⟩
          show nameR (nameT m) = _
          unfold nameR
          rw [w2, t2, hd, if_neg h1, if_neg h2, if_neg h3, if_neg hnc]
theorem sign_wf {m : List UInt8} (hk : (signR m).ok = true) : WF m (signR m) ∧ signR (m.take (signR m).n) = signR m := by
  unfold signR at hk ⊢
  cases hf : signsS.find? (preB m) with
  | none => rw [hf] at hk; cases hk
  | some x =>
    have hm := List.mem_of_find?_eq_some hf
    have hp : preB m x = true := List.find?_some hf
    have hs : x.data.toList.length = x.size := by cases x; simp [ByteArray.size]
    have hpre : x.data.toList <+: m := List.isPrefixOf_iff_prefix.1 hp
    have ht : m.take x.size = x.data.toList := by rw [← hs]; exact (List.prefix_iff_eq_take.1 hpre).symm
    have hne : x.data.toList ≠ [] := by
      rcases sign_len hm with ⟨a, e⟩ | ⟨a, b, e, _⟩ <;> (rw [e]; simp)
    refine ⟨⟨?_, by dsimp only; decide, by dsimp only; decide, fun _ => rfl, hne, Nat.le_of_eq hs, by rw [hs]; exact ht, rfl⟩, ?_⟩
    · show textW ⟨5, x.data.toList, 0, 0⟩ = m.take x.size
      rw [ht]; rfl
    · show (match signsS.find? (preB (m.take x.size)) with | none => _ | some y => _) = _
      have : signsS.find? (preB (m.take x.size)) = some x := find_sub hf (fun y hy => by
        unfold preB Lib.hasPrefix at hy ⊢
        exact List.isPrefixOf_iff_prefix.2 ((List.isPrefixOf_iff_prefix.1 hy).trans (List.take_prefix _ _))) (by
        unfold preB Lib.hasPrefix
        rw [ht]; exact List.isPrefixOf_iff_prefix.2 (List.prefix_refl _))
      rw [this]
theorem word_wf {m : List UInt8} (hm : m ≠ []) (hk : (wordR m).ok = true) : WF m (wordR m) ∧ wordR (m.take (wordR m).n) = wordR m := by
  have hpos := (word_le hm hk).1
  have hh := take_head (m := m) hpos
  obtain ⟨u, r, rfl⟩ := List.exists_cons_of_ne_nil hm
  have e : ∀ x : List UInt8, x.getD 0 0 = (u :: r).getD 0 0 → wordR x = takR (ruleOf u) x := fun x hx => by unfold wordR; rw [hx]; rfl
  rw [e _ hh]
  rw [e _ rfl] at hk hpos ⊢
  unfold ruleOf at hk hpos ⊢
  by_cases h1 : digB u = true
  · rw [if_pos h1] at hk hpos ⊢
    exact num_wf (whileN_pos h1) hk
  · rw [if_neg h1] at hk hpos ⊢
    by_cases h2 : letB u = true
    · rw [if_pos h2] at hk hpos ⊢
      exact name_wf (whileN_pos (by unfold nameB; rw [h2]; rfl)) hk
    · rw [if_neg h2] at hk hpos ⊢
      exact sign_wf hk
theorem textW_put (t : Tk) (a : Nat) : textW (t.put a) = textW t := rfl
theorem put_put (t : Tk) (a b : Nat) : (t.put a).put b = t.put b := rfl
theorem put_self {t : Tk} (h : t.a = 0) : t.put 0 = t := by unfold Tk.put; cases t; simp at h; simp [h]
/-- A word that is read as itself. -/
structure WdT (t : Tk) : Prop where
  ne : textW t ≠ []
  head : ∀ u r, textW t = u :: r → blkB u = false ∧ u ≠ 35
  word : wordR (textW t) = ⟨t.put 0, (textW t).length, true⟩
theorem wdT_of {l : List UInt8} (hs : skip l ≠ []) (hk : (wordR (skip l)).ok = true) (a : Nat) : WdT ((wordR (skip l)).tok.put a) := by
  have hw := word_le hs hk
  obtain ⟨hf, hc⟩ := word_wf hs hk
  have ht : textW ((wordR (skip l)).tok.put a) = (skip l).take (wordR (skip l)).n := by rw [textW_put, hf.txt]
  refine ⟨?_, ?_, ?_⟩
  · rw [ht]; intro e; have := congrArg List.length e; rw [List.length_take, List.length_nil] at this; omega
  · intro u r e
    rw [ht] at e
    cases hm : skip l with
    | nil => exact absurd hm hs
    | cons v m =>
      rw [hm] at e
      obtain ⟨k, hk'⟩ := Nat.exists_eq_succ_of_ne_zero (Nat.ne_of_gt (by rw [hm] at hw; exact hw.1))
      rw [hk'] at e
      cases e
      exact skip_head hm
  · rw [ht, hc, put_put, put_self hf.a0]
    have : ((skip l).take (wordR (skip l)).n).length = (wordR (skip l)).n := by rw [List.length_take]; omega
    rw [this]
    cases hr : wordR (skip l) with
    | mk t n ok => rw [hr] at hk; simp at hk; rw [hk]
theorem lexW_wd : ∀ (n : Nat) (l : List UInt8), l.length ≤ n → ∀ (a : Nat) (ts : List Tk), lexW a l = .ok ts → ∀ t ∈ ts, WdT t := by
  intro n
  induction n with
  | zero =>
    intro l hl a ts h
    have : l = [] := List.length_eq_zero_iff.1 (by omega)
    subst this
    rw [lexW_end (show skip [] = [] from skip_zero rfl)] at h; cases h; intro t ht; cases ht
  | succ n ih =>
    intro l hl a ts h
    by_cases hs : skip l = []
    · rw [lexW_end hs] at h; cases h; intro t ht; cases ht
    · have hle := skip_le _ l (Nat.le_refl _)
      cases hk : (wordR (skip l)).ok with
      | false => rw [lexW_bad hs hk] at h; cases h
      | true =>
        have hwl := word_le hs hk
        rw [lexW_word hs hk] at h
        obtain ⟨r, hr, rfl⟩ := LR.pre_ok h
        intro t ht
        rcases List.mem_append.1 ht with ht | ht
        · rw [List.mem_singleton] at ht; rw [ht]; exact wdT_of hs hk _
        · exact ih _ (by simp only [List.length_drop]; omega) _ _ hr t ht
/-- A word, and behind it what ends it. -/
theorem lexW_cons {t : Tk} (h : WdT t) {x : List UInt8} (hx : Stop x) (a : Nat) : lexW a (textW t ++ x) = LR.pre [t.put a] (lexW (a + (textW t).length) x) := by
  have hsk : skip (textW t ++ x) = textW t ++ x := by
    obtain ⟨u, r, e⟩ := List.exists_cons_of_ne_nil h.ne
    rw [e, List.cons_append]; exact skip_stop (h.head u r e)
  have hne : skip (textW t ++ x) ≠ [] := by rw [hsk]; intro e; exact h.ne (List.append_eq_nil_iff.1 e).1
  have hw : wordR (skip (textW t ++ x)) = ⟨t.put 0, (textW t).length, true⟩ := by rw [hsk, wordR_stop h.ne hx, h.word]
  rw [lexW_word hne (by rw [hw]), hw, hsk]
  simp [put_put]
theorem lexW_one {t : Tk} (h : WdT t) (a : Nat) : lexW a (textW t) = .ok [t.put a] := by
  have := lexW_cons h stop_nil a
  rw [List.append_nil, lexW_end (show skip [] = [] from skip_zero rfl)] at this
  rw [this]; rfl
def strip (l : List Tk) : List Tk := l.map fun t => t.put 0
theorem textL_one (t : Tk) : textL [t] = textW t := by simp [textL, Lib.join, List.intercalate]
theorem textL_cons (t s : Tk) (r : List Tk) : textL (t :: s :: r) = textW t ++ 32 :: textL (s :: r) := by simp [textL, Lib.join, List.intercalate]
/-- Words written are the words. -/
theorem lex_text : ∀ (ts : List Tk), (∀ t ∈ ts, WdT t) → ∀ a : Nat, ∃ ts', lexW a (textL ts) = .ok ts' ∧ strip ts' = strip ts := by
  intro ts
  induction ts with
  | nil => intro _ a; exact ⟨[], lexW_end (show skip [] = [] from skip_zero rfl), rfl⟩
  | cons t r ih =>
    intro h a
    have ht := h t List.mem_cons_self
    cases r with
    | nil => exact ⟨[t.put a], by rw [textL_one]; exact lexW_one ht a, by simp [strip, put_put]⟩
    | cons s r =>
      obtain ⟨ts', h1, h2⟩ := ih (fun u hu => h u (List.mem_cons_of_mem _ hu)) (a + (textW t).length + 1)
      refine ⟨t.put a :: ts', ?_, by simp only [strip, List.map_cons, put_put] at h2 ⊢; rw [h2]⟩
      rw [textL_cons, lexW_cons ht (stop_cons (.inl (by decide)))]
      have hs : skip (32 :: textL (s :: r)) = skip (textL (s :: r)) := skip_blk (by decide)
      have hle := skip_le _ (textL (s :: r)) (Nat.le_refl _)
      rw [lexW_cong (a' := a + (textW t).length + 1) hs (by rw [hs]; simp only [List.length_cons]; omega), h1]; rfl
/-- Each word begins behind the one ahead, within the source, with its own bytes. -/
def PosL (l : List UInt8) : Nat → List Tk → Prop
  | _, [] => True
  | e, t :: r => ∃ p : Nat, t.a = (p : Int) ∧ e ≤ p ∧ p + t.t.length ≤ l.length ∧ (l.drop p).take t.t.length = t.t ∧ t.t ≠ [] ∧ 1 ≤ t.k ∧ t.k ≤ 6 ∧ (t.k ≠ 1 → t.n = 0) ∧ PosL l (p + t.t.length) r
theorem lexW_pos (L : List UInt8) : ∀ (n a : Nat), L.length - a ≤ n → a ≤ L.length → ∀ (ts : List Tk), lexW a (L.drop a) = .ok ts → ∀ e ≤ a, PosL L e ts := by
  intro n
  induction n with
  | zero =>
    intro a hn ha ts h e he
    have : L.drop a = [] := List.drop_eq_nil_of_le (by omega)
    rw [this, lexW_end (show skip [] = [] from skip_zero rfl)] at h; cases h; trivial
  | succ n ih =>
    intro a hn ha ts h e he
    by_cases hs : skip (L.drop a) = []
    · rw [lexW_end hs] at h; cases h; trivial
    · have hle := skip_le _ (L.drop a) (Nat.le_refl _)
      cases hk : (wordR (skip (L.drop a))).ok with
      | false => rw [lexW_bad hs hk] at h; cases h
      | true =>
        have hwl := word_le hs hk
        obtain ⟨hf, _⟩ := word_wf hs hk
        have hd : (L.drop a).drop ((L.drop a).length - (skip (L.drop a)).length) = skip (L.drop a) := by rw [skip_eq]; exact skip_drop _ _
        rw [lexW_word hs hk] at h
        obtain ⟨r, hr, rfl⟩ := LR.pre_ok h
        simp only [List.length_drop] at hle hwl hr hd ⊢
        generalize hm : skip (L.drop a) = m at *
        rw [List.drop_drop] at hd
        have hlen := congrArg List.length hd
        simp only [List.length_drop] at hlen
        have hft := hf.le
        refine ⟨a + (L.length - a - m.length), rfl, by omega, ?_, ?_, hf.ne, hf.k1, hf.k6, hf.n0, ?_⟩
        · show a + (L.length - a - m.length) + (wordR m).tok.t.length ≤ L.length; omega
        · show (L.drop (a + (L.length - a - m.length))).take (wordR m).tok.t.length = (wordR m).tok.t
          rw [hd, hf.at_]
        · rw [← hd, List.drop_drop, hd] at hr
          exact ih _ (by omega) (by omega) _ hr _ (by show a + (L.length - a - m.length) + (wordR m).tok.t.length ≤ _; omega)
def sumW : List Tk → Nat
  | [] => 0
  | t :: r => (textW t).length + sumW r
theorem lexW_sum : ∀ (n : Nat) (l : List UInt8), l.length ≤ n → ∀ (a : Nat) (ts : List Tk), lexW a l = .ok ts → sumW ts ≤ l.length := by
  intro n
  induction n with
  | zero =>
    intro l hl a ts h
    have : l = [] := List.length_eq_zero_iff.1 (by omega)
    subst this
    rw [lexW_end (show skip [] = [] from skip_zero rfl)] at h; cases h; exact Nat.zero_le _
  | succ n ih =>
    intro l hl a ts h
    by_cases hs : skip l = []
    · rw [lexW_end hs] at h; cases h; exact Nat.zero_le _
    · have hle := skip_le _ l (Nat.le_refl _)
      cases hk : (wordR (skip l)).ok with
      | false => rw [lexW_bad hs hk] at h; cases h
      | true =>
        have hwl := word_le hs hk
        obtain ⟨hf, _⟩ := word_wf hs hk
        rw [lexW_word hs hk] at h
        obtain ⟨r, hr, rfl⟩ := LR.pre_ok h
        have h1 := ih _ (by simp only [List.length_drop]; omega) _ _ hr
        have h2 : (textW ((wordR (skip l)).tok.put (a + (l.length - (skip l).length)))).length = (wordR (skip l)).n := by rw [textW_put, hf.txt, List.length_take]; omega
        simp only [List.length_drop] at h1
        show sumW (_ :: r) ≤ _
        rw [sumW, h2]; omega
theorem textL_le : ∀ (ts : List Tk), (∀ t ∈ ts, WdT t) → (textL ts).length ≤ 2 * sumW ts := by
  intro ts
  induction ts with
  | nil => intro _; exact Nat.zero_le _
  | cons t r ih =>
    intro h
    have h0 := List.length_pos_iff.2 (h t List.mem_cons_self).ne
    have h1 := ih fun u hu => h u (List.mem_cons_of_mem _ hu)
    cases r with
    | nil => rw [textL_one, sumW, sumW]; omega
    | cons s r => rw [textL_cons, sumW, List.length_append, List.length_cons]; omega
theorem len_le_sum : ∀ (ts : List Tk), (∀ t ∈ ts, WdT t) → ts.length ≤ sumW ts := by
  intro ts
  induction ts with
  | nil => intro _; exact Nat.zero_le _
  | cons t r ih =>
    intro h
    have h0 := List.length_pos_iff.2 (h t List.mem_cons_self).ne
    have h1 := ih fun u hu => h u (List.mem_cons_of_mem _ hu)
    rw [List.length_cons, sumW]; omega
theorem tok_le_sum : ∀ (ts : List Tk), ∀ t ∈ ts, t.t.length ≤ sumW ts := by
  intro ts
  induction ts with
  | nil => intro t h; cases h
  | cons s r ih =>
    intro t h
    rw [sumW]
    rcases List.mem_cons.1 h with rfl | h
    · have : t.t.length ≤ (textW t).length := by unfold textW; split <;> simp
      omega
    · have := ih t h; omega
theorem lex_zero {l : List UInt8} (h : lexE l = 0) : lexW 0 l = .ok (lexT l) ∧ l.length ≤ 1048576 := by
  by_cases hb : 1048576 < l.length
  · rw [(lex_big hb).2.2] at h; exact absurd h (by decide)
  · cases hl : lexW 0 l with
    | ok ts => exact ⟨by rw [(lex_ok hb hl).1], by omega⟩
    | bad p => rw [(lex_bad hb hl).2.2] at h; exact absurd h (by decide)
/-- What is so of a source that is words. -/
structure Words (l : List UInt8) (ts : List Tk) : Prop where
  lex : lexW 0 l = .ok ts
  wd : ∀ t ∈ ts, WdT t
  sum : sumW ts ≤ l.length
  len : ts.length ≤ l.length
  tok : ∀ t ∈ ts, t.t.length ≤ l.length
  text : (textL ts).length ≤ 2 * l.length
theorem words_of {l : List UInt8} (h : lexE l = 0) : Words l (lexT l) := by
  obtain ⟨h1, _⟩ := lex_zero h
  have hw := lexW_wd _ l (Nat.le_refl _) _ _ h1
  have hs := lexW_sum _ l (Nat.le_refl _) _ _ h1
  have ht := textL_le _ hw
  have hn := len_le_sum _ hw
  exact ⟨h1, hw, hs, by omega, fun t ht => Nat.le_trans (tok_le_sum _ t ht) hs, by omega⟩
theorem join_any (v : Value) (ls : List (List UInt8)) (w : World) (h : StrsAt w v (ls.map bs)) (hN : ls.length ≤ 140737488355328) (hlen : (Lib.join ls [32]).length ≤ 140737488355328) :
    Calls Try.prog 40 ([v, .string (⟨#[32]⟩ : ByteArray)] : List Value).toArray w fun e w' => e = .returned (.string (bs (Lib.join ls [32]))) ∧ Below w.heap.size w w' := by
  have hnil : ∀ (a : Option Addr) (c : Nat), ls = [] → Calls Try.prog 40 ([.slice a 0 c, .string (⟨#[32]⟩ : ByteArray)] : List Value).toArray w fun e w' => e = .returned (.string (bs (Lib.join ls [32]))) ∧ Below w.heap.size w w' := fun a c e => by
    subst e
    exact (Try.strings_Join_none a c ⟨#[32]⟩ w).mono fun e w' q => ⟨q.1, by rw [q.2]; exact Below.refl _ _⟩
  rcases StrsAt.ok h with ⟨rfl, hn⟩ | ⟨⟨b, o, sp⟩, c, rfl, hc, hsp⟩
  · exact hnil none 0 (by simpa using hn)
  · by_cases h0 : ls = []
    · have : (ls.map bs).length = 0 := by rw [h0]; rfl
      rw [this]; exact hnil _ _ h0
    · have hlt : 0 < (ls.map bs).length := by simpa using List.length_pos_iff.2 h0
      have hs := hsp hlt
      simp at hs
      subst hs
      have hm : (ls.map bs).map (·.data.toList) = ls := by rw [List.map_map]; conv => rhs; rw [← List.map_id ls]
                                                           exact List.map_congr_left fun x _ => bs_list x
      have := Try.strings_Join b o c (ls.map bs) ⟨#[32]⟩ w (fun j x hx => by have := StrsAt.get h hx; simpa [vBlock, vOff] using this) (StrsAt.lt h (by simpa using h0)) (by simpa using hN) hc (by rw [hm]; exact hlen)
      rw [hm] at this
      exact this
abbrev psE (e : Int) (ts : List Tk) : Int := (nx e ts).a
/-- Words one behind the other, ahead of e. -/
def So (e : Int) : List Tk → Prop
  | [] => True
  | t :: r => t.a ≤ psE e r ∧ t.a < e ∧ So e r
mutual
def btT (e : Int) : Int → ST → Prop
  | lo, .mk _ a _ _ _ ks zs => lo ≤ a ∧ a < e ∧ btL e a ks ∧ btA e a zs
def btL (e : Int) : Int → List ST → Prop
  | _, [] => True
  | lo, x :: r => btT e lo x ∧ btL e lo r
def btA (e : Int) : Int → List SA → Prop
  | _, [] => True
  | lo, .mk _ _ b :: r => btT e lo b ∧ btA e lo r
end
theorem bt_at {e lo : Int} {x : ST} (h : btT e lo x) : lo ≤ x.at_ ∧ x.at_ < e ∧ btT e x.at_ x := by
  obtain ⟨k, a, nm, pm, n, ks, zs⟩ := x
  rw [btT] at h
  exact ⟨h.1, h.2.1, by rw [btT]; exact ⟨Int.le_refl _, h.2⟩⟩
theorem bt_weak {e lo lo' : Int} {x : ST} (h : btT e lo x) (hl : lo' ≤ lo) : btT e lo' x := by
  obtain ⟨k, a, nm, pm, n, ks, zs⟩ := x
  rw [btT] at h ⊢
  exact ⟨Int.le_trans hl h.1, h.2⟩
theorem btL_iff {e lo : Int} {l : List ST} : btL e lo l ↔ ∀ x ∈ l, btT e lo x := by
  induction l with
  | nil => simp [btL]
  | cons a l ih => rw [btL, ih]; simp
theorem btA_iff {e lo : Int} {l : List SA} : btA e lo l ↔ ∀ x ∈ l, btT e lo x.body := by
  induction l with
  | nil => simp [btA]
  | cons a l ih => cases a; rw [btA, ih]; simp [SA.body]
theorem btL_snoc {e lo : Int} {l : List ST} {x : ST} (h : btL e lo l) (k : btT e lo x) : btL e lo (l ++ [x]) := by
  rw [btL_iff] at h ⊢
  intro y hy
  rcases List.mem_append.1 hy with hy | hy
  · exact h y hy
  · rw [List.mem_singleton.1 hy]; exact k
theorem btA_snoc {e lo : Int} {l : List SA} {x : SA} (h : btA e lo l) (k : btT e lo x.body) : btA e lo (l ++ [x]) := by
  rw [btA_iff] at h ⊢
  intro y hy
  rcases List.mem_append.1 hy with hy | hy
  · exact h y hy
  · rw [List.mem_singleton.1 hy]; exact k
/-- Whatever it reads, from p on: words are left one behind the other, and what was read is so. -/
def Gp (e p : Int) {α : Type} (P : List Tk → PR α) (V : Int → α → Prop) : Prop := ∀ ts, So e ts → p ≤ psE e ts → ∀ x us, P ts = .ok x us → So e us ∧ psE e ts ≤ psE e us ∧ V (psE e us) x
def VX (e p q : Int) (x : ST) : Prop := btT e p x ∧ x.at_ ≤ q
theorem VX.mk {e p q k a : Int} {nm pm : ByteArray} {n : Int} {ks : List ST} {zs : List SA} (h1 : p ≤ a) (h2 : a < e) (h3 : a ≤ q) (h4 : btL e a ks) (h5 : btA e a zs) : VX e p q (.mk k a nm pm n ks zs) := ⟨by rw [btT]; exact ⟨h1, h2, h4, h5⟩, h3⟩
theorem VX.wk {e p q p' q' : Int} {x : ST} (h : VX e p q x) (h1 : p' ≤ p) (h2 : q ≤ q') : VX e p' q' x := ⟨bt_weak h.1 h1, Int.le_trans h.2 h2⟩
theorem VX.two {e p q q' r k : Int} {nm : ByteArray} {x y : ST} (h : VX e p q x) (hq : q ≤ q') (g : VX e q' r y) : VX e p r (.mk k x.at_ nm E0B 0 [x, y] []) := by
  have h1 := bt_at h.1; have h2 := bt_at g.1; have h3 := h.2; have h4 := g.2
  exact VX.mk h1.1 h1.2.1 (by omega) (by rw [btL, btL, btL]; exact ⟨h1.2.2, bt_weak g.1 (by omega), trivial⟩) trivial
section
variable {e p : Int} {α β : Type}
theorem Gp.pure {V : Int → α → Prop} {x : α} (h : ∀ q, p ≤ q → V q x) : Gp e p (fun ts => .ok x ts) V := fun ts hs hp y us hy => by
  injection hy with h1 h2; subst h1; subst h2; exact ⟨hs, Int.le_refl _, h _ hp⟩
theorem Gp.bind {P : List Tk → PR α} {f : α → List Tk → PR β} {V : Int → α → Prop} {W : Int → β → Prop} (h : Gp e p P V) (k : ∀ x q, p ≤ q → V q x → Gp e q (f x) W) : Gp e p (fun ts => (P ts).bind f) W := fun ts hs hp y us hy => by
  have hy : (P ts).bind f = .ok y us := hy
  cases hr : P ts with
  | bad a c => rw [hr] at hy; cases hy
  | ok x vs =>
    rw [hr] at hy
    obtain ⟨h1, h2, h3⟩ := h ts hs hp x vs hr
    obtain ⟨h4, h5, h6⟩ := k x _ (Int.le_trans hp h2) h3 vs h1 (Int.le_refl _) y us hy
    exact ⟨h4, Int.le_trans h2 h5, h6⟩
theorem Gp.fail {V : Int → α → Prop} : Gp e p (failP e) V := fun ts hs hp y us hy => by cases hy
theorem Gp.mono {P : List Tk → PR α} {V W : Int → α → Prop} (h : Gp e p P V) (k : ∀ q x, p ≤ q → V q x → W q x) : Gp e p P W := fun ts hs hp y us hy => by
  obtain ⟨h1, h2, h3⟩ := h ts hs hp y us hy
  exact ⟨h1, h2, k _ _ (Int.le_trans hp h2) h3⟩
theorem Gp.cond {b : List Tk → Bool} {P Q : List Tk → PR α} {V : Int → α → Prop} (h : Gp e p P V) (k : Gp e p Q V) : Gp e p (fun ts => bif b ts then P ts else Q ts) V := fun ts hs hp y us hy => by
  have hy : (bif b ts then P ts else Q ts) = .ok y us := hy
  cases hb : b ts with
  | true => rw [hb] at hy; exact h ts hs hp y us hy
  | false => rw [hb] at hy; exact k ts hs hp y us hy
theorem Gp.take {φ : Int → List UInt8 → Bool} {K : Tk → List Tk → PR α} {G : List Tk → PR α} {V : Int → α → Prop} (h0 : φ 0 [] = false) (h : ∀ t q, p ≤ t.a → t.a ≤ q → t.a < e → Gp e q (K t) V) (k : Gp e p G V) :
    Gp e p (fun ts => bif φ (nx e ts).k (nx e ts).t then K (nx e ts) ts.tail else G ts) V := fun ts hs hp y us hy => by
  cases ts with
  | nil =>
    have hy : (bif φ 0 [] then K _ [] else G []) = .ok y us := hy
    rw [h0] at hy; exact k [] hs hp y us hy
  | cons t r =>
    have hy : (bif φ t.k t.t then K t r else G (t :: r)) = .ok y us := hy
    cases hb : φ t.k t.t with
    | false => rw [hb] at hy; exact k _ hs hp y us hy
    | true =>
      rw [hb] at hy
      obtain ⟨h1, h2, h3⟩ := hs
      obtain ⟨h4, h5, h6⟩ := h t (psE e r) hp h1 h2 r h3 (Int.le_refl _) y us hy
      exact ⟨h4, Int.le_trans h1 h5, h6⟩
theorem Gp.takeIs (ss : List ByteArray) {K : Tk → List Tk → PR α} {G : List Tk → PR α} {V : Int → α → Prop} (h : ∀ t q, p ≤ t.a → t.a ≤ q → t.a < e → Gp e q (K t) V) (k : Gp e p G V) : Gp e p (fun ts => bif isK e ts ss then K (nx e ts) ts.tail else G ts) V :=
  Gp.take (φ := fun k t => (decide (k = 4) || decide (k = 5)) && memB (bs t) ss) rfl h k
theorem Gp.takeKd (ks : List Int) (hk : ks.any (fun x => decide (x = 0)) = false) {K : Tk → List Tk → PR α} {G : List Tk → PR α} {V : Int → α → Prop} (h : ∀ t q, p ≤ t.a → t.a ≤ q → t.a < e → Gp e q (K t) V) (k : Gp e p G V) : Gp e p (fun ts => bif kdK e ts ks then K (nx e ts) ts.tail else G ts) V :=
  Gp.take (φ := fun k _ => ks.any fun x => decide (x = k)) hk h k
end
abbrev TT' (α : Type) : Int → α → Prop := fun _ _ => True
theorem gp_word (e p k : Int) (hk : [k].any (fun x => decide (x = 0)) = false) : Gp e p (wordP e k) (fun q t => p ≤ t.a ∧ t.a ≤ q ∧ t.a < e) :=
  Gp.takeKd [k] hk (K := fun t ts => .ok t ts) (fun t q h1 h2 h3 => Gp.pure fun r hr => ⟨h1, by omega, h3⟩) Gp.fail
theorem gp_text (e : Int) : ∀ (ss : List ByteArray) (p : Int), Gp e p (textP e ss) (TT' Unit) := by
  intro ss
  induction ss with
  | nil => intro p; exact Gp.pure fun _ _ => trivial
  | cons s r ih => intro p; exact Gp.takeIs [s] (K := fun _ ts => textP e r ts) (fun t q _ _ _ => ih q) Gp.fail
theorem gp_names (e : Int) : ∀ (n : Nat) (l : List ByteArray) (p : Int), Gp e p (namesP e n l) (TT' _) := by
  intro n
  induction n with
  | zero => intro l p; exact Gp.pure fun _ _ => trivial
  | succ n ih => intro l p; exact (gp_word e p 2 rfl).bind fun t q _ _ => ih _ q
/-- What a program says of types: their kinds are kinds. -/
def tyOK (t : STy) : Prop := t.k ≠ -1
def opOK (o : SOp) : Prop := tyOK o.arg ∧ tyOK o.res
def effOK (x : SEff) : Prop := ∀ o ∈ x.ops, opOK o
def cnOK (c : SCn) : Prop := ∀ t ∈ c.fields, tyOK t
def datOK (d : SDat) : Prop := ∀ c ∈ d.cons, cnOK c
def prOK (p : SPr) : Prop := (∀ x ∈ p.effs, effOK x) ∧ ∀ d ∈ p.dats, datOK d
theorem all_snoc' {α : Type} {Q : α → Prop} {l : List α} {x : α} (h : ∀ y ∈ l, Q y) (k : Q x) : ∀ y ∈ l ++ [x], Q y := fun y hy => by
  rcases List.mem_append.1 hy with hy | hy
  · exact h y hy
  · rw [List.mem_singleton.1 hy]; exact k
theorem no_all {α : Type} {Q : α → Prop} : ∀ y ∈ ([] : List α), Q y := fun y hy => by cases hy
theorem gp_typ (e p : Int) : Gp e p (typP e) (fun _ t => tyOK t) :=
  Gp.takeIs tyWords (K := fun t ts => .ok (⟨1 + idxI (fun x : ByteArray => decide (x = bs t.t)) tyWords, E0B⟩ : STy) ts) (fun t q _ _ _ => Gp.pure fun _ _ => by
    have := (idxI_bd (fun x : ByteArray => decide (x = bs t.t)) tyWords).1
    show 1 + idxI _ tyWords ≠ -1
    omega) ((gp_word e p 3 rfl).bind fun t q _ _ => Gp.pure fun _ _ => (by decide : (4 : Int) ≠ -1))
theorem gp_listL {σ : Type} {e a : Int} {bt en : ByteArray} {one : σ → List Tk → PR σ} {I : σ → Prop} (ho : ∀ s p, a ≤ p → I s → Gp e p (one s) (fun _ s' => I s')) : ∀ (f : Nat) (b : Bool) (s : σ) (p : Int), a ≤ p → I s → Gp e p (listL e bt en one f b s) (fun _ s' => I s') := by
  intro f
  induction f with
  | zero => intro b s p _ _ ts _ _ y us hy; cases hy
  | succ f ih =>
    intro b s p ha hs
    refine Gp.cond (b := fun ts => isK e ts [en]) ((gp_text e [en] p).bind fun _ q _ _ => Gp.pure fun _ _ => hs) ?_
    refine Gp.bind (P := fun ts => bif b then .ok () ts else textP e [bt] ts) (V := TT' Unit) ?_ fun _ q hq _ => (ho s q (Int.le_trans ha hq) hs).bind fun s' r hr hs' => ih false s' r (Int.le_trans (Int.le_trans ha hq) hr) hs'
    cases b with
    | true => exact Gp.pure fun _ _ => trivial
    | false => exact gp_text e [bt] p
theorem gp_list {σ : Type} {e a p : Int} {op bt en : ByteArray} {one : σ → List Tk → PR σ} {I : σ → Prop} (ho : ∀ s p, a ≤ p → I s → Gp e p (one s) (fun _ s' => I s')) {s : σ} (ha : a ≤ p) (hs : I s) : Gp e p (listP e op bt en one s) (fun _ s' => I s') :=
  (gp_text e [op] p).bind fun _ q hq _ => fun ts => gp_listL ho (ts.length + 1) true s q (Int.le_trans ha hq) hs ts
theorem gp_op (e : Int) (l : List SOp) (p : Int) (hl : ∀ o ∈ l, opOK o) : Gp e p (opP e l) (fun _ l' => ∀ o ∈ l', opOK o) :=
  (gp_word e p 2 rfl).bind fun _ _ _ _ => (gp_text e _ _).bind fun _ _ _ _ => (gp_typ e _).bind fun _ _ _ ha => (gp_text e _ _).bind fun _ _ _ _ => (gp_typ e _).bind fun _ _ _ hr => Gp.pure fun _ _ => all_snoc' hl ⟨ha, hr⟩
theorem gp_eff (e p : Int) : Gp e p (effP e) (fun _ x => effOK x) :=
  (gp_text e _ _).bind fun _ _ _ _ => (gp_word e _ 3 rfl).bind fun _ q _ _ => (gp_list (a := q) (s := []) (I := fun l => ∀ o ∈ l, opOK o) (fun s p _ hs => gp_op e s p hs) (Int.le_refl _) no_all).bind fun _ _ _ h => Gp.pure fun _ _ => h
theorem gp_fields (e : Int) : ∀ (f : Nat) (l : List STy) (p : Int), (∀ t ∈ l, tyOK t) → Gp e p (fieldsP e f l) (fun _ l' => ∀ t ∈ l', tyOK t) := by
  intro f
  induction f with
  | zero => intro l p _ ts _ _ y us hy; cases hy
  | succ f ih => intro l p hl; exact Gp.cond (b := fun ts => isK e ts tyWords || kdK e ts [3]) ((gp_typ e p).bind fun _ q _ h => ih _ q (all_snoc' hl h)) (Gp.pure fun _ _ => hl)
theorem gp_cn (e : Int) (l : List SCn) (p : Int) (hl : ∀ c ∈ l, cnOK c) : Gp e p (cnP e l) (fun _ l' => ∀ c ∈ l', cnOK c) :=
  (gp_word e p 3 rfl).bind fun _ q _ _ => Gp.bind (V := fun _ l' => ∀ t ∈ l', tyOK t) (P := fun ts => fieldsP e (ts.length + 1) [] ts) (fun ts => gp_fields e (ts.length + 1) [] q no_all ts) fun _ _ _ h => Gp.pure fun _ _ => all_snoc' hl h
theorem gp_dat (e p : Int) : Gp e p (datP e) (fun _ d => datOK d) :=
  (gp_text e _ _).bind fun _ _ _ _ => (gp_word e _ 3 rfl).bind fun _ q _ _ => (gp_list (a := q) (s := []) (I := fun l => ∀ c ∈ l, cnOK c) (fun s p _ hs => gp_cn e s p hs) (Int.le_refl _) no_all).bind fun _ _ _ h => Gp.pure fun _ _ => h
theorem gp_decl (e : Int) : ∀ (f : Nat) (xs : List SEff) (ds : List SDat) (p : Int), (∀ x ∈ xs, effOK x) → (∀ d ∈ ds, datOK d) → Gp e p (declP e f xs ds) (fun _ r => (∀ x ∈ r.1, effOK x) ∧ ∀ d ∈ r.2, datOK d) := by
  intro f
  induction f with
  | zero => intro xs ds p _ _ ts _ _ y us hy; cases hy
  | succ f ih =>
    intro xs ds p h1 h2
    exact Gp.cond (b := fun ts => isK e ts [effW0, datW0]) (Gp.cond (b := fun ts => isK e ts [effW0]) ((gp_eff e p).bind fun _ q _ h => ih _ _ q (all_snoc' h1 h) h2) ((gp_dat e p).bind fun _ q _ h => ih _ _ q h1 (all_snoc' h2 h))) (Gp.pure fun _ _ => ⟨h1, h2⟩)
-- ------------------------------------------------------------------ terms
/-- Words that stand ahead of an atom. -/
def Ch (e : Int) : Int → Int → List Tk → Prop
  | p, q, [] => p ≤ q
  | p, q, t :: r => p ≤ t.a ∧ t.a < e ∧ Ch e t.a q r
theorem Ch.snoc {e q q' : Int} {t : Tk} : ∀ {l : List Tk} {p : Int}, Ch e p q l → q ≤ t.a → t.a < e → t.a ≤ q' → Ch e p q' (l ++ [t])
  | [], _, h, h1, h2, h3 => ⟨Int.le_trans h h1, h2, h3⟩
  | _ :: _, _, h, h1, h2, h3 => ⟨h.1, h.2.1, Ch.snoc h.2.2 h1 h2 h3⟩
theorem Ch.wk {e q q' : Int} (h2 : q ≤ q') : ∀ {l : List Tk} {p : Int}, Ch e p q l → Ch e p q' l
  | [], _, h => Int.le_trans h h2
  | _ :: _, _, h => ⟨h.1, h.2.1, Ch.wk h2 h.2.2⟩
theorem Ch.fold {e q r : Int} {x : ST} (hx : VX e q r x) : ∀ {l : List Tk} {p : Int}, Ch e p q l → VX e p r (l.foldr sUn x)
  | [], _, h => hx.wk h (Int.le_refl _)
  | t :: l, p, h => by
    have ih := Ch.fold hx h.2.2
    have h1 := bt_at ih.1; have h2 := ih.2
    exact VX.mk h.1 h.2.1 (by omega) (by rw [btL, btL]; exact ⟨ih.1, trivial⟩) trivial
section
variable {e : Int} {ex : List Tk → PR ST} (hx : ∀ p, Gp e p ex (VX e p))
include hx
theorem gp_body (p : Int) : Gp e p (bodyP e ex) (VX e p) := (gp_text e _ _).bind fun _ q hq _ => (hx q).mono fun _ _ _ h => h.wk hq (Int.le_refl _)
omit hx in
theorem gp_vars : ∀ (f : Nat) (l : List ByteArray) (p : Int), Gp e p (varsP e f l) (TT' _) := by
  intro f
  induction f with
  | zero => intro l p ts _ _ y us hy; cases hy
  | succ f ih => intro l p; exact Gp.takeKd [2] rfl (K := fun t ts => varsP e f (l ++ [bs t.t]) ts) (fun t q _ _ _ => ih _ q) (Gp.pure fun _ _ => trivial)
theorem gp_way (p : Int) : Gp e p (wayP e ex) (fun _ a => btT e p a.body) :=
  (gp_word e p 3 rfl).bind fun _ q hq _ => Gp.bind (V := TT' _) (P := fun ts => varsP e (ts.length + 1) [] ts) (fun ts => gp_vars (ts.length + 1) [] q ts) fun _ r hr _ => (gp_body hx r).bind fun _ _ _ h => Gp.pure fun _ _ => bt_weak h.1 (Int.le_trans hq hr)
theorem gp_clause (b : Bool) (p : Int) : Gp e p (clauseP e ex b) (fun _ a => btT e p a.body) := by
  cases b with
  | true => exact (gp_text e _ p).bind fun _ q hq _ => (gp_names e 1 [] q).bind fun _ r hr _ => (gp_body hx r).bind fun _ _ _ h => Gp.pure fun _ _ => bt_weak h.1 (Int.le_trans hq hr)
  | false => exact (gp_word e p 2 rfl).bind fun _ q hq _ => (gp_names e 2 [] q).bind fun _ r hr _ => (gp_body hx r).bind fun _ _ _ h => Gp.pure fun _ _ => bt_weak h.1 (Int.le_trans hq hr)
theorem gp_kids {a : Int} : ∀ (ss : List ByteArray) (l : List ST) (p : Int), a ≤ p → btL e a l → Gp e p (kidsP e ex ss l) (fun _ l' => btL e a l') := by
  intro ss
  induction ss with
  | nil => intro l p _ h; exact Gp.pure fun _ _ => h
  | cons s r ih => intro l p ha h; exact (gp_text e [s] p).bind fun _ q hq _ => (hx q).bind fun x u hu hv => ih _ u (by omega) (btL_snoc h (bt_weak hv.1 (by omega)))
omit hx in
theorem gp_once {side : List Tk → PR ST} (hs : ∀ p, Gp e p side (VX e p)) (ss : List ByteArray) (p : Int) : Gp e p (onceP e side ss) (VX e p) :=
  (hs p).bind fun x q hq hv => Gp.takeIs ss (K := fun t ts => (side ts).bind fun y us => .ok (sTwo (bs t.t) x y) us) (fun t r h1 h2 h3 => (hs r).bind fun y u hu hw => Gp.pure fun v hv' => VX.two hv (by omega) (hw.wk (Int.le_refl _) hv')) (Gp.pure fun v hv' => hv.wk (Int.le_refl _) hv')
omit hx in
theorem gp_manyL {side : List Tk → PR ST} (hs : ∀ p, Gp e p side (VX e p)) (ss : List ByteArray) {p : Int} : ∀ (f : Nat) (x : ST) (q : Int), VX e p q x → Gp e q (manyL e side ss f x) (VX e p) := by
  intro f
  induction f with
  | zero => intro x q _ ts _ _ y us hy; cases hy
  | succ f ih =>
    intro x q hv
    exact Gp.takeIs ss (K := fun t ts => (side ts).bind fun y us => manyL e side ss f (sTwo (bs t.t) x y) us) (fun t r h1 h2 h3 => (hs r).bind fun y u hu hw => ih _ u (VX.two hv (by omega) hw)) (Gp.pure fun v hv' => hv.wk (Int.le_refl _) hv')
omit hx in
theorem gp_many {side : List Tk → PR ST} (hs : ∀ p, Gp e p side (VX e p)) (ss : List ByteArray) (p : Int) : Gp e p (manyP e side ss) (VX e p) :=
  (hs p).bind fun x q _ hv => fun ts => gp_manyL hs ss (ts.length + 1) x q hv ts
theorem gp_atom (p : Int) : Gp e p (atomP e ex) (VX e p) := by
  have key : Gp e p (atomQ e ex) (VX e p) := by
    refine Gp.takeKd [1] rfl (K := aN) (fun t q h1 h2 h3 => Gp.pure fun r hr => VX.mk h1 h3 (by omega) trivial trivial) ?_
    refine Gp.takeIs [trB, faB] (K := aB) (fun t q h1 h2 h3 => Gp.pure fun r hr => VX.mk h1 h3 (by omega) trivial trivial) ?_
    refine Gp.takeKd [2] rfl (K := aV) (fun t q h1 h2 h3 => Gp.pure fun r hr => VX.mk h1 h3 (by omega) trivial trivial) ?_
    refine Gp.takeIs [rdB] (K := aR e) (fun t q h1 h2 h3 => (gp_text e _ q).bind fun _ u hu _ => Gp.pure fun r hr => VX.mk h1 h3 (by omega) trivial trivial) ?_
    refine Gp.takeKd [3] rfl (K := aC e ex) (fun t q h1 h2 h3 => Gp.cond (b := fun ts => isK e ts [oP]) ?_ (Gp.pure fun r hr => VX.mk h1 h3 (by omega) trivial trivial)) ?_
    · exact (gp_list (a := t.a) (s := []) (I := fun l => btL e t.a l) (fun s p hp hs => (hx p).bind fun x u _ hv => Gp.pure fun _ _ => btL_snoc hs (bt_weak hv.1 hp)) h2 trivial).bind fun l u hu hl => Gp.pure fun r hr => VX.mk h1 h3 (by omega) hl trivial
    refine Gp.takeIs [oP] (K := aP e ex) (fun t q h1 h2 h3 => ?_) Gp.fail
    exact Gp.takeIs [cP] (K := aU t) (fun t' r h4 h5 h6 => Gp.pure fun u hu => VX.mk h1 h3 (by omega) trivial trivial) ((hx q).bind fun x u hu hv => (gp_text e _ u).bind fun _ v hv' _ => Gp.pure fun r hr => hv.wk (by omega) (by omega))
  intro ts hs hp y us hy
  rw [atom_q] at hy
  exact key ts hs hp y us hy
theorem gp_appL {p : Int} : ∀ (f : Nat) (x : ST) (q : Int), VX e p q x → Gp e q (appL e ex f x) (VX e p) := by
  intro f
  induction f with
  | zero => intro x q _ ts _ _ y us hy; cases hy
  | succ f ih => intro x q hv; exact Gp.cond (b := fun ts => appB e ts) ((gp_atom hx q).bind fun y u hu hw => ih _ u (VX.two hv (Int.le_refl _) hw)) (Gp.pure fun v hv' => hv.wk (Int.le_refl _) hv')
theorem gp_app (p : Int) : Gp e p (appP e ex) (VX e p) := (gp_atom hx p).bind fun x q _ hv => fun ts => gp_appL hx (ts.length + 1) x q hv ts
omit hx in
theorem gp_pre {p : Int} : ∀ (f : Nat) (l : List Tk) (q : Int), Ch e p q l → Gp e q (preP e f l) (fun r l' => Ch e p r l') := by
  intro f
  induction f with
  | zero => intro l q _ ts _ _ y us hy; cases hy
  | succ f ih =>
    intro l q h
    exact Gp.take (φ := fun k t => ((decide (k = 4) || decide (k = 5)) && memB (bs t) unB) || ([6].any fun x : Int => decide (x = k))) (K := fun t ts => preP e f (l ++ [t]) ts) rfl (fun t r h1 h2 h3 => ih _ r (h.snoc h1 h3 h2)) (Gp.pure fun r hr => h.wk hr)
theorem gp_unary (p : Int) : Gp e p (unaryP e ex) (VX e p) :=
  Gp.bind (V := fun r l' => Ch e p r l') (P := fun ts => preP e (ts.length + 1) [] ts) (fun ts => gp_pre (p := p) (ts.length + 1) [] p (Int.le_refl p) ts) fun l q _ hl => (gp_app hx q).bind fun x u _ hv => Gp.pure fun r hr => Ch.fold (hv.wk (Int.le_refl _) hr) hl
theorem gp_assign (p : Int) : Gp e p (assignP e ex) (VX e p) := gp_once (gp_once (gp_many (gp_many (gp_unary hx) _) _) _) _ p
theorem gp_clauses {a : Int} : ∀ (f : Nat) (l : List SA) (p : Int), a ≤ p → btA e a l → Gp e p (clausesP e ex f l) (fun _ l' => btA e a l') := by
  intro f
  induction f with
  | zero => intro l p _ _ ts _ _ y us hy; cases hy
  | succ f ih => intro l p ha h; exact Gp.takeIs [smB] (K := fun _ ts => (clauseP e ex false ts).bind fun a us => clausesP e ex f (l ++ [a]) us) (fun t q h1 h2 h3 => (gp_clause hx false q).bind fun x u hu hv => ih _ u (by omega) (btA_snoc h (bt_weak hv (by omega)))) (Gp.pure fun _ _ => h)
theorem gp_exB (p : Int) : Gp e p (exB e ex) (VX e p) := by
  have key : Gp e p (exQ e ex) (VX e p) := by
    refine Gp.takeIs [funB] (K := eF e ex) (fun t q h1 h2 h3 => (gp_names e 1 [] q).bind fun l u hu _ => (gp_kids hx (a := t.a) _ [] u (by omega) trivial).bind fun ks v hv hk => Gp.pure fun r hr => VX.mk h1 h3 (by omega) hk trivial) ?_
    refine Gp.takeIs [letWB] (K := eL e ex) (fun t q h1 h2 h3 => (gp_names e 1 [] q).bind fun l u hu _ => (gp_kids hx (a := t.a) _ [] u (by omega) trivial).bind fun ks v hv hk => Gp.pure fun r hr => VX.mk h1 h3 (by omega) hk trivial) ?_
    refine Gp.takeIs [recB] (K := eR e ex) (fun t q h1 h2 h3 => (gp_names e 2 [] q).bind fun l u hu _ => (gp_kids hx (a := t.a) _ [] u (by omega) trivial).bind fun ks v hv hk => Gp.pure fun r hr => VX.mk h1 h3 (by omega) hk trivial) ?_
    refine Gp.takeIs [ifB] (K := eI e ex) (fun t q h1 h2 h3 => (hx q).bind fun x u hu hv => (gp_kids hx (a := t.a) _ [x] u (by omega) (btL_snoc (l := []) trivial (bt_weak hv.1 h2))).bind fun ks v hv hk => Gp.pure fun r hr => VX.mk h1 h3 (by omega) hk trivial) ?_
    refine Gp.takeIs [matB] (K := eM e ex) (fun t q h1 h2 h3 => (hx q).bind fun x u hu hv => (gp_list (a := t.a) (s := []) (I := fun l => btA e t.a l) (fun s p hp hs => (gp_way hx p).bind fun z w _ hz => Gp.pure fun _ _ => btA_snoc hs (bt_weak hz hp)) (by omega) trivial).bind fun zs v hv' hz => Gp.pure fun r hr => VX.mk h1 h3 (by omega) (btL_snoc (l := []) trivial (bt_weak hv.1 h2)) hz) ?_
    refine Gp.takeIs [hanB] (K := eH e ex) (fun t0 q h1 h2 h3 => ?_) (gp_assign hx p)
    refine (gp_word e q 3 rfl).bind fun t q2 hq2 _ => (hx q2).bind fun x q3 hq3 hv => (gp_text e _ q3).bind fun _ q4 hq4 _ => (gp_clause hx true q4).bind fun a q5 hq5 ha => ?_
    refine Gp.bind (V := fun _ l' => btA e t0.a l') (P := fun ts => clausesP e ex (ts.length + 1) [a] ts) (fun ts => gp_clauses hx (ts.length + 1) [a] q5 (by omega) (btA_snoc (l := []) trivial (bt_weak ha (by omega))) ts) fun zs q6 hq6 hz => ?_
    exact (gp_text e _ q6).bind fun _ q7 hq7 _ => Gp.pure fun r hr => VX.mk h1 h3 (by omega) (btL_snoc (l := []) trivial (bt_weak hv.1 (by omega))) hz
  intro ts hs hp y us hy
  rw [ex_q] at hy
  exact key ts hs hp y us hy
end
theorem gp_expr (e : Int) : ∀ (n : Nat) (p : Int), Gp e p (exprP e n) (VX e p) := by
  intro n
  induction n with
  | zero => intro p ts _ _ y us hy; cases hy
  | succ n ih => intro p; exact gp_exB ih p
theorem program_at {e : Int} {ts us : List Tk} {p : SPr} (hs : So e ts) (h0 : 0 ≤ psE e ts) (h : programP e ts = .ok p us) : btT e 0 p.body ∧ prOK p := by
  have key : Gp e 0 (programP e) (fun _ p => btT e 0 p.body ∧ prOK p) := by
    refine Gp.bind (V := fun _ r => (∀ x ∈ r.1, effOK x) ∧ ∀ d ∈ r.2, datOK d) (P := fun ts => declP e (ts.length + 1) [] [] ts) (fun ts => gp_decl e (ts.length + 1) [] [] 0 no_all no_all ts) fun q u hu hd => (gp_expr e 201 u).bind fun b v hv hb => ?_
    exact Gp.cond (b := fun us => decide (us = [])) (Gp.pure fun _ _ => ⟨bt_weak hb.1 hu, hd⟩) Gp.fail
  exact (key ts hs h0 p us h).2.2
theorem so_of {l : List UInt8} : ∀ (ts : List Tk) (e0 : Nat), PosL l e0 ts → e0 ≤ l.length → So (l.length : Int) ts ∧ (e0 : Int) ≤ psE (l.length : Int) ts
  | [], e0, _, h => ⟨trivial, by show (e0 : Int) ≤ (l.length : Int); omega⟩
  | t :: r, e0, h, _ => by
    obtain ⟨p, h1, h2, h3, _, h5, _, _, _, h9⟩ := h
    have hlen := List.length_pos_iff.2 h5
    have ih := so_of r _ h9 h3
    exact ⟨⟨by rw [h1]; exact Int.le_trans (by omega) ih.2, by rw [h1]; omega, ih.1⟩, by show (e0 : Int) ≤ t.a; rw [h1]; omega⟩
theorem pos_ge {l : List UInt8} : ∀ (ts : List Tk) (e0 : Nat), PosL l e0 ts → ∀ (i : Nat) (t : Tk), ts[i]? = some t → (e0 : Int) ≤ t.a ∧ t.a < (l.length : Int)
  | [], _, _, _, _, ht => by cases ht
  | u :: r, e0, h, i, t, ht => by
    obtain ⟨p, h1, h2, h3, _, h5, _, _, _, h9⟩ := h
    have hlen := List.length_pos_iff.2 h5
    cases i with
    | zero => cases ht; rw [h1]; omega
    | succ i => have := pos_ge r _ h9 i t ht; omega
theorem pos_inj {l : List UInt8} : ∀ (ts : List Tk) (e0 : Nat), PosL l e0 ts → ∀ (i j : Nat) (t u : Tk), ts[i]? = some t → ts[j]? = some u → t.a = u.a → i = j
  | [], _, _, _, _, _, _, ht, _, _ => by cases ht
  | x :: r, e0, h, i, j, t, u, ht, hu, e => by
    obtain ⟨p, h1, h2, h3, _, h5, _, _, _, h9⟩ := h
    have hlen := List.length_pos_iff.2 h5
    cases i with
    | zero =>
      cases j with
      | zero => rfl
      | succ j => cases ht; have := pos_ge r _ h9 j u hu; omega
    | succ i =>
      cases j with
      | zero => cases hu; have := pos_ge r _ h9 i t ht; omega
      | succ j => rw [pos_inj r _ h9 i j t u ht hu e]
/-- The same word at the same place of both. -/
def AtR (ts ks : List Tk) (t u : Tk) : Prop := SmT t u ∧ ∃ i : Nat, ts[i]? = some t ∧ ks[i]? = some u
theorem al_at {ts ks : List Tk} : ∀ (a b : List Tk) (n : Nat), a = ts.drop n → b = ks.drop n → strip a = strip b → Al (AtR ts ks) a b
  | [], [], _, _, _, _ => .nil
  | [], _ :: _, _, _, _, h => by simp [strip] at h
  | _ :: _, [], _, _, _, h => by simp [strip] at h
  | t :: a, u :: b, n, h1, h2, h => by
    have h : t.put 0 :: strip a = u.put 0 :: strip b := h
    injection h with h3 h4
    have e1 : ts[n]? = some t := by rw [← List.head?_drop, ← h1]; rfl
    have e2 : ks[n]? = some u := by rw [← List.head?_drop, ← h2]; rfl
    refine .cons ⟨⟨by have := congrArg Tk.k h3; exact this, by have := congrArg Tk.t h3; exact this, by have := congrArg Tk.n h3; exact this⟩, n, e1, e2⟩ (al_at a b (n + 1) ?_ ?_ h4)
    · rw [← List.tail_drop, ← h1]; rfl
    · rw [← List.tail_drop, ← h2]; rfl
theorem vpr_self (p : SPr) : VPr p p := ⟨rfl, rfl, rfl⟩
theorem zP_ok : prOK zP := ⟨no_all, no_all⟩
/-- What the statement looks at. -/
structure WdF (S : List UInt8) (p q : Pr) : Prop where
  e2 : lexE (textL (lexT S)) = 0
  len : (lexT (textL (lexT S))).length = (lexT S).length
  same : (parseR S).2.2 = (parseR (textL (lexT S))).2.2
  vpr : VPr (shPr p) (shPr q)
  pk : prOK (shPr p)
  ok : (parseR S).2.2 = 0 → (parseR S).2.1 = 0 ∧ btT (S.length : Int) 0 (shT p.body) ∧ dS (shT p.body) ≤ 200
  code : (parseR S).2.2 ≠ 0 → (parseR S).2.2 = 3 ∨ (parseR S).2.2 = 6
  hit : (parseR S).2.2 ≠ 0 → ¬ ((parseR S).2.1 = 0 ∧ (parseR (textL (lexT S))).2.1 = 0) → ∀ (i : Nat) (t u : Tk), (lexT S)[i]? = some t → (lexT (textL (lexT S)))[i]? = some u → t.a = (parseR S).2.1 → u.a = (parseR (textL (lexT S))).2.1
  miss : (parseR S).2.2 ≠ 0 → ¬ ((parseR S).2.1 = 0 ∧ (parseR (textL (lexT S))).2.1 = 0) → (∀ (i : Nat) (t : Tk), (lexT S)[i]? = some t → t.a ≠ (parseR S).2.1) → (parseR S).2.1 = (S.length : Int)
theorem words_facts {S : List UInt8} (hS : S.length ≤ 2000) (hE : lexE S = 0) {p q : Pr} (hp : shPr p = (parseR S).1.getD zP) (hq : shPr q = (parseR (textL (lexT S))).1.getD zP) : WdF S p q := by
  have hW := words_of hE
  have hpos : PosL S 0 (lexT S) := lexW_pos S _ 0 (Nat.le_refl _) (Nat.zero_le _) _ (by rw [List.drop_zero]; exact hW.lex) 0 (Nat.le_refl _)
  have hso := so_of _ _ hpos (Nat.zero_le _)
  obtain ⟨ks, hk, hst⟩ := lex_text (lexT S) hW.wd 0
  have htl := hW.text
  obtain ⟨k1, _, k3⟩ := lex_ok (by omega) hk
  have hal : Al (AtR (lexT S) ks) (lexT S) ks := al_at _ _ 0 rfl rfl hst.symm
  have hlen : ks.length = (lexT S).length := by have := congrArg List.length hst; simpa [strip] using this
  rcases words_program (R := AtR (lexT S) ks) (fun h => h.1) (S.length : Int) ((textL (lexT S)).length : Int) hal with ⟨x, y, a, b, hv, _, h1, h2⟩ | ⟨a, b, c, h1, h2, hc, hps⟩
  · rw [← k1] at h2
    by_cases hd : 200 < dS x.body
    · have hd2 : 200 < dS y.body := by rw [← hv.2.2.dS]; exact hd
      have e1 := parseR_deep hE h1 hd
      have e2 := parseR_deep k3 h2 hd2
      rw [e1] at hp; rw [e2] at hq
      refine ⟨k3, by rw [k1]; exact hlen, by rw [e1, e2], ?_, by rw [hp]; exact zP_ok, fun h => ?_, fun _ => Or.inr (by rw [e1]), fun _ h => ?_, fun _ h => ?_⟩
      · rw [hp, hq]; exact vpr_self _
      · rw [e1] at h; exact absurd (show (6 : Int) = 0 from h) (by decide)
      · rw [e1, e2] at h; exact absurd ⟨rfl, rfl⟩ h
      · rw [e1, e2] at h; exact absurd ⟨rfl, rfl⟩ h
    · have hd2 : ¬ 200 < dS y.body := by rw [← hv.2.2.dS]; exact hd
      have e1 := parseR_ok hE h1 hd
      have e2 := parseR_ok k3 h2 hd2
      rw [e1] at hp; rw [e2] at hq
      refine ⟨k3, by rw [k1]; exact hlen, by rw [e1, e2], ?_, by rw [hp]; exact (program_at hso.1 hso.2 h1).2, fun _ => ?_, fun h => ?_, fun h => ?_, fun h => ?_⟩
      · rw [hp, hq]; exact hv
      · have e3 : shT p.body = x.body := congrArg SPr.body hp
        rw [e3, e1]; exact ⟨rfl, (program_at hso.1 hso.2 h1).1, by omega⟩
      · rw [e1] at h; exact absurd rfl h
      · rw [e1] at h; exact absurd rfl h
      · rw [e1] at h; exact absurd rfl h
  · rw [← k1] at h2
    have e1 := parseR_bad hE h1
    have e2 := parseR_bad k3 h2
    rw [e1] at hp; rw [e2] at hq
    refine ⟨k3, by rw [k1]; exact hlen, by rw [e1, e2], ?_, by rw [hp]; exact zP_ok, fun h => ?_, fun _ => by rw [e1]; exact hc, fun _ _ => ?_, fun _ _ => ?_⟩
    · rw [hp, hq]; exact vpr_self _
    · rw [e1] at h
      have h : c = 0 := h
      omega
    · rw [e1, e2, k1]
      intro i t u ht hu hta
      have hta : t.a = a := hta
      show u.a = b
      rcases hps with ⟨h3, _⟩ | ⟨t', u', ⟨_, j, ht', hu'⟩, h3, h4⟩
      · have := pos_ge _ _ hpos i t ht; omega
      · have hij := pos_inj _ _ hpos i j t t' ht ht' (by omega)
        subst hij
        rw [hu] at hu'; injection hu' with h5; rw [h5, h4]
    · rw [e1]
      intro hn
      show a = _
      rcases hps with ⟨h3, _⟩ | ⟨t', u', ⟨_, j, ht', _⟩, h3, _⟩
      · exact h3
      · exact absurd h3.symm (hn j t' ht')
theorem StrsAt.none' {w : World} {v : Value} (h : SlOk v 0) : StrsAt w v [] := ⟨h, fun i cs h => by simp at h, fun i cs h => by simp at h, by simp⟩
theorem map_eq_at {α β : Type} {f : α → β} {l m : List α} (h : l.map f = m.map f) {i : Nat} {u x : α} (hu : l[i]? = some u) (hx : m[i]? = some x) : f u = f x := by
  have h1 := map_at h hu
  rw [List.getElem?_map, hx] at h1
  exact (Option.some.inj h1).symm
theorem map_len {α β : Type} {f : α → β} {l m : List α} (h : l.map f = m.map f) : l.length = m.length := by simpa using congrArg List.length h
theorem map_mem_at {α β : Type} {f : α → β} {l : List α} {Q : β → Prop} (h : ∀ y ∈ l.map f, Q y) {i : Nat} {u : α} (hu : l[i]? = some u) : Q (f u) := h _ (List.mem_map_of_mem (List.mem_of_getElem? hu))
structure TyF (a b : Ty) : Prop where
  k : a.k = b.k
  nm : a.nm = b.nm
  v1 : a.var = 0
  a1 : a.args = 0
  l1 : a.labels = 0
  r1 : a.rvar = 0
  v2 : b.var = 0
  a2 : b.args = 0
  l2 : b.labels = 0
  r2 : b.rvar = 0
theorem tyPl_iff {t : Ty} (h : tyPl t = true) : t.var = 0 ∧ t.args = 0 ∧ t.labels = 0 ∧ t.rvar = 0 := by
  unfold tyPl at h
  simpa only [Bool.and_eq_true, decide_eq_true_eq] using h
theorem TyF.of {a b : Ty} (h : shTy a = shTy b) (hk : tyOK (shTy a)) : TyF a b := by
  obtain ⟨h1, h2, h3⟩ := shTy_k (t := a) rfl hk
  obtain ⟨h4, h5, h6⟩ := shTy_k (t := b) h.symm hk
  obtain ⟨p1, p2, p3, p4⟩ := tyPl_iff h3
  obtain ⟨q1, q2, q3, q4⟩ := tyPl_iff h6
  exact ⟨h1.trans h4.symm, h2.trans h5.symm, p1, p2, p3, p4, q1, q2, q3, q4⟩
structure OpF (a b : Op) : Prop where
  nm : a.nm = b.nm
  arg : TyF a.arg b.arg
  res : TyF a.res b.res
theorem OpF.of {a b : Op} (h : shOp a = shOp b) (hk : opOK (shOp a)) : OpF a b := ⟨congrArg SOp.nm h, TyF.of (congrArg SOp.arg h) hk.1, TyF.of (congrArg SOp.res h) hk.2⟩
structure EffF (a b : Eff) : Prop where
  nm : a.nm = b.nm
  len : a.ops.length = b.ops.length
  op : ∀ {i : Nat} {u x : Op}, a.ops[i]? = some u → b.ops[i]? = some x → OpF u x
theorem EffF.of {a b : Eff} (h : shEff a = shEff b) (hk : effOK (shEff a)) : EffF a b := by
  have h1 : a.ops.map shOp = b.ops.map shOp := congrArg SEff.ops h
  exact ⟨congrArg SEff.nm h, map_len h1, fun hu hx => OpF.of (map_eq_at h1 hu hx) (map_mem_at (Q := opOK) hk hu)⟩
structure CnF (a b : Cn) : Prop where
  nm : a.nm = b.nm
  len : a.fields.length = b.fields.length
  fld : ∀ {i : Nat} {u x : Ty}, a.fields[i]? = some u → b.fields[i]? = some x → TyF u x
theorem CnF.of {a b : Cn} (h : shCn a = shCn b) (hk : cnOK (shCn a)) : CnF a b := by
  have h1 : a.fields.map shTy = b.fields.map shTy := congrArg SCn.fields h
  exact ⟨congrArg SCn.nm h, map_len h1, fun hu hx => TyF.of (map_eq_at h1 hu hx) (map_mem_at (Q := tyOK) hk hu)⟩
structure DatF (a b : Dat) : Prop where
  nm : a.nm = b.nm
  len : a.cons.length = b.cons.length
  con : ∀ {i : Nat} {u x : Cn}, a.cons[i]? = some u → b.cons[i]? = some x → CnF u x
theorem DatF.of {a b : Dat} (h : shDat a = shDat b) (hk : datOK (shDat a)) : DatF a b := by
  have h1 : a.cons.map shCn = b.cons.map shCn := congrArg SDat.cons h
  exact ⟨congrArg SDat.nm h, map_len h1, fun hu hx => CnF.of (map_eq_at h1 hu hx) (map_mem_at (Q := cnOK) hk hu)⟩
structure PrF (a b : Pr) : Prop where
  el : a.effs.length = b.effs.length
  dl : a.dats.length = b.dats.length
  eff : ∀ {i : Nat} {u x : Eff}, a.effs[i]? = some u → b.effs[i]? = some x → EffF u x
  dat : ∀ {i : Nat} {u x : Dat}, a.dats[i]? = some u → b.dats[i]? = some x → DatF u x
  body : VT (shT a.body) (shT b.body)
theorem PrF.of {a b : Pr} (h : VPr (shPr a) (shPr b)) (hk : prOK (shPr a)) : PrF a b := by
  have h1 : a.effs.map shEff = b.effs.map shEff := h.1
  have h2 : a.dats.map shDat = b.dats.map shDat := h.2.1
  exact ⟨map_len h1, map_len h2, fun hu hx => EffF.of (map_eq_at h1 hu hx) (map_mem_at (Q := effOK) hk.1 hu), fun hu hx => DatF.of (map_eq_at h2 hu hx) (map_mem_at (Q := datOK) hk.2 hu), h.2.2⟩
-- ------------------------------------------------------------------ a term that bears nothing
theorem pl_cs {t : Tm} (h : plT t) : t.cs.toList.drop 7 = zero7 ∧ plL t.kids ∧ plA t.arms := by cases t; rw [plT] at h; exact h
theorem pl_cell {t : Tm} (h : plT t) (i : Nat) (v : Value) (hv : zero7[i]? = some v) : t.cs[7 + i]? = some v := by
  rw [← (pl_cs h).1, List.getElem?_drop] at hv
  rw [← Array.getElem?_toList]; exact hv
theorem plC7 {t : Tm} (h : plT t) : t.cs[7]? = some (.int .i64 0) := pl_cell h 0 _ rfl
theorem plC13 {t : Tm} (h : plT t) : t.cs[13]? = some (.slice none 0 0) := pl_cell h 6 _ rfl
theorem plC14 {t : Tm} (h : plT t) : t.cs[14]? = some (.int .i64 0) := pl_cell h 7 _ rfl
structure BtF (e lo : Int) (t : Tm) : Prop where
  lo : lo ≤ t.at_
  hi : t.at_ < e
  kid : ∀ {i : Nat} {u : Tm}, t.kids[i]? = some u → dS (shT u) < dS (shT t) ∧ btT e t.at_ (shT u) ∧ plT u
  arm : ∀ {i : Nat} {u : Am}, t.arms[i]? = some u → dS (shT u.body) < dS (shT t) ∧ btT e t.at_ (shT u.body) ∧ plT u.body
theorem BtF.of {e lo : Int} {t : Tm} (h : btT e lo (shT t)) (hp : plT t) : BtF e lo t := by
  rw [shT_eq, btT] at h
  obtain ⟨h1, h2, h3, h4⟩ := h
  obtain ⟨_, p2, p3⟩ := pl_cs hp
  have hd := dS_eq t
  refine ⟨h1, h2, fun {i u} hu => ⟨?_, ?_, plL_iff.1 p2 u (List.mem_of_getElem? hu)⟩, fun {i u} hu => ⟨?_, ?_, plA_iff.1 p3 u (List.mem_of_getElem? hu)⟩⟩
  · have := dSL_mem (map_at rfl hu : (t.kids.map shT)[i]? = some (shT u)); omega
  · exact btL_iff.1 h3 _ (List.mem_map_of_mem (List.mem_of_getElem? hu))
  · have hm := dSA_mem (map_at rfl hu : (t.arms.map shAm)[i]? = some (shAm u))
    have hm : dS (shT u.body) ≤ dSA (t.arms.map shAm) := hm
    omega
  · exact btA_iff.1 h4 _ (List.mem_map_of_mem (List.mem_of_getElem? hu))
end Go.Proofs.Ytkjmjnddanhapaa
