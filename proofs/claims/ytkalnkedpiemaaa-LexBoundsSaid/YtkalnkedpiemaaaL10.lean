/-
  Parts of slices and strings; how long texts are; where a source is wrong. Plain lemmas; no condition beyond those that stand in each statement.
-/
import Derived.Test.YtkalnkedpiemaaaL9
import Derived.Laws.Strings2
namespace Go.Proofs.Ytkalnkedpiemaaa
open Go.RowKit
section
variable {P : Program} {N : Nat} {ds : List Deferred} {L : List (Nat × Value)} {w : World} {ops : Array Oper} {Q : Exit → Act → World → Prop} {rest : List Oper} {d : Nat}
  {ty : TypeId} {pos : String} {aft : Array Edge} {x y z : Operand}
theorem At.sliceLH {t e : TypeId} {sz n lo hi : Nat} {v : Value} (hx : ev L x = some v) (hy : ev L y = some (.int .i64 (lo : Int))) (hz : ev L z = some (.int .i64 (hi : Int))) (hv : SlOk v n) (he : elemB P t = some e) (hs : sizeB P e = some sz) (hlh : lo ≤ hi) (hh : hi ≤ n) (hN : Nat.blt d N = true)
    (k : At N ds ((d, takeV (dropV sz v lo) (hi - lo)) :: L) (wpList P ops Q rest) w) :
    At N ds L (wpList P ops Q (⟨some d, .slice t x (some y) (some z) none, ty, pos, aft, none⟩ :: rest)) w := by
  have key : ∀ (a : Option Addr) (c : Nat), v = .slice a n c → n ≤ c → At N ds L (wpList P ops Q (⟨some d, .slice t x (some y) (some z) none, ty, pos, aft, none⟩ :: rest)) w := by
    rintro a c rfl hc
    exact At.op rfl rfl hN (fun b ha => by
      obtain ⟨h1, h2⟩ := elem_eq he
      have := run_slice_lh (P := P) w t a n c h1 .i64 .i64 (lo : Int) (hi : Int) (by omega) (by omega) (by omega)
      rw [h2, run_sizeOf hs] at this
      simp only [execOp, ha.ev hx, ha.ev hy, ha.ev hz, Option.map_some, Option.map_none, run_sliceAt_slice (P := P) w t _ _ _ _ h1, Sem.run_bind, this, Result.andThen_ok, Sem.run_pure]
      simp [sliced, dropV, takeV]) k
  rcases hv with ⟨rfl, rfl⟩ | ⟨a, cap, rfl, hc, hsp⟩
  · exact key none 0 rfl (Nat.le_refl _)
  · exact key (some a) cap rfl hc
theorem At.partB {t : TypeId} {l : List UInt8} {lo hi : Nat} (hx : ev L x = some (.string (bs l))) (hy : ev L y = some (.int .i64 (lo : Int))) (hz : ev L z = some (.int .i64 (hi : Int))) (ht : strB P t = true) (hlh : lo ≤ hi) (hh : hi ≤ l.length) (hN : Nat.blt d N = true)
    (k : At N ds ((d, .string (bs ((l.drop lo).take (hi - lo)))) :: L) (wpList P ops Q rest) w) :
    At N ds L (wpList P ops Q (⟨some d, .slice t x (some y) (some z) none, ty, pos, aft, none⟩ :: rest)) w :=
  At.op rfl rfl hN (fun a ha => by
    have hu := underlying_str ht
    have := run_slice_string (P := P) w t (bs l) .i64 .i64 (lo : Int) (hi : Int) hu (by omega) (by omega) (by rw [bs_size]; omega)
    rw [Int.toNat_natCast, Int.toNat_natCast, bs_extract] at this
    simp only [execOp, ha.ev hx, ha.ev hy, ha.ev hz, Option.map_some, Option.map_none, run_sliceAt_string (P := P) w t _ _ _ _ hu, Sem.run_bind, this, Result.andThen_ok, Sem.run_pure]) k
end
theorem BytesAt.take {w : World} {v : Value} {l : List UInt8} (h : BytesAt w v l) {k : Nat} (hk : k ≤ l.length) : BytesAt w (takeV v k) (l.take k) := by
  have := RowsAt.take h (h := k) (by simpa using hk)
  unfold BytesAt; rw [List.map_take]; exact this
theorem BytesAt.drop {w : World} {v : Value} {l : List UInt8} (h : BytesAt w v l) {k : Nat} (hk : k ≤ l.length) : BytesAt w (dropV 1 v k) (l.drop k) := by
  have := RowsAt.drop h (h := k) (by simpa using hk)
  unfold BytesAt; rw [List.map_drop]; exact this
theorem BytesAt.part {w : World} {v : Value} {l : List UInt8} (h : BytesAt w v l) {lo hi : Nat} (hlh : lo ≤ hi) (hh : hi ≤ l.length) : BytesAt w (takeV (dropV 1 v lo) (hi - lo)) ((l.drop lo).take (hi - lo)) :=
  (h.drop (by omega)).take (by simp only [List.length_drop]; omega)
theorem rows_part {α : Type} {w : World} {v : Value} {sz lo hi : Nat} {l : List α} {f : α → Array Value} (h : RowsAt w v sz (l.map f)) (hlh : lo ≤ hi) (hh : hi ≤ l.length) : RowsAt w (takeV (dropV sz v lo) (hi - lo)) sz (((l.drop lo).take (hi - lo)).map f) := by
  have h1 := RowsAt.drop h (h := lo) (by simp; omega)
  have h2 := RowsAt.take h1 (h := hi - lo) (by simp; omega)
  rw [List.map_take, List.map_drop]; exact h2
theorem rows_eq {α : Type} {w : World} {v : Value} {sz : Nat} {l l' : List α} {f : α → Array Value} (h : RowsAt w v sz (l.map f)) (e : l = l') : RowsAt w v sz (l'.map f) := e ▸ h
theorem BytesAt.eqL {w : World} {v : Value} {l l' : List UInt8} (h : BytesAt w v l) (e : l = l') : BytesAt w v l' := e ▸ h
theorem min_lit (a b : Nat) : (if (b : Int) < (a : Int) then (b : Int) else (a : Int)) = ((min a b : Nat) : Int) := by split <;> omega
-- ------------------------------------------------------------------ how long it is
def sumW : List Tk → Nat
  | [] => 0
  | t :: r => (textW t).length + sumW r
theorem sumW_append (a b : List Tk) : sumW (a ++ b) = sumW a + sumW b := by induction a with | nil => simp [sumW] | cons t r ih => simp [sumW, ih]; omega
theorem lexW_sum : ∀ (n : Nat) (l : List UInt8), l.length ≤ n → ∀ (a : Nat) (ts : List Tk), lexW a l = .ok ts → sumW ts ≤ l.length := by
  intro n
  induction n with
  | zero =>
    intro l hl a ts h
    have : l = [] := List.length_eq_zero_iff.1 (by omega)
    subst this
    rw [lexW_end (show skip [] = [] from skip_zero rfl)] at h; cases h; exact Nat.zero_le _
  | succ n ih =>
    intro l hl a ts h
    by_cases hs : skip l = []
    · rw [lexW_end hs] at h; cases h; exact Nat.zero_le _
    · have hle := skip_le _ l (Nat.le_refl _)
      cases hk : (wordR (skip l)).ok with
      | false => rw [lexW_bad hs hk] at h; cases h
      | true =>
        have hwl := word_le hs hk
        obtain ⟨hf, _⟩ := word_wf hs hk
        rw [lexW_word hs hk] at h
        obtain ⟨r, hr, rfl⟩ := LR.pre_ok h
        have h1 := ih _ (by simp only [List.length_drop]; omega) _ _ hr
        have h2 : (textW ((wordR (skip l)).tok.put (a + (l.length - (skip l).length)))).length = (wordR (skip l)).n := by rw [textW_put, hf.txt, List.length_take]; omega
        simp only [List.length_drop] at h1
        show sumW (_ :: r) ≤ _
        rw [sumW, h2]; omega
theorem textL_le : ∀ (ts : List Tk), (∀ t ∈ ts, Wd t) → (textL ts).length ≤ 2 * sumW ts := by
  intro ts
  induction ts with
  | nil => intro _; exact Nat.zero_le _
  | cons t r ih =>
    intro h
    have h0 := List.length_pos_iff.2 (h t List.mem_cons_self).ne
    have h1 := ih fun u hu => h u (List.mem_cons_of_mem _ hu)
    cases r with
    | nil => rw [textL_one, sumW, sumW]; omega
    | cons s r => rw [textL_cons, sumW, List.length_append, List.length_cons]; omega
theorem len_le_sum : ∀ (ts : List Tk), (∀ t ∈ ts, Wd t) → ts.length ≤ sumW ts := by
  intro ts
  induction ts with
  | nil => intro _; exact Nat.zero_le _
  | cons t r ih =>
    intro h
    have h0 := List.length_pos_iff.2 (h t List.mem_cons_self).ne
    have h1 := ih fun u hu => h u (List.mem_cons_of_mem _ hu)
    rw [List.length_cons, sumW]; omega
theorem tok_le_sum : ∀ (ts : List Tk), ∀ t ∈ ts, t.t.length ≤ sumW ts := by
  intro ts
  induction ts with
  | nil => intro t h; cases h
  | cons s r ih =>
    intro t h
    rw [sumW]
    rcases List.mem_cons.1 h with rfl | h
    · have : t.t.length ≤ (textW t).length := by unfold textW; split <;> simp
      omega
    · have := ih t h; omega
theorem textW_le_sum : ∀ (ts : List Tk), ∀ t ∈ ts, (textW t).length ≤ sumW ts := by
  intro ts
  induction ts with
  | nil => intro t h; cases h
  | cons s r ih =>
    intro t h
    rw [sumW]
    rcases List.mem_cons.1 h with rfl | h
    · omega
    · have := ih t h; omega
theorem part_one {α : Type} {l : List α} {k : Nat} {x : α} (h : l[k]? = some x) : (l.drop k).take (k + 1 - k) = [x] := by
  have hk := lt_of_some h
  rw [List.drop_eq_getElem_cons hk, (List.getElem?_eq_some_iff.1 h).2, show k + 1 - k = 1 by omega]; rfl
theorem lexW_where : ∀ (n : Nat) (l : List UInt8), l.length ≤ n → ∀ (a p : Nat), lexW a l = .bad p → a ≤ p ∧ p < a + l.length := by
  intro n
  induction n with
  | zero =>
    intro l hl a p h
    have : l = [] := List.length_eq_zero_iff.1 (by omega)
    subst this
    rw [lexW_end (show skip [] = [] from skip_zero rfl)] at h; cases h
  | succ n ih =>
    intro l hl a p h
    by_cases hs : skip l = []
    · rw [lexW_end hs] at h; cases h
    · have hle := skip_le _ l (Nat.le_refl _)
      have hpos := List.length_pos_iff.2 hs
      cases hk : (wordR (skip l)).ok with
      | false => rw [lexW_bad hs hk] at h; cases h; omega
      | true =>
        have hwl := word_le hs hk
        rw [lexW_word hs hk] at h
        have := ih _ (by simp only [List.length_drop]; omega) _ _ (LR.pre_bad h)
        simp only [List.length_drop] at this
        omega
-- ------------------------------------------------------------------ what Lex returns
theorem lex_zero {l : List UInt8} (h : lexE l = 0) : lexW 0 l = .ok (lexT l) ∧ l.length ≤ 1048576 := by
  by_cases hb : 1048576 < l.length
  · rw [(lex_big hb).2.2] at h; exact absurd h (by decide)
  · cases hl : lexW 0 l with
    | ok ts => exact ⟨by rw [(lex_ok hb hl).1], by omega⟩
    | bad p => rw [(lex_bad hb hl).2.2] at h; exact absurd h (by decide)
theorem lex_wrong {l : List UInt8} (h : lexE l ≠ 0) (hl : l.length ≤ 1048576) : lexW 0 l = .bad (lexA l) ∧ lexE l = 2 ∧ lexA l < l.length ∧ lexT l = [] := by
  have hb : ¬ 1048576 < l.length := by omega
  cases hw : lexW 0 l with
  | ok ts => exact absurd (lex_ok hb hw).2.2 h
  | bad p =>
    obtain ⟨h1, h2, h3⟩ := lex_bad hb hw
    have := lexW_where _ l (Nat.le_refl _) _ _ hw
    exact ⟨by rw [h2], h3, by rw [h2]; omega, h1⟩
/-- What is so of a source that is words. -/
structure Words (l : List UInt8) (ts : List Tk) : Prop where
  lex : lexW 0 l = .ok ts
  wd : ∀ t ∈ ts, Wd t
  sum : sumW ts ≤ l.length
  len : ts.length ≤ l.length
  tok : ∀ t ∈ ts, t.t.length ≤ l.length
  text : (textL ts).length ≤ 2 * l.length
theorem words_of {l : List UInt8} (h : lexE l = 0) : Words l (lexT l) := by
  obtain ⟨h1, _⟩ := lex_zero h
  have hw := lexW_wd _ l (Nat.le_refl _) _ _ h1
  have hs := lexW_sum _ l (Nat.le_refl _) _ _ h1
  have ht := textL_le _ hw
  have hn := len_le_sum _ hw
  exact ⟨h1, hw, hs, by omega, fun t ht => Nat.le_trans (tok_le_sum _ t ht) hs, by omega⟩
end Go.Proofs.Ytkalnkedpiemaaa
