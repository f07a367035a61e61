/-
  Numbers in digits, names of any length. Plain lemmas; no condition beyond those that stand in each statement.
-/
import Derived.Test.YtkalnkedpiemaaaL14
namespace Go.Proofs.Ytkalnkedpiemaaa
open Go.RowKit

theorem and_max (m : Int) : ∃ V : Nat, bits .and .i64 m 9223372036854775807 = (V : Int) ∧ V ≤ 9223372036854775807 := by
  have h1 : (BitVec.ofInt 64 m &&& BitVec.ofInt 64 9223372036854775807).toNat ≤ 9223372036854775807 := by
    rw [BitVec.toNat_and]
    refine Nat.le_trans Nat.and_le_right ?_
    decide
  have h2 : bits .and .i64 m 9223372036854775807 = ((BitVec.ofInt 64 m &&& BitVec.ofInt 64 9223372036854775807).toNat : Int) := by
    show IntKind.i64.wrap ((BitVec.ofInt 64 m &&& BitVec.ofInt 64 9223372036854775807).toNat : Int) = _
    exact wrap64_id _ (by constructor <;> omega)
  exact ⟨_, h2, h1⟩
/-- The value of digits behind a. -/
def decV (l : List UInt8) (a : Nat) : Nat := l.foldl (fun a c => 10 * a + (c.toNat - 48)) a
theorem decV_cons (c : UInt8) (l : List UInt8) (a : Nat) : decV (c :: l) a = decV l (10 * a + (c.toNat - 48)) := by unfold decV; rw [List.foldl_cons]
theorem decV_ge : ∀ (l : List UInt8) (a : Nat), a ≤ decV l a := by
  intro l
  induction l with
  | nil => intro a; exact Nat.le_refl _
  | cons c l ih => intro a; rw [decV_cons]; exact Nat.le_trans (by omega) (ih _)
theorem numGo_dec : ∀ (l : List UInt8) (a : Nat), decV l a ≤ 9223372036854775807 → numGo a l = some (decV l a) := by
  intro l
  induction l with
  | nil => intro a _; rfl
  | cons c l ih =>
    intro a h
    have h1 := decV_ge l (10 * a + (c.toNat - 48))
    rw [decV_cons] at h ⊢
    rw [numGo, if_neg (by omega), ih _ h]
theorem tw_all {p : UInt8 → Bool} : ∀ (l : List UInt8), (∀ c ∈ l, p c = true) → l.takeWhile p = l := by
  intro l
  induction l with
  | nil => intro _; rfl
  | cons c l ih => intro h; rw [List.takeWhile_cons, if_pos (h c List.mem_cons_self), ih fun d hd => h d (List.mem_cons_of_mem _ hd)]
theorem dig_not {c : UInt8} (h : digB c = true) : blkB c = false ∧ c ≠ 35 := by
  have : ∀ n : Fin 256, (!digB (UInt8.ofNat n.val) || (!blkB (UInt8.ofNat n.val) && UInt8.ofNat n.val != 35)) = true := by decide +kernel
  have := this ⟨c.toNat, c.toNat_lt⟩
  rw [show UInt8.ofNat (⟨c.toNat, c.toNat_lt⟩ : Fin 256).val = c from UInt8.ofNat_toNat, h] at this
  simpa using this
theorem num_lex {s : List UInt8} {V : Nat} (hd : ∀ c ∈ s, digB c = true) (hv : decV s 0 = V) (hV : V ≤ 9223372036854775807) (hne : s ≠ []) : ∃ T : Tk, lexW 0 s = .ok [T] ∧ T.k = 1 ∧ T.n = (V : Int) ∧ T.t = s := by
  obtain ⟨c, r, rfl⟩ := List.exists_cons_of_ne_nil hne
  have h0 := hd c List.mem_cons_self
  have hs : skip (c :: r) = c :: r := skip_stop (dig_not h0)
  have hw : whileN digB (c :: r) = (c :: r).length := by unfold whileN; rw [tw_all _ hd]
  have ht : digs (c :: r) = c :: r := by rw [digs_eq, tw_all _ hd]
  have hr : wordR (c :: r) = ⟨⟨1, c :: r, (V : Int), 0⟩, (c :: r).length, true⟩ := by
    have e : wordR (c :: r) = numR (c :: r) := by unfold wordR ruleOf; rw [List.getD_cons_zero, if_pos h0]; rfl
    rw [e]
    unfold numR
    rw [ht, numGo_dec _ _ (by rw [hv]; exact hV), hw, hv]
  refine ⟨(⟨1, c :: r, (V : Int), 0⟩ : Tk).put 0, ?_, rfl, rfl, rfl⟩
  rw [lexW_word (by rw [hs]; simp) (by rw [hs, hr]), hs, hr]
  show LR.pre [_] (lexW _ ((c :: r).drop (c :: r).length)) = _
  rw [List.drop_length, lexW_end (show skip [] = [] from skip_zero rfl)]
  simp [LR.pre]
/-- A digit. -/
def dg (x : Nat) : UInt8 := UInt8.ofNat (48 + x % 10)
theorem dg_nat (x : Nat) : (dg x).toNat = 48 + x % 10 := by unfold dg; rw [UInt8.toNat_ofNat']; omega
theorem dg_dig (x : Nat) : digB (dg x) = true := by unfold digB; rw [dg_nat]; simp; omega
theorem dig_str (x : Nat) : strOfNums [IntKind.u8.wrap (48 + (x : Int).tmod 10)] = bs [dg x] := by
  have h1 : (x : Int).tmod 10 = ((x % 10 : Nat) : Int) := rfl
  have h2 : IntKind.u8.wrap (48 + (x : Int).tmod 10) = ((dg x).toNat : Int) := by
    rw [h1, dg_nat]
    have : IntKind.u8.wrap (48 + ((x % 10 : Nat) : Int)) = (48 + ((x % 10 : Nat) : Int)) % 256 := rfl
    rw [this]; omega
  rw [h2]; exact strOf_bs [dg x]
theorem quo10x {x : Nat} (h : x ≤ 9223372036854775807) : IntKind.i64.wrap ((x : Int).tdiv 10) = ((x / 10 : Nat) : Int) := by
  have : (x : Int).tdiv 10 = ((x / 10 : Nat) : Int) := rfl
  rw [this]; exact wrap64_id _ (by constructor <;> omega)
theorem decV_dg (x : Nat) (s : List UInt8) : decV ([dg x] ++ s) (x / 10) = decV s x := by
  show decV (dg x :: s) (x / 10) = _
  rw [decV_cons, dg_nat]
  congr 1; omega
theorem decV_0 (s : List UInt8) : decV ([48] ++ s) 0 = decV s 0 := by
  show decV (48 :: s) 0 = _
  rw [decV_cons, show 10 * 0 + ((48 : UInt8).toNat - 48) = 0 from by decide]
theorem digs_all {c : UInt8} {s : List UInt8} (hc : digB c = true) (h : ∀ d ∈ s, digB d = true) : ∀ d ∈ [c] ++ s, digB d = true := fun d hd => by
  rcases List.mem_cons.1 hd with e | e
  · rw [e]; exact hc
  · exact h d e
theorem pow_quo {x k : Nat} (h : x < 10 ^ k) (hx : 0 < x) : x / 10 < 10 ^ (k - 1) ∧ 0 < k := by
  cases k with
  | zero => rw [Nat.pow_zero] at h; omega
  | succ k => exact ⟨Nat.div_lt_of_lt_mul (by rw [Nat.mul_comm]; exact h), Nat.succ_pos _⟩
-- ------------------------------------------------------------------ names
def nm (c : UInt8) (i : Nat) : List UInt8 := c :: List.replicate i 120
theorem nm_succ (c : UInt8) (i : Nat) : nm c i ++ [120] = nm c (i + 1) := by unfold nm; rw [List.cons_append, ← List.replicate_succ']
theorem nm_len (c : UInt8) (i : Nat) : (nm c i).length = i + 1 := by unfold nm; rw [List.length_cons, List.length_replicate]
theorem nm_all {c : UInt8} (hc : nameB c = true) (i : Nat) : ∀ d ∈ nm c i, nameB d = true := fun d hd => by
  rcases List.mem_cons.1 hd with e | e
  · rw [e]; exact hc
  · rw [(List.mem_replicate.1 e).2]; decide
structure NmC (c : UInt8) (k : Int) : Prop where
  head : blkB c = false ∧ c ≠ 35
  dig : digB c = false
  let_ : letB c = true
  kind : (largB c = true ∧ k = 3) ∨ (largB c = false ∧ k = 2 ∧ ∀ i : Fin 60, kwB (nm c i.val) = false)
theorem nm_a : NmC 97 2 := ⟨by decide, by decide, by decide, .inr ⟨by decide, rfl, by decide +kernel⟩⟩
theorem nm_A : NmC 65 3 := ⟨by decide, by decide, by decide, .inl ⟨by decide, rfl⟩⟩
theorem nm_word {c : UInt8} {k : Int} (h : NmC c k) (i : Nat) : skip (nm c i) = nm c i ∧ wordR (nm c i) = nameR (nm c i) ∧ whileN nameB (nm c i) = i + 1 ∧ nameT (nm c i) = nm c i := by
  have hn : nameB c = true := by unfold nameB; rw [h.let_]; rfl
  have ht := tw_all (nm c i) (nm_all hn i)
  refine ⟨skip_stop h.head, ?_, by unfold whileN; rw [ht, nm_len], by rw [nameT_eq, ht]⟩
  unfold wordR ruleOf
  rw [show (nm c i).getD 0 0 = c from rfl, if_neg (by rw [h.dig]; decide), if_pos h.let_]; rfl
theorem nm_bad {c : UInt8} {k : Int} (h : NmC c k) {i : Nat} (hi : 60 ≤ i) : lexE (nm c i) = 2 ∨ 1048576 < (nm c i).length := by
  by_cases hl : 1048576 < (nm c i).length
  · exact .inr hl
  · obtain ⟨h1, h2, h3, _⟩ := nm_word h i
    have hb : (wordR (nm c i)).ok = false := by rw [h2]; unfold nameR; rw [if_pos (by rw [h3]; omega)]
    exact .inl (lex_bad hl (lexW_bad (a := 0) (by rw [h1]; unfold nm; simp) (by rw [h1]; exact hb))).2.2
theorem nm_ok {c : UInt8} {k : Int} (h : NmC c k) {i : Nat} (hi : i < 60) : ∃ T : Tk, lexT (nm c i) = [T] ∧ lexE (nm c i) = 0 ∧ T.k = k ∧ T.t = nm c i := by
  obtain ⟨h1, h2, h3, h4⟩ := nm_word h i
  have hl : ¬ 1048576 < (nm c i).length := by rw [nm_len]; omega
  have hr : nameR (nm c i) = ⟨⟨k, nm c i, 0, 0⟩, (nm c i).length, true⟩ := by
    unfold nameR
    rw [if_neg (by rw [h3]; omega), show (nm c i).getD 0 0 = c from rfl, h3, h4, nm_len]
    rcases h.kind with ⟨a1, rfl⟩ | ⟨a1, rfl, a2⟩
    · rw [if_pos a1]
    · rw [if_neg (by rw [a1]; decide), if_neg (by rw [a2 ⟨i, hi⟩]; decide), if_neg (by omega)]
  have hw : lexW 0 (nm c i) = .ok [(⟨k, nm c i, 0, 0⟩ : Tk).put 0] := by
    rw [lexW_word (by rw [h1]; unfold nm; simp) (by rw [h1, h2, hr]), h1, h2, hr]
    show LR.pre [_] (lexW _ ((nm c i).drop (nm c i).length)) = _
    rw [List.drop_length, lexW_end (show skip [] = [] from skip_zero rfl)]
    simp [LR.pre]
  obtain ⟨x, _, z⟩ := lex_ok hl hw
  exact ⟨_, x, z, rfl, rfl⟩
end Go.Proofs.Ytkalnkedpiemaaa
