/-
  Numbers in digits, names, at the head of a source. Plain lemmas; no condition beyond those that stand in each statement.
-/
import Derived.Test.YtkjmjnddanhapaaN10
namespace Go.Proofs.Ytkjmjnddanhapaa
open Go.RowKit

theorem strOf_bs (l : List UInt8) : strOfNums (l.map fun u => (u.toNat : Int)) = bs l := by
  unfold strOfNums bs
  simp only [List.map_map]
  congr 2
  have : ((fun n : Int => UInt8.ofNat n.toNat) ∘ fun u : UInt8 => (u.toNat : Int)) = id := by funext u; simp
  rw [this, List.map_id]
/-- A digit; a number's digits. -/
def dg (x : Nat) : UInt8 := UInt8.ofNat (48 + x % 10)
theorem dg_nat (x : Nat) : (dg x).toNat = 48 + x % 10 := by unfold dg; rw [UInt8.toNat_ofNat']; omega
theorem dg_dig (x : Nat) : digB (dg x) = true := by unfold digB; rw [dg_nat]; simp; omega
theorem dig_str (x : Nat) : strOfNums [IntKind.u8.wrap (48 + (x : Int).tmod 10)] = bs [dg x] := by
  have h1 : (x : Int).tmod 10 = ((x % 10 : Nat) : Int) := rfl
  have h2 : IntKind.u8.wrap (48 + (x : Int).tmod 10) = ((dg x).toNat : Int) := by
    rw [h1, dg_nat]
    have : IntKind.u8.wrap (48 + ((x % 10 : Nat) : Int)) = (48 + ((x % 10 : Nat) : Int)) % 256 := rfl
    rw [this]; omega
  rw [h2]; exact strOf_bs [dg x]
theorem quo10x {x : Nat} (h : x ≤ 9223372036854775807) : IntKind.i64.wrap ((x : Int).tdiv 10) = ((x / 10 : Nat) : Int) := by
  have : (x : Int).tdiv 10 = ((x / 10 : Nat) : Int) := rfl
  rw [this]; exact wrap64_id _ (by constructor <;> omega)
def dgs (n : Nat) : List UInt8 := if n < 10 then [dg n] else dgs (n / 10) ++ [dg n]
termination_by n
decreasing_by omega
theorem dgs_lt {n : Nat} (h : n < 10) : dgs n = [dg n] := by rw [dgs, if_pos h]
theorem dgs_ge {n : Nat} (h : ¬ n < 10) : dgs n = dgs (n / 10) ++ [dg n] := by rw [dgs, if_neg h]
theorem dgs_dig (n : Nat) : ∀ c ∈ dgs n, digB c = true := by
  induction n using Nat.strongRecOn with
  | ind n ih =>
    intro c hc
    by_cases h : n < 10
    · rw [dgs_lt h] at hc; rw [List.mem_singleton.1 hc]; exact dg_dig n
    · rw [dgs_ge h] at hc
      rcases List.mem_append.1 hc with hc | hc
      · exact ih _ (by omega) c hc
      · rw [List.mem_singleton.1 hc]; exact dg_dig n
theorem dgs_ne (n : Nat) : dgs n ≠ [] := by
  by_cases h : n < 10
  · rw [dgs_lt h]; simp
  · rw [dgs_ge h]; simp
theorem dgs_len : ∀ (k n : Nat), n < 10 ^ (k + 1) → (dgs n).length ≤ k + 1 := by
  intro k
  induction k with
  | zero => intro n h; rw [dgs_lt (by omega)]; exact Nat.le_refl _
  | succ k ih =>
    intro n h
    by_cases h2 : n < 10
    · rw [dgs_lt h2]; simp
    · rw [dgs_ge h2, List.length_append]
      have := ih (n / 10) (Nat.div_lt_of_lt_mul (by rw [Nat.pow_succ] at h; omega))
      simp; omega
theorem dgs_len20 {n : Nat} (h : n ≤ 9223372036854775807) : (dgs n).length ≤ 19 := dgs_len 18 n (by omega)
theorem dgs_len5 {n : Nat} (h : n < 100000) : (dgs n).length ≤ 5 := dgs_len 4 n (by omega)
/-- The value of digits behind a. -/
def decV (l : List UInt8) (a : Nat) : Nat := l.foldl (fun a c => 10 * a + (c.toNat - 48)) a
theorem decV_cons (c : UInt8) (l : List UInt8) (a : Nat) : decV (c :: l) a = decV l (10 * a + (c.toNat - 48)) := by unfold decV; rw [List.foldl_cons]
theorem decV_ge : ∀ (l : List UInt8) (a : Nat), a ≤ decV l a := by
  intro l
  induction l with
  | nil => intro a; exact Nat.le_refl _
  | cons c l ih => intro a; rw [decV_cons]; exact Nat.le_trans (by omega) (ih _)
theorem numGo_dec : ∀ (l : List UInt8) (a : Nat), decV l a ≤ 9223372036854775807 → numGo a l = some (decV l a) := by
  intro l
  induction l with
  | nil => intro a _; rfl
  | cons c l ih =>
    intro a h
    have h1 := decV_ge l (10 * a + (c.toNat - 48))
    rw [decV_cons] at h ⊢
    rw [numGo, if_neg (by omega), ih _ h]
theorem dgs_val (n : Nat) : decV (dgs n) 0 = n := by
  induction n using Nat.strongRecOn with
  | ind n ih =>
    have hd := dg_nat n
    by_cases h : n < 10
    · rw [dgs_lt h]; show 10 * 0 + ((dg n).toNat - 48) = n; omega
    · rw [dgs_ge h]
      have := ih (n / 10) (by omega)
      unfold decV at this ⊢
      rw [List.foldl_append, this]
      show 10 * (n / 10) + ((dg n).toNat - 48) = n
      omega
-- ------------------------------------------------------------------ how far a word goes
theorem tw_app {p : UInt8 → Bool} : ∀ (w r : List UInt8), (∀ c ∈ w, p c = true) → (∀ u q, r = u :: q → p u = false) → (w ++ r).takeWhile p = w := by
  intro w
  induction w with
  | nil =>
    intro r _ h
    cases r with
    | nil => rfl
    | cons u q => rw [List.nil_append, List.takeWhile_cons, h u q rfl]; rfl
  | cons c w ih => intro r h1 h2; rw [List.cons_append, List.takeWhile_cons, if_pos (h1 c List.mem_cons_self), ih r (fun d hd => h1 d (List.mem_cons_of_mem _ hd)) h2]
theorem wn_app {p : UInt8 → Bool} {w r : List UInt8} (h1 : ∀ c ∈ w, p c = true) (h2 : ∀ u q, r = u :: q → p u = false) : whileN p (w ++ r) = w.length := by unfold whileN; rw [tw_app w r h1 h2]
theorem bytes_all {p : UInt8 → Bool} (h : ∀ n : Fin 256, p (UInt8.ofNat n.val) = true) (u : UInt8) : p u = true := by
  have := h ⟨u.toNat, u.toNat_lt⟩
  rwa [show UInt8.ofNat (⟨u.toNat, u.toNat_lt⟩ : Fin 256).val = u from UInt8.ofNat_toNat] at this
theorem blank_no {c : UInt8} {r : List UInt8} (h : nameB c = true) : blank1 (c :: r) = 0 := by
  have h1 : (!nameB c || (!blkB c && c != 35)) = true := bytes_all (p := fun c => !nameB c || (!blkB c && c != 35)) (by decide +kernel) c
  rw [h] at h1
  have h2 : blkB c = false ∧ c ≠ 35 := by simpa using h1
  have hw : whileN blkB (c :: r) = 0 := by unfold whileN; rw [List.takeWhile_cons, h2.1]; rfl
  have h3 : ¬ (c.toNat : Int) = 35 := fun e => h2.2 (UInt8.toNat_inj.1 (by show c.toNat = 35; omega))
  unfold blank1
  rw [hw]
  simp [h3]
theorem let_dig {c : UInt8} (h : letB c = true) : digB c = false := by
  have h1 : (!letB c || !digB c) = true := bytes_all (p := fun c => !letB c || !digB c) (by decide +kernel) c
  rw [h] at h1; simpa using h1
theorem dig_name {c : UInt8} (h : digB c = true) : nameB c = true := by unfold nameB; rw [h]; simp
theorem let_name {c : UInt8} (h : letB c = true) : nameB c = true := by unfold nameB; rw [h]; rfl
/-- Where a word ends. -/
def Stop (r : List UInt8) : Prop := ∀ u q, r = u :: q → nameB u = false ∧ u.toNat ≠ 33
theorem Stop.nil : Stop [] := fun u q h => by cases h
theorem Stop.sp (r : List UInt8) : Stop (32 :: r) := fun u q h => by cases h; decide
theorem num_word {s r : List UInt8} (hd : ∀ c ∈ s, digB c = true) (hne : s ≠ []) (hV : decV s 0 ≤ 9223372036854775807) (hr : ∀ u q, r = u :: q → digB u = false) : wordR (s ++ r) = ⟨⟨1, s, (decV s 0 : Int), 0⟩, s.length, true⟩ := by
  have e : wordR (s ++ r) = numR (s ++ r) := by
    obtain ⟨c, q, rfl⟩ := List.exists_cons_of_ne_nil hne
    unfold wordR ruleOf; rw [List.cons_append, List.getD_cons_zero, if_pos (hd c List.mem_cons_self)]; rfl
  have hw := wn_app hd hr
  have ht : digs (s ++ r) = s := by unfold digs; rw [hw, List.take_left']; rfl
  rw [e]; unfold numR
  rw [ht, numGo_dec _ _ hV, hw]
theorem name_word {c : UInt8} {w r : List UInt8} (hc : letB c = true) (hw : ∀ d ∈ w, nameB d = true) (hl : w.length < 60) (hr : Stop r) : wordR ((c :: w) ++ r) = ⟨⟨if largB c then 3 else if kwB (c :: w) then 4 else 2, c :: w, 0, 0⟩, (c :: w).length, true⟩ := by
  have e : wordR ((c :: w) ++ r) = nameR ((c :: w) ++ r) := by unfold wordR ruleOf; rw [List.cons_append, List.getD_cons_zero, if_neg (by rw [let_dig hc]; decide), if_pos hc]; rfl
  have hn : whileN nameB ((c :: w) ++ r) = (c :: w).length := wn_app (fun d hd => by rcases List.mem_cons.1 hd with rfl | h; exact let_name hc; exact hw d h) (fun u q h => (hr u q h).1)
  have ht : nameT ((c :: w) ++ r) = c :: w := by unfold nameT; rw [hn, List.take_left']; rfl
  have h0 : ((c :: w) ++ r).getD 0 0 = c := rfl
  have h33 : ¬ ((c :: w).length < ((c :: w) ++ r).length ∧ (((c :: w) ++ r).getD (c :: w).length 0).toNat = 33) := by
    rintro ⟨h1, h2⟩
    cases r with
    | nil => simp at h1
    | cons u q =>
      have : ((c :: w) ++ u :: q).getD (c :: w).length 0 = u := by rw [List.getD_eq_getElem?_getD, List.getElem?_append_right (Nat.le_refl _)]; simp
      rw [this] at h2
      exact (hr u q rfl).2 h2
  rw [e]; unfold nameR
  rw [ht, hn, h0, if_neg (by simp only [List.length_cons]; omega)]
  by_cases h1 : largB c = true
  · rw [if_pos h1, if_pos h1]
  · rw [if_neg h1, if_neg h1]
    by_cases h2 : kwB (c :: w) = true
    · rw [if_pos h2, if_pos h2]
    · rw [if_neg h2, if_neg h2, if_neg h33]
theorem index_mem : ∀ (s t : List UInt8), 0 ≤ Lib.index s t → ∀ c ∈ t, c ∈ s := by
  intro s
  induction s with
  | nil =>
    intro t h c hc
    unfold Lib.index at h
    cases t with
    | nil => exact hc
    | cons => simp at h
  | cons b s ih =>
    intro t h c hc
    unfold Lib.index at h
    by_cases h1 : t.isPrefixOf (b :: s) = true
    · exact (List.isPrefixOf_iff_prefix.1 h1).subset hc
    · rw [if_neg h1] at h
      by_cases h2 : (Lib.index s t == -1) = true
      · rw [if_pos h2] at h; omega
      · have h3 := Lib.index_ge s t
        have h4 : Lib.index s t ≠ -1 := by simpa using h2
        exact List.mem_cons_of_mem _ (ih t (by omega) c hc)
theorem kw_dig {w : List UInt8} {c : UInt8} (hc : c ∈ w) (hd : digB c = true) : kwB w = false := by
  cases h : kwB w with
  | false => rfl
  | true =>
    exfalso
    have h1 : 0 ≤ Lib.index keysL (([32] ++ w) ++ [32]) := by unfold kwB Lib.contains at h; simpa using h
    have h2 := index_mem _ _ h1 c (by simp [hc])
    have h3 : keysL.all (fun c => !digB c) = true := by decide
    have h4 := List.all_eq_true.1 h3 c h2
    rw [hd] at h4; cases h4
theorem Lx.dec {r : List UInt8} {n : Nat} {Q : List Tk → Prop} (hr : Lx r (fun ts => ∀ a, Q (⟨1, dgs n, (n : Int), a⟩ :: ts))) (hn : n ≤ 9223372036854775807) (hs : Stop r) : Lx (dgs n ++ r) Q := by
  have hv := dgs_val n
  have hw := num_word (r := r) (dgs_dig n) (dgs_ne n) (by omega) (fun u q h => by
    have := (hs u q h).1
    unfold nameB at this
    cases hd : digB u with
    | false => rfl
    | true => rw [hd] at this; simp at this)
  rw [hv] at hw
  obtain ⟨c, q, hc⟩ := List.exists_cons_of_ne_nil (dgs_ne n)
  exact Lx.word hr (by rw [hc]; exact blank_no (dig_name (dgs_dig n c (by rw [hc]; simp)))) (dgs_ne n) hw
/-- A letter, then a number's digits. -/
theorem id_word {c : UInt8} {n : Nat} {r : List UInt8} {k : Int} (hc : letB c = true) (hk : (if largB c then 3 else 2 : Int) = k) (hn : n ≤ 9223372036854775807) (hs : Stop r) : wordR ((c :: dgs n) ++ r) = ⟨⟨k, c :: dgs n, 0, 0⟩, (c :: dgs n).length, true⟩ := by
  have h := name_word (w := dgs n) (r := r) hc (fun d hd => dig_name (dgs_dig n d hd)) (by have := dgs_len20 hn; omega) hs
  obtain ⟨d, q, hd⟩ := List.exists_cons_of_ne_nil (dgs_ne n)
  rw [h, kw_dig (c := d) (by rw [hd]; simp) (dgs_dig n d (by rw [hd]; simp)), ← hk]
  rfl
theorem Lx.id {r : List UInt8} {c : UInt8} {n : Nat} {k : Int} {Q : List Tk → Prop} (hr : Lx r (fun ts => ∀ a, Q (⟨k, c :: dgs n, 0, a⟩ :: ts))) (hc : letB c = true) (hk : (if largB c then 3 else 2 : Int) = k) (hn : n ≤ 9223372036854775807) (hs : Stop r) : Lx ((c :: dgs n) ++ r) Q :=
  Lx.word hr (blank_no (let_name hc)) (by simp) (id_word hc hk hn hs)
end Go.Proofs.Ytkjmjnddanhapaa
