/-
  Numbers with signs between: the words, the values. Plain lemmas; no condition beyond those that stand in each statement.
-/
import Derived.Test.YtkjmjnddanhapaaN13
namespace Go.Proofs.Ytkjmjnddanhapaa
open Go.RowKit

def sgB : Nat → List UInt8
  | 0 => [43]
  | 1 => [45]
  | _ => [42]
/-- The number that stands at a place, the sign ahead of it. -/
def vvI (l : List Int) (i : Nat) : Nat := (bits .and .i64 (l.getD i 0) 65535).toNat
def sgI (l : List Int) (i : Nat) : Nat := if 0 < i ∧ i - 1 < l.length then ((bits .and .i64 (l.getD (i - 1) 0) 65535).tmod 3).toNat else 0
theorem vvI_lt (l : List Int) (i : Nat) : ((vvI l i : Nat) : Int) = bits .and .i64 (l.getD i 0) 65535 ∧ vvI l i ≤ 65535 := by
  have h : 0 ≤ bits .and .i64 (l.getD i 0) 65535 ∧ bits .and .i64 (l.getD i 0) 65535 ≤ 65535 := and_range (l.getD i 0) (n := 65535) (by decide)
  unfold vvI; omega
theorem sgI_lt (l : List Int) (i : Nat) : sgI l i < 3 := by
  unfold sgI
  split
  · obtain ⟨q, h1, h2⟩ := and_mod (l.getD (i - 1) 0) (k := 3) (by decide)
    have h1' : (bits .and .i64 (l.getD (i - 1) 0) 65535).tmod 3 = (q : Int) := h1
    rw [h1']; omega
  · decide
def sidS (l1 l2 : List Int) : Nat → List UInt8
  | 0 => []
  | i + 1 => (sidS l1 l2 i ++ (if 0 < i then sgB (sgI l2 i) else [])) ++ dgs (vvI l1 i)
/-- From place i on, so many numbers, each with its sign ahead. -/
def sidR (l1 l2 : List Int) : Nat → Nat → List UInt8
  | _, 0 => []
  | i, k + 1 => sgB (sgI l2 i) ++ (dgs (vvI l1 i) ++ sidR l1 l2 (i + 1) k)
theorem sidR_snoc (l1 l2 : List Int) : ∀ k i, sidR l1 l2 i (k + 1) = sidR l1 l2 i k ++ (sgB (sgI l2 (i + k)) ++ dgs (vvI l1 (i + k))) := by
  intro k
  induction k with
  | zero => intro i; simp [sidR]
  | succ k ih => intro i; rw [sidR, ih, sidR, show i + 1 + k = i + (k + 1) by omega]; simp
theorem sidS_eq (l1 l2 : List Int) : ∀ n, sidS l1 l2 (n + 1) = dgs (vvI l1 0) ++ sidR l1 l2 1 n := by
  intro n
  induction n with
  | zero => simp [sidS, sidR]
  | succ n ih => rw [sidR_snoc, sidS, ih, if_pos (by omega), Nat.add_comm 1 n]; simp
theorem sidS_len (l1 l2 : List Int) : ∀ n, (sidS l1 l2 n).length ≤ 21 * n := by
  intro n
  induction n with
  | zero => exact Nat.le_refl _
  | succ n ih =>
    have h1 := dgs_len20 (n := vvI l1 n) (by have := (vvI_lt l1 n).2; omega)
    have h2 : (if 0 < n then sgB (sgI l2 n) else []).length ≤ 1 := by
      split
      · unfold sgB; split <;> decide
      · decide
    simp only [sidS, List.length_append]; omega
-- ------------------------------------------------------------------ their words
inductive St' (l1 l2 : List Int) : Nat → Nat → List Tk → Prop
  | nil (i : Nat) : St' l1 l2 i 0 []
  | cons {i k : Nat} {r : List Tk} (a b : Int) (h : St' l1 l2 (i + 1) k r) : St' l1 l2 i (k + 1) (⟨5, sgB (sgI l2 i), 0, a⟩ :: ⟨1, dgs (vvI l1 i), (vvI l1 i : Int), b⟩ :: r)
theorem stop_sidR (l1 l2 : List Int) (i k : Nat) : Stop (sidR l1 l2 i k) := by
  cases k with
  | zero => exact Stop.nil
  | succ k =>
    intro u q h
    rw [sidR] at h
    revert h
    unfold sgB
    split <;> (intro h; cases h; decide)
theorem sign_43 (c : UInt8) (q : List UInt8) : wordR ([43] ++ (c :: q)) = ⟨⟨5, [43], 0, 0⟩, ([43] : List UInt8).length, true⟩ := by kernel_rfl
theorem sign_42 (c : UInt8) (q : List UInt8) : wordR ([42] ++ (c :: q)) = ⟨⟨5, [42], 0, 0⟩, ([42] : List UInt8).length, true⟩ := by kernel_rfl
theorem sign_45 (c : UInt8) (q : List UInt8) (h62 : (62 == c) = false) : wordR ([45] ++ (c :: q)) = ⟨⟨5, [45], 0, 0⟩, ([45] : List UInt8).length, true⟩ := by
  have hp : preB ([45] ++ (c :: q)) (⟨#[45, 62]⟩ : ByteArray) = false := by
    show (([45, 62] : List UInt8).isPrefixOf (45 :: c :: q)) = false
    simp [List.isPrefixOf, h62]
  have h1 : signsS.find? (preB ([45] ++ (c :: q))) = some (⟨#[45]⟩ : ByteArray) := by
    unfold signsS
    rw [List.find?_cons, hp]
    have : ([⟨#[58, 61]⟩, ⟨#[40]⟩, ⟨#[41]⟩, ⟨#[123]⟩, ⟨#[125]⟩, ⟨#[44]⟩, ⟨#[59]⟩, ⟨#[58]⟩, ⟨#[61]⟩, ⟨#[43]⟩, ⟨#[45]⟩] : List ByteArray).find? (preB ([45] ++ (c :: q))) = some (⟨#[45]⟩ : ByteArray) := by kernel_rfl
    show List.find? (preB ([45] ++ (c :: q))) (([⟨#[58, 61]⟩, ⟨#[40]⟩, ⟨#[41]⟩, ⟨#[123]⟩, ⟨#[125]⟩, ⟨#[44]⟩, ⟨#[59]⟩, ⟨#[58]⟩, ⟨#[61]⟩, ⟨#[43]⟩, ⟨#[45]⟩] : List ByteArray) ++ _) = _
    rw [List.find?_append, this]; rfl
  have h2 : wordR ([45] ++ (c :: q)) = signR ([45] ++ (c :: q)) := by kernel_rfl
  rw [h2]; unfold signR; rw [h1]; rfl
theorem sign_word (n m : Nat) (r : List UInt8) : wordR (sgB n ++ (dgs m ++ r)) = ⟨⟨5, sgB n, 0, 0⟩, (sgB n).length, true⟩ := by
  obtain ⟨c, q, hc⟩ := List.exists_cons_of_ne_nil (dgs_ne m)
  have hd : digB c = true := dgs_dig m c (by rw [hc]; simp)
  have h62 : (62 == c) = false := by
    cases h : (62 == c) with
    | false => rfl
    | true => rw [← (beq_iff_eq.1 h)] at hd; revert hd; decide
  rw [hc]
  unfold sgB
  split
  · exact sign_43 c (q ++ r)
  · exact sign_45 c (q ++ r) h62
  · exact sign_42 c (q ++ r)
theorem sign_blank (n : Nat) (r : List UInt8) : blank1 (sgB n ++ r) = 0 := by
  have h1 : blank1 ([43] ++ r) = 0 := by kernel_rfl
  have h2 : blank1 ([45] ++ r) = 0 := by kernel_rfl
  have h3 : blank1 ([42] ++ r) = 0 := by kernel_rfl
  unfold sgB
  split
  · exact h1
  · exact h2
  · exact h3
theorem lx_sidR (l1 l2 : List Int) : ∀ (k i : Nat), Lx (sidR l1 l2 i k) (St' l1 l2 i k) := by
  intro k
  induction k with
  | zero => intro i; exact Lx.nil (.nil i)
  | succ k ih =>
    intro i
    rw [sidR]
    refine Lx.word (k := 5) (n := 0) (Lx.dec ((ih (i + 1)).mono fun ts h b a => .cons a b h) (by have := (vvI_lt l1 i).2; omega) (stop_sidR _ _ _ _)) ?_ ?_ (sign_word _ _ _)
    · exact sign_blank _ _
    · unfold sgB; split <;> decide
theorem lx_sidS (l1 l2 : List Int) (n : Nat) : Lx (sidS l1 l2 (n + 1)) (fun ts => ∃ a r, ts = ⟨1, dgs (vvI l1 0), (vvI l1 0 : Int), a⟩ :: r ∧ St' l1 l2 1 n r) := by
  rw [sidS_eq]
  exact Lx.dec ((lx_sidR l1 l2 n 1).mono fun ts h a => ⟨a, ts, rfl, h⟩) (by have := (vvI_lt l1 0).2; omega) (stop_sidR _ _ _ _)
-- ------------------------------------------------------------------ what a term of numbers comes to
inductive Vl : ST → Int → Prop
  | num (a n : Int) (h : 0 ≤ n ∧ n < 1000003) : Vl (.mk 2 a E0B E0B n [] []) n
  | add {x y : ST} {m n : Int} (a : Int) (hx : Vl x m) (hy : Vl y n) : Vl (.mk 10 a (bs [43]) E0B 0 [x, y] []) ((m + n).tmod 1000003)
  | sub {x y : ST} {m n : Int} (a : Int) (hx : Vl x m) (hy : Vl y n) : Vl (.mk 10 a (bs [45]) E0B 0 [x, y] []) ((m - n + 1000003).tmod 1000003)
  | mul {x y : ST} {m n : Int} (a : Int) (hx : Vl x m) (hy : Vl y n) : Vl (.mk 10 a (bs [42]) E0B 0 [x, y] []) ((m * n).tmod 1000003)
theorem Vl.range {x : ST} {m : Int} (h : Vl x m) : 0 ≤ m ∧ m < 1000003 := by
  induction h with
  | num a n h => exact h
  | @add x y m n a hx hy i1 i2 => exact ⟨Int.tmod_nonneg _ (by omega), Int.tmod_lt_of_pos _ (by decide)⟩
  | @sub x y m n a hx hy i1 i2 => exact ⟨Int.tmod_nonneg _ (by omega), Int.tmod_lt_of_pos _ (by decide)⟩
  | @mul x y m n a hx hy i1 i2 => exact ⟨Int.tmod_nonneg _ (Int.mul_nonneg i1.1 i2.1), Int.tmod_lt_of_pos _ (by decide)⟩
end Go.Proofs.Ytkjmjnddanhapaa
