/-
  Numbers with signs between: what is read comes to what is computed by hand. Plain lemmas; no condition beyond those that stand in each statement.
-/
import Derived.Test.YtkjmjnddanhapaaN20
namespace Go.Proofs.Ytkjmjnddanhapaa
open Go.RowKit

abbrev S3 := Int × Int × Bool
def finI (st : S3) : Int := if st.2.2 then (st.1 - st.2.1 + 1000003).tmod 1000003 else (st.1 + st.2.1).tmod 1000003
def stpI (l1 l2 : List Int) (i : Nat) (st : S3) : S3 := if 0 < i ∧ sgI l2 i = 2 then (st.1, (st.2.1 * (vvI l1 i : Int)).tmod 1000003, st.2.2) else (finI st, (vvI l1 i : Int), decide (0 < i ∧ sgI l2 i = 1))
def stI (l1 l2 : List Int) : Nat → S3
  | 0 => (0, 0, false)
  | n + 1 => stpI l1 l2 n (stI l1 l2 n)
def runR (l1 l2 : List Int) : Nat → Nat → S3 → S3
  | _, 0, st => st
  | i, k + 1, st => runR l1 l2 (i + 1) k (stpI l1 l2 i st)
theorem runR_snoc (l1 l2 : List Int) : ∀ k i st, runR l1 l2 i (k + 1) st = stpI l1 l2 (i + k) (runR l1 l2 i k st) := by
  intro k
  induction k with
  | zero => intro i st; rfl
  | succ k ih => intro i st; rw [runR, ih, runR, show i + 1 + k = i + (k + 1) by omega]
theorem stI_run (l1 l2 : List Int) : ∀ n, stI l1 l2 (n + 1) = runR l1 l2 1 n (0, (vvI l1 0 : Int), false) := by
  intro n
  induction n with
  | zero => rfl
  | succ n ih => rw [runR_snoc, ← ih, Nat.add_comm 1 n]; rfl
section
variable {e : Int} {ex : List Tk → PR ST} {l1 l2 : List Int}
theorem un_num {t : List UInt8} {v a : Int} {r : List Tk} (h : appB e r = false) : unaryP e ex (⟨1, t, v, a⟩ :: r) = .ok (.mk 2 a E0B E0B v [] []) r := by
  have h1 : preB' e (⟨1, t, v, a⟩ :: r) = false := rfl
  have h2 : atomP e ex (⟨1, t, v, a⟩ :: r) = .ok (.mk 2 a E0B E0B v [] []) r := rfl
  simp only [unaryP, preP, h1, cond_false, PR.bind_ok, appP, h2, appL, h]; rfl
theorem sg_app (n : Nat) (a : Int) (r : List Tk) : appB e (⟨5, sgB n, 0, a⟩ :: r) = false := by
  have h1 : appB e (⟨5, [43], 0, a⟩ :: r) = false := by kernel_rfl
  have h2 : appB e (⟨5, [45], 0, a⟩ :: r) = false := by kernel_rfl
  have h3 : appB e (⟨5, [42], 0, a⟩ :: r) = false := by kernel_rfl
  unfold sgB
  split
  · exact h1
  · exact h2
  · exact h3
theorem St'.app {i k : Nat} {r : List Tk} (h : St' l1 l2 i k r) : appB e r = false := by
  cases h with
  | nil => rfl
  | cons a b h => exact sg_app _ _ _
abbrev mulW : List ByteArray := [(⟨#[42]⟩ : ByteArray), (⟨#[47]⟩ : ByteArray)]
abbrev addW : List ByteArray := [(⟨#[43]⟩ : ByteArray), (⟨#[45]⟩ : ByteArray)]
theorem sg_mul {n : Nat} (hn : n < 3) (a : Int) (r : List Tk) : isK e (⟨5, sgB n, 0, a⟩ :: r) mulW = decide (n = 2) := by
  have h1 : isK e (⟨5, [43], 0, a⟩ :: r) mulW = false := by kernel_rfl
  have h2 : isK e (⟨5, [45], 0, a⟩ :: r) mulW = false := by kernel_rfl
  have h3 : isK e (⟨5, [42], 0, a⟩ :: r) mulW = true := by kernel_rfl
  match n, hn with
  | 0, _ => exact h1
  | 1, _ => exact h2
  | 2, _ => exact h3
theorem sg_add {n : Nat} (hn : n < 3) (a : Int) (r : List Tk) : isK e (⟨5, sgB n, 0, a⟩ :: r) addW = !decide (n = 2) := by
  have h1 : isK e (⟨5, [43], 0, a⟩ :: r) addW = true := by kernel_rfl
  have h2 : isK e (⟨5, [45], 0, a⟩ :: r) addW = true := by kernel_rfl
  have h3 : isK e (⟨5, [42], 0, a⟩ :: r) addW = false := by kernel_rfl
  match n, hn with
  | 0, _ => exact h1
  | 1, _ => exact h2
  | 2, _ => exact h3
theorem vl_num (l : List Int) (i : Nat) (a : Int) : Vl (.mk 2 a E0B E0B (vvI l i : Int) [] []) (vvI l i : Int) := .num a _ (by have := (vvI_lt l i).2; omega)
theorem prod_ok : ∀ (k i : Nat) (R : List Tk) (f : Nat) (x : ST) (p : Int), St' l1 l2 i k R → 1 ≤ i → R.length < f → Vl x p → ∃ x' j k' R' p', manyL e (unaryP e ex) mulW f x R = .ok x' R' ∧ St' l1 l2 j k' R' ∧ 1 ≤ j ∧ (k' = 0 ∨ sgI l2 j ≠ 2) ∧ k' ≤ k ∧ R'.length ≤ R.length ∧ dS x' + k' ≤ dS x + k ∧ Vl x' p' ∧ ∀ s mi, runR l1 l2 i k (s, p, mi) = runR l1 l2 j k' (s, p', mi) := by
  intro k
  induction k with
  | zero =>
    intro i R f x p h hi hf hx
    obtain ⟨g, rfl⟩ : ∃ g, f = g + 1 := ⟨f - 1, by omega⟩
    cases h
    exact ⟨x, i, 0, [], p, rfl, .nil i, hi, .inl rfl, Nat.le_refl _, Nat.le_refl _, Nat.le_refl _, hx, fun _ _ => rfl⟩
  | succ k ih =>
    intro i R f x p h hi hf hx
    obtain ⟨g, rfl⟩ : ∃ g, f = g + 1 := ⟨f - 1, by omega⟩
    have h0 := h
    cases h with
    | @cons _ _ r a b h =>
      have hs := sgI_lt l2 i
      by_cases h2 : sgI l2 i = 2
      · have hk : isK e (⟨5, sgB (sgI l2 i), 0, a⟩ :: ⟨1, dgs (vvI l1 i), (vvI l1 i : Int), b⟩ :: r) mulW = true := by rw [sg_mul hs, h2]; rfl
        have hm : Vl (sTwo (bs (sgB (sgI l2 i))) x (.mk 2 b E0B E0B (vvI l1 i : Int) [] [])) ((p * (vvI l1 i : Int)).tmod 1000003) := by rw [h2]; exact .mul _ hx (vl_num l1 i b)
        obtain ⟨x', j, k', R', p', g1, g2, g3, g4, g5, g6, g7, g8, g9⟩ := ih (i + 1) r g _ _ h (by omega) (by simp only [List.length_cons] at hf; omega) hm
        refine ⟨x', j, k', R', p', ?_, g2, g3, g4, by omega, by simp only [List.length_cons]; omega, ?_, g8, fun s mi => ?_⟩
        · rw [manyL, hk]
          simp only [cond_true, List.tail_cons, un_num h.app, PR.bind_ok]
          exact g1
        · simp only [sTwo, dS, dSL, dSA] at g7; have := dS_pos x; omega
        · rw [runR, stpI, if_pos ⟨by omega, h2⟩]; exact g9 s mi
      · have hk : isK e (⟨5, sgB (sgI l2 i), 0, a⟩ :: ⟨1, dgs (vvI l1 i), (vvI l1 i : Int), b⟩ :: r) mulW = false := by rw [sg_mul hs, decide_eq_false h2]
        exact ⟨x, i, k + 1, _, p, by rw [manyL, hk]; rfl, h0, hi, .inr h2, Nat.le_refl _, Nat.le_refl _, Nat.le_refl _, hx, fun _ _ => rfl⟩
theorem sum_ok : ∀ (k i : Nat) (R : List Tk) (f : Nat) (acc : ST) (s0 : Int), St' l1 l2 i k R → 1 ≤ i → (k = 0 ∨ sgI l2 i ≠ 2) → R.length < f → Vl acc s0 → ∃ T m, manyL e (prodP e ex) addW f acc R = .ok T [] ∧ dS T ≤ dS acc + 2 * k ∧ Vl T m ∧ ∀ st, finI st = s0 → finI (runR l1 l2 i k st) = m := by
  intro k
  induction k using Nat.strongRecOn with
  | ind k ih =>
    intro i R f acc s0 h hi h2 hf hx
    obtain ⟨g, rfl⟩ : ∃ g, f = g + 1 := ⟨f - 1, by omega⟩
    cases h with
    | nil => exact ⟨acc, s0, rfl, by omega, hx, fun st h => h⟩
    | @cons _ k r a b h =>
      have hs := sgI_lt l2 i
      have h2 : sgI l2 i ≠ 2 := by rcases h2 with h2 | h2; omega; exact h2
      have hk : isK e (⟨5, sgB (sgI l2 i), 0, a⟩ :: ⟨1, dgs (vvI l1 i), (vvI l1 i : Int), b⟩ :: r) addW = true := by rw [sg_add hs, decide_eq_false h2]; rfl
      obtain ⟨x', j, k', R', p', g1, g2, g3, g4, g5, g6, g7, g8, g9⟩ := prod_ok (e := e) (ex := ex) k (i + 1) r (r.length + 1) _ _ h (by omega) (Nat.lt_succ_self _) (vl_num l1 i b)
      have hp : prodP e ex (⟨1, dgs (vvI l1 i), (vvI l1 i : Int), b⟩ :: r) = .ok x' R' := by simp only [prodP, manyP, un_num h.app, PR.bind_ok]; exact g1
      have hm : Vl (sTwo (bs (sgB (sgI l2 i))) acc x') (finI (s0, p', decide (0 < i ∧ sgI l2 i = 1))) := by
        by_cases h1 : sgI l2 i = 1
        · rw [decide_eq_true ⟨by omega, h1⟩, h1]; exact .sub _ hx g8
        · rw [decide_eq_false (fun h => h1 h.2), show sgI l2 i = 0 by omega]; exact .add _ hx g8
      obtain ⟨T, m, t1, t2, t3, t4⟩ := ih k' (by omega) j R' g _ _ g2 g3 g4 (by simp only [List.length_cons] at hf; omega) hm
      refine ⟨T, m, ?_, ?_, t3, fun st hst => ?_⟩
      · rw [manyL, hk]
        simp only [cond_true, List.tail_cons, hp, PR.bind_ok]
        exact t1
      · simp only [sTwo, dS, dSL, dSA] at t2 g7; omega
      · rw [runR, stpI, if_neg (fun h => h2 h.2), hst, g9]
        exact t4 _ rfl
end
theorem sides_parse (l1 l2 : List Int) {n : Nat} (hn : n < 30) : ∃ T, parseR (sidS l1 l2 (n + 1)) = (some ⟨[], [], T⟩, 0, 0) ∧ Vl T (finI (stI l1 l2 (n + 1))) := by
  have hlen := sidS_len l1 l2 (n + 1)
  obtain ⟨hE, a, R, ht, h⟩ := (lx_sidS l1 l2 n).parse (by omega)
  generalize hL : (((sidS l1 l2 (n + 1)).length : Nat) : Int) = L
  obtain ⟨ex, hex⟩ : ∃ ex, ex = exprP L 200 := ⟨_, rfl⟩
  obtain ⟨x', j, k', R', p', g1, g2, g3, g4, g5, g6, g7, g8, g9⟩ := prod_ok (e := L) (ex := ex) n 1 R (R.length + 1) _ _ h (by omega) (Nat.lt_succ_self _) (vl_num l1 0 a)
  have hr := g8.range
  obtain ⟨T, m, t1, t2, t3, t4⟩ := sum_ok (e := L) (ex := ex) k' j R' (R'.length + 1) x' p' g2 g3 g4 (Nat.lt_succ_self _) g8
  have hm := t4 (0, p', false) (by show (0 + p').tmod 1000003 = p'; rw [Int.zero_add]; exact Int.tmod_eq_of_lt hr.1 hr.2)
  rw [← g9, ← stI_run] at hm
  have hp : prodP L ex (⟨1, dgs (vvI l1 0), (vvI l1 0 : Int), a⟩ :: R) = .ok x' R' := by simp only [prodP, manyP, un_num h.app, PR.bind_ok]; exact g1
  have hsum : sumP L ex (⟨1, dgs (vvI l1 0), (vvI l1 0 : Int), a⟩ :: R) = .ok T [] := by simp only [sumP, manyP, hp, PR.bind_ok]; exact t1
  have has : assignP L ex (⟨1, dgs (vvI l1 0), (vvI l1 0 : Int), a⟩ :: R) = .ok T [] := once_one (once_one hsum rfl) rfl
  have hex1 : exprP L 201 (⟨1, dgs (vvI l1 0), (vvI l1 0 : Int), a⟩ :: R) = .ok T [] := by
    rw [exprP, exB_assign ⟨rfl, rfl, rfl, rfl, rfl, rfl⟩, show exprP L 200 = ex from hex.symm]; exact has
  refine ⟨T, parseR_ok (us := []) hE ?_ ?_, hm ▸ t3⟩
  · rw [hL, ht]
    have h3 : isK L (⟨1, dgs (vvI l1 0), (vvI l1 0 : Int), a⟩ :: R) [effW0, datW0] = false := rfl
    simp only [programP, declP, h3, cond_false, PR.bind_ok, hex1]; rfl
  · show ¬ 200 < dS T
    simp only [dS, dSL, dSA] at g7; omega
end Go.Proofs.Ytkjmjnddanhapaa
