/-
  Arms of a match, clauses of a handler, in their order. Plain lemmas; no condition beyond those that stand in each statement.
-/
import Derived.Test.YtkjmjnddanhapaaN13
namespace Go.Proofs.Ytkjmjnddanhapaa
open Go.RowKit

/-- How many names the arm has. -/
def wv (l : List Int) (i : Nat) : Nat := match l[i]? with
  | some u => ((bits .and .i64 u 65535).tmod 6).toNat
  | none => 0
theorem wv_some {l : List Int} {i : Nat} {u : Int} {q : Nat} (hu : l[i]? = some u) (hq : (bits .and .i64 u 65535).tmod ((6 : Nat) : Int) = (q : Int)) : wv l i = q := by
  have hq' : (bits .and .i64 u 65535).tmod 6 = (q : Int) := hq
  unfold wv; rw [hu]; dsimp only; rw [hq']; rfl
theorem wv_none {l : List Int} {i : Nat} (h : ¬ (i : Int) < (l.length : Int)) : wv l i = 0 := by
  unfold wv; rw [List.getElem?_eq_none (by omega)]
theorem wv_lt (l : List Int) (i : Nat) : wv l i < 6 := by
  unfold wv
  cases l[i]? with
  | none => decide
  | some u =>
    obtain ⟨q, h1, h2⟩ := and_mod u (k := 6) (by decide)
    have h1' : (bits .and .i64 u 65535).tmod 6 = (q : Int) := h1
    dsimp only; rw [h1']; omega
def sepS (i : Nat) : List UInt8 := if 0 < i then [32, 59] else []
def vS : Nat → List UInt8
  | 0 => []
  | k + 1 => (vS k ++ [32, 118]) ++ dgs k
def armS (l : List Int) : Nat → List UInt8
  | 0 => [109, 97, 116, 99, 104, 32, 120, 32, 123]
  | i + 1 => ((((((armS l i ++ sepS i) ++ [32, 67]) ++ dgs i) ++ vS (wv l i)) ++ [32, 45, 62, 32]) ++ dgs i)
def clS : Nat → List UInt8
  | 0 => [104, 97, 110, 100, 108, 101, 32, 69, 32, 120, 32, 123, 32, 114, 101, 116, 117, 114, 110, 32, 121, 32, 45, 62, 32, 121]
  | i + 1 => ((((clS i ++ [32, 59, 32, 111, 112]) ++ dgs i) ++ [32, 97, 32, 107, 32, 45, 62, 32]) ++ dgs i)
theorem vS_len : ∀ k, k ≤ 6 → (vS k).length ≤ 21 * k := by
  intro k
  induction k with
  | zero => intro _; exact Nat.le_refl _
  | succ k ih => intro h; have h1 := dgs_len20 (n := k) (by omega); have h2 := ih (by omega); simp only [vS, List.length_append, List.length_cons, List.length_nil]; omega
theorem armS_len (l : List Int) : ∀ i, i ≤ 100 → (armS l i).length ≤ 9 + 200 * i := by
  intro i
  induction i with
  | zero => intro _; exact Nat.le_refl _
  | succ i ih =>
    intro h
    have h1 := dgs_len20 (n := i) (by omega); have h2 := ih (by omega); have h3 := wv_lt l i; have h4 := vS_len (wv l i) (by omega)
    have h5 : (sepS i).length ≤ 2 := by unfold sepS; split <;> decide
    simp only [armS, List.length_append, List.length_cons, List.length_nil]; omega
theorem clS_len : ∀ i, i ≤ 100 → (clS i).length ≤ 26 + 60 * i := by
  intro i
  induction i with
  | zero => intro _; exact Nat.le_refl _
  | succ i ih => intro h; have h1 := dgs_len20 (n := i) (by omega); have h2 := ih (by omega); simp only [clS, List.length_append, List.length_cons, List.length_nil]; omega
-- ------------------------------------------------------------------ the same, from the left
def armP (l : List Int) (i : Nat) : List UInt8 := sepS i ++ (32 :: ((67 :: dgs i) ++ (vS (wv l i) ++ (32 :: ([45, 62] ++ (32 :: dgs i))))))
def armL (l : List Int) : Nat → Nat → List UInt8
  | _, 0 => []
  | i, k + 1 => armP l i ++ armL l (i + 1) k
theorem armL_snoc (l : List Int) : ∀ k i, armL l i (k + 1) = armL l i k ++ armP l (i + k) := by
  intro k
  induction k with
  | zero => intro i; simp [armL]
  | succ k ih => intro i; rw [armL, ih, armL, List.append_assoc, show i + 1 + k = i + (k + 1) by omega]
theorem armS_eq (l : List Int) : ∀ n, armS l n = [109, 97, 116, 99, 104, 32, 120, 32, 123] ++ armL l 0 n := by
  intro n
  induction n with
  | zero => rfl
  | succ n ih => rw [armL_snoc, armS, ih, Nat.zero_add, armP]; simp
def clP (i : Nat) : List UInt8 := 32 :: ([59] ++ (32 :: ((111 :: 112 :: dgs i) ++ (32 :: ([97] ++ (32 :: ([107] ++ (32 :: ([45, 62] ++ (32 :: dgs i))))))))))
def clL : Nat → Nat → List UInt8
  | _, 0 => []
  | i, k + 1 => clP i ++ clL (i + 1) k
theorem clL_snoc : ∀ k i, clL i (k + 1) = clL i k ++ clP (i + k) := by
  intro k
  induction k with
  | zero => intro i; simp [clL]
  | succ k ih => intro i; rw [clL, ih, clL, List.append_assoc, show i + 1 + k = i + (k + 1) by omega]
theorem clS_eq : ∀ n, clS n = [104, 97, 110, 100, 108, 101, 32, 69, 32, 120, 32, 123, 32, 114, 101, 116, 117, 114, 110, 32, 121, 32, 45, 62, 32, 121] ++ clL 0 n := by
  intro n
  induction n with
  | zero => rfl
  | succ n ih => rw [clL_snoc, clS, ih, Nat.zero_add, clP]; simp
-- ------------------------------------------------------------------ their words
/-- So many names. -/
inductive Vt : Nat → List Tk → Prop
  | nil : Vt 0 []
  | snoc {n : Nat} {l : List Tk} (a : Int) (h : Vt n l) : Vt (n + 1) (l ++ [⟨2, 118 :: dgs n, 0, a⟩])
theorem Vt.k {n : Nat} {l : List Tk} (h : Vt n l) : l.length = n ∧ ∀ t ∈ l, t.k = 2 := by
  induction h with
  | nil => exact ⟨rfl, fun t ht => by cases ht⟩
  | snoc a h ih =>
    refine ⟨by simp [ih.1], fun t ht => ?_⟩
    rcases List.mem_append.1 ht with ht | ht
    · exact ih.2 t ht
    · rw [List.mem_singleton.1 ht]
theorem lx_vS : ∀ (n : Nat) (r : List UInt8) (Q : List Tk → Prop), n < 1000000 → Stop r → Lx r (fun ts => ∀ l, Vt n l → Q (l ++ ts)) → Lx (vS n ++ r) Q := by
  intro n
  induction n with
  | zero => intro r Q _ _ h; exact h.mono fun ts h => h [] .nil
  | succ n ih =>
    intro r Q hn hs h
    have e : vS (n + 1) ++ r = vS n ++ (32 :: ((118 :: dgs n) ++ r)) := by rw [vS]; simp
    rw [e]
    refine ih _ Q (by omega) (Stop.sp _) (Lx.sp (Lx.id (k := 2) (h.mono fun ts h a l hl => ?_) (by decide) (by decide) (by omega) hs))
    have := h _ (.snoc a hl)
    rwa [List.append_assoc] at this
def sepT (i : Nat) (s : Int) : List Tk := if 0 < i then [⟨5, [59], 0, s⟩] else []
inductive At' (l : List Int) (tl : List Tk) : Nat → Nat → List Tk → Prop
  | nil (i : Nat) : At' l tl i 0 tl
  | cons {i k : Nat} {v r : List Tk} (s a b c : Int) (hv : Vt (wv l i) v) (h : At' l tl (i + 1) k r) : At' l tl i (k + 1) (sepT i s ++ (⟨3, 67 :: dgs i, 0, a⟩ :: (v ++ (⟨5, [45, 62], 0, b⟩ :: ⟨1, dgs i, (i : Int), c⟩ :: r))))
inductive Ct (tl : List Tk) : Nat → Nat → List Tk → Prop
  | nil (i : Nat) : Ct tl i 0 tl
  | cons {i k : Nat} {r : List Tk} (s a b c d f : Int) (h : Ct tl (i + 1) k r) : Ct tl i (k + 1) (⟨5, [59], 0, s⟩ :: ⟨2, 111 :: 112 :: dgs i, 0, a⟩ :: ⟨2, [97], 0, b⟩ :: ⟨2, [107], 0, c⟩ :: ⟨5, [45, 62], 0, d⟩ :: ⟨1, dgs i, (i : Int), f⟩ :: r)
abbrev endS : List UInt8 := 32 :: [125]
theorem lx_end : Lx endS (fun ts => ∃ z, ts = [⟨5, [125], 0, z⟩]) := Lx.sp (Lx.word (w := [125]) (r := []) (k := 5) (n := 0) (Lx.nil fun a => ⟨a, rfl⟩) (by kernel_rfl) (by decide) (by kernel_rfl))
theorem stop_armL (l : List Int) (i k : Nat) : Stop (armL l i k ++ endS) := by
  cases k with
  | zero => exact Stop.sp _
  | succ k =>
    have : ∃ q, armL l i (k + 1) ++ endS = 32 :: q := by
      rw [armL, armP]; unfold sepS
      split <;> exact ⟨_, rfl⟩
    obtain ⟨q, hq⟩ := this
    rw [hq]; exact Stop.sp _
theorem lx_armL (l : List Int) : ∀ (k i : Nat), i + k < 1000000 → Lx (armL l i k ++ endS) (fun ts => ∃ z, At' l [⟨5, [125], 0, z⟩] i k ts) := by
  intro k
  induction k with
  | zero => intro i _; exact lx_end.mono fun ts h => by obtain ⟨z, rfl⟩ := h; exact ⟨z, .nil i⟩
  | succ k ih =>
    intro i hi
    have hb : ∀ (P : List Tk → Prop), (∀ ts, (∃ z a b c v r, Vt (wv l i) v ∧ At' l [⟨5, [125], 0, z⟩] (i + 1) k r ∧ ts = ⟨3, 67 :: dgs i, 0, a⟩ :: (v ++ (⟨5, [45, 62], 0, b⟩ :: ⟨1, dgs i, (i : Int), c⟩ :: r))) → P ts) → Lx (32 :: ((67 :: dgs i) ++ (vS (wv l i) ++ (32 :: ([45, 62] ++ (32 :: (dgs i ++ (armL l (i + 1) k ++ endS)))))))) P := by
      intro P hP
      have h3 := wv_lt l i
      have hst : Stop (vS (wv l i) ++ (32 :: ([45, 62] ++ (32 :: (dgs i ++ (armL l (i + 1) k ++ endS)))))) := by
        cases wv l i with
        | zero => exact Stop.sp _
        | succ n =>
          have : ∃ q, vS (n + 1) = 32 :: q := by
            induction n with
            | zero => exact ⟨_, rfl⟩
            | succ n ih => obtain ⟨q, hq⟩ := ih; rw [vS, hq]; exact ⟨_, rfl⟩
          obtain ⟨q, hq⟩ := this
          rw [hq]; exact Stop.sp _
      refine Lx.sp (Lx.id (k := 3) (lx_vS _ _ _ (by omega) (Stop.sp _) (Lx.sp (Lx.word (k := 5) (n := 0) (Lx.sp (Lx.dec ((ih (i + 1) (by omega)).mono fun ts h c b v hv a => ?_) (by omega) (stop_armL l _ _))) (by kernel_rfl) (by decide) (by kernel_rfl)))) (by decide) (by decide) (by omega) hst)
      obtain ⟨z, h⟩ := h
      exact hP _ ⟨z, a, b, c, v, ts, hv, h, rfl⟩
    have e : armL l i (k + 1) ++ endS = sepS i ++ (32 :: ((67 :: dgs i) ++ (vS (wv l i) ++ (32 :: ([45, 62] ++ (32 :: (dgs i ++ (armL l (i + 1) k ++ endS)))))))) := by rw [armL, armP]; simp
    rw [e]
    unfold sepS
    by_cases h0 : 0 < i
    · rw [if_pos h0]
      refine Lx.sp (Lx.word (w := [59]) (k := 5) (n := 0) (hb _ fun ts h s => ?_) (by kernel_rfl) (by decide) (by kernel_rfl))
      obtain ⟨z, a, b, c, v, r, hv, h, rfl⟩ := h
      have := At'.cons s a b c hv h
      unfold sepT at this
      rw [if_pos h0] at this
      exact ⟨z, this⟩
    · rw [if_neg h0]
      refine hb _ fun ts h => ?_
      obtain ⟨z, a, b, c, v, r, hv, h, rfl⟩ := h
      have := At'.cons 0 a b c hv h
      unfold sepT at this
      rw [if_neg h0] at this
      exact ⟨z, this⟩
theorem Lx.id2 {r : List UInt8} {c d : UInt8} {n : Nat} {Q : List Tk → Prop} (hr : Lx r (fun ts => ∀ a, Q (⟨2, c :: d :: dgs n, 0, a⟩ :: ts))) (hc : letB c = true) (hd : letB d = true) (hk : largB c = false) (hn : n ≤ 9223372036854775807) (hs : Stop r) : Lx ((c :: d :: dgs n) ++ r) Q := by
  have h := name_word (w := d :: dgs n) (r := r) hc (fun e he => by rcases List.mem_cons.1 he with rfl | he; exact let_name hd; exact dig_name (dgs_dig n e he)) (by have := dgs_len20 hn; simp only [List.length_cons]; omega) hs
  obtain ⟨x, q, hx⟩ := List.exists_cons_of_ne_nil (dgs_ne n)
  rw [kw_dig (c := x) (by rw [hx]; simp) (dgs_dig n x (by rw [hx]; simp)), if_neg (by rw [hk]; decide)] at h
  exact Lx.word hr (blank_no (let_name hc)) (by simp) h
theorem stop_clL (i k : Nat) : Stop (clL i k ++ endS) := by
  cases k with
  | zero => exact Stop.sp _
  | succ k => rw [clL, clP]; exact Stop.sp _
theorem lx_clL : ∀ (k i : Nat), i + k < 1000000 → Lx (clL i k ++ endS) (fun ts => ∃ z, Ct [⟨5, [125], 0, z⟩] i k ts) := by
  intro k
  induction k with
  | zero => intro i _; exact lx_end.mono fun ts h => by obtain ⟨z, rfl⟩ := h; exact ⟨z, .nil i⟩
  | succ k ih =>
    intro i hi
    have e : clL i (k + 1) ++ endS = 32 :: ([59] ++ (32 :: ((111 :: 112 :: dgs i) ++ (32 :: ([97] ++ (32 :: ([107] ++ (32 :: ([45, 62] ++ (32 :: (dgs i ++ (clL (i + 1) k ++ endS))))))))))))  := by rw [clL, clP]; simp
    rw [e]
    refine Lx.sp (Lx.word (k := 5) (n := 0) (Lx.sp (Lx.id2 (Lx.sp (Lx.word (k := 2) (n := 0) (Lx.sp (Lx.word (k := 2) (n := 0) (Lx.sp (Lx.word (k := 5) (n := 0) (Lx.sp (Lx.dec ((ih (i + 1) (by omega)).mono fun ts h f d c b a s => ?_) (by omega) (stop_clL _ _))) (by kernel_rfl) (by decide) (by kernel_rfl))) (by kernel_rfl) (by decide) (by kernel_rfl))) (by kernel_rfl) (by decide) (by kernel_rfl))) (by decide) (by decide) (by decide) (by omega) (Stop.sp _))) (by kernel_rfl) (by decide) (by kernel_rfl))
    obtain ⟨z, h⟩ := h
    exact ⟨z, .cons s a b c d f h⟩
end Go.Proofs.Ytkjmjnddanhapaa
