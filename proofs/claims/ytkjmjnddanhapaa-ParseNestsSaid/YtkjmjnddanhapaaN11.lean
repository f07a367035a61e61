/-
  Functions, lets, conditions, and the like in one another. Plain lemmas; no condition beyond those that stand in each statement.
-/
import Derived.Test.YtkjmjnddanhapaaN10
namespace Go.Proofs.Ytkjmjnddanhapaa
open Go.RowKit

def begK : Nat → List UInt8
  | 0 => [102, 117, 110, 32, 120, 32, 45, 62, 32]
  | 1 => [108, 101, 116, 32, 120, 32, 61, 32, 49, 32, 105, 110, 32]
  | 2 => [105, 102, 32, 116, 114, 117, 101, 32, 116, 104, 101, 110, 32, 48, 32, 101, 108, 115, 101, 32]
  | 3 => [33, 32]
  | 4 => [112, 114, 105, 110, 116, 32]
  | 5 => [67, 40]
  | _ => [103, 101, 116, 33, 32]
/-- So many of them in one another, around a number. -/
def nestS (k : Nat) : Nat → List UInt8
  | 0 => [49]
  | n + 1 => if k = 5 then (begK k ++ nestS k n) ++ [41] else begK k ++ nestS k n
/-- The words of it, with others behind. -/
inductive Ne : Nat → Nat → List Tk → List Tk → Prop
  | z (k : Nat) (a : Int) (tl : List Tk) : Ne k 0 tl (⟨1, [49], 1, a⟩ :: tl)
  | s0 {n : Nat} {tl r : List Tk} (a b c : Int) (h : Ne 0 n tl r) : Ne 0 (n + 1) tl (⟨4, [102, 117, 110], 0, a⟩ :: ⟨2, [120], 0, b⟩ :: ⟨5, [45, 62], 0, c⟩ :: r)
  | s1 {n : Nat} {tl r : List Tk} (a b c d f : Int) (h : Ne 1 n tl r) : Ne 1 (n + 1) tl (⟨4, [108, 101, 116], 0, a⟩ :: ⟨2, [120], 0, b⟩ :: ⟨5, [61], 0, c⟩ :: ⟨1, [49], 1, d⟩ :: ⟨4, [105, 110], 0, f⟩ :: r)
  | s2 {n : Nat} {tl r : List Tk} (a b c d f : Int) (h : Ne 2 n tl r) : Ne 2 (n + 1) tl (⟨4, [105, 102], 0, a⟩ :: ⟨4, [116, 114, 117, 101], 0, b⟩ :: ⟨4, [116, 104, 101, 110], 0, c⟩ :: ⟨1, [48], 0, d⟩ :: ⟨4, [101, 108, 115, 101], 0, f⟩ :: r)
  | s3 {n : Nat} {tl r : List Tk} (a : Int) (h : Ne 3 n tl r) : Ne 3 (n + 1) tl (⟨5, [33], 0, a⟩ :: r)
  | s4 {n : Nat} {tl r : List Tk} (a : Int) (h : Ne 4 n tl r) : Ne 4 (n + 1) tl (⟨4, [112, 114, 105, 110, 116], 0, a⟩ :: r)
  | s5 {n : Nat} {tl r : List Tk} (a b c : Int) (h : Ne 5 n (⟨5, [41], 0, c⟩ :: tl) r) : Ne 5 (n + 1) tl (⟨3, [67], 0, a⟩ :: ⟨5, [40], 0, b⟩ :: r)
  | s6 {n : Nat} {tl r : List Tk} (a : Int) (h : Ne 6 n tl r) : Ne 6 (n + 1) tl (⟨6, [103, 101, 116], 0, a⟩ :: r)
/-- Brackets that close. -/
def clos : Nat → List Tk → Prop
  | 0, ts => ts = []
  | n + 1, ts => ∃ a r, ts = ⟨5, [41], 0, a⟩ :: r ∧ clos n r
def rb (n : Nat) : List UInt8 := List.replicate n 41
theorem lx_rb : ∀ n, Lx (rb n) (clos n) := by
  intro n
  induction n with
  | zero => exact Lx.nil rfl
  | succ n ih =>
    show Lx ([41] ++ rb n) _
    exact Lx.word (k := 5) (n := 0) (ih.mono fun ts h a => ⟨a, ts, rfl, h⟩) (by kernel_rfl) (by decide) (by kernel_rfl)
theorem lx_one (j : Nat) : Lx ([49] ++ rb j) (fun ts => ∃ a tl, ts = ⟨1, [49], 1, a⟩ :: tl ∧ clos j tl) := by
  refine Lx.word (k := 1) (n := 1) ((lx_rb j).mono fun ts h a => ⟨a, ts, rfl, h⟩) ?_ (by decide) ?_
  · kernel_rfl
  · cases j with
    | zero => kernel_rfl
    | succ j => show wordR (49 :: 41 :: rb j) = _; kernel_rfl
theorem lx_nest (k : Nat) (hk : k < 7) : ∀ (n j : Nat), (k ≠ 5 → j = 0) → Lx (nestS k n ++ rb j) (fun ts => ∃ tl, Ne k n tl ts ∧ clos j tl) := by
  intro n
  induction n with
  | zero =>
    intro j _
    exact (lx_one j).mono fun ts h => by obtain ⟨a, tl, rfl, h⟩ := h; exact ⟨tl, .z k a tl, h⟩
  | succ n ih =>
    intro j hj
    have hr : ∀ i, rb (i + 1) = 41 :: rb i := fun i => rfl
    match k, hk with
    | 0, _ =>
      obtain rfl := hj (by decide)
      show Lx ([102, 117, 110] ++ (32 :: ([120] ++ (32 :: ([45, 62] ++ (32 :: (nestS 0 n ++ rb 0))))))) _
      refine Lx.word (k := 4) (n := 0) (Lx.sp (Lx.word (k := 2) (n := 0) (Lx.sp (Lx.word (k := 5) (n := 0) (Lx.sp ((ih 0 hj).mono fun ts h c b a => ?_)) (by kernel_rfl) (by decide) (by kernel_rfl))) (by kernel_rfl) (by decide) (by kernel_rfl))) (by kernel_rfl) (by decide) (by kernel_rfl)
      obtain ⟨tl, h1, h2⟩ := h
      exact ⟨tl, .s0 a b c h1, h2⟩
    | 1, _ =>
      obtain rfl := hj (by decide)
      show Lx ([108, 101, 116] ++ (32 :: ([120] ++ (32 :: ([61] ++ (32 :: ([49] ++ (32 :: ([105, 110] ++ (32 :: (nestS 1 n ++ rb 0))))))))))) _
      refine Lx.word (k := 4) (n := 0) (Lx.sp (Lx.word (k := 2) (n := 0) (Lx.sp (Lx.word (k := 5) (n := 0) (Lx.sp (Lx.word (k := 1) (n := 1) (Lx.sp (Lx.word (k := 4) (n := 0) (Lx.sp ((ih 0 hj).mono fun ts h f d c b a => ?_)) (by kernel_rfl) (by decide) (by kernel_rfl))) (by kernel_rfl) (by decide) (by kernel_rfl))) (by kernel_rfl) (by decide) (by kernel_rfl))) (by kernel_rfl) (by decide) (by kernel_rfl))) (by kernel_rfl) (by decide) (by kernel_rfl)
      obtain ⟨tl, h1, h2⟩ := h
      exact ⟨tl, .s1 a b c d f h1, h2⟩
    | 2, _ =>
      obtain rfl := hj (by decide)
      show Lx ([105, 102] ++ (32 :: ([116, 114, 117, 101] ++ (32 :: ([116, 104, 101, 110] ++ (32 :: ([48] ++ (32 :: ([101, 108, 115, 101] ++ (32 :: (nestS 2 n ++ rb 0))))))))))) _
      refine Lx.word (k := 4) (n := 0) (Lx.sp (Lx.word (k := 4) (n := 0) (Lx.sp (Lx.word (k := 4) (n := 0) (Lx.sp (Lx.word (k := 1) (n := 0) (Lx.sp (Lx.word (k := 4) (n := 0) (Lx.sp ((ih 0 hj).mono fun ts h f d c b a => ?_)) (by kernel_rfl) (by decide) (by kernel_rfl))) (by kernel_rfl) (by decide) (by kernel_rfl))) (by kernel_rfl) (by decide) (by kernel_rfl))) (by kernel_rfl) (by decide) (by kernel_rfl))) (by kernel_rfl) (by decide) (by kernel_rfl)
      obtain ⟨tl, h1, h2⟩ := h
      exact ⟨tl, .s2 a b c d f h1, h2⟩
    | 3, _ =>
      obtain rfl := hj (by decide)
      show Lx ([33] ++ (32 :: (nestS 3 n ++ rb 0))) _
      refine Lx.word (k := 5) (n := 0) (Lx.sp ((ih 0 hj).mono fun ts h a => ?_)) (by kernel_rfl) (by decide) (by kernel_rfl)
      obtain ⟨tl, h1, h2⟩ := h
      exact ⟨tl, .s3 a h1, h2⟩
    | 4, _ =>
      obtain rfl := hj (by decide)
      show Lx ([112, 114, 105, 110, 116] ++ (32 :: (nestS 4 n ++ rb 0))) _
      refine Lx.word (k := 4) (n := 0) (Lx.sp ((ih 0 hj).mono fun ts h a => ?_)) (by kernel_rfl) (by decide) (by kernel_rfl)
      obtain ⟨tl, h1, h2⟩ := h
      exact ⟨tl, .s4 a h1, h2⟩
    | 5, _ =>
      have e : nestS 5 (n + 1) ++ rb j = [67] ++ ([40] ++ (nestS 5 n ++ rb (j + 1))) := by
        show ((begK 5 ++ nestS 5 n) ++ [41]) ++ rb j = _
        rw [hr]; simp [begK]
      rw [e]
      have hd : ∀ r, blank1 ([40] ++ r) = 0 := fun r => by kernel_rfl
      refine Lx.word (k := 3) (n := 0) (Lx.word (k := 5) (n := 0) ((ih (j + 1) (fun h => absurd rfl h)).mono fun ts h b a => ?_) (by kernel_rfl) (by decide) ?_) (by kernel_rfl) (by decide) (by kernel_rfl)
      · obtain ⟨tl, h1, c, q, rfl, h2⟩ := h
        exact ⟨q, .s5 a b c h1, h2⟩
      · cases n with
        | zero => show wordR (40 :: 49 :: rb (j + 1)) = _; kernel_rfl
        | succ n => show wordR (40 :: 67 :: 40 :: ((nestS 5 n ++ [41]) ++ rb (j + 1))) = _; kernel_rfl
    | 6, _ =>
      obtain rfl := hj (by decide)
      show Lx ([103, 101, 116, 33] ++ (32 :: (nestS 6 n ++ rb 0))) _
      refine Lx.wordT (k := 6) (t := [103, 101, 116]) (n := 0) (Lx.sp ((ih 0 hj).mono fun ts h a => ?_)) (by kernel_rfl) (by decide) (by kernel_rfl)
      obtain ⟨tl, h1, h2⟩ := h
      exact ⟨tl, .s6 a h1, h2⟩
-- ------------------------------------------------------------------ what is made of them
/-- What may stand behind a term that is one part of another. -/
def Tl (us : List Tk) : Prop := us = [] ∨ (∃ a r, us = ⟨5, [41], 0, a⟩ :: r) ∨ (∃ a r, us = ⟨4, [105, 110], 0, a⟩ :: r) ∨ (∃ a r, us = ⟨4, [101, 108, 115, 101], 0, a⟩ :: r) ∨ (∃ a r, us = ⟨4, [116, 104, 101, 110], 0, a⟩ :: r)
theorem Tl.cl {e : Int} {us : List Tk} (h : Tl us) : Cl e us := by
  rcases h with rfl | ⟨a, r, rfl⟩ | ⟨a, r, rfl⟩ | ⟨a, r, rfl⟩ | ⟨a, r, rfl⟩ <;> exact ⟨by kernel_rfl, by kernel_rfl, by kernel_rfl, by kernel_rfl, by kernel_rfl⟩
theorem atom_num {e : Int} {ex : List Tk → PR ST} {t : List UInt8} {v a : Int} {us : List Tk} : atomP e ex (⟨1, t, v, a⟩ :: us) = .ok (.mk 2 a E0B E0B v [] []) us := rfl
theorem num_kw {e : Int} {t : List UInt8} {v a : Int} {us : List Tk} : NoKw e (⟨1, t, v, a⟩ :: us) := ⟨rfl, rfl, rfl, rfl, rfl, rfl⟩
theorem ex_num {e : Int} {n : Nat} {t : List UInt8} {v a : Int} {us : List Tk} (h : Tl us) : exprP e (n + 1) (⟨1, t, v, a⟩ :: us) = .ok (.mk 2 a E0B E0B v [] []) us := by
  rw [exprP, exB_assign num_kw]
  exact atom_assign atom_num rfl h.cl
theorem ex_fun {e a b c : Int} {ex : List Tk → PR ST} {r us : List Tk} {x : ST} (h : ex r = .ok x us) : exB e ex (⟨4, [102, 117, 110], 0, a⟩ :: ⟨2, [120], 0, b⟩ :: ⟨5, [45, 62], 0, c⟩ :: r) = .ok (.mk 5 a (⟨#[120]⟩ : ByteArray) E0B 0 [x] []) us := by
  have : exB e ex (⟨4, [102, 117, 110], 0, a⟩ :: ⟨2, [120], 0, b⟩ :: ⟨5, [45, 62], 0, c⟩ :: r) = ((ex r).bind fun x us => .ok [x] us).bind fun ks us => .ok (.mk 5 a (⟨#[120]⟩ : ByteArray) E0B 0 ks []) us := by kernel_rfl
  rw [this, h]; rfl
theorem ex_fun_bad {e a b c p q : Int} {ex : List Tk → PR ST} {r : List Tk} (h : ex r = .bad p q) : exB e ex (⟨4, [102, 117, 110], 0, a⟩ :: ⟨2, [120], 0, b⟩ :: ⟨5, [45, 62], 0, c⟩ :: r) = .bad p q := by
  have : exB e ex (⟨4, [102, 117, 110], 0, a⟩ :: ⟨2, [120], 0, b⟩ :: ⟨5, [45, 62], 0, c⟩ :: r) = ((ex r).bind fun x us => .ok [x] us).bind fun ks us => .ok (.mk 5 a (⟨#[120]⟩ : ByteArray) E0B 0 ks []) us := by kernel_rfl
  rw [this, h]; rfl
theorem ex_let {e a b c d f : Int} {ex : List Tk → PR ST} {r : List Tk} : exB e ex (⟨4, [108, 101, 116], 0, a⟩ :: ⟨2, [120], 0, b⟩ :: ⟨5, [61], 0, c⟩ :: ⟨1, [49], 1, d⟩ :: ⟨4, [105, 110], 0, f⟩ :: r) =
    ((ex (⟨1, [49], 1, d⟩ :: ⟨4, [105, 110], 0, f⟩ :: r)).bind fun x ts => kidsP e ex [inB] [x] ts).bind fun ks us => .ok (.mk 7 a (⟨#[120]⟩ : ByteArray) E0B 0 ks []) us := by kernel_rfl
theorem ex_let2 {e f : Int} {ex : List Tk → PR ST} {r : List Tk} {x : ST} : kidsP e ex [inB] [x] (⟨4, [105, 110], 0, f⟩ :: r) = (ex r).bind fun y us => .ok [x, y] us := by kernel_rfl
theorem ex_if {e a b c d f : Int} {ex : List Tk → PR ST} {r : List Tk} : exB e ex (⟨4, [105, 102], 0, a⟩ :: ⟨4, [116, 114, 117, 101], 0, b⟩ :: ⟨4, [116, 104, 101, 110], 0, c⟩ :: ⟨1, [48], 0, d⟩ :: ⟨4, [101, 108, 115, 101], 0, f⟩ :: r) =
    ((ex (⟨4, [116, 114, 117, 101], 0, b⟩ :: ⟨4, [116, 104, 101, 110], 0, c⟩ :: ⟨1, [48], 0, d⟩ :: ⟨4, [101, 108, 115, 101], 0, f⟩ :: r)).bind fun x ts => kidsP e ex [thenB, elseB] [x] ts).bind fun ks us => .ok (.mk 9 a E0B E0B 0 ks []) us := by kernel_rfl
theorem ex_if2 {e c : Int} {ex : List Tk → PR ST} {r : List Tk} {x : ST} : kidsP e ex [thenB, elseB] [x] (⟨4, [116, 104, 101, 110], 0, c⟩ :: r) = (ex r).bind fun y us => kidsP e ex [elseB] [x, y] us := by kernel_rfl
theorem ex_if3 {e f : Int} {ex : List Tk → PR ST} {r : List Tk} {x y : ST} : kidsP e ex [elseB] [x, y] (⟨4, [101, 108, 115, 101], 0, f⟩ :: r) = (ex r).bind fun z us => .ok [x, y, z] us := by kernel_rfl
theorem ex_true {e : Int} {n : Nat} {b : Int} {us : List Tk} (h : Tl us) : exprP e (n + 1) (⟨4, [116, 114, 117, 101], 0, b⟩ :: us) = .ok (.mk 3 b E0B E0B 1 [] []) us := by
  have hk : NoKw e (⟨4, [116, 114, 117, 101], 0, b⟩ :: us) := ⟨by kernel_rfl, by kernel_rfl, by kernel_rfl, by kernel_rfl, by kernel_rfl, by kernel_rfl⟩
  rw [exprP, exB_assign hk]
  exact atom_assign (by kernel_rfl) (by kernel_rfl) h.cl
theorem ex_con {e a b : Int} {ex : List Tk → PR ST} {r : List Tk} : atomP e ex (⟨3, [67], 0, a⟩ :: ⟨5, [40], 0, b⟩ :: r) = (listP e oP coB cP (listOne ex) [] (⟨5, [40], 0, b⟩ :: r)).bind fun l us => .ok (.mk 11 a (⟨#[67]⟩ : ByteArray) E0B 0 l []) us := by kernel_rfl
theorem list_step {e b c : Int} {ex : List Tk → PR ST} {r us : List Tk} {x : ST} (hr0 : r ≠ []) (hn : isK e r [cP] = false) (h : ex r = .ok x (⟨5, [41], 0, c⟩ :: us)) : listP e oP coB cP (listOne ex) [] (⟨5, [40], 0, b⟩ :: r) = .ok [x] us := by
  have h1 : listP e oP coB cP (listOne ex) [] (⟨5, [40], 0, b⟩ :: r) = listL e coB cP (listOne ex) (r.length + 1) true [] r := by kernel_rfl
  have h2 : listL e coB cP (listOne ex) r.length false ([] ++ [x]) (⟨5, [41], 0, c⟩ :: us) = .ok [x] us := by
    cases r with
    | nil => exact absurd rfl hr0
    | cons u q => kernel_rfl
  rw [h1, listL, hn]
  simp only [cond_false, cond_true, PR.bind_ok, listOne, h]
  exact h2
theorem list_bad {e b p q : Int} {ex : List Tk → PR ST} {r : List Tk} (hn : isK e r [cP] = false) (h : ex r = .bad p q) : listP e oP coB cP (listOne ex) [] (⟨5, [40], 0, b⟩ :: r) = .bad p q := by
  have h1 : listP e oP coB cP (listOne ex) [] (⟨5, [40], 0, b⟩ :: r) = listL e coB cP (listOne ex) (r.length + 1) true [] r := by kernel_rfl
  rw [h1, listL, hn]
  simp only [cond_false, cond_true, PR.bind_ok, listOne, h, PR.bind_bad]
theorem atom_bad {e : Int} {ex : List Tk → PR ST} {ts : List Tk} {p q : Int} (h : atomP e ex ts = .bad p q) (hp : preB' e ts = false) : assignP e ex ts = .bad p q := by
  have h1 : unaryP e ex ts = .bad p q := by simp only [unaryP, preP, hp, cond_false, PR.bind_ok, appP, h, PR.bind_bad]
  simp only [assignP, cmpP, sumP, prodP, onceP, manyP, h1, PR.bind_bad]
theorem ne_head {k n : Nat} {tl r : List Tk} (h : Ne k n tl r) : r ≠ [] ∧ (∀ e, isK e r [cP] = false) ∧ (∀ e, isK e r [effW0, datW0] = false) ∧ (k = 3 ∨ k = 4 ∨ k = 5 ∨ k = 6 ∨ n = 0 → ∀ e, NoKw e r) := by
  cases h with
  | z => exact ⟨by simp, fun e => rfl, fun e => rfl, fun _ e => num_kw⟩
  | s0 => exact ⟨by simp, fun e => by kernel_rfl, fun e => by kernel_rfl, fun h => by omega⟩
  | s1 => exact ⟨by simp, fun e => by kernel_rfl, fun e => by kernel_rfl, fun h => by omega⟩
  | s2 => exact ⟨by simp, fun e => by kernel_rfl, fun e => by kernel_rfl, fun h => by omega⟩
  | s3 => exact ⟨by simp, fun e => by kernel_rfl, fun e => by kernel_rfl, fun _ e => ⟨by kernel_rfl, by kernel_rfl, by kernel_rfl, by kernel_rfl, by kernel_rfl, by kernel_rfl⟩⟩
  | s4 => exact ⟨by simp, fun e => by kernel_rfl, fun e => by kernel_rfl, fun _ e => ⟨by kernel_rfl, by kernel_rfl, by kernel_rfl, by kernel_rfl, by kernel_rfl, by kernel_rfl⟩⟩
  | s5 => exact ⟨by simp, fun e => by kernel_rfl, fun e => by kernel_rfl, fun _ e => ⟨by kernel_rfl, by kernel_rfl, by kernel_rfl, by kernel_rfl, by kernel_rfl, by kernel_rfl⟩⟩
  | s6 => exact ⟨by simp, fun e => by kernel_rfl, fun e => by kernel_rfl, fun _ e => ⟨by kernel_rfl, by kernel_rfl, by kernel_rfl, by kernel_rfl, by kernel_rfl, by kernel_rfl⟩⟩
/-- How deep what nests is, or that it is too deep. -/
def Deep (e : Int) (m n : Nat) (r tl : List Tk) : Prop := (n < m → ∃ x, exprP e m r = .ok x tl ∧ dS x = n + 1) ∧ (m ≤ n → ∃ a, exprP e m r = .bad a 6)
theorem deep0 (e : Int) (n : Nat) (r tl : List Tk) : Deep e 0 n r tl := ⟨fun h => absurd h (by omega), fun _ => ⟨_, rfl⟩⟩
theorem nest_deep {k n : Nat} {tl r : List Tk} (h : Ne k n tl r) : ∀ (e : Int) (m : Nat), k ≠ 3 → k ≠ 4 → k ≠ 6 → Tl tl → Deep e m n r tl := by
  induction h with
  | z k a tl =>
    intro e m _ _ _ ht
    cases m with
    | zero => exact deep0 _ _ _ _
    | succ m => exact ⟨fun _ => ⟨_, ex_num ht, rfl⟩, fun h => absurd h (by omega)⟩
  | s0 a b c h ih =>
    intro e m h3 h4 h6 ht
    cases m with
    | zero => exact deep0 _ _ _ _
    | succ m =>
      obtain ⟨i1, i2⟩ := ih e m h3 h4 h6 ht
      refine ⟨fun hm => ?_, fun hm => ?_⟩
      · obtain ⟨x, hx, hd⟩ := i1 (by omega)
        exact ⟨_, ex_fun hx, by simp only [dS, dSL, dSA]; omega⟩
      · obtain ⟨q, hx⟩ := i2 (by omega)
        exact ⟨q, ex_fun_bad hx⟩
  | @s1 n tl r a b c d f h ih =>
    intro e m h3 h4 h6 ht
    cases m with
    | zero => exact deep0 _ _ _ _
    | succ m =>
      obtain ⟨i1, i2⟩ := ih e m h3 h4 h6 ht
      cases m with
      | zero => exact ⟨fun hm => absurd hm (by omega), fun _ => ⟨_, by rw [exprP, ex_let, exprP]; rfl⟩⟩
      | succ m =>
        have h1 : exprP e (m + 1) (⟨1, [49], 1, d⟩ :: ⟨4, [105, 110], 0, f⟩ :: r) = .ok _ _ := ex_num (.inr (.inr (.inl ⟨f, _, rfl⟩)))
        refine ⟨fun hm => ?_, fun hm => ?_⟩
        · obtain ⟨x, hx, hd⟩ := i1 (by omega)
          exact ⟨_, by rw [exprP, ex_let, h1, PR.bind_ok, ex_let2, hx]; rfl, by simp only [dS, dSL, dSA]; omega⟩
        · obtain ⟨q, hx⟩ := i2 (by omega)
          exact ⟨q, by rw [exprP, ex_let, h1, PR.bind_ok, ex_let2, hx]; rfl⟩
  | @s2 n tl r a b c d f h ih =>
    intro e m h3 h4 h6 ht
    cases m with
    | zero => exact deep0 _ _ _ _
    | succ m =>
      obtain ⟨i1, i2⟩ := ih e m h3 h4 h6 ht
      cases m with
      | zero => exact ⟨fun hm => absurd hm (by omega), fun _ => ⟨_, by rw [exprP, ex_if, exprP]; rfl⟩⟩
      | succ m =>
        have h1 : exprP e (m + 1) (⟨4, [116, 114, 117, 101], 0, b⟩ :: ⟨4, [116, 104, 101, 110], 0, c⟩ :: ⟨1, [48], 0, d⟩ :: ⟨4, [101, 108, 115, 101], 0, f⟩ :: r) = .ok _ _ := ex_true (.inr (.inr (.inr (.inr ⟨c, _, rfl⟩))))
        have h2 : exprP e (m + 1) (⟨1, [48], 0, d⟩ :: ⟨4, [101, 108, 115, 101], 0, f⟩ :: r) = .ok _ _ := ex_num (.inr (.inr (.inr (.inl ⟨f, _, rfl⟩))))
        refine ⟨fun hm => ?_, fun hm => ?_⟩
        · obtain ⟨x, hx, hd⟩ := i1 (by omega)
          exact ⟨_, by rw [exprP, ex_if, h1, PR.bind_ok, ex_if2, h2, PR.bind_ok, ex_if3, hx]; rfl, by simp only [dS, dSL, dSA]; omega⟩
        · obtain ⟨q, hx⟩ := i2 (by omega)
          exact ⟨q, by rw [exprP, ex_if, h1, PR.bind_ok, ex_if2, h2, PR.bind_ok, ex_if3, hx]; rfl⟩
  | s3 a h ih => intro e m h3; exact absurd rfl h3
  | s4 a h ih => intro e m _ h4; exact absurd rfl h4
  | s6 a h ih => intro e m _ _ h6; exact absurd rfl h6
  | @s5 n tl r a b c h ih =>
    intro e m h3 h4 h6 ht
    cases m with
    | zero => exact deep0 _ _ _ _
    | succ m =>
      obtain ⟨i1, i2⟩ := ih e m h3 h4 h6 (.inr (.inl ⟨c, _, rfl⟩))
      obtain ⟨g1, g2, _, _⟩ := ne_head h
      have hk := (ne_head (Ne.s5 a b c h)).2.2.2 (by omega) e
      refine ⟨fun hm => ?_, fun hm => ?_⟩
      · obtain ⟨x, hx, hd⟩ := i1 (by omega)
        exact ⟨_, by rw [exprP, exB_assign hk]; exact atom_assign (by rw [ex_con, list_step g1 (g2 e) hx]; rfl) (by kernel_rfl) ht.cl, by simp only [dS, dSL, dSA]; omega⟩
      · obtain ⟨q, hx⟩ := i2 (by omega)
        refine ⟨q, ?_⟩
        have ha : atomP e (exprP e m) (⟨3, [67], 0, a⟩ :: ⟨5, [40], 0, b⟩ :: r) = .bad q 6 := by rw [ex_con, list_bad (g2 e) hx]; rfl
        rw [exprP, exB_assign hk]
        exact atom_bad ha (by kernel_rfl)
theorem nest_pre {k n : Nat} {tl r : List Tk} (h : Ne k n tl r) : (k = 3 ∨ k = 4 ∨ k = 6) → ∃ ps a, ps.length = n ∧ r = ps ++ (⟨1, [49], 1, a⟩ :: tl) ∧ ∀ e q p, p ∈ ps → preB' e (p :: q) = true := by
  induction h with
  | z k a tl => exact fun _ => ⟨[], a, rfl, rfl, fun _ _ _ h => by cases h⟩
  | s0 a b c h ih => intro h; omega
  | s1 a b c d f h ih => intro h; omega
  | s2 a b c d f h ih => intro h; omega
  | s5 a b c h ih => intro h; omega
  | s3 a h ih =>
    intro hk
    obtain ⟨ps, b, h1, rfl, h3⟩ := ih hk
    exact ⟨_ :: ps, b, by simp [h1], rfl, fun e q p hp => by
      rcases List.mem_cons.1 hp with rfl | hp
      · kernel_rfl
      · exact h3 e q p hp⟩
  | s4 a h ih =>
    intro hk
    obtain ⟨ps, b, h1, rfl, h3⟩ := ih hk
    exact ⟨_ :: ps, b, by simp [h1], rfl, fun e q p hp => by
      rcases List.mem_cons.1 hp with rfl | hp
      · kernel_rfl
      · exact h3 e q p hp⟩
  | s6 a h ih =>
    intro hk
    obtain ⟨ps, b, h1, rfl, h3⟩ := ih hk
    exact ⟨_ :: ps, b, by simp [h1], rfl, fun e q p hp => by
      rcases List.mem_cons.1 hp with rfl | hp
      · kernel_rfl
      · exact h3 e q p hp⟩
theorem pre_all {e : Int} {r : List Tk} (hr : preB' e r = false) : ∀ (ps : List Tk), (∀ q p, p ∈ ps → preB' e (p :: q) = true) → ∀ (f : Nat) (acc : List Tk), ps.length < f → preP e f acc (ps ++ r) = .ok (acc ++ ps) r := by
  intro ps
  induction ps with
  | nil =>
    intro _ f acc hf
    obtain ⟨g, rfl⟩ : ∃ g, f = g + 1 := ⟨f - 1, by simp at hf; omega⟩
    rw [List.nil_append, List.append_nil, preP, hr]; rfl
  | cons p ps ih =>
    intro h f acc hf
    obtain ⟨g, rfl⟩ : ∃ g, f = g + 1 := ⟨f - 1, by simp at hf; omega⟩
    rw [List.cons_append, preP, h _ p (by simp)]
    show preP e g (acc ++ [p]) (ps ++ r) = _
    rw [ih (fun q p hp => h q p (List.mem_cons_of_mem _ hp)) g _ (by simp at hf; omega)]
    simp
theorem fold_deep (x : ST) : ∀ ps : List Tk, dS (ps.foldr sUn x) = ps.length + dS x := by
  intro ps
  induction ps with
  | nil => simp
  | cons p ps ih => rw [List.foldr_cons, sUn, dS, dSL, dSL, dSA, ih, List.length_cons]; omega
theorem nest_un {k n m : Nat} {r : List Tk} {e : Int} (h : Ne k n [] r) (hk : k = 3 ∨ k = 4 ∨ k = 6) : ∃ x, exprP e (m + 1) r = .ok x [] ∧ dS x = n + 1 := by
  have hkw := (ne_head h).2.2.2 (by omega) e
  obtain ⟨ps, a, h1, rfl, h3⟩ := nest_pre h hk
  refine ⟨ps.foldr sUn (.mk 2 a E0B E0B 1 [] []), ?_, by rw [fold_deep, h1]; rfl⟩
  rw [exprP, exB_assign hkw]
  have hc : Cl e [] := Tl.cl (.inl rfl)
  refine un_assign ?_ hc
  rw [unaryP, pre_all rfl ps (fun q p hp => h3 e q p hp) _ _ (by simp; omega)]
  simp only [PR.bind_ok, List.nil_append, app_one (atom_num (e := e) (ex := exprP e m) (t := [49]) (v := 1) (a := a) (us := [])) hc]
theorem prog_of {e : Int} {r : List Tk} {x : ST} (h1 : isK e r [effW0, datW0] = false) (h : exprP e 201 r = .ok x []) : programP e r = .ok ⟨[], [], x⟩ [] := by
  simp only [programP, declP, h1, cond_false, PR.bind_ok, h]; rfl
theorem prog_bad {e p q : Int} {r : List Tk} (h1 : isK e r [effW0, datW0] = false) (h : exprP e 201 r = .bad p q) : programP e r = .bad p q := by
  simp only [programP, declP, h1, cond_false, PR.bind_ok, h, PR.bind_bad]
theorem nestS_len (k n : Nat) : (nestS k n).length ≤ 1 + 21 * n := by
  have hb : (begK k).length ≤ 20 := by unfold begK; split <;> decide
  induction n with
  | zero => show 1 ≤ _; omega
  | succ n ih => rw [nestS]; split <;> simp <;> omega
theorem nest_parse {k n : Nat} (hk : k < 7) (hn : n ≤ 220) : (n ≤ 199 → ∃ x, parseR (nestS k n) = (some ⟨[], [], x⟩, 0, 0) ∧ dS x = n + 1) ∧ (199 < n → ∃ a, parseR (nestS k n) = (none, a, 6)) := by
  have hlx := lx_nest k hk n 0 (fun _ => rfl)
  have hl := nestS_len k n
  rw [show nestS k n ++ rb 0 = nestS k n from List.append_nil _] at hlx
  obtain ⟨hE, tl, hne, htl⟩ := hlx.parse (by omega)
  have htl : tl = [] := htl
  subst htl
  have hw := (ne_head hne).2.2.1 ((nestS k n).length : Int)
  have key : (n ≤ 200 → ∃ x, exprP ((nestS k n).length : Int) 201 (lexT (nestS k n)) = .ok x [] ∧ dS x = n + 1) ∧ (200 < n → (∃ x, exprP ((nestS k n).length : Int) 201 (lexT (nestS k n)) = .ok x [] ∧ dS x = n + 1) ∨ ∃ a, exprP ((nestS k n).length : Int) 201 (lexT (nestS k n)) = .bad a 6) := by
    by_cases hu : k = 3 ∨ k = 4 ∨ k = 6
    · have := nest_un (m := 200) (e := ((nestS k n).length : Int)) hne hu
      exact ⟨fun _ => this, fun _ => .inl this⟩
    · have := nest_deep hne ((nestS k n).length : Int) 201 (by omega) (by omega) (by omega) (.inl rfl)
      exact ⟨fun h => this.1 (by omega), fun h => .inr (this.2 (by omega))⟩
  refine ⟨fun h => ?_, fun h => ?_⟩
  · obtain ⟨x, hx, hd⟩ := key.1 (by omega)
    exact ⟨x, parseR_ok hE (prog_of hw hx) (by show ¬ 200 < dS x; omega), hd⟩
  · by_cases h2 : n ≤ 200
    · obtain ⟨x, hx, hd⟩ := key.1 h2
      exact ⟨0, parseR_deep hE (prog_of hw hx) (by show 200 < dS x; omega)⟩
    · rcases key.2 (by omega) with ⟨x, hx, hd⟩ | ⟨a, hx⟩
      · exact ⟨0, parseR_deep hE (prog_of hw hx) (by show 200 < dS x; omega)⟩
      · exact ⟨a, parseR_bad hE (prog_bad hw hx)⟩
end Go.Proofs.Ytkjmjnddanhapaa
