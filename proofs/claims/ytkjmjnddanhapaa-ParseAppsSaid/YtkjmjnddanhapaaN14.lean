/-
  Variables behind one another. Plain lemmas; no condition beyond those that stand in each statement.
-/
import Derived.Test.YtkjmjnddanhapaaN13
namespace Go.Proofs.Ytkjmjnddanhapaa
open Go.RowKit

def appS : Nat → List UInt8
  | 0 => []
  | n + 1 => (appS n ++ [32, 120]) ++ dgs n
/-- All but the first. -/
def appR : Nat → List UInt8
  | 0 => []
  | n + 1 => appR n ++ (32 :: (120 :: dgs (n + 1)))
theorem appS_eq (n : Nat) : appS (1 + n) = 32 :: ([120, 48] ++ appR n) := by
  induction n with
  | zero => show ([] ++ [32, 120]) ++ dgs 0 = _; rw [dgs_lt (by decide)]; rfl
  | succ n ih =>
    have : appS (1 + (n + 1)) = (appS (1 + n) ++ [32, 120]) ++ dgs (1 + n) := rfl
    rw [this, ih, appR, Nat.add_comm 1 n]; simp
theorem appS_len (n : Nat) (h : n ≤ 9223372036854775807) : (appS n).length ≤ 21 * n := by
  induction n with
  | zero => exact Nat.le_refl _
  | succ n ih => have h1 := dgs_len20 (n := n) (by omega); have h2 := ih (by omega); simp only [appS, List.length_append, List.length_cons, List.length_nil]; omega
inductive Vs : Nat → List Tk → Prop
  | nil : Vs 0 []
  | snoc {n : Nat} {l : List Tk} (a : Int) (h : Vs n l) : Vs (n + 1) (l ++ [⟨2, 120 :: dgs (n + 1), 0, a⟩])
theorem lx_appR : ∀ (n : Nat) (r : List UInt8) (Q : List Tk → Prop), n < 1000000 → Stop r → Lx r (fun ts => ∀ l, Vs n l → Q (l ++ ts)) → Lx (appR n ++ r) Q := by
  intro n
  induction n with
  | zero => intro r Q _ _ h; exact h.mono fun ts h => h [] .nil
  | succ n ih =>
    intro r Q hn hs h
    have e : appR (n + 1) ++ r = appR n ++ (32 :: ((120 :: dgs (n + 1)) ++ r)) := by rw [appR]; simp
    rw [e]
    refine ih _ Q (by omega) (Stop.sp _) (Lx.sp (Lx.id (k := 2) (h.mono fun ts h a l hl => ?_) (by decide) (by decide) (by omega) hs))
    have := h _ (.snoc a hl)
    rwa [List.append_assoc] at this
/-- What they are. -/
inductive Ap : Nat → ST → Prop
  | z : Ap 0 (.mk 1 1 (bs [120, 48]) E0B 0 [] [])
  | s {n : Nat} {x : ST} (a : Int) (h : Ap n x) : Ap (n + 1) (.mk 6 1 E0B E0B 0 [x, .mk 1 a (bs (120 :: dgs (n + 1))) E0B 0 [] []] [])
def apF (x : ST) (t : Tk) : ST := .mk 6 x.at_ E0B E0B 0 [x, .mk 1 t.a (bs t.t) E0B 0 [] []] []
theorem Ap.at1 {n : Nat} {x : ST} (h : Ap n x) : x.at_ = 1 ∧ dS x = n + 1 := by
  induction h with
  | z => exact ⟨rfl, rfl⟩
  | s a h ih => exact ⟨rfl, by simp only [dS, dSL, dSA, ih.2]; omega⟩
theorem Vs.k {n : Nat} {l : List Tk} (h : Vs n l) : ∀ t ∈ l, t.k = 2 := by
  induction h with
  | nil => intro t ht; cases ht
  | snoc a h ih =>
    intro t ht
    rcases List.mem_append.1 ht with ht | ht
    · exact ih t ht
    · rw [List.mem_singleton.1 ht]
theorem Vs.fold {n : Nat} {l : List Tk} (h : Vs n l) : Ap n (l.foldl apF (.mk 1 1 (bs [120, 48]) E0B 0 [] [])) := by
  induction h with
  | nil => exact .z
  | snoc a h ih =>
    rw [List.foldl_append]
    have := Ap.s a ih
    rw [List.foldl_cons, List.foldl_nil, apF, ih.at1.1]
    exact this
theorem not_is {e : Int} {t : Tk} {l : List Tk} {ss : List ByteArray} (h : t.k = 2) : isK e (t :: l) ss = false := by
  unfold isK nx; rw [List.headD_cons, h]; rfl
theorem kd_is {e : Int} {t : Tk} {l : List Tk} {ks : List Int} (h : t.k = 2) : kdK e (t :: l) ks = ks.any fun x => decide (x = 2) := by
  unfold kdK nx; rw [List.headD_cons, h]
theorem atom_var {e : Int} {ex : List Tk → PR ST} {t : Tk} {l : List Tk} (h : t.k = 2) : atomP e ex (t :: l) = .ok (.mk 1 t.a (bs t.t) E0B 0 [] []) l := by
  unfold atomP
  rw [kd_is h, not_is h, kd_is h]; rfl
theorem app_all {e : Int} {ex : List Tk → PR ST} : ∀ (l : List Tk) (f : Nat) (x : ST), (∀ t ∈ l, t.k = 2) → l.length < f → appL e ex f x l = .ok (l.foldl apF x) [] := by
  intro l
  induction l with
  | nil =>
    intro f x _ h
    obtain ⟨g, rfl⟩ : ∃ g, f = g + 1 := ⟨f - 1, by simp at h; omega⟩
    rfl
  | cons t l ih =>
    intro f x h hf
    obtain ⟨g, rfl⟩ : ∃ g, f = g + 1 := ⟨f - 1, by simp at hf; omega⟩
    have hk := h t List.mem_cons_self
    have hb : appB e (t :: l) = true := by unfold appB; rw [kd_is hk]; rfl
    rw [appL, hb]
    simp only [cond_true, atom_var hk, PR.bind_ok]
    exact ih g (apF x t) (fun u hu => h u (List.mem_cons_of_mem _ hu)) (by simp at hf; omega)
theorem noKw_var {e : Int} {t : Tk} {l : List Tk} (h : t.k = 2) : NoKw e (t :: l) := ⟨not_is h, not_is h, not_is h, not_is h, not_is h, not_is h⟩
theorem apps_parse {n : Nat} (hn : n < 150) : ∃ x, parseR (appS (1 + n)) = (some ⟨[], [], x⟩, 0, 0) ∧ Ap n x := by
  have hl := appS_len (1 + n) (by omega)
  have h1 : Lx (appR n) (fun ts => Vs n ts) := by
    have := lx_appR n [] (fun ts => Vs n ts) (by omega) Stop.nil (Lx.nil fun l hl => by rwa [List.append_nil])
    rwa [List.append_nil] at this
  have hst : Stop (appR n) := by
    cases n with
    | zero => exact Stop.nil
    | succ n =>
      intro u q h
      have h2 := appS_eq (n + 1)
      have : ∃ q, appR (n + 1) = 32 :: q := by
        clear h2 h1 hl hn h
        induction n with
        | zero => exact ⟨_, rfl⟩
        | succ n ih => obtain ⟨q, hq⟩ := ih; rw [appR, hq]; exact ⟨_, rfl⟩
      obtain ⟨q', hq⟩ := this
      rw [hq] at h
      exact Stop.sp q' u q h
  obtain ⟨l, hl1, hl2⟩ := h1 3
  have hlex : lexW 0 (appS (1 + n)) = .ok ((⟨2, [120, 48], 0, 1⟩ : Tk) :: l) := by
    have hd : (120 :: dgs 0 : List UInt8) = [120, 48] := by rw [dgs_lt (by decide)]; rfl
    have hw := id_word (c := 120) (n := 0) (r := appR n) (k := 2) (by decide) (by decide) (by omega) hst
    rw [hd] at hw
    rw [appS_eq, lex_sp, lex_word (blank_no (by decide)) (by simp) hw]
    show LR.pre _ (lexW 3 (appR n)) = _
    rw [hl1]; rfl
  obtain ⟨e1, e2, e3⟩ := lex_ok (by omega) hlex
  have hk := hl2.k
  have hap := hl2.fold
  refine ⟨_, parseR_ok (us := []) e3 ?_ ?_, hap⟩
  · rw [e1]
    have hx : exprP ((appS (1 + n)).length : Int) 201 ((⟨2, [120, 48], 0, 1⟩ : Tk) :: l) = .ok (l.foldl apF (.mk 1 1 (bs [120, 48]) E0B 0 [] [])) [] := by
      rw [exprP, exB_assign (noKw_var rfl)]
      refine un_assign ?_ ⟨rfl, rfl, rfl, rfl, rfl⟩
      have hp : preB' ((appS (1 + n)).length : Int) ((⟨2, [120, 48], 0, 1⟩ : Tk) :: l) = false := by unfold preB'; rw [not_is rfl, kd_is rfl]; rfl
      simp only [unaryP, preP, hp, cond_false, PR.bind_ok, appP, atom_var (t := (⟨2, [120, 48], 0, 1⟩ : Tk)) rfl]
      rw [app_all l _ _ hk (by omega)]
      rfl
    simp only [programP, declP, not_is (t := (⟨2, [120, 48], 0, 1⟩ : Tk)) rfl, cond_false, PR.bind_ok, hx]; rfl
  · show ¬ 200 < dS _
    rw [hap.at1.2]; omega
theorem ap_zero {t : Tm} (h : Ap 0 (shT t)) : t.k = 1 ∧ t.nm = (⟨#[120, 48]⟩ : ByteArray) := by
  generalize hx : shT t = x at h
  cases h
  obtain ⟨h1, h2, h3, _⟩ := shT_k t hx
  exact ⟨h1, h3⟩
theorem ap_step {i : Nat} {t : Tm} (h : Ap i (shT t)) (hi : 0 < i) : t.k = 6 ∧ t.at_ = 1 ∧ t.kids.length = 2 ∧ (∀ u, t.kids[1]? = some u → u.k = 1 ∧ u.nm = bs ([120] ++ dgs i)) ∧ ∀ u, t.kids[0]? = some u → Ap (i - 1) (shT u) := by
  generalize hx : shT t = x at h
  cases h with
  | z => omega
  | s a h =>
    obtain ⟨h1, h2, h3, h4, h5, h6, h7⟩ := shT_k t hx
    refine ⟨h1, h2, by have := congrArg List.length h6; simpa using this, fun u hu => ?_, fun u hu => ?_⟩
    · have := (Option.some.inj (map_at h6 hu)).symm
      obtain ⟨k1, k2, k3, _⟩ := shT_k u this
      exact ⟨k1, k3⟩
    · have := (Option.some.inj (map_at h6 hu)).symm
      rw [this]; exact h
theorem Xs.body {M : List (Option Nat)} {w : World} {p : Pr} (h : Xs kPr M w [p]) : Xs kTm M w [p.body] := fun u hu => by
  obtain rfl := List.mem_singleton.1 hu
  obtain ⟨h1, h2⟩ := h p (by simp)
  exact ⟨h1.bodyOk, fun b hb => h2 b (.inr (.inr (.inr (.inr hb))))⟩
theorem Xs.kid {M : List (Option Nat)} {w : World} {t u : Tm} {k : Nat} (h : Xs kTm M w [t]) (hu : t.kids[k]? = some u) : Xs kTm M w [u] := fun v hv => by
  obtain rfl := List.mem_singleton.1 hv
  obtain ⟨h1, h2⟩ := h t (by simp)
  refine ⟨h1.kid hu, fun b hb => h2 b ?_⟩
  cases t
  show tmBlk _ b
  rw [tmBlk]
  exact .inr (.inr (.inl (tmBlkL_iff.2 ⟨_, List.mem_of_getElem? hu, hb⟩)))
end Go.Proofs.Ytkjmjnddanhapaa
