/-
  Any text of letters where a name may stand. Plain lemmas; no condition beyond those that stand in each statement.
-/
import Derived.Test.YtkjmjnddanhapaaN13
namespace Go.Proofs.Ytkjmjnddanhapaa
open Go.RowKit

def wordsL : List (List UInt8) := [[102, 117, 110], [108, 101, 116], [105, 110], [114, 101, 99], [105, 102], [116, 104, 101, 110], [101, 108, 115, 101], [109, 97, 116, 99, 104], [104, 97, 110, 100, 108, 101], [114, 101, 116, 117, 114, 110], [101, 102, 102, 101, 99, 116], [100, 97, 116, 97], [112, 114, 105, 110, 116], [114, 101, 97, 100], [114, 101, 102], [116, 114, 117, 101], [102, 97, 108, 115, 101], [105, 110, 116], [98, 111, 111, 108], [117, 110, 105, 116]]
theorem index_occ : ∀ (s t : List UInt8), t ≠ [] → 0 ≤ Lib.index s t → ∃ i, i < s.length ∧ t <+: s.drop i := by
  intro s
  induction s with
  | nil =>
    intro t hne h
    unfold Lib.index at h
    cases t with
    | nil => exact absurd rfl hne
    | cons => simp at h
  | cons b s ih =>
    intro t hne h
    unfold Lib.index at h
    by_cases h1 : t.isPrefixOf (b :: s) = true
    · exact ⟨0, by simp, List.isPrefixOf_iff_prefix.1 h1⟩
    · rw [if_neg h1] at h
      by_cases h2 : (Lib.index s t == -1) = true
      · rw [if_pos h2] at h; omega
      · have h3 := Lib.index_ge s t
        have h4 : Lib.index s t ≠ -1 := by simpa using h2
        obtain ⟨i, h5, h6⟩ := ih t hne (by omega)
        exact ⟨i + 1, by simp; omega, h6⟩
theorem keys_at : (List.range keysL.length).all (fun i => match keysL.drop i with | 32 :: r => decide (r.takeWhile nameB ∈ wordsL) || (r.takeWhile nameB).isEmpty | _ => true) = true := by decide +kernel
theorem kw_words : wordsL.all kwB = true := by decide +kernel
theorem kw_keys {s : List UInt8} (hs : ∀ c ∈ s, nameB c = true) (hne : s ≠ []) : kwB s = decide (s ∈ wordsL) := by
  cases h : kwB s with
  | false =>
    symm
    rw [decide_eq_false_iff_not]
    intro hm
    have := List.all_eq_true.1 kw_words s hm
    rw [h] at this; cases this
  | true =>
    symm
    rw [decide_eq_true_eq]
    have h1 : 0 ≤ Lib.index keysL (([32] ++ s) ++ [32]) := by unfold kwB Lib.contains at h; simpa using h
    obtain ⟨i, hi, t, ht⟩ := index_occ _ _ (by simp) h1
    have h2 := List.all_eq_true.1 keys_at i (List.mem_range.2 hi)
    have h3 : keysL.drop i = 32 :: (s ++ (32 :: t)) := by rw [← ht]; simp
    rw [h3] at h2
    have h4 : (s ++ (32 :: t)).takeWhile nameB = s := tw_app s (32 :: t) hs (fun u q h => by cases h; decide)
    simp only [h4] at h2
    rcases Bool.or_eq_true_iff.1 h2 with h5 | h5
    · simpa using h5
    · exact absurd (List.isEmpty_iff.1 h5) hne
/-- A small name. -/
def smallB (s : List UInt8) : Bool := match s with
  | [] => false
  | c :: w => !digB c && ((c :: w).all nameB && (!largB c && (decide (w.length < 60) && !decide (c :: w ∈ wordsL))))
/-- Words of a kind, or none. -/
def LxE (l : List UInt8) (Q : List Tk → Prop) : Prop := ∀ a, (∃ p, lexW a l = .bad p) ∨ ∃ ts, lexW a l = .ok ts ∧ Q ts
theorem LxE.word {w r : List UInt8} {k n : Int} {Q : List Tk → Prop} (hr : LxE r (fun ts => ∀ a, Q (⟨k, w, n, a⟩ :: ts))) (hb : blank1 (w ++ r) = 0) (hn : w ≠ []) (hw : wordR (w ++ r) = ⟨⟨k, w, n, 0⟩, w.length, true⟩) : LxE (w ++ r) Q := fun a => by
  rcases hr (a + w.length) with ⟨p, hp⟩ | ⟨ts, h1, h2⟩
  · exact .inl ⟨p, by rw [lex_word hb hn hw, hp]; rfl⟩
  · exact .inr ⟨⟨k, w, n, (a : Int)⟩ :: ts, by rw [lex_word hb hn hw, h1]; rfl, h2 _⟩
theorem LxE.sp {r : List UInt8} {Q : List Tk → Prop} (hr : LxE r Q) : LxE (32 :: r) Q := fun a => by rw [lex_sp]; exact hr (a + 1)
/-- A word that is no small name is another word, or none. -/
theorem LxE.no {c : UInt8} {w r : List UInt8} (hs : ∀ d ∈ c :: w, nameB d = true) (hr : Stop r) (h : smallB (c :: w) = false) : LxE ((c :: w) ++ r) (fun ts => ∃ u q, ts = u :: q ∧ (u.k = 1 ∨ u.k = 3 ∨ (u.k = 4 ∧ u.t = c :: w))) := fun a => by
  have hb : blank1 ((c :: w) ++ r) = 0 := blank_no (hs c List.mem_cons_self)
  have hsk : skip ((c :: w) ++ r) = (c :: w) ++ r := skip_zero hb
  have hne : skip ((c :: w) ++ r) ≠ [] := by rw [hsk]; simp
  cases hk : (wordR (skip ((c :: w) ++ r))).ok with
  | false => exact .inl ⟨_, lexW_bad hne hk⟩
  | true =>
    rw [lexW_word hne hk]
    generalize hx : lexW _ _ = x
    cases x with
    | bad p => exact .inl ⟨p, rfl⟩
    | ok ts =>
      refine .inr ⟨_, rfl, _, _, rfl, ?_⟩
      show (wordR (skip ((c :: w) ++ r))).tok.k = 1 ∨ _
      rw [hsk] at hk ⊢
      by_cases hd : digB c = true
      · left
        have e : wordR ((c :: w) ++ r) = numR ((c :: w) ++ r) := by unfold wordR ruleOf; rw [List.cons_append, List.getD_cons_zero, if_pos hd]; rfl
        rw [e] at hk ⊢
        unfold numR at hk ⊢
        cases hn : numGo 0 (digs ((c :: w) ++ r)) with
        | none => rw [hn] at hk; cases hk
        | some v => rfl
      · have hl : letB c = true := by
          have := hs c List.mem_cons_self
          unfold nameB at this
          simpa [hd] using this
        have hw : ∀ d ∈ w, nameB d = true := fun d hd => hs d (List.mem_cons_of_mem _ hd)
        by_cases h60 : w.length < 60
        · rw [name_word hl hw h60 hr]
          by_cases hL : largB c = true
          · rw [if_pos hL]; exact .inr (.inl rfl)
          · have hkw : kwB (c :: w) = true := by
              rw [kw_keys hs (by simp)]
              have h : (!digB c && ((c :: w).all nameB && (!largB c && (decide (w.length < 60) && !decide (c :: w ∈ wordsL))))) = false := h
              rw [List.all_eq_true.2 hs] at h
              simpa [hd, hL, h60] using h
            rw [if_neg hL, if_pos hkw]; exact .inr (.inr ⟨rfl, rfl⟩)
        · exfalso
          have e : wordR ((c :: w) ++ r) = nameR ((c :: w) ++ r) := by unfold wordR ruleOf; rw [List.cons_append, List.getD_cons_zero, if_neg hd, if_pos hl]; rfl
          have hn : whileN nameB ((c :: w) ++ r) = (c :: w).length := wn_app hs (fun u q h => (hr u q h).1)
          rw [e] at hk
          unfold nameR at hk
          rw [hn, if_pos (by simp only [List.length_cons]; omega)] at hk
          cases hk
theorem Lx.small {s r : List UInt8} {Q : List Tk → Prop} (h : smallB s = true) (hs : Stop r) (hr : Lx r (fun ts => ∀ a, Q (⟨2, s, 0, a⟩ :: ts))) : Lx (s ++ r) Q := by
  cases s with
  | nil => cases h
  | cons c w =>
    unfold smallB at h
    simp only [Bool.and_eq_true, Bool.not_eq_true', decide_eq_true_eq, decide_eq_false_iff_not] at h
    obtain ⟨h1, h2, h3, h4, h5⟩ := h
    have hn := List.all_eq_true.1 h2
    have hl : letB c = true := by
      have := hn c List.mem_cons_self
      unfold nameB at this
      simpa [h1] using this
    have hw := name_word (r := r) hl (fun d hd => hn d (List.mem_cons_of_mem _ hd)) h4 hs
    rw [if_neg (by rw [h3]; decide), kw_keys hn (by simp), decide_eq_false h5] at hw
    exact Lx.word hr (blank_no (hn c List.mem_cons_self)) (by simp) hw
-- ------------------------------------------------------------------ the two sources
def src1 (s : List UInt8) : List UInt8 := ([102, 117, 110, 32] ++ s) ++ [32, 45, 62, 32, 48]
def src2 (s : List UInt8) : List UInt8 := ([101, 102, 102, 101, 99, 116, 32, 69, 32, 123, 32] ++ s) ++ [32, 58, 32, 105, 110, 116, 32, 45, 62, 32, 69, 32, 125, 32, 48]
theorem lx_zero : Lx [48] (fun ts => ∃ a, ts = [⟨1, [48], 0, a⟩]) := Lx.word (w := [48]) (r := []) (k := 1) (n := 0) (Lx.nil fun a => ⟨a, rfl⟩) (by kernel_rfl) (by decide) (by kernel_rfl)
theorem lx_t1 : Lx [32, 45, 62, 32, 48] (fun ts => ∃ a b, ts = [⟨5, [45, 62], 0, a⟩, ⟨1, [48], 0, b⟩]) :=
  Lx.sp (Lx.word (w := [45, 62]) (r := [32, 48]) (k := 5) (n := 0) (Lx.sp (lx_zero.mono fun ts h a => by obtain ⟨b, rfl⟩ := h; exact ⟨a, b, rfl⟩)) (by kernel_rfl) (by decide) (by kernel_rfl))
theorem lx_t2 : Lx [32, 58, 32, 105, 110, 116, 32, 45, 62, 32, 69, 32, 125, 32, 48] (fun ts => ∃ a b c d e f, ts = [⟨5, [58], 0, a⟩, ⟨4, [105, 110, 116], 0, b⟩, ⟨5, [45, 62], 0, c⟩, ⟨3, [69], 0, d⟩, ⟨5, [125], 0, e⟩, ⟨1, [48], 0, f⟩]) := by
  show Lx (32 :: ([58] ++ (32 :: ([105, 110, 116] ++ (32 :: ([45, 62] ++ (32 :: ([69] ++ (32 :: ([125] ++ (32 :: [48]))))))))))) _
  refine Lx.sp (Lx.word (k := 5) (n := 0) (Lx.sp (Lx.word (k := 4) (n := 0) (Lx.sp (Lx.word (k := 5) (n := 0) (Lx.sp (Lx.word (k := 3) (n := 0) (Lx.sp (Lx.word (k := 5) (n := 0) (Lx.sp (lx_zero.mono fun ts h e d c b a => ?_)) (by kernel_rfl) (by decide) (by kernel_rfl))) (by kernel_rfl) (by decide) (by kernel_rfl))) (by kernel_rfl) (by decide) (by kernel_rfl))) (by kernel_rfl) (by decide) (by kernel_rfl))) (by kernel_rfl) (by decide) (by kernel_rfl))
  obtain ⟨f, rfl⟩ := h
  exact ⟨a, b, c, d, e, f, rfl⟩
theorem src_yes {s : List UInt8} (hl : s.length ≤ 70) (h : smallB s = true) : (∃ a b, parseR (src1 s) = (some ⟨[], [], .mk 5 a (bs s) E0B 0 [.mk 2 b E0B E0B 0 [] []] []⟩, 0, 0)) ∧ ∃ b, parseR (src2 s) = (some ⟨[⟨bs [69], [⟨bs s, ⟨1, E0B⟩, ⟨4, bs [69]⟩⟩]⟩], [], .mk 2 b E0B E0B 0 [] []⟩, 0, 0) := by
  constructor
  · have hx : Lx (src1 s) (fun ts => ∃ a b c d, ts = [⟨4, [102, 117, 110], 0, a⟩, ⟨2, s, 0, b⟩, ⟨5, [45, 62], 0, c⟩, ⟨1, [48], 0, d⟩]) := by
      have e : src1 s = [102, 117, 110] ++ (32 :: (s ++ [32, 45, 62, 32, 48])) := by unfold src1; simp
      rw [e]
      refine Lx.word (k := 4) (n := 0) (Lx.sp (Lx.small h (Stop.sp _) (lx_t1.mono fun ts h b a => ?_))) (by kernel_rfl) (by decide) (by kernel_rfl)
      obtain ⟨c, d, rfl⟩ := h
      exact ⟨a, b, c, d, rfl⟩
    obtain ⟨hE, a, b, c, d, ht⟩ := hx.parse (by unfold src1; simp only [List.length_append, List.length_cons, List.length_nil]; omega)
    generalize hL : (((src1 s).length : Nat) : Int) = L
    have hp : programP L [⟨4, [102, 117, 110], 0, a⟩, ⟨2, s, 0, b⟩, ⟨5, [45, 62], 0, c⟩, ⟨1, [48], 0, d⟩] = .ok ⟨[], [], .mk 5 a (bs s) E0B 0 [.mk 2 d E0B E0B 0 [] []] []⟩ [] := by kernel_rfl
    exact ⟨a, d, parseR_ok hE (by rw [hL, ht]; exact hp) (by show ¬ 200 < dS (.mk 5 a (bs s) E0B 0 [.mk 2 d E0B E0B 0 [] []] []); simp [dS, dSL, dSA])⟩
  · have hx : Lx (src2 s) (fun ts => ∃ x y z u, ∃ a b c d e f, ts = [⟨4, [101, 102, 102, 101, 99, 116], 0, x⟩, ⟨3, [69], 0, y⟩, ⟨5, [123], 0, z⟩, ⟨2, s, 0, u⟩, ⟨5, [58], 0, a⟩, ⟨4, [105, 110, 116], 0, b⟩, ⟨5, [45, 62], 0, c⟩, ⟨3, [69], 0, d⟩, ⟨5, [125], 0, e⟩, ⟨1, [48], 0, f⟩]) := by
      have e : src2 s = [101, 102, 102, 101, 99, 116] ++ (32 :: ([69] ++ (32 :: ([123] ++ (32 :: (s ++ [32, 58, 32, 105, 110, 116, 32, 45, 62, 32, 69, 32, 125, 32, 48])))))) := by unfold src2; simp
      rw [e]
      refine Lx.word (k := 4) (n := 0) (Lx.sp (Lx.word (k := 3) (n := 0) (Lx.sp (Lx.word (k := 5) (n := 0) (Lx.sp (Lx.small h (Stop.sp _) (lx_t2.mono fun ts h u z y x => ?_))) (by kernel_rfl) (by decide) (by kernel_rfl))) (by kernel_rfl) (by decide) (by kernel_rfl))) (by kernel_rfl) (by decide) (by kernel_rfl)
      obtain ⟨a, b, c, d, e, f, rfl⟩ := h
      exact ⟨x, y, z, u, a, b, c, d, e, f, rfl⟩
    obtain ⟨hE, x, y, z, u, a, b, c, d, e, f, ht⟩ := hx.parse (by unfold src2; simp only [List.length_append, List.length_cons, List.length_nil]; omega)
    generalize hL : (((src2 s).length : Nat) : Int) = L
    have hp : programP L [⟨4, [101, 102, 102, 101, 99, 116], 0, x⟩, ⟨3, [69], 0, y⟩, ⟨5, [123], 0, z⟩, ⟨2, s, 0, u⟩, ⟨5, [58], 0, a⟩, ⟨4, [105, 110, 116], 0, b⟩, ⟨5, [45, 62], 0, c⟩, ⟨3, [69], 0, d⟩, ⟨5, [125], 0, e⟩, ⟨1, [48], 0, f⟩] = .ok ⟨[⟨bs [69], [⟨bs s, ⟨1, E0B⟩, ⟨4, bs [69]⟩⟩]⟩], [], .mk 2 f E0B E0B 0 [] []⟩ [] := by kernel_rfl
    exact ⟨f, parseR_ok hE (by rw [hL, ht]; exact hp) (by show ¬ 200 < dS (.mk 2 f E0B E0B 0 [] []); simp [dS, dSL, dSA])⟩
theorem LxE.fails {l : List UInt8} {Q : List Tk → Prop} (h : LxE l Q) (hl : l.length ≤ 1048576) (k : ∀ e ts, Q ts → ∃ a, programP e ts = .bad a 3) : (parseR l).2.2 ≠ 0 := by
  rcases h 0 with ⟨p, hp⟩ | ⟨ts, h1, h2⟩
  · have := (lex_bad (by omega) hp).2.2
    rw [parseR_lex (by rw [this]; decide), this]; show (2 : Int) ≠ 0; decide
  · obtain ⟨e1, e2, e3⟩ := lex_ok (by omega) h1
    obtain ⟨a, ha⟩ := k (l.length : Int) ts h2
    rw [parseR_bad e3 (by rw [e1]; exact ha)]; show (3 : Int) ≠ 0; decide
theorem Lx.toE {l : List UInt8} {Q : List Tk → Prop} (h : Lx l Q) : LxE l Q := fun a => .inr (h a)
theorem LxE.mono {l : List UInt8} {Q Q' : List Tk → Prop} (h : LxE l Q) (k : ∀ ts, Q ts → Q' ts) : LxE l Q' := fun a => by
  rcases h a with hp | ⟨ts, h1, h2⟩
  · exact .inl hp
  · exact .inr ⟨ts, h1, k ts h2⟩
theorem kd_no {e : Int} {u : Tk} {q : List Tk} (h : u.k = 1 ∨ u.k = 3 ∨ u.k = 4 ∨ u.k = 5) : kdK e (u :: q) [2] = false := by
  unfold kdK nx; rw [List.headD_cons]
  rcases h with h | h | h | h <;> rw [h] <;> rfl
theorem bad_fun {e x : Int} {u : Tk} {q : List Tk} (h : kdK e (u :: q) [2] = false) : programP e (⟨4, [102, 117, 110], 0, x⟩ :: u :: q) = .bad u.a 3 := by
  have h1 : namesP e 1 [] (u :: q) = .bad u.a 3 := by unfold namesP wordP; rw [h]; rfl
  obtain ⟨ex, hex⟩ : ∃ ex, ex = exprP e 200 := ⟨_, rfl⟩
  have h2 : exprP e 201 (⟨4, [102, 117, 110], 0, x⟩ :: u :: q) = (namesP e 1 [] (u :: q)).bind fun l us => (kidsP e ex [arB] [] us).bind fun ks us => .ok (.mk 5 x (l.getD 0 E0B) E0B 0 ks []) us := by
    rw [exprP, show exprP e 200 = ex from hex.symm]; kernel_rfl
  rw [h1] at h2
  have h3 : isK e (⟨4, [102, 117, 110], 0, x⟩ :: u :: q) [effW0, datW0] = false := by kernel_rfl
  simp only [programP, declP, h3, cond_false, PR.bind_ok, h2, PR.bind_bad]
theorem bad_eff {e x y z : Int} {u : Tk} {q : List Tk} (h : kdK e (u :: q) [2] = false) (hc : isK e (u :: q) [cB] = false) : programP e (⟨4, [101, 102, 102, 101, 99, 116], 0, x⟩ :: ⟨3, [69], 0, y⟩ :: ⟨5, [123], 0, z⟩ :: u :: q) = .bad u.a 3 := by
  have h1 : opP e [] (u :: q) = .bad u.a 3 := by unfold opP wordP; rw [h]; rfl
  have h2 : effP e (⟨4, [101, 102, 102, 101, 99, 116], 0, x⟩ :: ⟨3, [69], 0, y⟩ :: ⟨5, [123], 0, z⟩ :: u :: q) = (listL e smB cB (opP e) (q.length + 2) true [] (u :: q)).bind fun l us => .ok ⟨bs [69], l⟩ us := by kernel_rfl
  rw [listL, hc] at h2
  simp only [cond_false, cond_true, PR.bind_ok, h1, PR.bind_bad] at h2
  have h3 : declP e ((⟨4, [101, 102, 102, 101, 99, 116], 0, x⟩ :: ⟨3, [69], 0, y⟩ :: ⟨5, [123], 0, z⟩ :: u :: q : List Tk).length + 1) [] [] (⟨4, [101, 102, 102, 101, 99, 116], 0, x⟩ :: ⟨3, [69], 0, y⟩ :: ⟨5, [123], 0, z⟩ :: u :: q) = (effP e (⟨4, [101, 102, 102, 101, 99, 116], 0, x⟩ :: ⟨3, [69], 0, y⟩ :: ⟨5, [123], 0, z⟩ :: u :: q)).bind fun x us => declP e (q.length + 4) [x] [] us := by kernel_rfl
  rw [h2] at h3
  simp only [programP, h3, PR.bind_bad]
def Nn (ts : List Tk) : Prop := ∃ u q, ts = u :: q ∧ ∀ e, kdK e (u :: q) [2] = false ∧ isK e (u :: q) [cB] = false
theorem no_name {s r : List UInt8} (hn : ∀ c ∈ s, nameB c = true) (h : smallB s = false) (hr : LxE (32 :: r) Nn) : LxE (s ++ (32 :: r)) Nn := by
  cases s with
  | nil => exact hr
  | cons c w =>
    refine (LxE.no hn (Stop.sp _) h).mono fun ts h => ?_
    obtain ⟨u, q, rfl, hk⟩ := h
    refine ⟨u, q, rfl, fun e => ⟨kd_no ?_, ?_⟩⟩
    · rcases hk with hk | hk | hk
      · exact .inl hk
      · exact .inr (.inl hk)
      · exact .inr (.inr (.inl hk.1))
    · unfold isK nx
      rw [List.headD_cons]
      rcases hk with hk | hk | ⟨hk, ht⟩
      · rw [hk]; rfl
      · rw [hk]; rfl
      · rw [ht]
        have : memB (bs (c :: w)) [cB] = false := by
          cases hm : memB (bs (c :: w)) [cB] with
          | false => rfl
          | true =>
            exfalso
            have h1 : bs (c :: w) = bs [125] := List.mem_singleton.1 (memB_iff.1 hm)
            have h2 := bs_inj.1 h1
            have h3 := hn c List.mem_cons_self
            injection h2 with h4 h5
            rw [h4] at h3; revert h3; decide
        rw [this, Bool.and_false]
theorem src_no {s : List UInt8} (hn : ∀ c ∈ s, nameB c = true) (hl : s.length ≤ 70) (h : smallB s = false) : (parseR (src1 s)).2.2 ≠ 0 ∧ (parseR (src2 s)).2.2 ≠ 0 := by
  constructor
  · have e : src1 s = [102, 117, 110] ++ (32 :: (s ++ (32 :: [45, 62, 32, 48]))) := by unfold src1; simp
    have h1 : LxE (src1 s) (fun ts => ∃ x u q, ts = ⟨4, [102, 117, 110], 0, x⟩ :: u :: q ∧ ∀ e, kdK e (u :: q) [2] = false ∧ isK e (u :: q) [cB] = false) := by
      rw [e]
      refine LxE.word (k := 4) (n := 0) (LxE.sp ((no_name hn h (lx_t1.toE.mono fun ts h => ?_)).mono fun ts h x => ?_)) (by kernel_rfl) (by decide) (by kernel_rfl)
      · obtain ⟨a, b, rfl⟩ := h
        exact ⟨_, _, rfl, fun e => ⟨by kernel_rfl, by kernel_rfl⟩⟩
      · obtain ⟨u, q, rfl, hk⟩ := h
        exact ⟨x, u, q, rfl, hk⟩
    refine h1.fails (by unfold src1; simp only [List.length_append, List.length_cons, List.length_nil]; omega) fun e ts h => ?_
    obtain ⟨x, u, q, rfl, hk⟩ := h
    exact ⟨_, bad_fun (hk e).1⟩
  · have e : src2 s = [101, 102, 102, 101, 99, 116] ++ (32 :: ([69] ++ (32 :: ([123] ++ (32 :: (s ++ (32 :: [58, 32, 105, 110, 116, 32, 45, 62, 32, 69, 32, 125, 32, 48]))))))) := by unfold src2; simp
    have h1 : LxE (src2 s) (fun ts => ∃ x y z u q, ts = ⟨4, [101, 102, 102, 101, 99, 116], 0, x⟩ :: ⟨3, [69], 0, y⟩ :: ⟨5, [123], 0, z⟩ :: u :: q ∧ ∀ e, kdK e (u :: q) [2] = false ∧ isK e (u :: q) [cB] = false) := by
      rw [e]
      refine LxE.word (k := 4) (n := 0) (LxE.sp (LxE.word (k := 3) (n := 0) (LxE.sp (LxE.word (k := 5) (n := 0) (LxE.sp ((no_name hn h (lx_t2.toE.mono fun ts h => ?_)).mono fun ts h z y x => ?_)) (by kernel_rfl) (by decide) (by kernel_rfl))) (by kernel_rfl) (by decide) (by kernel_rfl))) (by kernel_rfl) (by decide) (by kernel_rfl)
      · obtain ⟨a, b, c, d, e, f, rfl⟩ := h
        exact ⟨_, _, rfl, fun e => ⟨by kernel_rfl, by kernel_rfl⟩⟩
      · obtain ⟨u, q, rfl, hk⟩ := h
        exact ⟨x, y, z, u, q, rfl, hk⟩
    refine h1.fails (by unfold src2; simp only [List.length_append, List.length_cons, List.length_nil]; omega) fun e ts h => ?_
    obtain ⟨x, y, z, u, q, rfl, hk⟩ := h
    exact ⟨_, bad_eff (hk e).1 (hk e).2⟩
end Go.Proofs.Ytkjmjnddanhapaa
