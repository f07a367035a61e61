/-
  A program's text is read as its words, where the program is not too large. Plain lemmas; no condition beyond those that stand in each statement.
-/
import Derived.Test.YtkclecfbjfdfkaaGreatDoorP11
namespace Go.Proofs.YtkclecfbjfdfkaaGreatDoor
open Go.RowKit

theorem has_noname {k n : Int} {nm pm : ByteArray} {nk na : Nat} {kids : Int} {param arms : Bool} (h : hasB k nm pm n nk na kids 0 param arms = true) : nm.size = 0 := by
  unfold hasB at h
  simp only [Bool.and_eq_true, Bool.not_eq_true', Bool.or_eq_false_iff, Bool.and_eq_false_iff, Bool.not_eq_false', decide_eq_true_eq, decide_eq_false_iff_not] at h
  rcases h.2.1.1 with h | h
  · exact absurd trivial h
  · rw [h]; rfl
theorem has_noparam {k n : Int} {nm pm : ByteArray} {nk na : Nat} {kids name : Int} {arms : Bool} (h : hasB k nm pm n nk na kids name false arms = true) : pm.size = 0 := by
  unfold hasB at h
  simp only [Bool.and_eq_true, Bool.not_eq_true', Bool.or_eq_false_iff, Bool.and_eq_false_iff, Bool.not_eq_false'] at h
  have h := h.2.2.1.1
  simp at h
  rw [h]; rfl
theorem right_sm {t : Tm} (h : rightB t = true) : t.nm.size ≤ 60 ∧ t.pm.size ≤ 60 := by
  have hN := right_n h
  have hf := right_f h
  have hlo := hf.lo
  have hhi := hf.hi
  rw [rightB_eq] at h
  simp only [Bool.and_eq_true] at h
  have h := h.1.1
  by_cases e10 : t.k = 10
  · have h2 := (op_word (s := t.nm) (by have := hf.k10 e10; omega)).2
    simp [aloneB, e10] at h
    exact ⟨by omega, by rw [has_noparam h]; omega⟩
  by_cases e8 : t.k = 8
  · exact ⟨nm_le (hN.n2 (by simp [e8])) (.inl rfl), nm_le (hN.p8 e8) (.inl rfl)⟩
  have hs : t.k = 1 ∨ t.k = 2 ∨ t.k = 3 ∨ t.k = 4 ∨ t.k = 5 ∨ t.k = 6 ∨ t.k = 7 ∨ t.k = 9 ∨ t.k = 11 ∨ t.k = 12 ∨ t.k = 13 ∨ t.k = 14 := by omega
  rcases hs with e | e | e | e | e | e | e | e | e | e | e | e <;> simp [aloneB, e] at h
  · exact ⟨nm_le (hN.n2 (by simp [e])) (.inl rfl), by rw [has_noparam h]; omega⟩
  · exact ⟨by rw [has_noname h.1]; omega, by rw [has_noparam h.1]; omega⟩
  · exact ⟨by rw [has_noname h.1]; omega, by rw [has_noparam h.1]; omega⟩
  · exact ⟨by rw [has_noname h]; omega, by rw [has_noparam h]; omega⟩
  · exact ⟨nm_le (hN.n2 (by simp [e])) (.inl rfl), by rw [has_noparam h]; omega⟩
  · exact ⟨by rw [has_noname h]; omega, by rw [has_noparam h]; omega⟩
  · exact ⟨nm_le (hN.n2 (by simp [e])) (.inl rfl), by rw [has_noparam h]; omega⟩
  · exact ⟨by rw [has_noname h]; omega, by rw [has_noparam h]; omega⟩
  · exact ⟨nm_le (hN.n3 (by simp [e])) (.inr rfl), by rw [has_noparam h]; omega⟩
  · exact ⟨by rw [has_noname h.1]; omega, by rw [has_noparam h.1]; omega⟩
  · exact ⟨nm_le (hN.n2 (by simp [e])) (.inl rfl), by rw [has_noparam h]; omega⟩
  · exact ⟨nm_le (hN.n3 (by simp [e])) (.inr rfl), by rw [has_noparam h.1.1]; omega⟩
theorem arm_sm {t : Tm} (h : rightB t = true) {a : Am} (ha : a ∈ t.arms) : a.nm.size ≤ 60 ∧ ∀ s ∈ a.vars, s.size ≤ 60 := by
  refine ⟨?_, fun s hs => nm_le (vars_n (right_arm h ha).1 s hs) (.inl rfl)⟩
  have hN := right_n h
  have hf := right_f h
  have hlo := hf.lo
  have hhi := hf.hi
  by_cases e12 : t.k = 12
  · exact nm_le (hN.a12 e12 a ha) (.inr rfl)
  by_cases e14 : t.k = 14
  · rcases hN.a14 e14 a ha with e | e
    · rw [e]; decide
    · exact nm_le e (.inl rfl)
  exfalso
  rw [rightB_eq] at h
  simp only [Bool.and_eq_true] at h
  have hq := h.1.1
  have key : ∀ {nm : ByteArray} {kids name : Int} {param : Bool}, hasT t nm kids name param false = true → t.arms.length = 0 := fun {nm kids name param} h => by
    unfold hasT hasB at h
    simp only [Bool.and_eq_true, Bool.not_eq_true', Bool.or_eq_false_iff, Bool.not_eq_false', decide_eq_true_eq, Bool.not_false, Bool.and_true, decide_eq_false_iff_not] at h
    omega
  have hno : t.arms.length = 0 := by
    have hs : t.k = 1 ∨ t.k = 2 ∨ t.k = 3 ∨ t.k = 4 ∨ t.k = 5 ∨ t.k = 6 ∨ t.k = 7 ∨ t.k = 8 ∨ t.k = 9 ∨ t.k = 10 ∨ t.k = 11 ∨ t.k = 13 := by omega
    rcases hs with e | e | e | e | e | e | e | e | e | e | e | e <;> simp [aloneB, e] at hq
    all_goals first | exact key hq | exact key hq.1
  rw [List.length_eq_zero_iff.1 hno] at ha; cases ha
theorem smL_of : ∀ {l : List Tm}, (∀ u ∈ l, smT u) → smL l
  | [], _ => by rw [smL]; trivial
  | a :: r, h => by rw [smL]; exact ⟨h a (by simp), smL_of fun u hu => h u (List.mem_cons_of_mem _ hu)⟩
theorem smA_of : ∀ {l : List Am}, (∀ a ∈ l, a.nm.size ≤ 60 ∧ (∀ s ∈ a.vars, s.size ≤ 60) ∧ smT a.body) → smA l
  | [], _ => by rw [smA]; trivial
  | .mk cs nm vv vars body :: r, h => by rw [smA]; exact ⟨h (.mk cs nm vv vars body) (by simp), smA_of fun u hu => h u (List.mem_cons_of_mem _ hu)⟩
theorem sm_all : ∀ (n : Nat) (t : Tm), wtT t = n → szT t → rightB t = true → smT t := by
  intro n
  induction n using Nat.strongRecOn with
  | _ n ih =>
    intro t hn hz hr
    have hz' := (szT_eq t).1 hz
    have hf := right_f hr
    rw [smT_eq]
    refine ⟨(right_sm hr).1, (right_sm hr).2, fun e => (itoa_word (hf.n2 e) hz'.2.2.2).2, smL_of fun u hu => ?_, smA_of fun a ha => ⟨(arm_sm hr ha).1, (arm_sm hr ha).2, ?_⟩⟩
    · exact ih (wtT u) (by have := wt_kid hu; omega) u rfl (sz_kid hz hu) (right_kid hr hu)
    · exact ih (wtT a.body) (by have := wt_arm ha; omega) a.body rfl (sz_arm hz ha).2.2.2 (right_arm hr ha).2
-- ------------------------------------------------------------------ declarations
/-- Is a program not too large? -/
structure SmallP (p : Pr) : Prop where
  effs : p.effs.length ≤ 20
  dats : p.dats.length ≤ 20
  ops : ∀ e ∈ p.effs, e.ops.length ≤ 20
  cons : ∀ d ∈ p.dats, d.cons.length ≤ 20
  fields : ∀ d ∈ p.dats, ∀ c ∈ d.cons, c.fields.length ≤ 20
  body : cntT p.body ≤ 2000
theorem typ_word {t : Ty} (h : noTy t = false) : WordOk (typW t) ∧ (typW t).size ≤ 60 := by
  have hr := ty_range h
  unfold typW
  by_cases h4 : t.k = 4
  · rw [if_pos h4]
    unfold noTy at h
    rw [decide_eq_true h4, cond_true] at h
    simp only [Bool.or_eq_false_iff, Bool.not_eq_false'] at h
    exact ⟨nm_word h.2 (by decide), nm_le h.2 (.inr rfl)⟩
  · rw [if_neg h4]
    have := hr h4
    have hs : t.k = 1 ∨ t.k = 2 ∨ t.k = 3 := by omega
    rcases hs with e | e | e <;> rw [e] <;> exact ⟨lit (by decide +kernel), by decide⟩
theorem op_wo {s : Op} (h1 : nmB 2 s.nm = true) (h2 : noTy s.arg = false) (h3 : noTy s.res = false) : Wo (opW s) ∧ wl (opW s) ≤ 188 := by
  have a := typ_word h2
  have b := typ_word h3
  have c := nm_le h1 (.inl rfl)
  refine ⟨Wo.cons (nm_word h1 (by decide)) (Wo.lit (by decide +kernel) (Wo.cons a.1 (Wo.lit (by decide +kernel) (Wo.cons b.1 Wo.nil)))), ?_⟩
  have e1 : ((⟨#[58]⟩ : ByteArray)).size = 1 := rfl
  have e2 : ((⟨#[45, 62]⟩ : ByteArray)).size = 2 := rfl
  unfold opW
  simp only [wl, e1, e2]; omega
theorem sumR_le {l : List (List ByteArray)} {c : Nat} (h : ∀ x ∈ l, wl x ≤ c) : sumR l ≤ l.length * (c + 2) := by
  induction l with
  | nil => simp [sumR]
  | cons y r ih =>
    have h1 := h y List.mem_cons_self
    have h2 := ih fun x hx => h x (List.mem_cons_of_mem _ hx)
    rw [sumR, List.length_cons, Nat.add_mul]; omega
theorem rows_bt {α : Type} (l : List α) (f : α → List ByteArray) {c : Nat} (hl : l.length ≤ 20) (h : ∀ x ∈ l, Wo (f x) ∧ wl (f x) ≤ c) : Wo (btN (⟨#[59]⟩ : ByteArray) (fun i => (l.map f).getD i []) l.length) ∧ wl (btN (⟨#[59]⟩ : ByteArray) (fun i => (l.map f).getD i []) l.length) ≤ 20 * (c + 2) := by
  refine ⟨Wo.bt (by decide +kernel) (wo_getD fun x hx => by obtain ⟨a, ha, rfl⟩ := List.mem_map.1 hx; exact (h a ha).1) _, ?_⟩
  have h1 := bt_rows (sep := (⟨#[59]⟩ : ByteArray)) (by decide) (l.map f) l.length (by simp)
  rw [List.take_of_length_le (by simp)] at h1
  have h2 := sumR_le (l := l.map f) (c := c) fun x hx => by obtain ⟨a, ha, rfl⟩ := List.mem_map.1 hx; exact (h a ha).2
  rw [List.length_map] at h2
  have h3 : l.length * (c + 2) ≤ 20 * (c + 2) := Nat.mul_le_mul_right _ hl
  omega
theorem eff_wo {p : Pr} (h : RightB p = true) (hs : SmallP p) {x : Eff} (hx : x ∈ p.effs) : Wo (effW' x) ∧ wl (effW' x) ≤ 3872 := by
  obtain ⟨h1, h2⟩ := right_eff h x hx
  obtain ⟨h3, h4⟩ := rows_bt x.ops opW (c := 188) (hs.ops x hx) fun o ho => op_wo (h2 o ho).1 (h2 o ho).2.1 (h2 o ho).2.2
  have c := nm_le h1 (.inr rfl)
  have e1 : ((⟨#[101, 102, 102, 101, 99, 116]⟩ : ByteArray)).size = 6 := rfl
  have e2 : ((⟨#[123]⟩ : ByteArray)).size = 1 := rfl
  have e3 : ((⟨#[125]⟩ : ByteArray)).size = 1 := rfl
  unfold effW'
  refine ⟨Wo.app (Wo.app (Wo.lit (by decide +kernel) (Wo.cons (nm_word h1 (by decide)) (Wo.lit (by decide +kernel) Wo.nil))) h3) (Wo.lit (by decide +kernel) Wo.nil), ?_⟩
  simp only [wl_app, wl, e1, e2, e3]; omega
theorem dat_wo {p : Pr} (h : RightB p = true) (hs : SmallP p) {d : Dat} (hd : d ∈ p.dats) : Wo (datW' d) ∧ wl (datW' d) ≤ 25730 := by
  obtain ⟨h1, h2⟩ := right_dat h d hd
  obtain ⟨h3, h4⟩ := rows_bt d.cons cnW' (c := 1281) (hs.cons d hd) fun k hk => by
    obtain ⟨h5, h6⟩ := h2 k hk
    have h7 : ∀ y ∈ k.fields.map typW, y.size ≤ 60 := fun y hy => by obtain ⟨t, ht, rfl⟩ := List.mem_map.1 hy; exact (typ_word (h6 t ht)).2
    have h8 := wl_all h7
    rw [List.length_map] at h8
    have h9 := hs.fields d hd k hk
    have h10 := nm_le h5 (.inr rfl)
    unfold cnW'
    refine ⟨Wo.app (Wo.cons (nm_word h5 (by decide)) Wo.nil) fun y hy => by obtain ⟨t, ht, rfl⟩ := List.mem_map.1 hy; exact (typ_word (h6 t ht)).1, ?_⟩
    simp only [wl_app, wl]; omega
  have c := nm_le h1 (.inr rfl)
  have e1 : ((⟨#[100, 97, 116, 97]⟩ : ByteArray)).size = 4 := rfl
  have e2 : ((⟨#[123]⟩ : ByteArray)).size = 1 := rfl
  have e3 : ((⟨#[125]⟩ : ByteArray)).size = 1 := rfl
  unfold datW'
  refine ⟨Wo.app (Wo.app (Wo.lit (by decide +kernel) (Wo.cons (nm_word h1 (by decide)) (Wo.lit (by decide +kernel) Wo.nil))) h3) (Wo.lit (by decide +kernel) Wo.nil), ?_⟩
  simp only [wl_app, wl, e1, e2, e3]; omega
theorem flat_wo {α : Type} (l : List α) (f : α → List ByteArray) {c : Nat} (hl : l.length ≤ 20) (h : ∀ x ∈ l, Wo (f x) ∧ wl (f x) ≤ c) : Wo (l.flatMap f) ∧ wl (l.flatMap f) ≤ 20 * c := by
  refine ⟨fun y hy => by obtain ⟨x, hx, hy⟩ := List.mem_flatMap.1 hy; exact (h x hx).1 y hy, ?_⟩
  have key : wl (l.flatMap f) ≤ l.length * c := by
    clear hl
    induction l with
    | nil => simp [wl]
    | cons a l ih =>
      have h1 := (h a List.mem_cons_self).2
      have h2 := ih fun x hx => h x (List.mem_cons_of_mem _ hx)
      rw [List.flatMap_cons, wl_app, List.length_cons, Nat.add_mul]; omega
  have : l.length * c ≤ 20 * c := Nat.mul_le_mul_right _ hl
  omega
theorem print_wo {p : Pr} (h : RightB p = true) (hz : SzP p) (hs : SmallP p) : Wo (printW p) ∧ wl (printW p) ≤ 1032000 := by
  obtain ⟨h1, h2⟩ := flat_wo p.effs effW' (c := 3872) hs.effs fun x hx => eff_wo h hs hx
  obtain ⟨h3, h4⟩ := flat_wo p.dats datW' (c := 25730) hs.dats fun x hx => dat_wo h hs hx
  have hr := written_right (right_body h)
  have h5 := words_w _ p.body rfl hz.body hr
  have h6 := (wlT p.body (sm_all _ p.body rfl hz.body hr)).1
  have h7 := hs.body
  unfold printW declW
  refine ⟨Wo.app (Wo.app h1 h3) h5.1, ?_⟩
  rw [wl_app, wl_app]
  have : wl (exprW p.body) + 70 ≤ 220 * cntT p.body := h6
  omega
-- ------------------------------------------------------------------ as Lex reads it
theorem toks_of : ∀ {ws : List ByteArray}, Wo ws → ∃ ts : List Tk, (∀ t ∈ ts, Wd t) ∧ ts.map textW = ws.map byt
  | [], _ => ⟨[], (fun _ h => by cases h), rfl⟩
  | x :: r, h => by
    obtain ⟨t, h1, h2⟩ := h x List.mem_cons_self
    obtain ⟨ts, h3, h4⟩ := toks_of (ws := r) fun y hy => h y (List.mem_cons_of_mem _ hy)
    refine ⟨t :: ts, fun u hu => ?_, by rw [List.map_cons, List.map_cons, h2, h4]⟩
    rcases List.mem_cons.1 hu with rfl | hu
    · exact h1
    · exact h3 u hu
theorem text_strip (ts : List Tk) : (strip ts).map textW = ts.map textW := by
  unfold strip
  rw [List.map_map]; rfl
theorem lex_words {ws : List ByteArray} (h : Wo ws) (hl : wl ws ≤ 1048576) (hne : ws ≠ []) :
    lexE (joinL ws) = 0 ∧ textL (lexT (joinL ws)) = joinL ws ∧ lexT (joinL ws) ≠ [] ∧ (lexT (joinL ws)).length ≤ 1048576 ∧ (∀ t ∈ lexT (joinL ws), t.t.length ≤ 1048576) ∧ (joinL ws).length ≤ 1048576 := by
  have hj := join_wl ws
  obtain ⟨ts, h1, h2⟩ := toks_of h
  obtain ⟨ts', h3, h4⟩ := lex_text ts h1 0
  have e : textL ts = joinL ws := by unfold textL joinL; rw [h2]
  rw [e] at h3
  obtain ⟨h5, _, h6⟩ := lex_ok (by omega) h3
  have h7 : ts'.map textW = ws.map byt := by rw [← text_strip, h4, text_strip, h2]
  have h8 : ts'.length = ws.length := by have := congrArg List.length h7; simpa using this
  have h9 := wl_len ws
  refine ⟨h6, ?_, ?_, ?_, ?_, by omega⟩
  · rw [h5]; unfold textL; rw [h7]; rfl
  · rw [h5]; intro hn; rw [hn] at h8; exact hne (List.length_eq_zero_iff.1 h8.symm)
  · rw [h5]; omega
  · rw [h5]
    intro t ht
    have h10 : textW t ∈ ws.map byt := by rw [← h7]; exact List.mem_map.2 ⟨t, ht, rfl⟩
    obtain ⟨x, hx, hx'⟩ := List.mem_map.1 h10
    have h11 := wl_mem hx
    have h12 : (byt x).length = x.size := by cases x; simp [byt, ByteArray.size]
    have h13 : t.t.length ≤ (textW t).length := by unfold textW; split <;> simp
    rw [← hx', h12] at h13; omega
theorem print_words {p : Pr} (h : RightB p = true) (hz : SzP p) (hs : SmallP p) :
    lexE (printL p) = 0 ∧ textL (lexT (printL p)) = printL p ∧ lexT (printL p) ≠ [] ∧ (lexT (printL p)).length ≤ 1048576 ∧ (∀ t ∈ lexT (printL p), t.t.length ≤ 1048576) ∧ (printL p).length ≤ 1048576 := by
  obtain ⟨h1, h2⟩ := print_wo h hz hs
  have e : printL p = joinL (printW p) := by unfold printL; rw [if_pos h]
  rw [e]
  refine lex_words h1 (by omega) fun hn => ?_
  unfold printW at hn
  exact exprW_ne (written_right (right_body h)) (List.append_eq_nil_iff.1 hn).2
-- ------------------------------------------------------------------ what large counts
theorem cntL_app (a b : List Tm) : cntL (a ++ b) = cntL a + cntL b := by
  induction a with
  | nil => simp [cntL]
  | cons x r ih => rw [List.cons_append, cntL, cntL, ih]; omega
theorem cntA_app (a b : List Am) : cntA (a ++ b) = cntA a + cntA b := by
  induction a with
  | nil => simp [cntA]
  | cons x r ih => cases x; rw [List.cons_append, cntA, cntA, ih]; omega
theorem cntL_next {l : List Tm} {k : Nat} {u : Tm} (hu : l[k]? = some u) : cntL (l.take (k + 1)) = cntL (l.take k) + cntT u := by
  rw [take_snoc hu, cntL_app]; simp [cntL]
theorem cntA_next {l : List Am} {k : Nat} {u : Am} (hu : l[k]? = some u) : cntA (l.take (k + 1)) = cntA (l.take k) + (u.vars.length + cntT u.body) := by
  rw [take_snoc hu, cntA_app]; cases u; simp [cntA, Am.vars, Am.body]
theorem take_next {α : Type} {p : α → Prop} {l : List α} {k : Nat} {x : α} (hx : l[k]? = some x) (h : ∀ y ∈ l.take k, p y) (hp : p x) : ∀ y ∈ l.take (k + 1), p y := fun y hy => by
  rw [take_snoc hx] at hy
  rcases List.mem_append.1 hy with hy | hy
  · exact h y hy
  · rw [List.mem_singleton] at hy; rw [hy]; exact hp
end Go.Proofs.YtkclecfbjfdfkaaGreatDoor
