/-
  A term with other kids and arms, each right where the old one was. Plain definitions and lemmas; no condition.
-/
import Derived.Test.YtkclfcdppnlkbaaS10
namespace Go.Proofs.Ytkclfcdppnlkbaa
open Go.RowKit

def relL {α β : Type} (R : α → β → Prop) : List α → List β → Prop
  | [], [] => True
  | a :: l, b :: m => R a b ∧ relL R l m
  | _, _ => False
theorem relL_snoc {α β : Type} {R : α → β → Prop} : ∀ {l : List α} {m : List β} {a : α} {b : β}, relL R l m → R a b → relL R (l ++ [a]) (m ++ [b]) := by
  intro l
  induction l with
  | nil => intro m a b h k; cases m with | nil => exact ⟨k, trivial⟩ | cons _ _ => cases h
  | cons x l ih => intro m a b h k; cases m with | nil => cases h | cons y m => exact ⟨h.1, ih h.2 k⟩
theorem relL_len {α β : Type} {R : α → β → Prop} : ∀ {l : List α} {m : List β}, relL R l m → l.length = m.length := by
  intro l
  induction l with
  | nil => intro m h; cases m with | nil => rfl | cons _ _ => cases h
  | cons x l ih => intro m h; cases m with | nil => cases h | cons y m => simp [ih h.2]
theorem relL_mem {α β : Type} {R : α → β → Prop} : ∀ {l : List α} {m : List β} {b : β}, relL R l m → b ∈ m → ∃ a ∈ l, R a b := by
  intro l
  induction l with
  | nil => intro m b h hb; cases m with | nil => cases hb | cons _ _ => cases h
  | cons x l ih =>
    intro m b h hb
    cases m with
    | nil => cases h
    | cons y m =>
      rcases List.mem_cons.1 hb with e | e
      · exact ⟨x, by simp, e ▸ h.1⟩
      · obtain ⟨a, ha, hr⟩ := ih h.2 e; exact ⟨a, List.mem_cons_of_mem _ ha, hr⟩
/-- A term in the place of another: right where that was, no larger, in its blocks or in new ones. -/
def PutT (s : Nat) (u u' : Tm) : Prop := (∀ p, shapeT p u = true → shapeT p u' = true) ∧ wtT u' ≤ wtT u ∧ ∀ b, tmBlk u' b → tmBlk u b ∨ s ≤ b
def ArmT (s : Nat) (a a' : Am) : Prop := a'.nm = a.nm ∧ a'.vars = a.vars ∧ PutT s a.body a'.body ∧ ∀ b, amBlk a' b → amBlk a b ∨ s ≤ b
theorem PutT.refl (s : Nat) (u : Tm) : PutT s u u := ⟨fun _ h => h, Nat.le_refl _, fun _ h => .inl h⟩
theorem ArmT.refl (s : Nat) (u : Am) : ArmT s u u := ⟨rfl, rfl, PutT.refl s _, fun _ h => .inl h⟩
theorem PutT.mono {s s' : Nat} {u u' : Tm} (h : PutT s u u') (hs : s' ≤ s) : PutT s' u u' := ⟨h.1, h.2.1, fun b hb => (h.2.2 b hb).imp id (Nat.le_trans hs)⟩
theorem PutT.base {s : Nat} {w : World} {u u' : Tm} (h : PutT s u u') (hu : TmOk w u) : ∀ b, tmBlk u' b → b < w.heap.size ∨ s ≤ b := fun b hb => (h.2.2 b hb).imp (tm_lt _ _ hu) id
def Am.withBody (a : Am) (b : Tm) : Am := .mk (splice a.cs 2 b.cs) a.nm a.vv a.vars b
theorem ArmT.withBody {s : Nat} {a : Am} {b : Tm} (h : PutT s a.body b) : ArmT s a (a.withBody b) := ⟨rfl, rfl, h, fun g hg => by
  rw [amBlk_eq] at hg ⊢
  rcases hg with h1 | h1
  · exact .inl (.inl h1)
  · exact (h.2.2 g h1).imp .inr id⟩
theorem splice21 {cs b : Array Value} (hs : cs.size = 23) (hb : b.size = 21) : splice cs 2 b = (cs.toList.take 2 ++ b.toList).toArray := by
  unfold splice
  rw [show cs.toList.drop (2 + b.size) = [] by simp; omega, List.append_nil]
theorem AmOk.withBody {w : World} {a : Am} {b : Tm} (h : AmOk w a) (hb : TmOk w b) : AmOk w (a.withBody b) := by
  have hs := h.size
  have hbs := hb.size
  have e := splice21 hs hbs
  have hl : (a.cs.toList.take 2).length = 2 := by simp; omega
  refine .mk ⟨?_, ?_, ?_, ?_, h.varsAt, ?_⟩ hb
  · show (splice a.cs 2 b.cs).size = 23
    rw [e]; simp; omega
  · show (splice a.cs 2 b.cs).all (·.oneCell') = true
    rw [e, List.all_toArray, List.all_append, Bool.and_eq_true]
    have h1 := h.one
    have h2 := hb.one
    rw [← Array.toArray_toList (xs := a.cs), List.all_toArray] at h1
    rw [← Array.toArray_toList (xs := b.cs), List.all_toArray] at h2
    refine ⟨List.all_eq_true.2 fun x hx => List.all_eq_true.1 h1 x (List.mem_of_mem_take hx), h2⟩
  · show (splice a.cs 2 b.cs)[0]? = some (.string a.nm)
    rw [e, List.getElem?_toArray, List.getElem?_append_left (by omega), List.getElem?_take_of_lt (by omega)]
    have := h.c0; simpa using this
  · show (splice a.cs 2 b.cs)[1]? = some a.vv
    rw [e, List.getElem?_toArray, List.getElem?_append_left (by omega), List.getElem?_take_of_lt (by omega)]
    have := h.c1; simpa using this
  · show (splice a.cs 2 b.cs).extract 2 (2 + 21) = b.cs
    rw [e]
    apply Array.ext'
    simp only [List.extract_toArray, List.extract_eq_take_drop]
    rw [List.drop_append_of_le_length (by omega), show List.drop 2 (List.take 2 a.cs.toList) = [] from List.drop_eq_nil_of_le (by omega), List.nil_append, List.take_of_length_le (by simp; omega)]
theorem Xs.withBody {M : List (Option Nat)} {w w0 : World} {a : Am} {t : Tm} (h : Xs kTm M w [t]) (ha : AmOk w0 a) (hB : Below w0.heap.size w0 w) (hM : MOk w0.heap.size M) : Xs kAm M w [a.withBody t] := fun x hx => by
  obtain rfl := List.mem_singleton.1 hx
  refine ⟨(ha.keep hB).withBody h.one, fun b hb hm => ?_⟩
  have hb' : amBlk (a.withBody t) b := hb
  rw [amBlk_eq] at hb'
  rcases hb' with h1 | h1
  · have h2 : b < w0.heap.size := am_lt a b ha (by rw [amBlk_eq]; exact .inl h1)
    have := hM b hm
    omega
  · exact (h t (by simp)).2 b h1 hm

theorem set_size {cs : Array Value} {i n : Nat} {v : Value} (h : cs.size = n) : (cs.setIfInBounds i v).size = n := by simpa using h
def Tm.withKids (t : Tm) (kv : Value) (ks : List Tm) (av : Value) (ls : List Am) : Tm := .mk ((t.cs.setIfInBounds 5 kv).setIfInBounds 6 av) t.k t.at_ t.nm t.pm t.n kv av ks ls
section
variable {w : World} {t : Tm} {kv av kv' av' : Value} {ks ks' : List Tm} {ls ls' : List Am}
theorem withKids_size (h : t.cs.size = 21) : (t.withKids kv ks av ls).cs.size = 21 := by simp [Tm.withKids, Tm.cs] at h ⊢; exact h
theorem withKids_c5 (h : t.cs.size = 21) : (t.withKids kv ks av ls).cs[5]? = some kv := by
  show ((t.cs.setIfInBounds 5 kv).setIfInBounds 6 av)[5]? = some kv
  rw [Array.getElem?_setIfInBounds_ne (by decide)]; simp [h]
theorem withKids_c6 (h : t.cs.size = 21) : (t.withKids kv ks av ls).cs[6]? = some av := by
  show ((t.cs.setIfInBounds 5 kv).setIfInBounds 6 av)[6]? = some av
  simp [h]
theorem withKids_set5 (kv' : Value) (ks' : List Tm) : (t.withKids kv ks av ls).cs.setIfInBounds 5 kv' = (t.withKids kv' ks' av ls).cs := by
  show ((t.cs.setIfInBounds 5 kv).setIfInBounds 6 av).setIfInBounds 5 kv' = (t.cs.setIfInBounds 5 kv').setIfInBounds 6 av
  apply Array.ext'
  simp only [Array.toList_setIfInBounds]
  rw [List.set_comm _ _ (by decide), List.set_set]
theorem withKids_set6 (av' : Value) (ls' : List Am) : (t.withKids kv ks av ls).cs.setIfInBounds 6 av' = (t.withKids kv ks av' ls').cs := by
  show ((t.cs.setIfInBounds 5 kv).setIfInBounds 6 av).setIfInBounds 6 av' = (t.cs.setIfInBounds 5 kv).setIfInBounds 6 av'
  apply Array.ext'
  simp only [Array.toList_setIfInBounds]
  rw [List.set_set]
theorem TmOk.withKids (h : TmOk w t) (hk : RowsAt w kv 21 (ks.map Tm.cs)) (hks : ∀ u ∈ ks, TmOk w u) (ha : RowsAt w av 23 (ls.map Am.cs)) (has : ∀ u ∈ ls, AmOk w u) : TmOk w (t.withKids kv ks av ls) := by
  have hs := h.size
  have hn : ∀ i, i ≠ 5 → i ≠ 6 → (t.withKids kv ks av ls).cs[i]? = t.cs[i]? := fun i h5 h6 => by
    show ((t.cs.setIfInBounds 5 kv).setIfInBounds 6 av)[i]? = t.cs[i]?
    rw [Array.getElem?_setIfInBounds_ne (by omega), Array.getElem?_setIfInBounds_ne (by omega)]
  exact .mk ⟨withKids_size hs, all_set (all_set h.one hk.ok.one) ha.ok.one, (hn 0 (by decide) (by decide)).trans h.c0, (hn 1 (by decide) (by decide)).trans h.c1, (hn 2 (by decide) (by decide)).trans h.c2, (hn 3 (by decide) (by decide)).trans h.c3,
    (hn 4 (by decide) (by decide)).trans h.c4, withKids_c5 hs, withKids_c6 hs, hk, ha⟩ hks has
end
theorem OwnR.blk {α : Type} {T : TypeId} {sz : Nat} {f : α → Array Value} {w : World} {v : Value} {l : List α} (h : OwnR T sz f w v l) (hne : l ≠ []) : v.ownBlock = some (vBlock v) := by
  rcases h.2 with ⟨_, h0⟩ | ⟨g, cap, cur, rfl, _⟩
  · exact absurd (List.eq_nil_of_length_eq_zero h0) hne
  · rfl

-- ------------------------------------------------------------------ an arm's head is what counts
def armHd (a : Am) : ByteArray × List ByteArray := (a.nm, a.vars)
def hdArm' (o : Op) (x : ByteArray × List ByteArray) : Bool := match x.2 with | [a, b] => decide (x.1 = o.nm) && !decide (a = b) | _ => false
def armOk' (k : Cn) (x : ByteArray × List ByteArray) : Bool := (decide (k.nm = x.1) && decide ((k.fields.length : Int) = (x.2.length : Int))) && !twiceFrom [] x.2
theorem eq2_map {α β γ : Type} {p : α → β → Bool} {q : α → γ → Bool} {f : β → γ} (h : ∀ a b, p a b = q a (f b)) : ∀ (l : List α) (m : List β), eq2 p l m = eq2 q l (m.map f) := by
  intro l
  induction l with
  | nil => intro m; cases m <;> rfl
  | cons a l ih => intro m; cases m with | nil => rfl | cons b m => simp only [eq2, List.map_cons, h, ih]
theorem handlerOk_congr {effs : List Eff} {t t' : Tm} (hn : t'.nm = t.nm) (ha : t'.arms.map armHd = t.arms.map armHd) : handlerOk effs t' = handlerOk effs t := by
  have key : ∀ t : Tm, handlerOk effs t = match findHd effs t.nm with | none => false | some e => match t.arms.map armHd with | [] => false | a :: r => decide (a.1 = ret_) && decide (a.2.length = 1) && eq2 hdArm' e.ops r := by
    intro t
    unfold handlerOk
    cases findHd effs t.nm with
    | none => rfl
    | some e =>
      cases t.arms with
      | nil => rfl
      | cons a r => simp only [List.map_cons, eq2_map (p := hdArm) (q := hdArm') (f := armHd) (fun _ _ => rfl)]; rfl
  rw [key t', key t, hn, ha]
theorem matchOk_congr {dats : List Dat} {t t' : Tm} (ha : t'.arms.map armHd = t.arms.map armHd) : matchOk dats t' = matchOk dats t := by
  have key : ∀ t : Tm, matchOk dats t = match t.arms.map armHd with | [] => false | a :: r => match findCon dats a.1 with | none => false | some q => eq2 armOk' q.1.cons (a :: r) := by
    intro t
    unfold matchOk
    cases t.arms with
    | nil => rfl
    | cons a r =>
      simp only [List.map_cons]
      show (match findCon dats a.nm with | none => false | some q => _) = match findCon dats a.nm with | none => false | some q => _
      cases findCon dats a.nm with
      | none => rfl
      | some q => exact eq2_map (p := armOk) (q := armOk') (f := armHd) (fun _ _ => rfl) q.1.cons (a :: r)
  rw [key t', key t, ha]
theorem oneB_congr2 {p : Pr} {t t' : Tm} (hk : t'.k = t.k) (hn : t'.nm = t.nm) (hl : t'.kids.length = t.kids.length) (ha : t'.arms.map armHd = t.arms.map armHd) (b : List ByteArray) : oneB p t' b = oneB p t b := by
  have hal : t'.arms.length = t.arms.length := by have := congrArg List.length ha; simpa using this
  unfold oneB
  rw [hk, hn, hl, hal, handlerOk_congr hn ha, matchOk_congr ha]
theorem relL_hd {s : Nat} : ∀ {l m : List Am}, relL (ArmT s) l m → m.map armHd = l.map armHd := by
  intro l
  induction l with
  | nil => intro m h; cases m with | nil => rfl | cons _ _ => cases h
  | cons a l ih => intro m h; cases m with | nil => cases h | cons b m => simp only [List.map_cons, ih h.2, armHd, h.1.1, h.1.2.1]
theorem relL_shapeK {s : Nat} {p : Pr} : ∀ {l m : List Tm}, relL (PutT s) l m → shapeL p l = true → shapeL p m = true := by
  intro l
  induction l with
  | nil => intro m h _; cases m with | nil => rfl | cons _ _ => cases h
  | cons a l ih =>
    intro m h hs
    cases m with
    | nil => cases h
    | cons b m => rw [shapeL, Bool.and_eq_true] at hs ⊢; exact ⟨h.1.1 p hs.1, ih h.2 hs.2⟩
theorem relL_wtK {s : Nat} : ∀ {l m : List Tm}, relL (PutT s) l m → wtL m ≤ wtL l := by
  intro l
  induction l with
  | nil => intro m h; cases m with | nil => exact Nat.le_refl _ | cons _ _ => cases h
  | cons a l ih =>
    intro m h
    cases m with
    | nil => cases h
    | cons b m => rw [wtL, wtL]; have := h.1.2.1; have := ih h.2; omega
theorem relL_shapeA {s : Nat} {p : Pr} : ∀ {l m : List Am}, relL (ArmT s) l m → shapeA p l = true → shapeA p m = true := by
  intro l
  induction l with
  | nil => intro m h _; cases m with | nil => rfl | cons _ _ => cases h
  | cons a l ih =>
    intro m h hs
    cases m with
    | nil => cases h
    | cons b m =>
      cases a; cases b
      rw [shapeA, Bool.and_eq_true] at hs ⊢; exact ⟨h.1.2.2.1.1 p hs.1, ih h.2 hs.2⟩
theorem relL_wtA {s : Nat} : ∀ {l m : List Am}, relL (ArmT s) l m → wtA m ≤ wtA l := by
  intro l
  induction l with
  | nil => intro m h; cases m with | nil => exact Nat.le_refl _ | cons _ _ => cases h
  | cons a l ih =>
    intro m h
    cases m with
    | nil => cases h
    | cons b m =>
      have h1 := h.1.2.1
      have h2 := h.1.2.2.1.2.1
      have h3 := ih h.2
      cases a; cases b
      rw [wtA, wtA]
      simp only [Am.vars, Am.body] at h1 h2
      rw [h1]; omega
theorem PutT.withKids {s : Nat} {t : Tm} {kv av : Value} {ks : List Tm} {ls : List Am} (hk : relL (PutT s) t.kids ks) (ha : relL (ArmT s) t.arms ls) (hkv : ks ≠ [] → s ≤ vBlock kv) (hav : ls ≠ [] → s ≤ vBlock av) : PutT s t (t.withKids kv ks av ls) := by
  refine ⟨fun p h => ?_, ?_, fun b hb => ?_⟩
  · rw [shapeT_eq] at h ⊢
    simp only [Bool.and_eq_true] at h ⊢
    refine ⟨⟨?_, relL_shapeK hk h.1.2⟩, relL_shapeA ha h.2⟩
    have h0 := h.1.1
    have hkl : (t.withKids kv ks av ls).kids.length = t.kids.length := (relL_len hk).symm
    have hal : (t.withKids kv ks av ls).arms.length = t.arms.length := (relL_len ha).symm
    unfold one0 at h0 ⊢
    rw [hkl, hal, oneB_congr2 (t := t) (t' := t.withKids kv ks av ls) rfl rfl hkl (relL_hd ha)]
    exact h0
  · rw [wtT_eq, wtT_eq t]
    have h1 := relL_wtK hk
    have h2 := relL_wtA ha
    show 2 + wtL ks + wtA ls ≤ _
    omega
  · rw [tmBlk_eq] at hb
    rcases hb with ⟨h1, rfl⟩ | ⟨h1, rfl⟩ | ⟨u, hu, h1⟩ | ⟨u, hu, h1⟩
    · exact .inr (hkv h1)
    · exact .inr (hav h1)
    · obtain ⟨a, ha', hr⟩ := relL_mem hk hu
      exact (hr.2.2 b h1).imp (fun h2 => by rw [tmBlk_eq]; exact .inr (.inr (.inl ⟨a, ha', h2⟩))) id
    · obtain ⟨a, ha', hr⟩ := relL_mem ha hu
      exact (hr.2.2.2 b h1).imp (fun h2 => by rw [tmBlk_eq]; exact .inr (.inr (.inr ⟨a, ha', h2⟩))) id
theorem PutT.leaf (s : Nat) (t : Tm) (at_ : Int) (nm : ByteArray) : PutT s t (ownTm 1 at_ nm emp 0 (.slice none 0 0) []) := by
  refine ⟨fun p _ => ?_, ?_, fun b hb => ?_⟩
  · rw [shapeT_eq]
    simp [one0, ownTm, Tm.k, Tm.kids, Tm.arms, shapeL, shapeA]
  · have := wtT_two t
    simp only [ownTm, wtT, wtL, wtA]; omega
  · rw [tmBlk_eq] at hb
    simp [ownTm, Tm.kids, Tm.arms] at hb
end Go.Proofs.Ytkclfcdppnlkbaa
