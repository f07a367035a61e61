/-
  All terms that can be written; texts. Plain lemmas; no condition beyond those that stand in each statement.
-/
import Derived.Test.YtkclecfbjfdfkaaGreatDoorQ4
import Derived.Test.YtkclecfbjfdfkaaGreatDoorL5
namespace Go.Proofs.YtkclecfbjfdfkaaGreatDoor
open Go.RowKit

theorem writer_all (w0 : World) (b0 : Nat) (htab : Tab w0) : ∀ (n : Nat) (t : Tm), wtT t = n → TmOk w0 t → szT t → rightB t = true →
    ExC 25 w0 b0 t (exprW t) ∧ ExC 50 w0 b0 t (atomW t) := by
  intro n
  induction n using Nat.strongRecOn with
  | _ n ih =>
    intro t hn ht hz hright
    have hr := right_f hright
    have hz' := (szT_eq t).1 hz
    have hk : ∀ u ∈ t.kids, ExC 25 w0 b0 u (exprW u) ∧ ExC 50 w0 b0 u (atomW u) := fun u hu =>
      ih (wtT u) (by have := wt_kid hu; omega) u rfl (ht.kids u hu) (sz_kid hz hu) (right_kid hright hu)
    have hba : ∀ a ∈ t.arms, ExC 25 w0 b0 a.body (exprW a.body) := fun a ha =>
      (ih (wtT a.body) (by have := wt_arm ha; omega) a.body rfl (ht.arms a ha).body (sz_arm hz ha).2.2.2 (right_arm hright ha).2).1
    have hsim : t.k = 1 ∨ t.k = 2 ∨ t.k = 3 ∨ t.k = 4 ∨ t.k = 11 ∨ (t.k = 10 ∧ t.nm = (⟨#[114, 101, 97, 100]⟩ : ByteArray)) → ExC 50 w0 b0 t (atomW t) := fun hs v ls w hB hbg gO hb0 hO hl =>
      atom_gen b0 v ls w0 t w hB hbg gO hb0 hO ht hr hz'.2.2.2 htab (fun u hu => (hk u hu).1) (fun h1 h2 h3 h4 h5 h6 => by
        exfalso
        rcases hs with h | h | h | h | h | h
        · exact h1 h
        · exact h2 h
        · exact h3 h
        · exact h4 h
        · exact h6 h
        · exact h5 h) hl
    have hE : ExC 25 w0 b0 t (exprW t) := fun v ls w hB hbg gO hb0 hO hl =>
      expr_gen b0 v ls w0 t w hB hbg gO hb0 hO ht hr hz'.1 (fun u hu => (hk u hu).1) (fun u hu => (hk u hu).2) hba hsim hl
    exact ⟨hE, fun v ls w hB hbg gO hb0 hO hl => atom_gen b0 v ls w0 t w hB hbg gO hb0 hO ht hr hz'.2.2.2 htab (fun u hu => (hk u hu).1) (fun _ _ _ _ _ _ => hE) hl⟩
theorem expr_all {w0 : World} {b0 : Nat} {t : Tm} (htab : Tab w0) (ht : TmOk w0 t) (hz : szT t) (hr : rightB t = true) : ExC 25 w0 b0 t (exprW t) := (writer_all w0 b0 htab _ t rfl ht hz hr).1
theorem fields_next {ls : List ByteArray} {c : Cn} {k : Nat} {u : Ty} (hu : c.fields[k]? = some u) : ((ls ++ [c.nm]) ++ (c.fields.take k).map typW) ++ [typW u] = (ls ++ [c.nm]) ++ (c.fields.take (k + 1)).map typW := by
  rw [take_snoc hu]; simp
-- ------------------------------------------------------------------ texts
/-- The bytes of words with a blank between each two. -/
def joinL (ls : List ByteArray) : List UInt8 := Lib.join (ls.map byt) [32]
theorem join_len (ls : List ByteArray) (c : Nat) (h : ∀ x ∈ ls, x.size ≤ c) : (joinL ls).length ≤ ls.length * (c + 1) := by
  unfold joinL
  induction ls with
  | nil => exact Nat.zero_le _
  | cons x r ih =>
    have hx : (byt x).length ≤ c := by
      have := h x List.mem_cons_self
      have e : (byt x).length = x.size := by cases x; simp [byt, ByteArray.size]
      omega
    have ih' := ih fun y hy => h y (List.mem_cons_of_mem _ hy)
    cases r with
    | nil => simp [Lib.join, List.intercalate]; omega
    | cons y r =>
      have e : Lib.join ((x :: y :: r).map byt) [32] = byt x ++ 32 :: Lib.join ((y :: r).map byt) [32] := by simp [Lib.join, List.intercalate]
      rw [e, List.length_append, List.length_cons, List.length_cons, Nat.add_mul]
      omega
theorem joinB_any (v : Value) (ls : List ByteArray) (w : World) (h : StrsAt w v ls) (hN : ls.length ≤ 30000000) (hx : ∀ x ∈ ls, x.size ≤ 4194306) :
    Calls Tryz.prog 26 ([v, .string (⟨#[32]⟩ : ByteArray)] : List Value).toArray w fun e w' => e = .returned (.string (bs (joinL ls))) ∧ Below w.heap.size w w' := by
  have hl := join_len ls 4194306 hx
  have hl2 : (joinL ls).length ≤ 140737488355328 := Nat.le_trans hl (Nat.le_trans (Nat.mul_le_mul_right _ hN) (by decide))
  have e : (ls.map byt).map bs = ls := by
    rw [List.map_map]; conv => rhs; rw [← List.map_id ls]
    exact List.map_congr_left fun x _ => bs_byt x
  exact join_any v (ls.map byt) w (by rw [e]; exact h) (by rw [List.length_map]; omega) hl2
theorem flat_part {α β : Type} {l : List α} {k : Nat} {x : α} (f : α → List β) (hx : l[k]? = some x) : ((l.take k).flatMap f).length + (f x).length ≤ (l.flatMap f).length := by
  have h : l = l.take k ++ x :: l.drop (k + 1) := by
    conv => lhs; rw [← List.take_append_drop k l]
    rw [List.drop_eq_getElem_cons (lt_of_some hx), (List.getElem?_eq_some_iff.1 hx).2]
  conv => rhs; rw [h]
  simp only [List.flatMap_append, List.flatMap_cons, List.length_append]; omega
theorem flat_next {α β : Type} {l : List α} {k : Nat} {x : α} {f : α → List β} (hx : l[k]? = some x) : (l.take k).flatMap f ++ f x = (l.take (k + 1)).flatMap f := by
  rw [take_snoc hx]; simp
theorem ty_range {t : Ty} (h : noTy t = false) : t.k ≠ 4 → 1 ≤ t.k ∧ t.k ≤ 3 := fun h4 => by
  unfold noTy at h
  rw [decide_eq_false h4, cond_false] at h
  simp only [Bool.or_eq_false_iff, decide_eq_false_iff_not] at h
  omega
theorem right_eff {p : Pr} (h : RightB p = true) : ∀ x ∈ p.effs, nmB 3 x.nm = true ∧ ∀ s ∈ x.ops, nmB 2 s.nm = true ∧ noTy s.arg = false ∧ noTy s.res = false := by
  unfold RightB at h
  simp only [Bool.and_eq_true, Bool.not_eq_true', List.any_eq_false, Bool.not_eq_true] at h
  intro x hx
  have h1 := h.1 x hx
  unfold effNo at h1
  simp only [Bool.or_eq_false_iff, Bool.not_eq_false', List.any_eq_false, Bool.not_eq_true] at h1
  refine ⟨h1.1, fun s hs => ?_⟩
  have h2 := h1.2 s hs
  unfold opNo tysB at h2
  simp only [Bool.or_eq_false_iff, Bool.not_eq_false', Bool.not_eq_true', List.any_cons, List.any_nil, Bool.or_false] at h2
  exact ⟨h2.1, h2.2.1, h2.2.2⟩
theorem right_dat {p : Pr} (h : RightB p = true) : ∀ d ∈ p.dats, nmB 3 d.nm = true ∧ ∀ c ∈ d.cons, nmB 3 c.nm = true ∧ ∀ t ∈ c.fields, noTy t = false := by
  unfold RightB at h
  simp only [Bool.and_eq_true, Bool.not_eq_true', List.any_eq_false, Bool.not_eq_true] at h
  intro d hd
  have h1 := h.2.1 d hd
  unfold datNo at h1
  simp only [Bool.or_eq_false_iff, Bool.not_eq_false', List.any_eq_false, Bool.not_eq_true] at h1
  refine ⟨h1.1, fun c hc => ?_⟩
  have h2 := h1.2 c hc
  unfold cnNo tysB at h2
  simp only [Bool.or_eq_false_iff, Bool.not_eq_false', Bool.not_eq_true', List.any_eq_false, Bool.not_eq_true] at h2
  exact h2
theorem right_body {p : Pr} (h : RightB p = true) : writtenB p.body = true := by
  unfold RightB at h
  simp only [Bool.and_eq_true] at h
  exact h.2.2
theorem written_right {t : Tm} (h : writtenB t = true) : rightB t = true := by
  unfold writtenB at h
  simp only [Bool.and_eq_true] at h
  exact h.2
/-- A term's text, a program's text. -/
def termL (t : Tm) : List UInt8 := if writtenB t then joinL (exprW t) else []
def printL (p : Pr) : List UInt8 := if RightB p then joinL (printW p) else []
/-- These words are not too many, and none is too long. -/
def FewW (ws : List ByteArray) : Prop := ws.length ≤ 30000000 ∧ ∀ x ∈ ws, x.size ≤ 4194306
-- ------------------------------------------------------------------ how many words, how long
theorem ptN_len (ss : List ByteArray) (f : Nat → List ByteArray) (g : Nat → Nat) (h : ∀ i, (f i).length ≤ g i) : ∀ n, (ptN ss f n).length ≤ n + (List.range n).foldl (fun s i => s + g i) 0 := by
  intro n
  induction n with
  | zero => simp [ptN]
  | succ n ih => rw [ptN, List.range_succ, List.foldl_append]; simp only [List.length_append, List.length_cons, List.foldl_cons, List.foldl_nil]; have := h n; omega
end Go.Proofs.YtkclecfbjfdfkaaGreatDoor
