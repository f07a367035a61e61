/-
  The words of a term, kind by kind; what holds of terms that can be written; the writer's row. Plain lemmas; no condition beyond those that stand in each statement.
-/
import Derived.Test.YtkclecfbjfdfkaaGreatDoorP2
import Derived.Test.YtkclecfbjfdfkaaGreatDoorShelf
import Derived.Test.YtkclecfbjfdfkaaGreatDoorD2
import Derived.Lib.ItoaNum
import Derived.WalkSmall
namespace Go.Proofs.YtkclecfbjfdfkaaGreatDoor
open Go.RowKit

-- ------------------------------------------------------------------ the writer's row
theorem Moved.refl (w : World) (v : Value) : Moved w v v := .inl rfl
theorem Moved.then {w w1 : World} {v v1 v2 : Value} (h : Moved w v v1) (hs : w.heap.size ≤ w1.heap.size) (k : Moved w1 v1 v2) : Moved w v v2 := by
  rcases k with k1 | ⟨g, k1, k2⟩
  · rcases h with h1 | ⟨g, h1, h2⟩
    · exact .inl (k1.trans h1)
    · exact .inr ⟨g, k1.trans h1, h2⟩
  · exact .inr ⟨g, k1, Nat.le_trans hs k2⟩
theorem ws_sub {w : World} {v v1 : Value} {b : Nat} (h : Moved w v v1) : ∀ k, (k = b ∨ some k = v1.ownBlock) → (k = b ∨ some k = v.ownBlock) ∨ w.heap.size ≤ k := fun k hk => by
  rcases hk with rfl | hk
  · exact .inl (.inl rfl)
  · rcases h with h1 | ⟨g, h1, h2⟩
    · exact .inl (.inr (hk.trans h1))
    · rw [h1] at hk; cases hk; exact .inr h2
theorem ws_ge {w0 : World} {v : Value} {b : Nat} (hb : w0.heap.size ≤ b) (hv : ∀ g, v.ownBlock = some g → w0.heap.size ≤ g) : ∀ k, (k = b ∨ some k = v.ownBlock) → w0.heap.size ≤ k := fun k hk => by
  rcases hk with rfl | hk
  · exact hb
  · exact hv k hk.symm
theorem StrsAt.frN {S : Nat → Prop} {w w' : World} {v : Value} {l : List ByteArray} (h : StrsAt w v l) (hF : Fr S w w') (hn : l ≠ [] → ¬ S (vBlock v)) : StrsAt w' v l :=
  RowsAt.keepB h fun hne => by
    have hne' := map_ne hne
    have hlt := StrsAt.lt h hne'
    rw [hF.old _ _ (hn hne') (Array.getElem?_eq_getElem hlt), Array.getElem?_eq_getElem hlt]
theorem btN_le (sep : ByteArray) (f : Nat → List ByteArray) : ∀ {k n : Nat}, k ≤ n → (btN sep f k).length ≤ (btN sep f n).length := by
  intro k n h
  induction n with
  | zero => have : k = 0 := by omega
            rw [this]; exact Nat.le_refl _
  | succ n ih =>
    by_cases e : k = n + 1
    · rw [e]; exact Nat.le_refl _
    · have := ih (by omega)
      rw [btN]; simp only [List.length_append]; omega
theorem btN_part (sep : ByteArray) (f : Nat → List ByteArray) {k n : Nat} (h : k < n) : (btN sep f k).length + ((if 0 < k then [sep] else []).length + (f k).length) ≤ (btN sep f n).length := by
  have := btN_le sep f (show k + 1 ≤ n from h)
  rw [btN] at this; simpa only [List.length_append] using this
theorem btN_nextT {sep : ByteArray} {f : Nat → List ByteArray} {k : Nat} {ls : List ByteArray} (h : decide (0 < (k : Int)) = true) : ls ++ btN sep f k ++ [sep] ++ f k = ls ++ btN sep f (k + 1) := by
  rw [btN, if_pos (by have := of_decide_eq_true h; omega)]; simp
theorem btN_nextF {sep : ByteArray} {f : Nat → List ByteArray} {k : Nat} {ls : List ByteArray} (h : decide (0 < (k : Int)) = false) : ls ++ btN sep f k ++ f k = ls ++ btN sep f (k + 1) := by
  rw [btN, if_neg (by have := of_decide_eq_false h; omega)]; simp
theorem ptN_le (ss : List ByteArray) (f : Nat → List ByteArray) : ∀ {k n : Nat}, k ≤ n → (ptN ss f k).length ≤ (ptN ss f n).length := by
  intro k n h
  induction n with
  | zero => have : k = 0 := by omega
            rw [this]; exact Nat.le_refl _
  | succ n ih =>
    by_cases e : k = n + 1
    · rw [e]; exact Nat.le_refl _
    · have := ih (by omega)
      rw [ptN]; simp only [List.length_append]; omega
theorem ptN_part (ss : List ByteArray) (f : Nat → List ByteArray) {k n : Nat} (h : k < n) : (ptN ss f k).length + (1 + (f k).length) ≤ (ptN ss f n).length := by
  have := ptN_le ss f (show k + 1 ≤ n from h)
  rw [ptN] at this; simp only [List.length_append, List.length_cons] at this; omega
-- ------------------------------------------------------------------ numbers
theorem grow_below (w : World) (k : Nat) (os : Array Obj) : Below w.heap.size w (Sort.grow (w.drewN k) os) :=
  ⟨rfl, rfl, rfl, by simp [Sort.grow, World.drewN], fun i hi => by
    show ((w.drewN k).heap ++ os)[i]? = w.heap[i]?
    have : (w.drewN k).heap = w.heap := rfl
    rw [this, Array.getElem?_append_left hi]⟩
abbrev Tab (w : World) : Prop := Lib.TabIs Tryz.prog w "internal/strconv.uint64pow10" .u64 Lib.pow10Tab
theorem tab_glob : Tryz.prog.globalNamed "internal/strconv.uint64pow10" = some 1 := by kernel_rfl
theorem tab_keep {w w' : World} (h : Tab w) (hB : Below w.heap.size w w') : Tab w' := by
  refine var?_below hB tab_glob ?_ h
  unfold Tab Lib.TabIs World.var? at h
  rw [tab_glob] at h
  simp only [Option.bind_some] at h
  split at h
  · rename_i c hc; exact (Array.getElem?_eq_some_iff.1 hc).1
  · cases h
theorem itoa_any (n : Int) (w : World) (h0 : 0 ≤ n) (h1 : n ≤ 9223372036854775807) (ht : Tab w) : Calls Tryz.prog 79 ([.int .i64 n] : List Value).toArray w fun e w' => e = .returned (.string (itoaW n)) ∧ Below w.heap.size w w' :=
  (Tryz.strconv_Itoa n (by omega) h1 w ht).mono fun e w' ⟨he, k, os, hw⟩ => ⟨he, by rw [hw]; exact grow_below w k os⟩
-- ------------------------------------------------------------------ what holds of terms that can be written
theorem has_kids {k n : Int} {nm pm : ByteArray} {nk na : Nat} {kids name : Int} {param arms : Bool} (h : hasB k nm pm n nk na kids name param arms = true) : (nk : Int) = kids := by
  unfold hasB at h
  simp only [Bool.and_eq_true, Bool.not_eq_true', Bool.or_eq_false_iff, Bool.not_eq_false', decide_eq_true_eq] at h
  exact h.1.1
structure RightF (t : Tm) : Prop where
  lo : 1 ≤ t.k
  hi : t.k ≤ 14
  n2 : t.k = 2 → 0 ≤ t.n
  n3 : t.k = 3 → t.n = 0 ∨ t.n = 1
  k5 : t.k = 5 → t.kids.length = 1
  k6 : t.k = 6 → t.kids.length = 2
  k7 : t.k = 7 → t.kids.length = 2
  k8 : t.k = 8 → t.kids.length = 2
  k9 : t.k = 9 → t.kids.length = 3
  k10 : t.k = 10 → (t.kids.length : Int) = kidsOf t.nm
  k12 : t.k = 12 → t.kids.length = 1
  k13 : t.k = 13 → t.kids.length = 1
  k14 : t.k = 14 → t.kids.length = 1
theorem right_f {t : Tm} (h : rightB t = true) : RightF t := by
  rw [rightB_eq] at h
  simp only [Bool.and_eq_true] at h
  have h := h.1.1
  have hk : ∀ (x : Int), t.k = x → aloneB t = true := fun _ _ => h
  have hr : t.k = 1 ∨ t.k = 2 ∨ t.k = 3 ∨ t.k = 4 ∨ t.k = 5 ∨ t.k = 6 ∨ t.k = 7 ∨ t.k = 8 ∨ t.k = 9 ∨ t.k = 10 ∨ t.k = 11 ∨ t.k = 12 ∨ t.k = 13 ∨ t.k = 14 := by
    by_cases hh : t.k = 1 ∨ t.k = 2 ∨ t.k = 3 ∨ t.k = 4 ∨ t.k = 5 ∨ t.k = 6 ∨ t.k = 7 ∨ t.k = 8 ∨ t.k = 9 ∨ t.k = 10 ∨ t.k = 11 ∨ t.k = 12 ∨ t.k = 13 ∨ t.k = 14
    · exact hh
    · exfalso
      simp only [not_or] at hh
      simp [aloneB, hh] at h
  refine ⟨by omega, by omega, ?_, ?_, ?_, ?_, ?_, ?_, ?_, ?_, ?_, ?_, ?_⟩ <;> intro e <;> simp [aloneB, e] at h
  · exact h.2
  · exact h.2
  all_goals first | (have := has_kids h; omega) | (have := has_kids h.1; omega) | (have := has_kids h.1.1; omega) | (exact has_kids h) | skip
-- ------------------------------------------------------------------ words, kind by kind
theorem exprW_5 {t : Tm} (hk : t.k = 5) : exprW t = [(⟨#[102, 117, 110]⟩ : ByteArray), t.nm] ++ ptN [(⟨#[45, 62]⟩ : ByteArray)] (eK (eaL t.kids)) 1 := by
  unfold exprW; rw [eaT_eq]; simp [nodeA, nodeS, nodeE, hk]
theorem atomW_5 {t : Tm} (hk : t.k = 5) : atomW t = ([(⟨#[40]⟩ : ByteArray)] ++ exprW t) ++ [(⟨#[41]⟩ : ByteArray)] := by
  unfold atomW exprW; rw [eaT_eq]; simp [nodeA, nodeS, hk]
theorem exprW_7 {t : Tm} (hk : t.k = 7) : exprW t = [(⟨#[108, 101, 116]⟩ : ByteArray), t.nm] ++ ptN [(⟨#[61]⟩ : ByteArray), (⟨#[105, 110]⟩ : ByteArray)] (eK (eaL t.kids)) 2 := by
  unfold exprW; rw [eaT_eq]; simp [nodeA, nodeS, nodeE, hk]
theorem atomW_7 {t : Tm} (hk : t.k = 7) : atomW t = ([(⟨#[40]⟩ : ByteArray)] ++ exprW t) ++ [(⟨#[41]⟩ : ByteArray)] := by
  unfold atomW exprW; rw [eaT_eq]; simp [nodeA, nodeS, hk]
theorem exprW_8 {t : Tm} (hk : t.k = 8) : exprW t = [(⟨#[114, 101, 99]⟩ : ByteArray), t.nm, t.pm] ++ ptN [(⟨#[61]⟩ : ByteArray), (⟨#[105, 110]⟩ : ByteArray)] (eK (eaL t.kids)) 2 := by
  unfold exprW; rw [eaT_eq]; simp [nodeA, nodeS, nodeE, hk]
theorem atomW_8 {t : Tm} (hk : t.k = 8) : atomW t = ([(⟨#[40]⟩ : ByteArray)] ++ exprW t) ++ [(⟨#[41]⟩ : ByteArray)] := by
  unfold atomW exprW; rw [eaT_eq]; simp [nodeA, nodeS, hk]
theorem exprW_9 {t : Tm} (hk : t.k = 9) : exprW t = ptN [(⟨#[105, 102]⟩ : ByteArray), (⟨#[116, 104, 101, 110]⟩ : ByteArray), (⟨#[101, 108, 115, 101]⟩ : ByteArray)] (eK (eaL t.kids)) 3 := by
  unfold exprW; rw [eaT_eq]; simp [nodeA, nodeS, nodeE, hk]
theorem atomW_9 {t : Tm} (hk : t.k = 9) : atomW t = ([(⟨#[40]⟩ : ByteArray)] ++ exprW t) ++ [(⟨#[41]⟩ : ByteArray)] := by
  unfold atomW exprW; rw [eaT_eq]; simp [nodeA, nodeS, hk]
theorem exprW_12 {t : Tm} (hk : t.k = 12) : exprW t = ptN [(⟨#[109, 97, 116, 99, 104]⟩ : ByteArray)] (eK (eaL t.kids)) 1 ++ armsW (eaA t.arms) := by
  unfold exprW; rw [eaT_eq]; simp [nodeA, nodeS, nodeE, hk]
theorem atomW_12 {t : Tm} (hk : t.k = 12) : atomW t = ([(⟨#[40]⟩ : ByteArray)] ++ exprW t) ++ [(⟨#[41]⟩ : ByteArray)] := by
  unfold atomW exprW; rw [eaT_eq]; simp [nodeA, nodeS, hk]
theorem exprW_14 {t : Tm} (hk : t.k = 14) : exprW t = ([(⟨#[104, 97, 110, 100, 108, 101]⟩ : ByteArray), t.nm] ++ eK (eaL t.kids) 0) ++ armsW (eaA t.arms) := by
  unfold exprW; rw [eaT_eq]; simp [nodeA, nodeS, nodeE, hk]
theorem atomW_14 {t : Tm} (hk : t.k = 14) : atomW t = ([(⟨#[40]⟩ : ByteArray)] ++ exprW t) ++ [(⟨#[41]⟩ : ByteArray)] := by
  unfold atomW exprW; rw [eaT_eq]; simp [nodeA, nodeS, hk]
theorem exprW_13 {t : Tm} (hk : t.k = 13) : exprW t = [t.nm ++ (⟨#[33]⟩ : ByteArray)] ++ aK (eaL t.kids) 0 := by
  unfold exprW; rw [eaT_eq]; simp [nodeA, nodeS, nodeE, hk]
theorem atomW_13 {t : Tm} (hk : t.k = 13) : atomW t = ([(⟨#[40]⟩ : ByteArray)] ++ exprW t) ++ [(⟨#[41]⟩ : ByteArray)] := by
  unfold atomW exprW; rw [eaT_eq]; simp [nodeA, nodeS, hk]
theorem exprW_6 {t : Tm} (hk : t.k = 6) : exprW t = (if ((eaL t.kids).getD 0 zEA).k = 6 then eK (eaL t.kids) 0 else aK (eaL t.kids) 0) ++ aK (eaL t.kids) 1 := by
  unfold exprW; rw [eaT_eq]; simp [nodeA, nodeS, nodeE, hk]
theorem atomW_6 {t : Tm} (hk : t.k = 6) : atomW t = ([(⟨#[40]⟩ : ByteArray)] ++ exprW t) ++ [(⟨#[41]⟩ : ByteArray)] := by
  unfold atomW exprW; rw [eaT_eq]; simp [nodeA, nodeS, hk]
theorem atomW_1 {t : Tm} (hk : t.k = 1) : atomW t = [t.nm] := by
  unfold atomW; rw [eaT_eq]; simp [nodeA, nodeS, hk]
theorem exprW_1 {t : Tm} (hk : t.k = 1) : exprW t = atomW t := by
  unfold atomW exprW; rw [eaT_eq]; simp [nodeA, nodeS, nodeE, hk]
theorem atomW_2 {t : Tm} (hk : t.k = 2) : atomW t = [itoaW t.n] := by
  unfold atomW; rw [eaT_eq]; simp [nodeA, nodeS, hk]
theorem exprW_2 {t : Tm} (hk : t.k = 2) : exprW t = atomW t := by
  unfold atomW exprW; rw [eaT_eq]; simp [nodeA, nodeS, nodeE, hk]
theorem atomW_3 {t : Tm} (hk : t.k = 3) : atomW t = [if t.n = 0 then (⟨#[102, 97, 108, 115, 101]⟩ : ByteArray) else (⟨#[116, 114, 117, 101]⟩ : ByteArray)] := by
  unfold atomW; rw [eaT_eq]; simp [nodeA, nodeS, hk]
theorem exprW_3 {t : Tm} (hk : t.k = 3) : exprW t = atomW t := by
  unfold atomW exprW; rw [eaT_eq]; simp [nodeA, nodeS, nodeE, hk]
theorem atomW_4 {t : Tm} (hk : t.k = 4) : atomW t = [(⟨#[40]⟩ : ByteArray), (⟨#[41]⟩ : ByteArray)] := by
  unfold atomW; rw [eaT_eq]; simp [nodeA, nodeS, hk]
theorem exprW_4 {t : Tm} (hk : t.k = 4) : exprW t = atomW t := by
  unfold atomW exprW; rw [eaT_eq]; simp [nodeA, nodeS, nodeE, hk]
theorem atomW_11 {t : Tm} (hk : t.k = 11) : atomW t = ([t.nm, (⟨#[40]⟩ : ByteArray)] ++ btN (⟨#[44]⟩ : ByteArray) (eK (eaL t.kids)) t.kids.length) ++ [(⟨#[41]⟩ : ByteArray)] := by
  unfold atomW; rw [eaT_eq]; simp [nodeA, nodeS, hk, eaL_len]
theorem exprW_11 {t : Tm} (hk : t.k = 11) : exprW t = atomW t := by
  unfold atomW exprW; rw [eaT_eq]; simp [nodeA, nodeS, nodeE, hk]
theorem atomW_read {t : Tm} (hk : t.k = 10) (hn : t.nm = (⟨#[114, 101, 97, 100]⟩ : ByteArray)) : atomW t = [(⟨#[114, 101, 97, 100]⟩ : ByteArray), (⟨#[40]⟩ : ByteArray), (⟨#[41]⟩ : ByteArray)] := by
  unfold atomW; rw [eaT_eq]; simp [nodeA, nodeS, hk, hn]
theorem exprW_read {t : Tm} (hk : t.k = 10) (hn : t.nm = (⟨#[114, 101, 97, 100]⟩ : ByteArray)) (h2 : t.kids.length ≠ 2) (h1 : t.kids.length ≠ 1) : exprW t = atomW t := by
  unfold atomW exprW; rw [eaT_eq]; simp [nodeA, nodeS, nodeE, hk, hn, eaL_len, h1, h2]
theorem atomW_op {t : Tm} (hk : t.k = 10) (hn : t.nm ≠ (⟨#[114, 101, 97, 100]⟩ : ByteArray)) : atomW t = ([(⟨#[40]⟩ : ByteArray)] ++ exprW t) ++ [(⟨#[41]⟩ : ByteArray)] := by
  unfold atomW exprW; rw [eaT_eq]; simp [nodeA, nodeS, hk, hn]
theorem exprW_op2 {t : Tm} (hk : t.k = 10) (hn : t.nm ≠ (⟨#[114, 101, 97, 100]⟩ : ByteArray)) (h2 : t.kids.length = 2) : exprW t = (aK (eaL t.kids) 0 ++ [t.nm]) ++ aK (eaL t.kids) 1 := by
  unfold exprW; rw [eaT_eq]; simp [nodeA, nodeS, nodeE, hk, hn, eaL_len, h2]
theorem exprW_op1 {t : Tm} (hk : t.k = 10) (hn : t.nm ≠ (⟨#[114, 101, 97, 100]⟩ : ByteArray)) (h1 : t.kids.length = 1) : exprW t = [t.nm] ++ aK (eaL t.kids) 0 := by
  unfold exprW; rw [eaT_eq]; simp [nodeA, nodeS, nodeE, hk, hn, eaL_len, h1]
theorem atomW_other {t : Tm} (h1 : t.k ≠ 1) (h2 : t.k ≠ 2) (h3 : t.k ≠ 3) (h4 : t.k ≠ 4) (h5 : ¬ (t.k = 10 ∧ t.nm = (⟨#[114, 101, 97, 100]⟩ : ByteArray))) (h6 : t.k ≠ 11) : atomW t = ([(⟨#[40]⟩ : ByteArray)] ++ exprW t) ++ [(⟨#[41]⟩ : ByteArray)] := by
  unfold atomW exprW; rw [eaT_eq]; simp [nodeA, nodeS, h1, h2, h3, h4, h5, h6]
theorem ptN_next {t : Tm} {xs ls : List ByteArray} {k : Nat} {x : ByteArray} {u : Tm} (hx : xs[k]? = some x) (hu : t.kids[k]? = some u) : ls ++ ptN xs (eK (eaL t.kids)) k ++ [x] ++ exprW u = ls ++ ptN xs (eK (eaL t.kids)) (k + 1) := by
  rw [ptN, eK_at hu, List.getD_eq_getElem?_getD, hx]; simp
theorem ptN_part' {t : Tm} {xs : List ByteArray} {k n : Nat} {u : Tm} (hu : t.kids[k]? = some u) (h : k < n) : (ptN xs (eK (eaL t.kids)) k).length + (1 + (exprW u).length) ≤ (ptN xs (eK (eaL t.kids)) n).length := by
  have := ptN_part xs (eK (eaL t.kids)) h
  rw [eK_at hu] at this; exact this
theorem kidsOf_cases (s : ByteArray) : kidsOf s = 2 ∨ kidsOf s = 1 ∨ kidsOf s = 0 ∨ kidsOf s = -1 := by
  unfold kidsOf
  cases memB s _ <;> simp
  cases memB s _ <;> simp
  by_cases h : s = (⟨#[114, 101, 97, 100]⟩ : ByteArray) <;> simp [h]
theorem kids_read : kidsOf (⟨#[114, 101, 97, 100]⟩ : ByteArray) = 0 := by decide
theorem kids_zero {s : ByteArray} (h : kidsOf s = 0) : s = (⟨#[114, 101, 97, 100]⟩ : ByteArray) := by
  unfold kidsOf at h
  cases h1 : memB s [(⟨#[43]⟩ : ByteArray), (⟨#[45]⟩ : ByteArray), (⟨#[42]⟩ : ByteArray), (⟨#[47]⟩ : ByteArray), (⟨#[60]⟩ : ByteArray), (⟨#[61]⟩ : ByteArray), (⟨#[58, 61]⟩ : ByteArray)] with
  | true => rw [h1] at h; cases h
  | false =>
    rw [h1] at h
    cases h2 : memB s [(⟨#[112, 114, 105, 110, 116]⟩ : ByteArray), (⟨#[114, 101, 102]⟩ : ByteArray), (⟨#[33]⟩ : ByteArray)] with
    | true => rw [h2] at h; cases h
    | false =>
      rw [h2] at h
      by_cases h3 : s = (⟨#[114, 101, 97, 100]⟩ : ByteArray)
      · exact h3
      · simp [h3] at h
end Go.Proofs.YtkclecfbjfdfkaaGreatDoor
