/-
  A word alone; the words of a source. Plain lemmas; no condition beyond those that stand in each statement.
-/
import Derived.Test.YtkclecfbjfdfkaaGreatDoorL7
namespace Go.Proofs.YtkclecfbjfdfkaaGreatDoor
open Go.RowKit

theorem tw_self {p : UInt8 → Bool} (m : List UInt8) : (m.takeWhile p).takeWhile p = m.takeWhile p := by
  induction m with
  | nil => rfl
  | cons u m ih =>
    rw [List.takeWhile_cons]
    split
    · rw [List.takeWhile_cons, if_pos (by assumption), ih]
    · rfl
theorem tw_pre {p : UInt8 → Bool} (m x : List UInt8) (hx : ∀ u ∈ x.head?, p u = false) : (m.takeWhile p ++ x).takeWhile p = m.takeWhile p := by rw [tw_stop hx, tw_self]
/-- What is so of each word that is read. -/
structure WF (m : List UInt8) (r : WR) : Prop where
  txt : textW r.tok = m.take r.n
  k1 : 1 ≤ r.tok.k
  k6 : r.tok.k ≤ 6
  n0 : r.tok.k ≠ 1 → r.tok.n = 0
  ne : r.tok.t ≠ []
  le : r.tok.t.length ≤ r.n
  at_ : m.take r.tok.t.length = r.tok.t
  a0 : r.tok.a = 0
theorem num_wf {m : List UInt8} (hp : 0 < whileN digB m) (hk : (numR m).ok = true) : WF m (numR m) ∧ numR (m.take (numR m).n) = numR m := by
  unfold numR at hk ⊢
  cases hn : numGo 0 (digs m) with
  | none => rw [hn] at hk; cases hk
  | some v =>
    have hlen : (digs m).length = whileN digB m := by unfold digs; rw [List.length_take]; have := whileN_le digB m; omega
    have hne : digs m ≠ [] := fun e => by rw [e] at hlen; simp at hlen; omega
    refine ⟨⟨rfl, by dsimp only; decide, by dsimp only; decide, fun h => absurd rfl h, hne, Nat.le_of_eq hlen, ?_, rfl⟩, ?_⟩
    · show m.take (digs m).length = digs m; rw [hlen]; rfl
    · show (match numGo 0 (digs (m.take (whileN digB m))) with | none => _ | some v => _) = _
      have e1 : m.take (whileN digB m) = m.takeWhile digB := takeWhile_take m
      have e2 : digs (m.take (whileN digB m)) = digs m := by rw [digs_eq, e1, tw_self, digs_eq]
      have e3 : whileN digB (m.take (whileN digB m)) = whileN digB m := by rw [e1]; unfold whileN; rw [tw_self]
      rw [e2, hn, e3]
theorem name_take {m : List UInt8} : (nameT m).length = whileN nameB m := by unfold nameT; rw [List.length_take]; have := whileN_le nameB m; omega
theorem name_wf {m : List UInt8} (hp : 0 < whileN nameB m) (hk : (nameR m).ok = true) : WF m (nameR m) ∧ nameR (m.take (nameR m).n) = nameR m := by
  have hlen := name_take (m := m)
  have hle := whileN_le nameB m
  have hne : nameT m ≠ [] := fun e => by rw [e] at hlen; simp at hlen; omega
  have e1 : m.take (whileN nameB m) = m.takeWhile nameB := takeWhile_take m
  have hat : m.take (nameT m).length = nameT m := by rw [hlen]; rfl
  have w2 : whileN nameB (nameT m) = whileN nameB m := by unfold nameT; rw [e1]; unfold whileN; rw [tw_self]
  have t2 : nameT (nameT m) = nameT m := by rw [nameT_eq, nameT_eq, tw_self]
  have hd : (nameT m).getD 0 0 = m.getD 0 0 := by
    unfold nameT
    cases m with
    | nil => simp
    | cons c r => obtain ⟨k, hk⟩ := Nat.exists_eq_succ_of_ne_zero (Nat.ne_of_gt hp); rw [hk]; rfl
  have hnc : ¬ (whileN nameB m < (nameT m).length ∧ ((nameT m).getD (whileN nameB m) 0).toNat = 33) := by rw [hlen]; omega
  by_cases h1 : 60 < whileN nameB m
  · unfold nameR at hk; rw [if_pos h1] at hk; cases hk
  · by_cases h2 : largB (m.getD 0 0) = true
    · have e : nameR m = ⟨⟨3, nameT m, 0, 0⟩, whileN nameB m, true⟩ := by unfold nameR; rw [if_neg h1, if_pos h2]
      rw [e]
      refine ⟨⟨rfl, by dsimp only; decide, by dsimp only; decide, fun _ => rfl, hne, Nat.le_of_eq hlen, hat, rfl⟩, ?_⟩
      show nameR (nameT m) = _
      unfold nameR
      rw [w2, t2, hd, if_neg h1, if_pos h2]
    · by_cases h3 : kwB (nameT m) = true
      · have e : nameR m = ⟨⟨4, nameT m, 0, 0⟩, whileN nameB m, true⟩ := by unfold nameR; rw [if_neg h1, if_neg h2, if_pos h3]
        rw [e]
        refine ⟨⟨rfl, by dsimp only; decide, by dsimp only; decide, fun _ => rfl, hne, Nat.le_of_eq hlen, hat, rfl⟩, ?_⟩
        show nameR (nameT m) = _
        unfold nameR
        rw [w2, t2, hd, if_neg h1, if_neg h2, if_pos h3]
      · by_cases h4 : whileN nameB m < m.length ∧ (m.getD (whileN nameB m) 0).toNat = 33
        · have e : nameR m = ⟨⟨6, nameT m, 0, 0⟩, whileN nameB m + 1, true⟩ := by unfold nameR; rw [if_neg h1, if_neg h2, if_neg h3, if_pos h4]
          have h33 : m[whileN nameB m]? = some 33 := by
            have := h4.2
            rw [List.getD_eq_getElem?_getD, List.getElem?_eq_getElem h4.1] at this
            rw [List.getElem?_eq_getElem h4.1]
            exact congrArg some (UInt8.toNat.inj (by simpa using this))
          have et : m.take (whileN nameB m + 1) = nameT m ++ [33] := take_one h33
          rw [e]
          refine ⟨⟨?_, by dsimp only; decide, by dsimp only; decide, fun _ => rfl, hne, Nat.le_trans (Nat.le_of_eq hlen) (Nat.le_succ _), hat, rfl⟩, ?_⟩
          · show textW ⟨6, nameT m, 0, 0⟩ = m.take (whileN nameB m + 1)
            rw [et]; rfl
          · show nameR (m.take (whileN nameB m + 1)) = _
            have h33n : ∀ u ∈ ([33] : List UInt8).head?, nameB u = false := fun u hu => by cases hu; decide
            have w3 : whileN nameB (nameT m ++ [33]) = whileN nameB m := by unfold whileN; rw [nameT_eq, tw_pre m [33] h33n]
            have t3 : nameT (nameT m ++ [33]) = nameT m := by rw [nameT_eq, nameT_eq, tw_pre m [33] h33n]
            have hd3 : (nameT m ++ [33]).getD 0 0 = m.getD 0 0 := by
              rw [← hd]; obtain ⟨c, r, hcr⟩ := List.exists_cons_of_ne_nil hne; rw [hcr]; rfl
            have h5 : whileN nameB m < (nameT m ++ [33]).length ∧ ((nameT m ++ [33]).getD (whileN nameB m) 0).toNat = 33 := by
              refine ⟨by rw [List.length_append, hlen]; simp, ?_⟩
              rw [List.getD_eq_getElem?_getD, ← hlen, List.getElem?_append_right (Nat.le_refl _), Nat.sub_self]; rfl
            rw [et]
            unfold nameR
            rw [w3, t3, hd3, if_neg h1, if_neg h2, if_neg h3, if_pos h5]
        · have e : nameR m = ⟨⟨2, nameT m, 0, 0⟩, whileN nameB m, true⟩ := by unfold nameR; rw [if_neg h1, if_neg h2, if_neg h3, if_neg h4]
          rw [e]
          refine ⟨⟨rfl, by dsimp only; decide, by dsimp only; decide, fun _ => rfl, hne, Nat.le_of_eq hlen, hat, rfl⟩, ?_⟩
          show nameR (nameT m) = _
          unfold nameR
          rw [w2, t2, hd, if_neg h1, if_neg h2, if_neg h3, if_neg hnc]
theorem find_sub {α : Type} {p q : α → Bool} {x : α} : ∀ {l : List α}, l.find? p = some x → (∀ y, q y = true → p y = true) → q x = true → l.find? q = some x := by
  intro l
  induction l with
  | nil => intro h; cases h
  | cons a l ih =>
    intro h hs hx
    rw [List.find?_cons] at h ⊢
    by_cases ha : p a = true
    · rw [ha] at h; cases h; rw [hx]
    · have hqa : q a = false := by by_cases hq : q a = true; exact absurd (hs a hq) ha; simpa using hq
      rw [show p a = false by simpa using ha] at h
      rw [hqa]; exact ih h hs hx
theorem sign_wf {m : List UInt8} (hk : (signR m).ok = true) : WF m (signR m) ∧ signR (m.take (signR m).n) = signR m := by
  unfold signR at hk ⊢
  cases hf : signsS.find? (preB m) with
  | none => rw [hf] at hk; cases hk
  | some x =>
    have hm := List.mem_of_find?_eq_some hf
    have hp : preB m x = true := List.find?_some hf
    have hs : x.data.toList.length = x.size := by cases x; simp [ByteArray.size]
    have hpre : x.data.toList <+: m := List.isPrefixOf_iff_prefix.1 hp
    have ht : m.take x.size = x.data.toList := by rw [← hs]; exact (List.prefix_iff_eq_take.1 hpre).symm
    have hne : x.data.toList ≠ [] := by
      rcases sign_len hm with ⟨a, e⟩ | ⟨a, b, e, _⟩ <;> (rw [e]; simp)
    refine ⟨⟨?_, by dsimp only; decide, by dsimp only; decide, fun _ => rfl, hne, Nat.le_of_eq hs, by rw [hs]; exact ht, rfl⟩, ?_⟩
    · show textW ⟨5, x.data.toList, 0, 0⟩ = m.take x.size
      rw [ht]; rfl
    · show (match signsS.find? (preB (m.take x.size)) with | none => _ | some y => _) = _
      have : signsS.find? (preB (m.take x.size)) = some x := find_sub hf (fun y hy => by
        unfold preB Lib.hasPrefix at hy ⊢
        exact List.isPrefixOf_iff_prefix.2 ((List.isPrefixOf_iff_prefix.1 hy).trans (List.take_prefix _ _))) (by
        unfold preB Lib.hasPrefix
        rw [ht]; exact List.isPrefixOf_iff_prefix.2 (List.prefix_refl _))
      rw [this]
theorem take_head {m : List UInt8} {n : Nat} (hn : 0 < n) : (m.take n).getD 0 0 = m.getD 0 0 := by
  cases m with
  | nil => simp
  | cons c r => obtain ⟨k, rfl⟩ := Nat.exists_eq_succ_of_ne_zero (Nat.ne_of_gt hn); rfl
theorem word_wf {m : List UInt8} (hm : m ≠ []) (hk : (wordR m).ok = true) : WF m (wordR m) ∧ wordR (m.take (wordR m).n) = wordR m := by
  have hpos := (word_le hm hk).1
  have hh := take_head (m := m) hpos
  obtain ⟨u, r, rfl⟩ := List.exists_cons_of_ne_nil hm
  have e : ∀ x : List UInt8, x.getD 0 0 = (u :: r).getD 0 0 → wordR x = takR (ruleOf u) x := fun x hx => by unfold wordR; rw [hx]; rfl
  rw [e _ hh]
  rw [e _ rfl] at hk hpos ⊢
  unfold ruleOf at hk hpos ⊢
  by_cases h1 : digB u = true
  · rw [if_pos h1] at hk hpos ⊢
    exact num_wf (whileN_pos h1) hk
  · rw [if_neg h1] at hk hpos ⊢
    by_cases h2 : letB u = true
    · rw [if_pos h2] at hk hpos ⊢
      exact name_wf (whileN_pos (by unfold nameB; rw [h2]; rfl)) hk
    · rw [if_neg h2] at hk hpos ⊢
      exact sign_wf hk
end Go.Proofs.YtkclecfbjfdfkaaGreatDoor
