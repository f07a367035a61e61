/-
  Words with blanks and notes between. Plain lemmas; no condition beyond those that stand in each statement.
-/
import Derived.Test.YtkalnkedpiemaaaL13
namespace Go.Proofs.Ytkalnkedpiemaaa
open Go.RowKit

theorem OwnR.eqL {α : Type} {T : TypeId} {sz : Nat} {f : α → Array Value} {w : World} {v : Value} {l l' : List α} (h : OwnR T sz f w v l) (e : l = l') : OwnR T sz f w v l' := e ▸ h
theorem Is.dup {N : Nat} {ds : List Deferred} {d : Nat} {v u : Value} {X : List (Nat × Value)} {a : Act} (h : Is N ds ((d, v) :: (d, u) :: X) a) : Is N ds ((d, v) :: X) a := by
  refine ⟨h.size, h.defers, fun t x hl => h.get t x ?_⟩
  simp only [look] at hl ⊢
  by_cases e : d = t
  · rw [beqT e] at hl ⊢; exact hl
  · rw [beqF e] at hl ⊢; exact hl
theorem map_at {ns : List (List UInt8)} {k : Nat} {n : List UInt8} (h : ns[k]? = some n) : (ns.map bs)[k]? = some (bs n) := by rw [List.getElem?_map, h]; rfl
theorem strs_bs {w : World} {v : Value} {l : List ByteArray} (h : StrsAt w v l) : StrsAt w v ((l.map (·.data.toList)).map bs) := by
  have : (l.map (·.data.toList)).map bs = l := by
    rw [List.map_map]; conv => rhs; rw [← List.map_id l]
    exact List.map_congr_left fun x _ => (bs_of x).symm
  rw [this]; exact h
-- ------------------------------------------------------------------ a note without line feeds
def flt (j : Nat) (N : List UInt8) : List UInt8 := (N.take j).filter (fun u => u != 10)
theorem flt_zero (N : List UInt8) : flt 0 N = [] := rfl
theorem flt_yes {N : List UInt8} {j : Nat} {u : UInt8} (h : N[j]? = some u) (hu : ¬ (u.toNat : Int) = 10) : flt (j + 1) N = flt j N ++ (N.drop j).take (j + 1 - j) := by
  have hne : u ≠ 10 := fun e => hu (by rw [e]; rfl)
  unfold flt
  rw [take_one h, List.filter_append, part_one h, List.filter_cons, if_pos (by simpa using hne), List.filter_nil]
theorem flt_no {N : List UInt8} {j : Nat} {u : UInt8} (h : N[j]? = some u) (hu : (u.toNat : Int) = 10) : flt (j + 1) N = flt j N := by
  have he : u = 10 := UInt8.toNat.inj (by simpa using (by omega : u.toNat = 10))
  unfold flt
  rw [take_one h, List.filter_append, he, List.filter_cons, if_neg (by decide), List.filter_nil, List.append_nil]
theorem flt_len (j : Nat) (N : List UInt8) : (flt j N).length ≤ j := by
  unfold flt
  exact Nat.le_trans (List.length_filter_le _ _) (by rw [List.length_take]; omega)
theorem flt_not {j : Nat} {N : List UInt8} : ∀ u ∈ flt j N, u ≠ 10 := fun u hu => by
  unfold flt at hu
  have := (List.mem_filter.1 hu).2
  simpa using this
/-- What is written behind the word number i. -/
def gapN (ns : List (List UInt8)) (i : Nat) : List UInt8 := match ns[i]? with
  | some n => 35 :: (flt (n.take (min n.length 20)).length (n.take (min n.length 20)) ++ [13, 10])
  | none => [13, 10]
theorem gap_yes {ns : List (List UInt8)} {i : Nat} {n : List UInt8} (h : ns[i]? = some n) : gapN ns i = 35 :: (flt (n.take (min n.length 20)).length (n.take (min n.length 20)) ++ [13, 10]) := by unfold gapN; rw [h]
theorem gap_no {ns : List (List UInt8)} {i : Nat} (h : ns.length ≤ i) : gapN ns i = [13, 10] := by unfold gapN; rw [List.getElem?_eq_none h]
theorem gap_len (ns : List (List UInt8)) (i : Nat) : (gapN ns i).length ≤ 23 := by
  cases h : ns[i]? with
  | none => unfold gapN; rw [h]; decide
  | some n =>
    rw [gap_yes h]
    have h1 := flt_len (n.take (min n.length 20)).length (n.take (min n.length 20))
    have h2 : (n.take (min n.length 20)).length ≤ 20 := by rw [List.length_take]; omega
    simp only [List.length_cons, List.length_append, List.length_nil]; omega
theorem gap_ok (ns : List (List UInt8)) (i : Nat) : Gap (gapN ns i) := by
  have e1 : ∀ x : List UInt8, skip ([13, 10] ++ x) = skip x := fun x => by
    show skip (13 :: 10 :: x) = skip x
    rw [skip_blk (by decide), skip_blk (by decide)]
  cases h : ns[i]? with
  | none => unfold gapN; rw [h]; exact ⟨fun x => stop_cons (.inl (by decide)), e1⟩
  | some n =>
    rw [gap_yes h]
    refine ⟨fun x => stop_cons (.inr rfl), fun x => ?_⟩
    have hn : ∀ u ∈ flt (n.take (min n.length 20)).length (n.take (min n.length 20)) ++ [13], u ≠ 10 := fun u hu => by
      rcases List.mem_append.1 hu with h1 | h1
      · exact flt_not u h1
      · rw [List.mem_singleton] at h1; rw [h1]; decide
    have := skip_note (r := x) hn
    rw [← this]
    congr 1
    simp
/-- The words with what lies between them. -/
def blankS (ns : List (List UInt8)) : Nat → List Tk → List UInt8
  | _, [] => []
  | i, t :: r => (textW t ++ gapN ns i) ++ blankS ns (i + 1) r
theorem blank_len (ns : List (List UInt8)) : ∀ (ts : List Tk) (i : Nat), (blankS ns i ts).length ≤ sumW ts + 23 * ts.length := by
  intro ts
  induction ts with
  | nil => intro i; exact Nat.zero_le _
  | cons t r ih =>
    intro i
    have h1 := ih (i + 1)
    have h2 := gap_len ns i
    rw [blankS, sumW, List.length_cons]
    simp only [List.length_append]; omega
theorem blank_step {ns : List (List UInt8)} {ts : List Tk} {k : Nat} {x : Tk} {full sk nxt : List UInt8} (hx : ts[k]? = some x) (h : full = sk ++ blankS ns k (ts.drop k)) (e : nxt = sk ++ (textW x ++ gapN ns k)) : full = nxt ++ blankS ns (k + 1) (ts.drop (k + 1)) := by
  rw [h, List.drop_eq_getElem_cons (lt_of_some hx), (List.getElem?_eq_some_iff.1 hx).2, blankS, e]
  simp
theorem blank_lexW (ns : List (List UInt8)) : ∀ (ts : List Tk), (∀ t ∈ ts, Wd t) → ∀ i a : Nat, ∃ ts', lexW a (blankS ns i ts) = .ok ts' ∧ strip ts' = strip ts := by
  intro ts
  induction ts with
  | nil => intro _ i a; exact ⟨[], lexW_end (show skip [] = [] from skip_zero rfl), rfl⟩
  | cons t r ih =>
    intro h i a
    have hg := gap_ok ns i
    obtain ⟨ts', h1, h2⟩ := ih (fun q hq => h q (List.mem_cons_of_mem _ hq)) (i + 1) (a + (textW t).length + (gapN ns i).length)
    refine ⟨t.put a :: ts', ?_, by simp only [strip, List.map_cons, put_put] at h2 ⊢; rw [h2]⟩
    rw [blankS, List.append_assoc, lexW_cons (h t List.mem_cons_self) (hg.stop _)]
    have hs := hg.skip (blankS ns (i + 1) r)
    have hle := skip_le _ (blankS ns (i + 1) r) (Nat.le_refl _)
    rw [lexW_cong (a' := a + (textW t).length + (gapN ns i).length) hs (by rw [hs]; simp only [List.length_append]; omega), h1]; rfl
theorem blank_lex {ns : List (List UInt8)} {ts : List Tk} (h : ∀ t ∈ ts, Wd t) : ∃ ts', lexW 0 (([32, 9] : List UInt8) ++ blankS ns 0 ts) = .ok ts' ∧ strip ts' = strip ts := by
  obtain ⟨ts', h1, h2⟩ := blank_lexW ns ts h 0 2
  have hs : skip (([32, 9] : List UInt8) ++ blankS ns 0 ts) = skip (blankS ns 0 ts) := by
    show skip (32 :: 9 :: blankS ns 0 ts) = _
    rw [skip_blk (by decide), skip_blk (by decide)]
  have hle := skip_le _ (blankS ns 0 ts) (Nat.le_refl _)
  exact ⟨ts', by rw [lexW_cong (a' := 2) hs (by rw [hs]; simp only [List.length_append, List.length_cons, List.length_nil]; omega), h1], h2⟩
end Go.Proofs.Ytkalnkedpiemaaa
