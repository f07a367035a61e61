/-
  Data of the call's own that stand while other blocks change: which blocks a datum lies in, and that it stands as long as these do. Plain definitions and lemmas; no condition.
-/
import Derived.Test.YtkjmjnddanhapaaK11
import Derived.Test.YtkjmjnddanhapaaS1
namespace Go.Proofs.Ytkjmjnddanhapaa
open Go.RowKit

/-- A kind of data: how it lies in memory, and in which blocks. -/
structure Kd (α : Type) where
  ok : World → α → Prop
  blk : α → Nat → Prop
  lt : ∀ {w : World} {u : α} {b : Nat}, ok w u → blk u b → b < w.heap.size
  keep : ∀ {w w' : World} {u : α}, ok w u → (∀ b, blk u b → w'.heap[b]? = w.heap[b]?) → ok w' u
/-- These lie so, and in none of the blocks M (which may still change). -/
def Xs {α : Type} (K : Kd α) (M : List (Option Nat)) (w : World) (l : List α) : Prop := ∀ u ∈ l, K.ok w u ∧ ∀ b, K.blk u b → some b ∉ M
/-- All of these are blocks from lo on, and ahead of hi. -/
def MOk (lo : Nat) (M : List (Option Nat)) : Prop := ∀ g, some g ∈ M → lo ≤ g
def MLt (hi : Nat) (M : List (Option Nat)) : Prop := ∀ g, some g ∈ M → g < hi
theorem MOk.nil (lo : Nat) : MOk lo [] := fun _ h => by cases h
theorem MOk.blk {lo b : Nat} {M : List (Option Nat)} (h : lo ≤ b) (t : MOk lo M) : MOk lo (some b :: M) := fun g hg => by
  rcases List.mem_cons.1 hg with e | e
  · cases e; exact h
  · exact t g e
theorem MOk.own {lo : Nat} {v : Value} {M : List (Option Nat)} (h : ∀ g, v.ownBlock = some g → lo ≤ g) (t : MOk lo M) : MOk lo (v.ownBlock :: M) := fun g hg => by
  rcases List.mem_cons.1 hg with e | e
  · exact h g e.symm
  · exact t g e
theorem MLt.nil (hi : Nat) : MLt hi [] := fun _ h => by cases h
theorem MLt.blk {w : World} {b : Nat} {x : Obj} {M : List (Option Nat)} (h : w.heap[b]? = some x) (t : MLt w.heap.size M) : MLt w.heap.size (some b :: M) := fun g hg => by
  rcases List.mem_cons.1 hg with e | e
  · cases e; exact (Array.getElem?_eq_some_iff.1 h).1
  · exact t g e
theorem MLt.own {w : World} {e : TypeId} {sz n : Nat} {v : Value} {xs : List Value} {M : List (Option Nat)} (h : Own w e sz v n xs) (t : MLt w.heap.size M) : MLt w.heap.size (v.ownBlock :: M) := fun g hg => by
  rcases List.mem_cons.1 hg with e1 | e1
  · exact h.lt e1.symm
  · exact t g e1
section
variable {α : Type} {K : Kd α} {M : List (Option Nat)} {w w' : World} {l m : List α}
theorem Xs.ok (h : Xs K M w l) : ∀ u ∈ l, K.ok w u := fun u hu => (h u hu).1
theorem Xs.nil (K : Kd α) (M : List (Option Nat)) (w : World) : Xs K M w [] := fun _ h => by cases h
theorem Xs.append (h : Xs K M w l) (k : Xs K M w m) : Xs K M w (l ++ m) := fun u hu => (List.mem_append.1 hu).elim (h u) (k u)
theorem Xs.weaken {M' : List (Option Nat)} (h : Xs K M w l) (hM : ∀ o ∈ M', o ∈ M) : Xs K M' w l := fun u hu => ⟨(h u hu).1, fun b hb hm => (h u hu).2 b hb (hM _ hm)⟩
theorem Xs.weakenNone {M' : List (Option Nat)} {v : Value} (h : Xs K M w l) (hM : ∀ o ∈ M', o ∈ none :: M) : Xs K M' w l := fun u hu => ⟨(h u hu).1, fun b hb hm => by
  rcases List.mem_cons.1 (hM _ hm) with e | e
  · cases e
  · exact (h u hu).2 b hb e⟩
theorem Xs.grown {row : Option Nat} (h : Xs K M w l) (hg : w.grownBy w' row) (hr : row = none ∨ row ∈ M) : Xs K M w' l := fun u hu =>
  ⟨K.keep (h u hu).1 fun b hb => hg.block b (K.lt (h u hu).1 hb) fun e => by
    rcases hr with h0 | h0
    · rw [h0] at e; cases e
    · exact (h u hu).2 b hb (e ▸ h0), (h u hu).2⟩
theorem Xs.fresh {b : Nat} {o : Obj} (h : Xs K M w l) (hF : Fresh w w' b o) : Xs K (some b :: M) w' l := fun u hu =>
  ⟨((h.grown hF.grown (.inl rfl)) u hu).1, fun c hc hm => by
    rcases List.mem_cons.1 hm with e | e
    · cases e
      have := K.lt (h u hu).1 hc
      have := hF.eq
      omega
    · exact (h u hu).2 c hc e⟩
theorem Xs.set {b : Nat} {o : Obj} (h : Xs K M w l) (hS : SetB w w' b o) (hb : some b ∈ M) : Xs K M w' l := h.grown hS.grown (.inr hb)
theorem Xs.app {v v' : Value} (h : Xs K M w l) (hA : AppR w w' v v') (hv : v.ownBlock = none ∨ v.ownBlock ∈ M) : Xs K (v'.ownBlock :: M) w' l := fun u hu =>
  ⟨((h.grown hA.grown hv) u hu).1, fun c hc hm => by
    rcases List.mem_cons.1 hm with e | e
    · rcases hA.blk with h1 | ⟨g, h1, h2⟩
      · rcases hv with h0 | h0
        · rw [h1, h0] at e; cases e
        · exact (h u hu).2 c hc (by rw [e, h1]; exact h0)
      · rw [h1] at e; cases e
        have := K.lt (h u hu).1 hc
        omega
    · exact (h u hu).2 c hc e⟩
theorem Xs.below (h : Xs K M w l) (hB : Below w.heap.size w w') : Xs K M w' l := fun u hu => ⟨K.keep (h u hu).1 fun b hb => hB.block b (K.lt (h u hu).1 hb), (h u hu).2⟩
theorem Xs.drew (h : Xs K M w l) : Xs K M w.drew l := fun u hu => ⟨K.keep (h u hu).1 fun b _ => rfl, (h u hu).2⟩
/-- What a call made, of what lay there and of blocks of its own. -/
theorem Xs.of_new {B s : Nat} {u : α} (h : K.ok w u) (hb : ∀ b, K.blk u b → b < B ∨ s ≤ b) (hM : MOk B M) (hM2 : MLt s M) : Xs K M w [u] := fun x hx => by
  obtain rfl := List.mem_singleton.1 hx
  exact ⟨h, fun b hb' hm => by have := hM b hm; have := hM2 b hm; rcases hb b hb' with h1 | h1 <;> omega⟩
theorem Xs.one {u : α} (h : Xs K M w [u]) : K.ok w u := (h u (by simp)).1
end

theorem OwnS.keepT {w w' : World} {e e' : TypeId} {sz n : Nat} {v v' u : Value} {xs : List Value} {ss : List ByteArray} (hA : AppR w w' v v') (hv : Own w e sz v n xs) (hu : OwnS e' w u ss) (hT : Nat.beq e e' = false) : OwnS e' w' u ss := Own.keepT hA hv hu hT
theorem OwnR.keepT {α : Type} {f : α → Array Value} {w w' : World} {e e' : TypeId} {sz sz' n : Nat} {v v' u : Value} {xs : List Value} {l : List α} (hA : AppR w w' v v') (hv : Own w e sz v n xs) (hu : OwnR e' sz' f w u l) (hT : Nat.beq e e' = false) : OwnR e' sz' f w' u l := Own.keepT hA hv hu hT

-- ------------------------------------------------------------------ the kinds of this program
theorem RowsAt.blkLt {α : Type} {w : World} {v : Value} {sz : Nat} {l : List α} {f : α → Array Value} (h : RowsAt w v sz (l.map f)) (hp : 0 < sz) (hne : l ≠ []) : vBlock v < w.heap.size := by
  obtain ⟨s, r, rfl⟩ := List.exists_cons_of_ne_nil hne
  have h1 := h.at_ 0 (f s) rfl
  have h2 : 0 < (f s).size := by rw [h.size 0 (f s) rfl]; exact hp
  exact cell_lt (h1 0 _ (Array.getElem?_eq_getElem h2))
theorem RowsAt.keepB {w w' : World} {v : Value} {sz : Nat} {rows : List (Array Value)} (h : RowsAt w v sz rows) (hb : rows ≠ [] → w'.heap[vBlock v]? = w.heap[vBlock v]?) : RowsAt w' v sz rows := by
  refine ⟨h.ok, h.size, fun i cs hi j x hx => ?_, h.len⟩
  have h1 := h.at_ i cs hi j x hx
  have hne : rows ≠ [] := fun e => by rw [e] at hi; simp at hi
  simp only [World.cell?] at h1 ⊢
  rw [hb hne]; exact h1
mutual
/-- The blocks that a term lies in. -/
def tmBlk : Tm → Nat → Prop
  | .mk _ _ _ _ _ _ kv av kids arms, b => (kids ≠ [] ∧ b = vBlock kv) ∨ (arms ≠ [] ∧ b = vBlock av) ∨ tmBlkL kids b ∨ amBlkL arms b
def tmBlkL : List Tm → Nat → Prop
  | [], _ => False
  | t :: r, b => tmBlk t b ∨ tmBlkL r b
def amBlk : Am → Nat → Prop
  | .mk _ _ vv vars body, b => (vars ≠ [] ∧ b = vBlock vv) ∨ tmBlk body b
def amBlkL : List Am → Nat → Prop
  | [], _ => False
  | a :: r, b => amBlk a b ∨ amBlkL r b
end
theorem tmBlkL_iff {l : List Tm} {b : Nat} : tmBlkL l b ↔ ∃ u ∈ l, tmBlk u b := by
  induction l with
  | nil => simp [tmBlkL]
  | cons a l ih => rw [tmBlkL, ih]; simp
theorem amBlkL_iff {l : List Am} {b : Nat} : amBlkL l b ↔ ∃ u ∈ l, amBlk u b := by
  induction l with
  | nil => simp [amBlkL]
  | cons a l ih => rw [amBlkL, ih]; simp
mutual
theorem tm_lt {w : World} : ∀ (t : Tm) (b : Nat), TmOk w t → tmBlk t b → b < w.heap.size
  | .mk cs k at_ nm pm n kv av kids arms, b, h, hb => by
    rw [tmBlk] at hb
    rcases hb with ⟨h1, rfl⟩ | ⟨h1, rfl⟩ | h1 | h1
    · exact h.kidsAt.blkLt (by decide) h1
    · exact h.armsAt.blkLt (by decide) h1
    · exact tmL_lt kids b h.kids h1
    · exact amL_lt arms b h.arms h1
theorem tmL_lt {w : World} : ∀ (l : List Tm) (b : Nat), (∀ u ∈ l, TmOk w u) → tmBlkL l b → b < w.heap.size
  | [], _, _, hb => by rw [tmBlkL] at hb; cases hb
  | t :: l, b, h, hb => by
    rw [tmBlkL] at hb
    rcases hb with h1 | h1
    · exact tm_lt t b (h t (by simp)) h1
    · exact tmL_lt l b (fun u hu => h u (List.mem_cons_of_mem _ hu)) h1
theorem am_lt {w : World} : ∀ (a : Am) (b : Nat), AmOk w a → amBlk a b → b < w.heap.size
  | .mk cs nm vv vars body, b, h, hb => by
    rw [amBlk] at hb
    rcases hb with ⟨h1, rfl⟩ | h1
    · exact StrsAt.lt h.varsAt h1
    · exact tm_lt body b h.body h1
theorem amL_lt {w : World} : ∀ (l : List Am) (b : Nat), (∀ u ∈ l, AmOk w u) → amBlkL l b → b < w.heap.size
  | [], _, _, hb => by rw [amBlkL] at hb; cases hb
  | t :: l, b, h, hb => by
    rw [amBlkL] at hb
    rcases hb with h1 | h1
    · exact am_lt t b (h t (by simp)) h1
    · exact amL_lt l b (fun u hu => h u (List.mem_cons_of_mem _ hu)) h1
end
theorem map_ne {α β : Type} {f : α → β} {l : List α} (h : l.map f ≠ []) : l ≠ [] := fun e => h (by rw [e]; rfl)
mutual
theorem tm_keep {w w' : World} : ∀ (t : Tm), TmOk w t → (∀ b, tmBlk t b → w'.heap[b]? = w.heap[b]?) → TmOk w' t
  | .mk cs k at_ nm pm n kv av kids arms, h, hb =>
    .mk { h.c with kidsAt := h.kidsAt.keepB fun hne => hb _ (by rw [tmBlk]; exact .inl ⟨map_ne hne, rfl⟩), armsAt := h.armsAt.keepB fun hne => hb _ (by rw [tmBlk]; exact .inr (.inl ⟨map_ne hne, rfl⟩)) }
      (tmL_keep kids h.kids fun b hx => hb b (by rw [tmBlk]; exact .inr (.inr (.inl hx)))) (amL_keep arms h.arms fun b hx => hb b (by rw [tmBlk]; exact .inr (.inr (.inr hx))))
theorem tmL_keep {w w' : World} : ∀ (l : List Tm), (∀ u ∈ l, TmOk w u) → (∀ b, tmBlkL l b → w'.heap[b]? = w.heap[b]?) → ∀ u ∈ l, TmOk w' u
  | [], _, _, _, hu => by cases hu
  | t :: l, h, hb, u, hu => by
    rcases List.mem_cons.1 hu with e | e
    · rw [e]; exact tm_keep t (h t (by simp)) fun b hx => hb b (by rw [tmBlkL]; exact .inl hx)
    · exact tmL_keep l (fun u hu => h u (List.mem_cons_of_mem _ hu)) (fun b hx => hb b (by rw [tmBlkL]; exact .inr hx)) u e
theorem am_keep {w w' : World} : ∀ (a : Am), AmOk w a → (∀ b, amBlk a b → w'.heap[b]? = w.heap[b]?) → AmOk w' a
  | .mk cs nm vv vars body, h, hb =>
    .mk { h.c with varsAt := RowsAt.keepB h.varsAt fun hne => hb _ (by rw [amBlk]; exact .inl ⟨map_ne hne, rfl⟩) } (tm_keep body h.body fun b hx => hb b (by rw [amBlk]; exact .inr hx))
theorem amL_keep {w w' : World} : ∀ (l : List Am), (∀ u ∈ l, AmOk w u) → (∀ b, amBlkL l b → w'.heap[b]? = w.heap[b]?) → ∀ u ∈ l, AmOk w' u
  | [], _, _, _, hu => by cases hu
  | t :: l, h, hb, u, hu => by
    rcases List.mem_cons.1 hu with e | e
    · rw [e]; exact am_keep t (h t (by simp)) fun b hx => hb b (by rw [amBlkL]; exact .inl hx)
    · exact amL_keep l (fun u hu => h u (List.mem_cons_of_mem _ hu)) (fun b hx => hb b (by rw [amBlkL]; exact .inr hx)) u e
end
def kTm : Kd Tm := ⟨TmOk, tmBlk, fun h hb => tm_lt _ _ h hb, fun h hb => tm_keep _ h hb⟩
def kAm : Kd Am := ⟨AmOk, amBlk, fun h hb => am_lt _ _ h hb, fun h hb => am_keep _ h hb⟩
def kCn : Kd Cn := ⟨CnOk, fun c b => c.fields ≠ [] ∧ b = vBlock c.fv, fun h hb => by rw [hb.2]; exact h.fieldsAt.blkLt (by decide) hb.1,
  fun h hb => { h with fieldsAt := h.fieldsAt.keepB fun hne => hb _ ⟨map_ne hne, rfl⟩ }⟩
def kDat : Kd Dat := ⟨DatOk, fun d b => (d.cons ≠ [] ∧ b = vBlock d.cv) ∨ ∃ c ∈ d.cons, kCn.blk c b, fun h hb => by
    rcases hb with h1 | ⟨c, hc, h1⟩
    · rw [h1.2]; exact h.consAt.blkLt (by decide) h1.1
    · exact kCn.lt (h.conOk c hc) h1,
  fun h hb => { h with consAt := h.consAt.keepB fun hne => hb _ (.inl ⟨map_ne hne, rfl⟩), conOk := fun c hc => kCn.keep (h.conOk c hc) fun b hx => hb b (.inr ⟨c, hc, hx⟩) }⟩
def kEff : Kd Eff := ⟨EffOk, fun d b => d.ops ≠ [] ∧ b = vBlock d.ov, fun h hb => by rw [hb.2]; exact h.opsAt.blkLt (by decide) hb.1,
  fun h hb => { h with opsAt := h.opsAt.keepB fun hne => hb _ ⟨map_ne hne, rfl⟩ }⟩
end Go.Proofs.Ytkjmjnddanhapaa
