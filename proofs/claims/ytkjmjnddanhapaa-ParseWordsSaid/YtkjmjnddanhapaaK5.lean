/-
  The walk's own small calculus: slices of the call's own, appended to. Plain lemmas over any program; no condition beyond those that stand in each statement.
-/
import Derived.Test.YtkjmjnddanhapaaK4
import Derived.Deep.AppendSrc
import Derived.Laws.AppendOwnNone
namespace Go.Proofs.Ytkjmjnddanhapaa
open Go.RowKit

def bytesB (P : Program) (t : TypeId) : Option Nat := (P.info? t).map (·.bytes)

/-- A slice of the call's own: n elements of type e (sz cells each), these cells. -/
def Own (w : World) (e : TypeId) (sz : Nat) (v : Value) (n : Nat) (xs : List Value) : Prop := w.ownsRow 0 e sz v n xs
/-- What an append does to memory. -/
structure AppR (w w' : World) (v v' : Value) : Prop where
  grown : w.grownBy w' v.ownBlock
  blk : v'.ownBlock = v.ownBlock ∨ ∃ g, v'.ownBlock = some g ∧ w.heap.size ≤ g

section
variable {w w' : World} {e : TypeId} {sz n : Nat} {v v' : Value} {xs : List Value}
theorem Own.nil (w : World) (e : TypeId) (sz : Nat) : Own w e sz (.slice none 0 0) 0 [] := World.ownsRow_nil w 0 e sz
theorem Own.lt (h : Own w e sz v n xs) {g : Nat} (hg : v.ownBlock = some g) : g < w.heap.size := (World.ownsRow.lt h g hg).2
theorem Own.len (h : Own w e sz v n xs) : xs.length = n * sz := h.1
theorem Own.slOk (h : Own w e sz v n xs) : SlOk v n := by
  rcases h.2 with ⟨rfl, rfl⟩ | ⟨g, cap, cur, rfl, _, _, hc, _⟩
  · exact .inl ⟨rfl, rfl⟩
  · exact .inr ⟨⟨g, 0, none⟩, cap, rfl, hc, fun _ => rfl⟩
theorem Own.one (h : Own w e sz v n xs) : v.oneCell' = true := h.slOk.one
/-- It stands where its block stands. -/
theorem Own.keep (h : Own w e sz v n xs) (hk : ∀ g, v.ownBlock = some g → w'.heap[g]? = w.heap[g]?) : Own w' e sz v n xs := by
  refine ⟨h.1, ?_⟩
  rcases h.2 with h2 | ⟨g, cap, cur, rfl, h3, h4, h5⟩
  · exact .inl h2
  · exact .inr ⟨g, cap, cur, rfl, h3, by rw [hk g rfl]; exact h4, h5⟩
theorem Own.below (h : Own w e sz v n xs) (hB : Below w.heap.size w w') : Own w' e sz v n xs := h.keep fun g hg => hB.block g (h.lt hg)
theorem Own.fresh {b : Nat} {o : Obj} (h : Own w e sz v n xs) (hF : Fresh w w' b o) : Own w' e sz v n xs := h.keep fun g hg => hF.grown.block g (h.lt hg) (by simp)
theorem Own.set {b : Nat} {o : Obj} (h : Own w e sz v n xs) (hS : SetB w w' b o) (hne : some b ≠ v.ownBlock) : Own w' e sz v n xs := h.keep fun g hg => hS.grown.block g (h.lt hg) (by rw [← hg]; exact fun e => hne e.symm)
/-- A block of another type is another block. -/
theorem Own.neT (h : Own w e sz v n xs) {k : Nat} {C : Array Value} {T : TypeId} {fr : Nat × Nat} (hk : w.heap[k]? = some (.cells C T fr)) (hT : Nat.beq T e = false) : some k ≠ v.ownBlock := by
  intro hv
  rcases h.2 with ⟨rfl, _⟩ | ⟨g, cap, cur, rfl, h3, h4, h5⟩
  · simp [Value.ownBlock] at hv
  · simp only [Value.ownBlock, Option.some.injEq] at hv
    subst hv
    rw [hk] at h4
    simp only [Option.some.injEq, Obj.cells.injEq] at h4
    exact neB hT h4.2.1
theorem AppR.old (h : AppR w w' v v') {k : Nat} {x : Obj} (hk : w.heap[k]? = some x) (hne : some k ≠ v.ownBlock) : w'.heap[k]? = some x := by
  have : k < w.heap.size := (Array.getElem?_eq_some_iff.1 hk).1
  rw [h.grown.block k this hne]; exact hk
theorem AppR.own {u : Value} {e2 : TypeId} {s2 m : Nat} {ys : List Value} (h : AppR w w' v v') (hu : Own w e2 s2 u m ys) (hne : u.ownBlock = none ∨ u.ownBlock ≠ v.ownBlock) : Own w' e2 s2 u m ys :=
  hu.keep fun g hg => h.grown.block g (hu.lt hg) (by
    rcases hne with h0 | h0
    · rw [h0] at hg; cases hg
    · rw [← hg]; exact h0)
theorem AppR.below {w0 : World} {B : Nat} (h : AppR w w' v v') (hB : Below B w0 w) (hl : B ≤ w.heap.size) (hb : ∀ g, v.ownBlock = some g → B ≤ g) : Below B w0 w' := hB.grown h.grown hl hb
theorem AppR.ge {B : Nat} (h : AppR w w' v v') (hl : B ≤ w.heap.size) (hb : ∀ g, v.ownBlock = some g → B ≤ g) : ∀ g, v'.ownBlock = some g → B ≤ g := by
  intro g hg
  rcases h.blk with h1 | ⟨g', h1, h2⟩
  · exact hb g (by rw [← h1]; exact hg)
  · rw [h1] at hg; cases hg; omega
theorem AppR.ne {k : Nat} {x : Obj} (h : AppR w w' v v') (hk : w.heap[k]? = some x) (hne : some k ≠ v.ownBlock) : some k ≠ v'.ownBlock := by
  have : k < w.heap.size := (Array.getElem?_eq_some_iff.1 hk).1
  rcases h.blk with h1 | ⟨g', h1, h2⟩
  · rw [h1]; exact hne
  · rw [h1]; intro e; cases e; omega
theorem AppR.neOwn {u : Value} {e2 : TypeId} {s2 m : Nat} {ys : List Value} (h : AppR w w' v v') (hu : Own w e2 s2 u m ys) (hne : u.ownBlock = none ∨ u.ownBlock ≠ v.ownBlock) : u.ownBlock = none ∨ u.ownBlock ≠ v'.ownBlock := by
  cases hub : u.ownBlock with
  | none => exact .inl rfl
  | some g =>
    right
    have hg := hu.lt hub
    rw [hub] at hne
    rcases h.blk with h1 | ⟨g', h1, h2⟩
    · rw [h1]; rcases hne with h0 | h0; exact absurd h0 (by simp); exact h0
    · rw [h1]; intro e; cases e; omega

end

theorem flat_get {sz : Nat} : ∀ {rows : List (Array Value)}, (∀ r ∈ rows, r.size = sz) → ∀ {i j : Nat} {cs : Array Value} {x : Value}, rows[i]? = some cs → cs[j]? = some x → (rows.flatMap (·.toList))[i * sz + j]? = some x := by
  intro rows
  induction rows with
  | nil => intro _ i j cs x h; simp at h
  | cons r rs ih =>
    intro hs i j cs x hi hj
    have hr := hs r (by simp)
    have hjl : j < cs.size := (Array.getElem?_eq_some_iff.1 hj).1
    cases i with
    | zero =>
      simp at hi
      subst hi
      simp only [List.flatMap_cons, Nat.zero_mul, Nat.zero_add]
      rw [List.getElem?_append_left (by simpa using hjl)]
      simpa using hj
    | succ i =>
      simp only [List.flatMap_cons]
      rw [List.getElem?_append_right (by simp [hr, Nat.succ_mul]; omega)]
      have := ih (fun q hq => hs q (List.mem_cons_of_mem _ hq)) (i := i) (j := j) (cs := cs) (x := x) (by simpa using hi) hj
      rw [← this]
      congr 1
      simp [hr, Nat.succ_mul]; omega

section
variable {P : Program} {N : Nat} {ds : List Deferred} {L : List (Nat × Value)} {w : World} {ops : Array Oper} {Q : Exit → Act → World → Prop} {rest : List Oper}
  {d : Nat} {ty : TypeId} {pos : String} {aft : Array Edge} {x y : Operand}

theorem run_appendS {t tx e : TypeId} {sz by_ : Nat} {z : Value} (ty : TypeId) (ht : elemB P t = some e) (hs : sizeB P e = some sz) (hb : bytesB P e = some by_) (hz : zeroB P e = some z) (hzs : z.cells.size = sz)
    {v xv : Value} {n m : Nat} {xs news : List Value} (hO : Own w e sz v n xs) (hS : Src P sz tx xv m news w) (h63 : n + m ≤ maxLen) (hby : (n + m) * by_ ≤ 140737488355328) :
    ∃ v' w', (Builtin.append_ #[t, tx] ty #[v, xv]).run P w = .ok v' w' ∧ Own w' e sz v' (n + m) (xs ++ news) ∧ AppR w w' v v' := by
  have hu := underlying_elem ht
  cases hi : P.info? e with
  | none => simp [sizeB, hi] at hs
  | some i =>
    have hsz : i.size = sz := by simpa [sizeB, hi] using hs
    have hbb : i.bytes = by_ := by simpa [bytesB, hi] using hb
    have hzz : i.zero = some z := by simpa [zeroB, hi] using hz
    subst hsz hbb
    have hlen : (xs ++ news).length = (n + m) * i.size := by rw [List.length_append, hO.1, hS.newsLen, Nat.add_mul]
    have h63i : ((n + m : Nat) : Int) ≤ 9223372036854775807 := by simp only [maxLen] at h63; omega
    have grown : ∀ (old : Nat), old < n + m → ∀ (v : Value), (∀ g, v.ownBlock = some g → g < w.heap.size) →
        Own (w.drew.alloc (.cells ((xs ++ news).toArray ++ Builtin.zeroCells z.cells (grownCap w (n + m) old e - (n + m))) e)) e i.size (.slice (some ⟨w.heap.size, 0, none⟩) (n + m) (grownCap w (n + m) old e)) (n + m) (xs ++ news) ∧
        AppR w (w.drew.alloc (.cells ((xs ++ news).toArray ++ Builtin.zeroCells z.cells (grownCap w (n + m) old e - (n + m))) e)) v (.slice (some ⟨w.heap.size, 0, none⟩) (n + m) (grownCap w (n + m) old e)) := by
      intro old ho v hv
      have hge := grownCap_ge w (n + m) old e
      have hcm : grownCap w (n + m) old e ≤ maxLen := grownCap_le_maxLen w (n + m) old e h63
      refine ⟨⟨hlen, .inr ⟨w.heap.size, _, _, rfl, Nat.zero_le _, heap_alloc_new w.drew _, hge, hcm, ?_, ?_⟩⟩, ⟨⟨rfl, rfl, rfl, by simp, fun k hk _ => Below.heap_alloc w.drew _ k hk⟩, .inr ⟨_, rfl, Nat.le_refl _⟩⟩⟩
      · simp only [Array.size_append, List.size_toArray, size_zeroCells, hzs, hlen, ← Nat.add_mul]
        congr 1
        omega
      · simp only [Array.toList_append]
        rw [← hlen]
        exact List.take_left
    rcases hO.2 with ⟨rfl, rfl⟩ | ⟨g, cap, cur, rfl, hbg, hg, hnc, hcm, hcs, htake⟩
    · have hx : xs = [] := List.eq_nil_of_length_eq_zero (by simpa using hO.1)
      subst hx
      by_cases hm : m = 0
      · subst hm
        have hn : news = [] := List.eq_nil_of_length_eq_zero (by simpa using hS.newsLen)
        subst hn
        refine ⟨.slice none 0 0, w, ?_, Own.nil w e i.size, ⟨⟨rfl, rfl, rfl, Nat.le_refl _, fun _ _ _ => rfl⟩, .inl rfl⟩⟩
        rcases hS.kind with ⟨e', hk⟩ | hk <;> simp [Builtin.append_, run_underlying hu, run_underlying hk, sizeOf, typeInfo, hi, hS.len, hS.cells]
      · have hr := run_append_grow_src (P := P) w t tx ty e i z hu hi hzz none 0 0 [] (by simp [Builtin.firstCells]) xv m news hS (by omega) (by simpa using h63i) (by have hb := growslice_fits (show 0 < 0 + m by omega) hby; exact hb)
        have hgr := grown 0 (by omega) (.slice none 0 0) (by simp [Value.ownBlock])
        exact ⟨_, _, hr, hgr.1, hgr.2⟩
    · by_cases hroom : n + m ≤ cap
      · have hfit : n * i.size + news.length ≤ cur.size := by rw [hS.newsLen, hcs, ← Nat.add_mul]; exact Nat.mul_le_mul_right _ hroom
        have hst := run_storeCells_at (P := P) g (n * i.size) e news 0 cur w hg (by simpa using hfit) hS.one
        simp only [Nat.add_zero] at hst
        have hr : (Builtin.append_ #[t, tx] ty #[.slice (some ⟨g, 0, none⟩) n cap, xv]).run P w = .ok (.slice (some ⟨g, 0, none⟩) (n + m) cap) (w.setRow g (cur.toList.take (n * i.size) ++ news ++ cur.toList.drop (n * i.size + news.length)).toArray) := by
          rcases hS.kind with ⟨e', hk⟩ | hk <;> simp [Builtin.append_, run_underlying hu, run_underlying hk, sizeOf, typeInfo, hi, hS.len, hroom, hS.cells, Addr.add_lit, hst]
        refine ⟨_, _, hr, ⟨hlen, .inr ⟨g, cap, _, rfl, hbg, setRow_heap w g cur _ e _ hg, hroom, hcm, ?_, ?_⟩⟩, ⟨⟨rfl, rfl, rfl, by simp, fun k _ hk => setRow_other w g k _ (fun e => hk (by simp [Value.ownBlock, e]))⟩, .inl rfl⟩⟩
        · simp only [List.size_toArray, List.length_append, List.length_take, List.length_drop, Array.length_toList]
          omega
        · rw [htake, ← hlen]
          exact List.take_left
      · have holds : ∀ j u, xs[j]? = some u → w.cell? ((⟨g, 0, none⟩ : Addr).add j) = some u := World.ownsRow.cells (g := g) hO rfl
        have hold : (Builtin.firstCells i.size n (.slice (some ⟨g, 0, none⟩) n cap)).run P w.drew = .ok xs.toArray w.drew := run_firstCells_some w.drew i.size n ⟨g, 0, none⟩ n cap xs hO.1 (by simpa using holds)
        have hr := run_append_grow_src (P := P) w t tx ty e i z hu hi hzz (some ⟨g, 0, none⟩) n cap xs hold xv m news hS (by omega) h63i (growslice_fits (by omega) hby)
        have hgr := grown cap (by omega) (.slice (some ⟨g, 0, none⟩) n cap) (by intro k hk; simp [Value.ownBlock] at hk; subst hk; exact (Array.getElem?_eq_some_iff.1 hg).1)
        exact ⟨_, _, hr, hgr.1, hgr.2⟩

theorem At.append {t tx e : TypeId} {sz by_ : Nat} {z v xv : Value} {n m : Nat} {xs news : List Value} (hx : ev L x = some v) (hy : ev L y = some xv) (ht : elemB P t = some e) (hs : sizeB P e = some sz) (hb : bytesB P e = some by_) (hz : zeroB P e = some z) (hzs : z.cells.size = sz)
    (hO : Own w e sz v n xs) (hS : Src P sz tx xv m news w) (h63 : n + m ≤ maxLen) (hby : (n + m) * by_ ≤ 140737488355328) (hN : Nat.blt d N = true)
    (k : ∀ v' w', Own w' e sz v' (n + m) (xs ++ news) → AppR w w' v v' → At N ds ((d, v') :: L) (wpList P ops Q rest) w') :
    At N ds L (wpList P ops Q (⟨some d, .call ⟨.builtin .append, #[x, y], #[t, tx]⟩, ty, pos, aft, none⟩ :: rest)) w := by
  obtain ⟨v', w', hr, h1, h2⟩ := run_appendS (P := P) ty ht hs hb hz hzs hO hS h63 hby
  refine At.op (v := v') (w' := w') rfl rfl hN (fun a ha => ?_) (k v' w' h1 h2)
  simp only [execOp, resolve, invoke, builtin, Sem.run_bind, Sem.run_pure, Result.andThen_ok, List.map_toArray, List.map_cons, List.map_nil, ha.ev hx, ha.ev hy, hr]
end
end Go.Proofs.Ytkjmjnddanhapaa
