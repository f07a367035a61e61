/-
  From what an argument reads as to how it lies in memory, with its bulk: plain lemmas over any program; no condition beyond those that stand in each statement.
-/
import Derived.Test.YtkclfcdppnlkbaaR2
import Derived.Test.YtkclfcdppnlkbaaS4
namespace Go.Proofs.Ytkclfcdppnlkbaa
open Go.RowKit

section
variable {H : Type} (enc : TypeId × Value → H) (P : Program) (w : World)
/-- These cells can be read as data of a type, of no more than such a bulk. -/
def Rdb (n : Nat) (t : TypeId) (cs : List Value) (c : Nat) : Prop := ∃ x, DataW.trod enc P w 0 (fun _ => true) true n t cs = some x ∧ Rows.uptoBulk x.1 ≤ c
end
theorem bulk_pos {H : Type} (d : DataW H) : 1 ≤ Rows.uptoBulk d := by
  cases d with
  | lit l => cases l <;> simp [Rows.uptoBulk]
  | _ => simp [Rows.uptoBulk]
theorem bulk_all {H : Type} : ∀ l : List (DataW H), Rows.uptoBulkAll l = (l.map Rows.uptoBulk).sum := by
  intro l
  induction l with
  | nil => rfl
  | cons a l ih => rw [Rows.uptoBulkAll, ih]; simp
section
variable {H : Type} {enc : TypeId × Value → H} {P : Program} {w : World} {n c : Nat} {t u e : TypeId} {cs : List Value} {i o : Nat}
theorem Rdb.rd (h : Rdb enc P w n t cs c) : Rd enc P w n t cs := by obtain ⟨x, h, _⟩ := h; exact ⟨x, h⟩
theorem Rdb.pos (h : Rdb enc P w n t cs c) : 1 ≤ c := by obtain ⟨x, _, h⟩ := h; have := bulk_pos x.1; omega

/-- The fields' bulks together are less. -/
theorem Rdb.parts {o0 : Nat} {u0 : TypeId} (h0 : fieldT P t 0 = some (o0, u0)) (h : Rdb enc P w n t cs c) :
    ∃ bs : List Nat, bs.sum + 1 ≤ c ∧ ∀ (i o : Nat) (u : TypeId), fieldT P t i = some (o, u) → ∃ b, bs[i]? = some b ∧ ∃ m, m < n ∧ Rdb enc P w m u ((cs.drop o).take (P.cellsOf u)) b := by
  obtain ⟨x, h, hb⟩ := h
  cases hu : P.underlying t with
  | none => simp [fieldT, hu] at h0
  | some d =>
    cases d with
    | struct fs =>
      obtain ⟨xs, m, rfl, rfl, _, hl, hf⟩ := DataW.trod_struct hu h
      refine ⟨xs.map fun y => Rows.uptoBulk y.1, ?_, fun i o u hi => ?_⟩
      · simp only [Rows.uptoBulk, bulk_all, List.map_map] at hb
        exact hb
      · simp only [fieldT, hu] at hi
        cases hfi : fs[i]? with
        | none => rw [hfi] at hi; cases hi
        | some f =>
          rw [hfi] at hi
          simp only [Option.map_some, Option.some.injEq, Prod.mk.injEq] at hi
          obtain ⟨rfl, rfl⟩ := hi
          have hlt : i < xs.length := by rw [hl]; exact (Array.getElem?_eq_some_iff.1 hfi).1
          refine ⟨Rows.uptoBulk xs[i].1, by simp [hlt], m, Nat.lt_succ_self m, xs[i], by rw [hf i f hfi, List.getElem?_eq_getElem hlt], Nat.le_refl _⟩
    | _ => simp [fieldT, hu] at h0

theorem sum_ge : ∀ {l : List Nat} {i b : Nat}, l[i]? = some b → b ≤ l.sum := by
  intro l
  induction l with
  | nil => intro i b h; simp at h
  | cons a l ih =>
    intro i b h
    cases i with
    | zero => simp at h; subst h; simp
    | succ i => have := ih (i := i) (by simpa using h); simp; omega
theorem sum_ge2 : ∀ {l : List Nat} {i j a b : Nat}, i < j → l[i]? = some a → l[j]? = some b → a + b ≤ l.sum := by
  intro l
  induction l with
  | nil => intro i j a b _ h; simp at h
  | cons x l ih =>
    intro i j a b hij h1 h2
    cases j with
    | zero => omega
    | succ j =>
      cases i with
      | zero => simp at h1; subst h1; have := sum_ge (l := l) (i := j) (by simpa using h2); simp; omega
      | succ i => have := ih (i := i) (j := j) (by omega) (by simpa using h1) (by simpa using h2); simp; omega
theorem sum_ge3 : ∀ {l : List Nat} {i j k a b c : Nat}, i < j → j < k → l[i]? = some a → l[j]? = some b → l[k]? = some c → a + b + c ≤ l.sum := by
  intro l
  induction l with
  | nil => intro i j k a b c _ _ h; simp at h
  | cons x l ih =>
    intro i j k a b c hij hjk h1 h2 h3
    cases k with
    | zero => omega
    | succ k =>
      cases j with
      | zero => omega
      | succ j =>
        cases i with
        | zero => simp at h1; subst h1; have := sum_ge2 (l := l) (i := j) (j := k) (by omega) (by simpa using h2) (by simpa using h3); simp; omega
        | succ i => have := ih (i := i) (j := j) (k := k) (by omega) (by omega) (by simpa using h1) (by simpa using h2) (by simpa using h3); simp; omega

/-- A slice of such, each with a weight of no more than its bulk. -/
theorem Rdb.rows {β : Type} {sz : Nat} {f : β → Array Value} {Ok : β → Prop} (wt : β → Nat) (ht : elemB P t = some e) (hc : P.cellsOf e = sz) (hz : 0 < sz) (h : Rdb enc P w n t cs c)
    (each : ∀ m, m < n → ∀ (row : List Value) (b : Nat), row.length = sz → Rdb enc P w m e row b → ∃ y, f y = row.toArray ∧ Ok y ∧ wt y ≤ b) :
    ∃ (v : Value) (l : List β), cs = [v] ∧ RowsAt w v sz (l.map f) ∧ (∀ b ∈ l, Ok b) ∧ (l.map wt).sum + 1 ≤ c := by
  obtain ⟨x, h, hb⟩ := h
  have hn : 0 < n := by cases n with | zero => simp [DataW.trod] at h | succ n => omega
  rcases DataW.trod_slice (underlying_elem ht) h with ⟨rfl, rfl⟩ | ⟨a, len, cap, elems, rest, m, rfl, rfl, rfl, _, hl, hm, hel, hget, _⟩
  · exact ⟨_, [], rfl, RowsAt.nil w sz, (fun _ h => by cases h), by simpa [Rows.uptoBulk] using hb⟩
  · rw [hc] at hget
    have hsum : (elems.map fun y => Rows.uptoBulk y.1).sum + 1 ≤ c := by
      simp only [Rows.uptoBulk, bulk_all, List.map_map] at hb
      have : (elems.map fun y => Rows.uptoBulk y.1).sum = (elems.map (Rows.uptoBulk ∘ fun x => x.1)).sum := rfl
      omega
    have each' : ∀ i, i < len → ∃ (row : List Value) (y : DataW H × List MemPlace), w.cells? 0 (a.add (i * sz)) sz = some row ∧ elems[i]? = some y ∧ DataW.trod enc P w 0 (fun _ => true) true m e row = some y := by
      intro i hi
      have h1 := hget i hi
      have hlt : i < elems.length := by omega
      rw [List.getElem?_eq_getElem hlt, Option.bind_eq_some_iff] at h1
      obtain ⟨row, h2, h3⟩ := h1
      exact ⟨row, elems[i], h2, List.getElem?_eq_getElem hlt, h3⟩
    have hsp : 0 < len → a.spot = none := by
      intro h0
      obtain ⟨row, _, h2, _⟩ := each' 0 h0
      have := (cells_at h2).2.1 hz
      simpa [Addr.add] using this
    obtain ⟨l, hll, hq⟩ := list_of (Q := fun i b => (f b).size = sz ∧ CellsAt w a.block (a.off + i * sz) (f b) ∧ Ok b ∧ ∃ y, elems[i]? = some y ∧ wt b ≤ Rows.uptoBulk y.1) len fun i hi => by
      obtain ⟨row, y, h2, h3, h4⟩ := each' i hi
      obtain ⟨h5, _, h6⟩ := cells_at h2
      obtain ⟨b, b1, b2, b3⟩ := each m (Nat.lt_succ_self m) row _ h5 ⟨y, h4, Nat.le_refl _⟩
      have ha := hsp (by omega)
      refine ⟨b, by rw [b1]; simpa using h5, ?_, b2, y, h3, b3⟩
      rw [b1]
      obtain ⟨bb, oo, sp⟩ := a
      simp only at ha
      subst ha
      rw [add_at] at h6
      exact h6
    have hmx : maxLen = 9223372036854775807 := rfl
    refine ⟨_, l, rfl, ⟨.inr ⟨a, cap, by simp [hll], by simpa [hll] using hl, by simpa [hll] using hsp⟩, fun i cs hi => ?_, fun i cs hi => ?_, by simp [hll]; omega⟩, fun b hb => ?_, ?_⟩
    · simp only [List.getElem?_map, Option.map_eq_some_iff] at hi
      obtain ⟨b, hb, rfl⟩ := hi; exact (hq i b hb).1
    · simp only [List.getElem?_map, Option.map_eq_some_iff] at hi
      obtain ⟨b, hb, rfl⟩ := hi; exact (hq i b hb).2.1
    · obtain ⟨i, hi⟩ := List.getElem?_of_mem hb
      exact (hq i b hi).2.2.1
    · have key : ∀ (l : List β) (ys : List (DataW H × List MemPlace)), l.length = ys.length → (∀ (i : Nat) b, l[i]? = some b → ∃ y, ys[i]? = some y ∧ wt b ≤ Rows.uptoBulk y.1) → (l.map wt).sum ≤ (ys.map fun y => Rows.uptoBulk y.1).sum := by
        intro l
        induction l with
        | nil => intro ys _ _; simp
        | cons b l ih =>
          intro ys hl2 hg
          cases ys with
          | nil => simp at hl2
          | cons y ys =>
            obtain ⟨y', h1, h2⟩ := hg 0 b rfl
            simp at h1; subst h1
            have := ih ys (by simpa using hl2) (fun i b hb => by have := hg (i + 1) b (by simpa using hb); simpa using this)
            simp only [List.map_cons, List.sum_cons]; omega
      have := key l elems (by omega) (fun i b hb => (hq i b hb).2.2.2)
      omega
end

section
variable {H : Type} {enc : TypeId × Value → H} {w : World} {n c : Nat} {cs : List Value}
theorem one_sum {α : Type} (l : List α) : (l.map fun _ => 1).sum = l.length := by
  induction l with
  | nil => rfl
  | cons a l ih => simp only [List.map_cons, List.sum_cons, ih, List.length_cons]; omega
theorem sum_mem {α : Type} {l : List α} {f : α → Nat} {x : α} (h : x ∈ l) : f x ≤ (l.map f).sum := by
  obtain ⟨i, hi⟩ := List.getElem?_of_mem h
  exact sum_ge (l := l.map f) (i := i) (by simp [hi])
theorem sum_pos {α : Type} {l : List α} {f : α → Nat} (h : ∀ x ∈ l, 1 ≤ f x) : l.length ≤ (l.map f).sum := by
  induction l with
  | nil => simp
  | cons a l ih =>
    have h1 := h a (by simp)
    have h2 := ih fun x hx => h x (List.mem_cons_of_mem _ hx)
    simp only [List.map_cons, List.sum_cons, List.length_cons]; omega
def effW (e : Eff) : Nat := e.ops.length + 1
def cnW (k : Cn) : Nat := k.fields.length + 1
def datW (d : Dat) : Nat := (d.cons.map cnW).sum + 1
theorem eff_rdb (h : Rdb enc Try.prog w n 43 cs c) : ∃ t : Eff, t.cs = cs.toArray ∧ EffOk w t ∧ effW t ≤ c := by
  obtain ⟨nm, h0⟩ := Rd.fStr f43_0 k9 c9 h.rd
  obtain ⟨bs, hb, hf⟩ := h.parts f43_0
  obtain ⟨b, hb1, m, hm, h1⟩ := hf 1 _ _ f43_1
  rw [c41] at h1
  obtain ⟨v, l, h2, h3, h4, h5⟩ := Rdb.rows (fun _ : Op => 1) e41 c45 (by omega) h1 fun m _ row b _ hd => by
    obtain ⟨t, ht, ht'⟩ := op_rd hd.rd
    exact ⟨t, ht, ht', hd.pos⟩
  have hl : cs.length = 2 := (Rd.len f43_0 h.rd).trans c43
  rw [one_sum] at h5
  have := sum_ge hb1
  exact ⟨⟨cs.toArray, nm, v, l⟩, rfl, ⟨by simpa using hl, all_one (Rd.one rd_clos n 43 cs (by decide) h.rd), h0, one_at h2, h3, h4⟩, by simp only [effW]; omega⟩
theorem cn_rdb (h : Rdb enc Try.prog w n 54 cs c) : ∃ t : Cn, t.cs = cs.toArray ∧ CnOk w t ∧ cnW t ≤ c := by
  obtain ⟨nm, h0⟩ := Rd.fStr f54_0 k9 c9 h.rd
  obtain ⟨bs, hb, hf⟩ := h.parts f54_0
  obtain ⟨b, hb1, m, hm, h1⟩ := hf 1 _ _ f54_1
  rw [c26] at h1
  obtain ⟨v, l, h2, h3, h4, h5⟩ := Rdb.rows (fun _ : Ty => 1) e26 c31 (by omega) h1 fun m _ row b _ hd => by
    obtain ⟨t, ht, ht'⟩ := ty_rd hd.rd
    exact ⟨t, ht, ht', hd.pos⟩
  have hl : cs.length = 2 := (Rd.len f54_0 h.rd).trans c54
  rw [one_sum] at h5
  have := sum_ge hb1
  exact ⟨⟨cs.toArray, nm, v, l⟩, rfl, ⟨by simpa using hl, all_one (Rd.one rd_clos n 54 cs (by decide) h.rd), h0, one_at h2, h3, h4⟩, by simp only [cnW]; omega⟩
theorem dat_rdb (h : Rdb enc Try.prog w n 52 cs c) : ∃ t : Dat, t.cs = cs.toArray ∧ DatOk w t ∧ datW t ≤ c := by
  obtain ⟨nm, h0⟩ := Rd.fStr f52_0 k9 c9 h.rd
  obtain ⟨bs, hb, hf⟩ := h.parts f52_0
  obtain ⟨b, hb1, m, hm, h1⟩ := hf 1 _ _ f52_1
  rw [c50] at h1
  obtain ⟨v, l, h2, h3, h4, h5⟩ := Rdb.rows cnW e50 c54 (by omega) h1 fun m _ row b _ hd => cn_rdb hd
  have hl : cs.length = 2 := (Rd.len f52_0 h.rd).trans c52
  have := sum_ge hb1
  exact ⟨⟨cs.toArray, nm, v, l⟩, rfl, ⟨by simpa using hl, all_one (Rd.one rd_clos n 52 cs (by decide) h.rd), h0, one_at h2, h3, h4⟩, by simp only [datW]; omega⟩
def armW (a : Am) : Nat := a.vars.length + wtT a.body
theorem wtL_sum (l : List Tm) : wtL l = (l.map wtT).sum := by
  induction l with
  | nil => rfl
  | cons a l ih => rw [wtL, ih]; simp
theorem wtA_sum (l : List Am) : wtA l = (l.map armW).sum := by
  induction l with
  | nil => rfl
  | cons a l ih => cases a; rw [wtA, ih]; simp [armW, Am.vars, Am.body]
theorem strs_rdb (h : Rdb enc Try.prog w n 27 cs c) : ∃ (v : Value) (ss : List ByteArray), cs = [v] ∧ StrsAt w v ss ∧ ss.length + 1 ≤ c := by
  obtain ⟨v, l, h2, h3, _, h5⟩ := Rdb.rows (f := fun s : ByteArray => #[Value.string s]) (Ok := fun _ => True) (fun _ => 1) e27 c9 (by omega) h fun m hm row b hr hd => by
    obtain ⟨s, rfl, _⟩ := Rd.str k9 hd.rd
    exact ⟨s, rfl, trivial, hd.pos⟩
  rw [one_sum] at h5
  exact ⟨v, l, h2, h3, h5⟩
theorem tm_rdb : ∀ (n : Nat) (cs : List Value) (c : Nat), Rdb enc Try.prog w n 33 cs c → ∃ t : Tm, t.cs = cs.toArray ∧ TmOk w t ∧ wtT t ≤ c := by
  intro n
  induction n using Nat.strongRecOn with
  | _ n ih =>
    intro cs c h
    obtain ⟨k, h0⟩ := Rd.fInt f33_0 k3 c3 h.rd
    obtain ⟨at_, h1⟩ := Rd.fInt f33_1 k3 c3 h.rd
    obtain ⟨nm, h2⟩ := Rd.fStr f33_2 k9 c9 h.rd
    obtain ⟨pm, h3⟩ := Rd.fStr f33_3 k9 c9 h.rd
    obtain ⟨m, h4⟩ := Rd.fInt f33_4 k3 c3 h.rd
    obtain ⟨bs, hb, hf⟩ := h.parts f33_0
    obtain ⟨b0, hb0, m0, _, g0⟩ := hf 0 _ _ f33_0
    obtain ⟨b5, hb5, m5, hm5, g5⟩ := hf 5 _ _ f33_5
    obtain ⟨b6, hb6, m6, hm6, g6⟩ := hf 6 _ _ f33_6
    rw [c24] at g5
    rw [c25] at g6
    obtain ⟨kv, kids, h5, h5', h5'', s5⟩ := Rdb.rows wtT e24 c33 (by omega) g5 fun m hm row b _ hd => ih m (by omega) row b hd
    obtain ⟨av, arms, h6, h6', h6'', s6⟩ := Rdb.rows (f := Am.cs) (Ok := AmOk w) armW e25 c71 (by omega) g6 fun m hm row b hr hd => by
      obtain ⟨nm, a0⟩ := Rd.fStr f71_0 k9 c9 hd.rd
      obtain ⟨bs', hb', hf'⟩ := hd.parts f71_0
      obtain ⟨b1, hb1, m1, _, a1⟩ := hf' 1 _ _ f71_1
      obtain ⟨b2, hb2, m2, hm2, a2⟩ := hf' 2 _ _ f71_2
      rw [c27] at a1
      rw [c33] at a2
      obtain ⟨vv, vars, a3, a3', a3''⟩ := strs_rdb a1
      obtain ⟨bd, hbd, hbd', hbd''⟩ := ih m2 (by omega) _ _ a2
      have := sum_ge2 (by omega : 1 < 2) hb1 hb2
      exact ⟨.mk row.toArray nm vv vars bd, rfl, .mk ⟨by simpa [Am.cs] using hr, all_one (Rd.one rd_clos m 71 row (by decide) hd.rd), a0, one_at a3, a3', part_at.trans hbd.symm⟩ hbd', by simp only [armW, Am.vars, Am.body]; omega⟩
    have hl : cs.length = 21 := (Rd.len f33_0 h.rd).trans c33
    have hsum := sum_ge3 (by omega : 0 < 5) (by omega : 5 < 6) hb0 hb5 hb6
    have hp := g0.pos
    refine ⟨.mk cs.toArray k at_ nm pm m kv av kids arms, rfl, .mk ⟨by simpa [Tm.cs] using hl, all_one (Rd.one rd_clos n 33 cs (by decide) h.rd), h0, h1, h2, h3, h4, one_at h5, one_at h6, h5', h6'⟩ h5'' h6'', ?_⟩
    rw [wtT_eq, wtL_sum, wtA_sum]
    show 2 + (kids.map wtT).sum + (arms.map armW).sum ≤ c
    omega
theorem flat_len {α β : Type} (l : List α) (f : α → List β) : (l.flatMap f).length = (l.map fun x => (f x).length).sum := by simp [List.length_flatMap]
theorem sum_le_sum {α : Type} {l : List α} {f g : α → Nat} (h : ∀ x ∈ l, f x ≤ g x) : (l.map f).sum ≤ (l.map g).sum := by
  induction l with
  | nil => simp
  | cons a l ih =>
    have h1 := h a (by simp)
    have h2 := ih fun x hx => h x (List.mem_cons_of_mem _ hx)
    simp only [List.map_cons, List.sum_cons]; omega
/-- What is known of a program whose bulk is small. -/
structure PrSmall (p : Pr) (c : Nat) : Prop where
  effs : (p.effs.map effW).sum ≤ c
  dats : (p.dats.map datW).sum ≤ c
  body : wtT p.body ≤ c
theorem PrSmall.sz {p : Pr} {c : Nat} (h : PrSmall p c) (hc : c ≤ 1000000000) : PrSz p := by
  have h1 := h.effs
  have h2 := h.dats
  have hcn : ∀ k : Cn, 1 ≤ cnW k := fun k => by simp [cnW]
  have hdc : ∀ d ∈ p.dats, (d.cons.map cnW).sum ≤ c := fun d hd => by have := sum_mem (f := datW) hd; simp only [datW] at this; omega
  refine ⟨?_, ?_, fun e he => ?_, fun d hd => ?_, fun d hd k hk => ?_, ?_, ?_⟩
  · have := sum_pos (l := p.effs) (f := effW) (fun x _ => by simp [effW]); omega
  · have := sum_pos (l := p.dats) (f := datW) (fun x _ => by simp [datW]); omega
  · have := sum_mem (f := effW) he; simp only [effW] at this; omega
  · have := sum_pos (l := d.cons) (f := cnW) (fun x _ => hcn x); have := hdc d hd; omega
  · have q : k.fields.length + 1 ≤ (d.cons.map cnW).sum := sum_mem (f := cnW) hk
    have := hdc d hd; omega
  · have h3 := flat_len p.effs fun e => e.ops.map Op.nm
    have h4 := sum_le_sum (l := p.effs) (f := fun e => (e.ops.map Op.nm).length) (g := effW) (fun e _ => by simp [effW])
    omega
  · have h3 := flat_len p.dats fun e => e.cons.map Cn.nm
    have h4 := sum_le_sum (l := p.dats) (f := fun e => (e.cons.map Cn.nm).length) (g := datW) (fun d _ => by
      have := sum_pos (l := d.cons) (f := cnW) (fun x _ => hcn x); simp [datW]; omega)
    omega
theorem pr_rdb (h : Rdb enc Try.prog w n 35 cs c) : ∃ t : Pr, t.cs = cs.toArray ∧ PrOk w t ∧ PrSmall t c := by
  obtain ⟨bs, hb, hf⟩ := h.parts f35_0
  obtain ⟨b0, hb0, m0, _, g0⟩ := hf 0 _ _ f35_0
  obtain ⟨b1, hb1, m1, _, g1⟩ := hf 1 _ _ f35_1
  obtain ⟨b2, hb2, m2, _, g2⟩ := hf 2 _ _ f35_2
  rw [c22] at g0
  rw [c23] at g1
  rw [c33] at g2
  obtain ⟨ev, effs, h0, h0', h0'', s0⟩ := Rdb.rows effW e22 c43 (by omega) g0 fun m _ row b _ hd => eff_rdb hd
  obtain ⟨dv, dats, h1, h1', h1'', s1⟩ := Rdb.rows datW e23 c52 (by omega) g1 fun m _ row b _ hd => dat_rdb hd
  obtain ⟨b, hbb, hbb', s2⟩ := tm_rdb _ _ _ g2
  have hl : cs.length = 23 := (Rd.len f35_0 h.rd).trans c35
  have hsum := sum_ge3 (by omega : 0 < 1) (by omega : 1 < 2) hb0 hb1 hb2
  exact ⟨⟨cs.toArray, ev, dv, effs, dats, b⟩, rfl, ⟨by simpa using hl, all_one (Rd.one rd_clos n 35 cs (by decide) h.rd), one_at h0, one_at h1, h0', h1', h0'', h1'', part_at.trans hbb.symm, hbb'⟩, ⟨by show (effs.map effW).sum ≤ c; omega, by show (dats.map datW).sum ≤ c; omega, by show wtT b ≤ c; omega⟩⟩
def zeroI {H : Type} : DataW H := .lit (.int .i64 0)
def zeroS {H : Type} : DataW H := .lit (.string [])
def zeroTyD {H : Type} : DataW H := .agg [zeroI, zeroS, zeroI, .nil, .agg [.nil, zeroI]]
def zeroD {H : Type} : DataW H := .agg [.nil, .nil, .agg [zeroI, zeroI, zeroS, zeroS, zeroI, .nil, .nil, zeroTyD, .agg [.nil, zeroI], zeroTyD]]
/-- The argument whole. -/
theorem pr_argb {v : Value} {d : DataW H} {ps : List MemPlace} (h : DataW.Trod enc Try.prog w 0 (fun _ => true) true 35 v d ps) : ∃ p : Pr, v = .agg p.cs ∧ PrOk w p ∧ PrSmall p (Rows.uptoBulk d) := by
  obtain ⟨n, h⟩ := h
  obtain ⟨p, hp, hp', hs'⟩ := pr_rdb ⟨_, h, Nat.le_refl _⟩
  refine ⟨p, ?_, hp', hs'⟩
  have hs := hp'.size
  rw [hp] at hs
  cases v <;> simp [Value.cells] at hs hp <;> first | omega | (rw [hp])
end
end Go.Proofs.Ytkclfcdppnlkbaa
