/-
  From what an argument reads as to how it lies in memory, with its bulk and with how long its names are; what the seat's own values are worth. Plain lemmas over any program, then facts of this seat's program, shown by computation; no condition beyond those that stand in each statement.
-/
import Derived.Test.YtkclecfbjfdfkaaGreatDoorR1
import Derived.Test.YtkclecfbjfdfkaaGreatDoorP6
import Derived.Test.YtkclecfbjfdfkaaGreatDoorRows
import Derived.ProofKit
namespace Go.Proofs.YtkclecfbjfdfkaaGreatDoor
open Go.RowKit

section
variable {H : Type} {enc : TypeId × Value → H} {P : Program} {w : World} {n : Nat} {t u e : TypeId} {cs : List Value} {i o : Nat}
theorem Rd.fInt (hf : fieldT P t i = some (o, u)) (hk : kindB P u = 1) (hc : P.cellsOf u = 1) (h : Rd enc P w n t cs) : ∃ m, cs.toArray[o]? = some (.int .i64 m) := by
  obtain ⟨m, _, h1⟩ := Rd.field hf h
  rw [hc] at h1
  obtain ⟨v, h2⟩ := Rd.int hk h1
  exact ⟨v, one_at h2⟩
theorem Rd.fStr (hf : fieldT P t i = some (o, u)) (hk : kindB P u = 2) (hc : P.cellsOf u = 1) (h : Rd enc P w n t cs) : ∃ s, cs.toArray[o]? = some (.string s) := by
  obtain ⟨m, _, h1⟩ := Rd.field hf h
  rw [hc] at h1
  obtain ⟨v, h2, _⟩ := Rd.str hk h1
  exact ⟨v, one_at h2⟩
theorem Rd.fSl {sz : Nat} (hf : fieldT P t i = some (o, u)) (he : elemB P u = some e) (hce : P.cellsOf e = sz) (hz : 0 < sz) (hc : P.cellsOf u = 1) (h : Rd enc P w n t cs) : ∃ v len, cs.toArray[o]? = some v ∧ SlOk v len := by
  obtain ⟨m, _, h1⟩ := Rd.field hf h
  rw [hc] at h1
  obtain ⟨v, len, h2, h3, _⟩ := Rd.slice he hce hz h1
  exact ⟨v, len, one_at h2, h3⟩
theorem Rd.fRows {β : Type} {sz : Nat} {f : β → Array Value} {Ok : β → Prop} (hf : fieldT P t i = some (o, u)) (he : elemB P u = some e) (hce : P.cellsOf e = sz) (hz : 0 < sz) (hc : P.cellsOf u = 1) (h : Rd enc P w n t cs)
    (each : ∀ m, m < n → ∀ row : List Value, row.length = sz → Rd enc P w m e row → ∃ b, f b = row.toArray ∧ Ok b) : ∃ (v : Value) (l : List β), cs.toArray[o]? = some v ∧ RowsAt w v sz (l.map f) ∧ ∀ b ∈ l, Ok b := by
  obtain ⟨m, hm, h1⟩ := Rd.field hf h
  rw [hc] at h1
  obtain ⟨v, l, h2, h3, h4⟩ := Rd.rows he hce hz h1 fun m' hm' row hr hd => each m' (by omega) row hr hd
  exact ⟨v, l, one_at h2, h3, h4⟩
theorem Rd.strs (he : elemB P t = some e) (hk : kindB P e = 2) (hce : P.cellsOf e = 1) (h : Rd enc P w n t cs) : ∃ (v : Value) (ss : List ByteArray), cs = [v] ∧ StrsAt w v ss := by
  obtain ⟨v, l, h2, h3, _⟩ := Rd.rows (f := fun s : ByteArray => #[Value.string s]) (Ok := fun _ => True) he hce (by omega) h fun m hm row hr hd => by
    obtain ⟨s, rfl, _⟩ := Rd.str hk hd
    exact ⟨s, rfl, trivial⟩
  exact ⟨v, l, h2, h3⟩
theorem Rd.fStrs (hf : fieldT P t i = some (o, u)) (he : elemB P u = some e) (hk : kindB P e = 2) (hce : P.cellsOf e = 1) (hc : P.cellsOf u = 1) (h : Rd enc P w n t cs) : ∃ (v : Value) (ss : List ByteArray), cs.toArray[o]? = some v ∧ StrsAt w v ss := by
  obtain ⟨m, _, h1⟩ := Rd.field hf h
  rw [hc] at h1
  obtain ⟨v, ss, h2, h3⟩ := Rd.strs he hk hce h1
  exact ⟨v, ss, one_at h2, h3⟩
theorem Rd.fSub {k : Nat} (hf : fieldT P t i = some (o, u)) (hc : P.cellsOf u = k) (h : Rd enc P w n t cs) : ∃ m, m < n ∧ Rd enc P w m u ((cs.drop o).take k) := by
  obtain ⟨m, hm, h1⟩ := Rd.field hf h
  rw [hc] at h1
  exact ⟨m, hm, h1⟩
theorem sub_at {cs : List Value} {o k j : Nat} {v : Value} (hj : j < k) (h : ((cs.drop o).take k).toArray[j]? = some v) : cs.toArray[o + j]? = some v := by
  have : ((cs.drop o).take k)[j]? = some v := by simpa using h
  rw [List.getElem?_take_of_lt hj, List.getElem?_drop] at this
  simpa using this
end

section
variable {H : Type} (enc : TypeId × Value → H) (P : Program) (w : World)
/-- These cells can be read as data of a type, of no more than such a bulk. -/
def Rdb (n : Nat) (t : TypeId) (cs : List Value) (c : Nat) : Prop := ∃ x, DataW.trod enc P w 0 (fun _ => true) true n t cs = some x ∧ Rows.uptoBulk x.1 ≤ c
end
theorem bulk_pos {H : Type} (d : DataW H) : 1 ≤ Rows.uptoBulk d := by
  cases d with
  | lit l => cases l <;> simp [Rows.uptoBulk]
  | _ => simp [Rows.uptoBulk]
theorem bulk_all {H : Type} : ∀ l : List (DataW H), Rows.uptoBulkAll l = (l.map Rows.uptoBulk).sum := by
  intro l
  induction l with
  | nil => rfl
  | cons a l ih => rw [Rows.uptoBulkAll, ih]; simp
section
variable {H : Type} {enc : TypeId × Value → H} {P : Program} {w : World} {n c : Nat} {t u e : TypeId} {cs : List Value} {i o : Nat}
theorem Rdb.rd (h : Rdb enc P w n t cs c) : Rd enc P w n t cs := by obtain ⟨x, h, _⟩ := h; exact ⟨x, h⟩
theorem Rdb.pos (h : Rdb enc P w n t cs c) : 1 ≤ c := by obtain ⟨x, _, h⟩ := h; have := bulk_pos x.1; omega

/-- The fields' bulks together are less. -/
theorem Rdb.parts {o0 : Nat} {u0 : TypeId} (h0 : fieldT P t 0 = some (o0, u0)) (h : Rdb enc P w n t cs c) :
    ∃ bs : List Nat, bs.sum + 1 ≤ c ∧ ∀ (i o : Nat) (u : TypeId), fieldT P t i = some (o, u) → ∃ b, bs[i]? = some b ∧ ∃ m, m < n ∧ Rdb enc P w m u ((cs.drop o).take (P.cellsOf u)) b := by
  obtain ⟨x, h, hb⟩ := h
  cases hu : P.underlying t with
  | none => simp [fieldT, hu] at h0
  | some d =>
    cases d with
    | struct fs =>
      obtain ⟨xs, m, rfl, rfl, _, hl, hf⟩ := DataW.trod_struct hu h
      refine ⟨xs.map fun y => Rows.uptoBulk y.1, ?_, fun i o u hi => ?_⟩
      · simp only [Rows.uptoBulk, bulk_all, List.map_map] at hb
        exact hb
      · simp only [fieldT, hu] at hi
        cases hfi : fs[i]? with
        | none => rw [hfi] at hi; cases hi
        | some f =>
          rw [hfi] at hi
          simp only [Option.map_some, Option.some.injEq, Prod.mk.injEq] at hi
          obtain ⟨rfl, rfl⟩ := hi
          have hlt : i < xs.length := by rw [hl]; exact (Array.getElem?_eq_some_iff.1 hfi).1
          refine ⟨Rows.uptoBulk xs[i].1, by simp [hlt], m, Nat.lt_succ_self m, xs[i], by rw [hf i f hfi, List.getElem?_eq_getElem hlt], Nat.le_refl _⟩
    | _ => simp [fieldT, hu] at h0

theorem sum_ge : ∀ {l : List Nat} {i b : Nat}, l[i]? = some b → b ≤ l.sum := by
  intro l
  induction l with
  | nil => intro i b h; simp at h
  | cons a l ih =>
    intro i b h
    cases i with
    | zero => simp at h; subst h; simp
    | succ i => have := ih (i := i) (by simpa using h); simp; omega
theorem sum_ge2 : ∀ {l : List Nat} {i j a b : Nat}, i < j → l[i]? = some a → l[j]? = some b → a + b ≤ l.sum := by
  intro l
  induction l with
  | nil => intro i j a b _ h; simp at h
  | cons x l ih =>
    intro i j a b hij h1 h2
    cases j with
    | zero => omega
    | succ j =>
      cases i with
      | zero => simp at h1; subst h1; have := sum_ge (l := l) (i := j) (by simpa using h2); simp; omega
      | succ i => have := ih (i := i) (j := j) (by omega) (by simpa using h1) (by simpa using h2); simp; omega
theorem sum_ge3 : ∀ {l : List Nat} {i j k a b c : Nat}, i < j → j < k → l[i]? = some a → l[j]? = some b → l[k]? = some c → a + b + c ≤ l.sum := by
  intro l
  induction l with
  | nil => intro i j k a b c _ _ h; simp at h
  | cons x l ih =>
    intro i j k a b c hij hjk h1 h2 h3
    cases k with
    | zero => omega
    | succ k =>
      cases j with
      | zero => omega
      | succ j =>
        cases i with
        | zero => simp at h1; subst h1; have := sum_ge2 (l := l) (i := j) (j := k) (by omega) (by simpa using h2) (by simpa using h3); simp; omega
        | succ i => have := ih (i := i) (j := j) (k := k) (by omega) (by omega) (by simpa using h1) (by simpa using h2) (by simpa using h3); simp; omega

/-- A slice of such, each with a weight of no more than its bulk. -/
theorem Rdb.rows {β : Type} {sz : Nat} {f : β → Array Value} {Ok : β → Prop} (wt : β → Nat) (ht : elemB P t = some e) (hc : P.cellsOf e = sz) (hz : 0 < sz) (h : Rdb enc P w n t cs c)
    (each : ∀ m, m < n → ∀ (row : List Value) (b : Nat), b ≤ c → row.length = sz → Rdb enc P w m e row b → ∃ y, f y = row.toArray ∧ Ok y ∧ wt y ≤ b) :
    ∃ (v : Value) (l : List β), cs = [v] ∧ RowsAt w v sz (l.map f) ∧ (∀ b ∈ l, Ok b) ∧ (l.map wt).sum + 1 ≤ c := by
  obtain ⟨x, h, hb⟩ := h
  have hn : 0 < n := by cases n with | zero => simp [DataW.trod] at h | succ n => omega
  rcases DataW.trod_slice (underlying_elem ht) h with ⟨rfl, rfl⟩ | ⟨a, len, cap, elems, rest, m, rfl, rfl, rfl, _, hl, hm, hel, hget, _⟩
  · exact ⟨_, [], rfl, RowsAt.nil w sz, (fun _ h => by cases h), by simpa [Rows.uptoBulk] using hb⟩
  · rw [hc] at hget
    have hsum : (elems.map fun y => Rows.uptoBulk y.1).sum + 1 ≤ c := by
      simp only [Rows.uptoBulk, bulk_all, List.map_map] at hb
      have : (elems.map fun y => Rows.uptoBulk y.1).sum = (elems.map (Rows.uptoBulk ∘ fun x => x.1)).sum := rfl
      omega
    have each' : ∀ i, i < len → ∃ (row : List Value) (y : DataW H × List MemPlace), w.cells? 0 (a.add (i * sz)) sz = some row ∧ elems[i]? = some y ∧ DataW.trod enc P w 0 (fun _ => true) true m e row = some y := by
      intro i hi
      have h1 := hget i hi
      have hlt : i < elems.length := by omega
      rw [List.getElem?_eq_getElem hlt, Option.bind_eq_some_iff] at h1
      obtain ⟨row, h2, h3⟩ := h1
      exact ⟨row, elems[i], h2, List.getElem?_eq_getElem hlt, h3⟩
    have hsp : 0 < len → a.spot = none := by
      intro h0
      obtain ⟨row, _, h2, _⟩ := each' 0 h0
      have := (cells_at h2).2.1 hz
      simpa [Addr.add] using this
    obtain ⟨l, hll, hq⟩ := list_of (Q := fun i b => (f b).size = sz ∧ CellsAt w a.block (a.off + i * sz) (f b) ∧ Ok b ∧ ∃ y, elems[i]? = some y ∧ wt b ≤ Rows.uptoBulk y.1) len fun i hi => by
      obtain ⟨row, y, h2, h3, h4⟩ := each' i hi
      obtain ⟨h5, _, h6⟩ := cells_at h2
      have hbc : Rows.uptoBulk y.1 ≤ c := by have := sum_ge (l := elems.map fun y => Rows.uptoBulk y.1) (i := i) (b := Rows.uptoBulk y.1) (by simp [h3]); omega
      obtain ⟨b, b1, b2, b3⟩ := each m (Nat.lt_succ_self m) row _ hbc h5 ⟨y, h4, Nat.le_refl _⟩
      have ha := hsp (by omega)
      refine ⟨b, by rw [b1]; simpa using h5, ?_, b2, y, h3, b3⟩
      rw [b1]
      obtain ⟨bb, oo, sp⟩ := a
      simp only at ha
      subst ha
      rw [add_at] at h6
      exact h6
    have hmx : maxLen = 9223372036854775807 := rfl
    refine ⟨_, l, rfl, ⟨.inr ⟨a, cap, by simp [hll], by simpa [hll] using hl, by simpa [hll] using hsp⟩, fun i cs hi => ?_, fun i cs hi => ?_, by simp [hll]; omega⟩, fun b hb => ?_, ?_⟩
    · simp only [List.getElem?_map, Option.map_eq_some_iff] at hi
      obtain ⟨b, hb, rfl⟩ := hi; exact (hq i b hb).1
    · simp only [List.getElem?_map, Option.map_eq_some_iff] at hi
      obtain ⟨b, hb, rfl⟩ := hi; exact (hq i b hb).2.1
    · obtain ⟨i, hi⟩ := List.getElem?_of_mem hb
      exact (hq i b hi).2.2.1
    · have key : ∀ (l : List β) (ys : List (DataW H × List MemPlace)), l.length = ys.length → (∀ (i : Nat) b, l[i]? = some b → ∃ y, ys[i]? = some y ∧ wt b ≤ Rows.uptoBulk y.1) → (l.map wt).sum ≤ (ys.map fun y => Rows.uptoBulk y.1).sum := by
        intro l
        induction l with
        | nil => intro ys _ _; simp
        | cons b l ih =>
          intro ys hl2 hg
          cases ys with
          | nil => simp at hl2
          | cons y ys =>
            obtain ⟨y', h1, h2⟩ := hg 0 b rfl
            simp at h1; subst h1
            have := ih ys (by simpa using hl2) (fun i b hb => by have := hg (i + 1) b (by simpa using hb); simpa using this)
            simp only [List.map_cons, List.sum_cons]; omega
      have := key l elems (by omega) (fun i b hb => (hq i b hb).2.2.2)
      omega
end


section
variable {H : Type} {enc : TypeId × Value → H} {P : Program} {w : World} {n c : Nat} {t u e : TypeId} {cs : List Value} {i o o0 : Nat} {u0 : TypeId}
theorem Rdb.int (ht : kindB P t = 1) (h : Rdb enc P w n t cs c) : ∃ m, cs = [.int .i64 m] ∧ m ≤ 9223372036854775807 := by
  obtain ⟨x, h, _⟩ := h
  have hu : P.underlying t = some (.int .i64) := by
    unfold kindB at ht
    split at ht <;> first | assumption | cases ht
  obtain ⟨m, h1, hw⟩ := DataW.trod_int hu h
  refine ⟨m, h1, ?_⟩
  have e1 : IntKind.i64.min = -9223372036854775808 := by decide
  have e2 : IntKind.i64.max = 9223372036854775807 := by decide
  have hw := hw.2
  simp only [Lit.wf, e1, e2, Bool.and_eq_true, decide_eq_true_eq] at hw
  omega
theorem Rdb.str (ht : kindB P t = 2) (h : Rdb enc P w n t cs c) : ∃ s : ByteArray, cs = [.string s] ∧ s.size + 1 ≤ c := by
  obtain ⟨x, h, hb⟩ := h
  have hu : P.underlying t = some .string := by
    unfold kindB at ht
    split at ht <;> first | assumption | cases ht
  obtain ⟨s, h1, rfl, _⟩ := DataW.trod_string hu h
  refine ⟨s, h1, ?_⟩
  simp only [Rows.uptoBulk, Array.length_toList] at hb
  exact hb
theorem Rdb.fInt (h0 : fieldT P t 0 = some (o0, u0)) (hf : fieldT P t i = some (o, u)) (hk : kindB P u = 1) (hc : P.cellsOf u = 1) (h : Rdb enc P w n t cs c) : ∃ m, cs.toArray[o]? = some (.int .i64 m) ∧ m ≤ 9223372036854775807 := by
  obtain ⟨bs, hb, hg⟩ := h.parts h0
  obtain ⟨b, hb1, m, hm, h1⟩ := hg i _ _ hf
  rw [hc] at h1
  obtain ⟨v, h2, h3⟩ := Rdb.int hk h1
  exact ⟨v, one_at h2, h3⟩
theorem Rdb.fStr (h0 : fieldT P t 0 = some (o0, u0)) (hf : fieldT P t i = some (o, u)) (hk : kindB P u = 2) (hc : P.cellsOf u = 1) (h : Rdb enc P w n t cs c) : ∃ s : ByteArray, cs.toArray[o]? = some (.string s) ∧ s.size ≤ c := by
  obtain ⟨bs, hb, hg⟩ := h.parts h0
  obtain ⟨b, hb1, m, hm, h1⟩ := hg i _ _ hf
  rw [hc] at h1
  obtain ⟨v, h2, h3⟩ := Rdb.str hk h1
  have := sum_ge hb1
  exact ⟨v, one_at h2, by omega⟩
end

section
variable {H : Type} {enc : TypeId × Value → H} {w : World} {n c : Nat} {cs : List Value}
theorem rd_clos : closB Tryz.prog [35, 33, 31, 29, 48, 58, 72, 61, 63, 3, 9, 22, 23, 24, 25, 26, 27, 56, 59] = true := by kernel_rfl
theorem c3 : Tryz.prog.cellsOf 3 = 1 := by kernel_rfl
theorem c9 : Tryz.prog.cellsOf 9 = 1 := by kernel_rfl
theorem c22 : Tryz.prog.cellsOf 22 = 1 := by kernel_rfl
theorem c23 : Tryz.prog.cellsOf 23 = 1 := by kernel_rfl
theorem c24 : Tryz.prog.cellsOf 24 = 1 := by kernel_rfl
theorem c25 : Tryz.prog.cellsOf 25 = 1 := by kernel_rfl
theorem c26 : Tryz.prog.cellsOf 26 = 1 := by kernel_rfl
theorem c27 : Tryz.prog.cellsOf 27 = 1 := by kernel_rfl
theorem c41 : Tryz.prog.cellsOf 56 = 1 := by kernel_rfl
theorem c50 : Tryz.prog.cellsOf 59 = 1 := by kernel_rfl
theorem c29 : Tryz.prog.cellsOf 29 = 2 := by kernel_rfl
theorem c31 : Tryz.prog.cellsOf 31 = 6 := by kernel_rfl
theorem c33 : Tryz.prog.cellsOf 33 = 21 := by kernel_rfl
theorem c35 : Tryz.prog.cellsOf 35 = 23 := by kernel_rfl
theorem c43 : Tryz.prog.cellsOf 58 = 2 := by kernel_rfl
theorem c45 : Tryz.prog.cellsOf 72 = 13 := by kernel_rfl
theorem c52 : Tryz.prog.cellsOf 61 = 2 := by kernel_rfl
theorem c54 : Tryz.prog.cellsOf 63 = 2 := by kernel_rfl
theorem c71 : Tryz.prog.cellsOf 48 = 23 := by kernel_rfl
theorem k3 : kindB Tryz.prog 3 = 1 := by kernel_rfl
theorem k9 : kindB Tryz.prog 9 = 2 := by kernel_rfl
theorem e22 : elemB Tryz.prog 22 = some 58 := by kernel_rfl
theorem e23 : elemB Tryz.prog 23 = some 61 := by kernel_rfl
theorem e24 : elemB Tryz.prog 24 = some 33 := by kernel_rfl
theorem e25 : elemB Tryz.prog 25 = some 48 := by kernel_rfl
theorem e26 : elemB Tryz.prog 26 = some 31 := by kernel_rfl
theorem e27 : elemB Tryz.prog 27 = some 9 := by kernel_rfl
theorem e41 : elemB Tryz.prog 56 = some 72 := by kernel_rfl
theorem e50 : elemB Tryz.prog 59 = some 63 := by kernel_rfl
theorem f31_0 : fieldT Tryz.prog 31 0 = some (0, 3) := by kernel_rfl
theorem f31_1 : fieldT Tryz.prog 31 1 = some (1, 9) := by kernel_rfl
theorem f31_2 : fieldT Tryz.prog 31 2 = some (2, 3) := by kernel_rfl
theorem f31_3 : fieldT Tryz.prog 31 3 = some (3, 26) := by kernel_rfl
theorem f31_4 : fieldT Tryz.prog 31 4 = some (4, 29) := by kernel_rfl
theorem f29_0 : fieldT Tryz.prog 29 0 = some (0, 27) := by kernel_rfl
theorem f29_1 : fieldT Tryz.prog 29 1 = some (1, 3) := by kernel_rfl
theorem f45_0 : fieldT Tryz.prog 72 0 = some (0, 9) := by kernel_rfl
theorem f45_1 : fieldT Tryz.prog 72 1 = some (1, 31) := by kernel_rfl
theorem f45_2 : fieldT Tryz.prog 72 2 = some (7, 31) := by kernel_rfl
theorem f43_0 : fieldT Tryz.prog 58 0 = some (0, 9) := by kernel_rfl
theorem f43_1 : fieldT Tryz.prog 58 1 = some (1, 56) := by kernel_rfl
theorem f54_0 : fieldT Tryz.prog 63 0 = some (0, 9) := by kernel_rfl
theorem f54_1 : fieldT Tryz.prog 63 1 = some (1, 26) := by kernel_rfl
theorem f52_0 : fieldT Tryz.prog 61 0 = some (0, 9) := by kernel_rfl
theorem f52_1 : fieldT Tryz.prog 61 1 = some (1, 59) := by kernel_rfl
theorem f33_0 : fieldT Tryz.prog 33 0 = some (0, 3) := by kernel_rfl
theorem f33_1 : fieldT Tryz.prog 33 1 = some (1, 3) := by kernel_rfl
theorem f33_2 : fieldT Tryz.prog 33 2 = some (2, 9) := by kernel_rfl
theorem f33_3 : fieldT Tryz.prog 33 3 = some (3, 9) := by kernel_rfl
theorem f33_4 : fieldT Tryz.prog 33 4 = some (4, 3) := by kernel_rfl
theorem f33_5 : fieldT Tryz.prog 33 5 = some (5, 24) := by kernel_rfl
theorem f33_6 : fieldT Tryz.prog 33 6 = some (6, 25) := by kernel_rfl
theorem f71_0 : fieldT Tryz.prog 48 0 = some (0, 9) := by kernel_rfl
theorem f71_1 : fieldT Tryz.prog 48 1 = some (1, 27) := by kernel_rfl
theorem f71_2 : fieldT Tryz.prog 48 2 = some (2, 33) := by kernel_rfl
theorem f35_0 : fieldT Tryz.prog 35 0 = some (0, 22) := by kernel_rfl
theorem f35_1 : fieldT Tryz.prog 35 1 = some (1, 23) := by kernel_rfl
theorem f35_2 : fieldT Tryz.prog 35 2 = some (2, 33) := by kernel_rfl

theorem one_sum {α : Type} (l : List α) : (l.map fun _ => 1).sum = l.length := by
  induction l with
  | nil => rfl
  | cons a l ih => simp only [List.map_cons, List.sum_cons, ih, List.length_cons]; omega
theorem sum_mem {α : Type} {l : List α} {f : α → Nat} {x : α} (h : x ∈ l) : f x ≤ (l.map f).sum := by
  obtain ⟨i, hi⟩ := List.getElem?_of_mem h
  exact sum_ge (l := l.map f) (i := i) (by simp [hi])
theorem sum_pos {α : Type} {l : List α} {f : α → Nat} (h : ∀ x ∈ l, 1 ≤ f x) : l.length ≤ (l.map f).sum := by
  induction l with
  | nil => simp
  | cons a l ih =>
    have h1 := h a (by simp)
    have h2 := ih fun x hx => h x (List.mem_cons_of_mem _ hx)
    simp only [List.map_cons, List.sum_cons, List.length_cons]; omega
theorem ty_rdb (h : Rdb enc Tryz.prog w n 31 cs c) : ∃ t : Ty, t.cs = cs.toArray ∧ TyOk t ∧ t.nm.size ≤ c := by
  obtain ⟨k, h0⟩ := Rd.fInt f31_0 k3 c3 h.rd
  obtain ⟨nm, h1, hn⟩ := h.fStr f31_0 f31_1 k9 c9
  obtain ⟨var, h2⟩ := Rd.fInt f31_2 k3 c3 h.rd
  obtain ⟨av, args, h3, h3'⟩ := Rd.fSl f31_3 e26 c31 (by omega) c26 h.rd
  obtain ⟨m, _, hr⟩ := Rd.fSub f31_4 c29 h.rd
  obtain ⟨lv, labels, h4, h4'⟩ := Rd.fSl f29_0 e27 c9 (by omega) c27 hr
  obtain ⟨rv, h5⟩ := Rd.fInt f29_1 k3 c3 hr
  have hl : cs.length = 6 := (Rd.len f31_0 h.rd).trans c31
  exact ⟨⟨cs.toArray, k, nm, var, av, args, lv, labels, rv⟩, rfl, ⟨by simpa using hl, all_one (Rd.one rd_clos n 31 cs (by decide) h.rd), h0, h1, h2, h3, sub_at (by omega) h4, sub_at (by omega) h5, h3', h4'⟩, hn⟩
def OpSz (c : Nat) (o : Op) : Prop := o.nm.size ≤ c ∧ o.arg.nm.size ≤ c ∧ o.res.nm.size ≤ c
theorem op_rdb (h : Rdb enc Tryz.prog w n 72 cs c) : ∃ t : Op, t.cs = cs.toArray ∧ OpOk t ∧ OpSz c t := by
  obtain ⟨nm, h0, hn⟩ := h.fStr f45_0 f45_0 k9 c9
  obtain ⟨bs, hb, hf⟩ := h.parts f45_0
  obtain ⟨b1, hb1, m1, _, h1⟩ := hf 1 _ _ f45_1
  obtain ⟨b2, hb2, m2, _, h2⟩ := hf 2 _ _ f45_2
  rw [c31] at h1 h2
  obtain ⟨a, ha, ha', ha''⟩ := ty_rdb h1
  obtain ⟨b, hb, hb', hb''⟩ := ty_rdb h2
  have := sum_ge hb1
  have := sum_ge hb2
  have hl : cs.length = 13 := (Rd.len f45_0 h.rd).trans c45
  exact ⟨⟨cs.toArray, nm, a, b⟩, rfl, ⟨by simpa using hl, all_one (Rd.one rd_clos n 72 cs (by decide) h.rd), h0, part_at.trans ha.symm, part_at.trans hb.symm, ha', hb'⟩, hn, by show a.nm.size ≤ c; omega, by show b.nm.size ≤ c; omega⟩
def effZ (e : Eff) : Nat := e.ops.length + 1
def cnZ (k : Cn) : Nat := k.fields.length + 1
def datZ (d : Dat) : Nat := (d.cons.map cnZ).sum + 1
def EffSz (c : Nat) (x : Eff) : Prop := x.nm.size ≤ c ∧ ∀ o ∈ x.ops, OpSz c o
def CnSz (c : Nat) (k : Cn) : Prop := k.nm.size ≤ c ∧ ∀ t ∈ k.fields, t.nm.size ≤ c
def DatSz (c : Nat) (d : Dat) : Prop := d.nm.size ≤ c ∧ ∀ k ∈ d.cons, CnSz c k
theorem OpSz.up {b c : Nat} {o : Op} (h : OpSz b o) (hb : b ≤ c) : OpSz c o := ⟨Nat.le_trans h.1 hb, Nat.le_trans h.2.1 hb, Nat.le_trans h.2.2 hb⟩
theorem EffSz.up {b c : Nat} {o : Eff} (h : EffSz b o) (hb : b ≤ c) : EffSz c o := ⟨Nat.le_trans h.1 hb, fun x hx => (h.2 x hx).up hb⟩
theorem CnSz.up {b c : Nat} {o : Cn} (h : CnSz b o) (hb : b ≤ c) : CnSz c o := ⟨Nat.le_trans h.1 hb, fun x hx => Nat.le_trans (h.2 x hx) hb⟩
theorem DatSz.up {b c : Nat} {o : Dat} (h : DatSz b o) (hb : b ≤ c) : DatSz c o := ⟨Nat.le_trans h.1 hb, fun x hx => (h.2 x hx).up hb⟩
theorem eff_rdb (h : Rdb enc Tryz.prog w n 58 cs c) : ∃ t : Eff, t.cs = cs.toArray ∧ (EffOk w t ∧ EffSz c t) ∧ effZ t ≤ c := by
  obtain ⟨nm, h0, hn⟩ := h.fStr f43_0 f43_0 k9 c9
  obtain ⟨bs, hb, hf⟩ := h.parts f43_0
  obtain ⟨b, hb1, m, hm, h1⟩ := hf 1 _ _ f43_1
  rw [c41] at h1
  have := sum_ge hb1
  obtain ⟨v, l, h2, h3, h4, h5⟩ := Rdb.rows (Ok := fun o => OpOk o ∧ OpSz c o) (fun _ : Op => 1) e41 c45 (by omega) h1 fun m _ row b hbc _ hd => by
    obtain ⟨t, ht, ht', ht''⟩ := op_rdb hd
    exact ⟨t, ht, ⟨ht', ht''.up (by omega)⟩, hd.pos⟩
  have hl : cs.length = 2 := (Rd.len f43_0 h.rd).trans c43
  rw [one_sum] at h5
  exact ⟨⟨cs.toArray, nm, v, l⟩, rfl, ⟨⟨by simpa using hl, all_one (Rd.one rd_clos n 58 cs (by decide) h.rd), h0, one_at h2, h3, fun x hx => (h4 x hx).1⟩, hn, fun x hx => (h4 x hx).2⟩, by simp only [effZ]; omega⟩
theorem cn_rdb (h : Rdb enc Tryz.prog w n 63 cs c) : ∃ t : Cn, t.cs = cs.toArray ∧ (CnOk w t ∧ CnSz c t) ∧ cnZ t ≤ c := by
  obtain ⟨nm, h0, hn⟩ := h.fStr f54_0 f54_0 k9 c9
  obtain ⟨bs, hb, hf⟩ := h.parts f54_0
  obtain ⟨b, hb1, m, hm, h1⟩ := hf 1 _ _ f54_1
  rw [c26] at h1
  have := sum_ge hb1
  obtain ⟨v, l, h2, h3, h4, h5⟩ := Rdb.rows (Ok := fun t => TyOk t ∧ t.nm.size ≤ c) (fun _ : Ty => 1) e26 c31 (by omega) h1 fun m _ row b hbc _ hd => by
    obtain ⟨t, ht, ht', ht''⟩ := ty_rdb hd
    exact ⟨t, ht, ⟨ht', by omega⟩, hd.pos⟩
  have hl : cs.length = 2 := (Rd.len f54_0 h.rd).trans c54
  rw [one_sum] at h5
  exact ⟨⟨cs.toArray, nm, v, l⟩, rfl, ⟨⟨by simpa using hl, all_one (Rd.one rd_clos n 63 cs (by decide) h.rd), h0, one_at h2, h3, fun x hx => (h4 x hx).1⟩, hn, fun x hx => (h4 x hx).2⟩, by simp only [cnZ]; omega⟩
theorem dat_rdb (h : Rdb enc Tryz.prog w n 61 cs c) : ∃ t : Dat, t.cs = cs.toArray ∧ (DatOk w t ∧ DatSz c t) ∧ datZ t ≤ c := by
  obtain ⟨nm, h0, hn⟩ := h.fStr f52_0 f52_0 k9 c9
  obtain ⟨bs, hb, hf⟩ := h.parts f52_0
  obtain ⟨b, hb1, m, hm, h1⟩ := hf 1 _ _ f52_1
  rw [c50] at h1
  have := sum_ge hb1
  obtain ⟨v, l, h2, h3, h4, h5⟩ := Rdb.rows (Ok := fun t => CnOk w t ∧ CnSz c t) cnZ e50 c54 (by omega) h1 fun m _ row b hbc _ hd => by
    obtain ⟨t, ht, ht', ht''⟩ := cn_rdb hd
    exact ⟨t, ht, ⟨ht'.1, ht'.2.up (by omega)⟩, ht''⟩
  have hl : cs.length = 2 := (Rd.len f52_0 h.rd).trans c52
  exact ⟨⟨cs.toArray, nm, v, l⟩, rfl, ⟨⟨by simpa using hl, all_one (Rd.one rd_clos n 61 cs (by decide) h.rd), h0, one_at h2, h3, fun x hx => (h4 x hx).1⟩, hn, fun x hx => (h4 x hx).2⟩, by simp only [datZ]; omega⟩
def armZ (a : Am) : Nat := a.vars.length + wtT a.body
theorem wtL_sum (l : List Tm) : wtL l = (l.map wtT).sum := by
  induction l with
  | nil => rfl
  | cons a l ih => rw [wtL, ih]; simp
theorem wtA_sum (l : List Am) : wtA l = (l.map armZ).sum := by
  induction l with
  | nil => rfl
  | cons a l ih => cases a; rw [wtA, ih]; simp [armZ, Am.vars, Am.body]
theorem szL_of : ∀ {l : List Tm}, (∀ u ∈ l, szT u) → szL l := by
  intro l
  induction l with
  | nil => intro _; rw [szL]; trivial
  | cons a l ih => intro h; rw [szL]; exact ⟨h a (by simp), ih fun u hu => h u (List.mem_cons_of_mem _ hu)⟩
def AmSz (a : Am) : Prop := a.nm.size ≤ 4194304 ∧ a.vars.length ≤ 4194304 ∧ (∀ s ∈ a.vars, s.size ≤ 4194304) ∧ szT a.body
theorem szA_of : ∀ {l : List Am}, (∀ u ∈ l, AmSz u) → szA l := by
  intro l
  induction l with
  | nil => intro _; rw [szA]; trivial
  | cons a l ih =>
    intro h
    cases a with | mk cs nm vv vars body =>
    rw [szA]
    exact ⟨h (.mk cs nm vv vars body) (by simp), ih fun u hu => h u (List.mem_cons_of_mem _ hu)⟩
theorem strs_rdb (h : Rdb enc Tryz.prog w n 27 cs c) : ∃ (v : Value) (ss : List ByteArray), cs = [v] ∧ StrsAt w v ss ∧ ss.length + 1 ≤ c ∧ ∀ s ∈ ss, s.size ≤ c := by
  obtain ⟨v, l, h2, h3, h4, h5⟩ := Rdb.rows (f := fun s : ByteArray => #[Value.string s]) (Ok := fun s => s.size ≤ c) (fun _ => 1) e27 c9 (by omega) h fun m hm row b hbc hr hd => by
    obtain ⟨s, rfl, hs⟩ := Rdb.str k9 hd
    exact ⟨s, rfl, by omega, hd.pos⟩
  rw [one_sum] at h5
  exact ⟨v, l, h2, h3, h5, h4⟩
theorem tm_rdb : ∀ (n : Nat) (cs : List Value) (c : Nat), c ≤ 4194304 → Rdb enc Tryz.prog w n 33 cs c → ∃ t : Tm, t.cs = cs.toArray ∧ (TmOk w t ∧ szT t) ∧ wtT t ≤ c := by
  intro n
  induction n using Nat.strongRecOn with
  | _ n ih =>
    intro cs c hc h
    obtain ⟨k, h0⟩ := Rd.fInt f33_0 k3 c3 h.rd
    obtain ⟨at_, h1⟩ := Rd.fInt f33_1 k3 c3 h.rd
    obtain ⟨nm, h2, hnm⟩ := h.fStr f33_0 f33_2 k9 c9
    obtain ⟨pm, h3, hpm⟩ := h.fStr f33_0 f33_3 k9 c9
    obtain ⟨m, h4, hmx⟩ := h.fInt f33_0 f33_4 k3 c3
    obtain ⟨bs, hb, hf⟩ := h.parts f33_0
    obtain ⟨b0, hb0, m0, _, g0⟩ := hf 0 _ _ f33_0
    obtain ⟨b5, hb5, m5, hm5, g5⟩ := hf 5 _ _ f33_5
    obtain ⟨b6, hb6, m6, hm6, g6⟩ := hf 6 _ _ f33_6
    rw [c24] at g5
    rw [c25] at g6
    have hsum := sum_ge3 (by omega : 0 < 5) (by omega : 5 < 6) hb0 hb5 hb6
    obtain ⟨kv, kids, h5, h5', h5'', s5⟩ := Rdb.rows (Ok := fun t => TmOk w t ∧ szT t) wtT e24 c33 (by omega) g5 fun m hm row b hbc _ hd => ih m (by omega) row b (by omega) hd
    obtain ⟨av, arms, h6, h6', h6'', s6⟩ := Rdb.rows (f := Am.cs) (Ok := fun a => AmOk w a ∧ AmSz a) armZ e25 c71 (by omega) g6 fun m hm row b hbc hr hd => by
      obtain ⟨nm, a0, hna⟩ := hd.fStr f71_0 f71_0 k9 c9
      obtain ⟨bs', hb', hf'⟩ := hd.parts f71_0
      obtain ⟨b1, hb1, m1, _, a1⟩ := hf' 1 _ _ f71_1
      obtain ⟨b2, hb2, m2, hm2, a2⟩ := hf' 2 _ _ f71_2
      rw [c27] at a1
      rw [c33] at a2
      have := sum_ge2 (by omega : 1 < 2) hb1 hb2
      obtain ⟨vv, vars, a3, a3', a3'', a4⟩ := strs_rdb a1
      obtain ⟨bd, hbd, hbd', hbd''⟩ := ih m2 (by omega) _ _ (by omega) a2
      exact ⟨.mk row.toArray nm vv vars bd, rfl, ⟨.mk ⟨by simpa [Am.cs] using hr, all_one (Rd.one rd_clos m 48 row (by decide) hd.rd), a0, one_at a3, a3', part_at.trans hbd.symm⟩ hbd'.1, by show nm.size ≤ _; omega, by show vars.length ≤ _; omega, fun s hs => by have := a4 s hs; omega, hbd'.2⟩, by simp only [armZ, Am.vars, Am.body]; omega⟩
    have hl : cs.length = 21 := (Rd.len f33_0 h.rd).trans c33
    have hp := g0.pos
    refine ⟨.mk cs.toArray k at_ nm pm m kv av kids arms, rfl, ⟨.mk ⟨by simpa [Tm.cs] using hl, all_one (Rd.one rd_clos n 33 cs (by decide) h.rd), h0, h1, h2, h3, h4, one_at h5, one_at h6, h5', h6'⟩ (fun x hx => (h5'' x hx).1) (fun x hx => (h6'' x hx).1), ?_⟩, ?_⟩
    · rw [szT_eq]; exact ⟨by show nm.size ≤ _; omega, by show pm.size ≤ _; omega, ⟨szL_of fun x hx => (h5'' x hx).2, szA_of fun x hx => (h6'' x hx).2⟩, hmx⟩
    rw [wtT_eq, wtL_sum, wtA_sum]
    show 2 + (kids.map wtT).sum + (arms.map armZ).sum ≤ c
    omega
theorem flat_len {α β : Type} (l : List α) (f : α → List β) : (l.flatMap f).length = (l.map fun x => (f x).length).sum := by simp [List.length_flatMap]
theorem sum_le_sum {α : Type} {l : List α} {f g : α → Nat} (h : ∀ x ∈ l, f x ≤ g x) : (l.map f).sum ≤ (l.map g).sum := by
  induction l with
  | nil => simp
  | cons a l ih =>
    have h1 := h a (by simp)
    have h2 := ih fun x hx => h x (List.mem_cons_of_mem _ hx)
    simp only [List.map_cons, List.sum_cons]; omega
/-- What is known of a program whose bulk is small. -/
structure PrSmall (p : Pr) (c : Nat) : Prop where
  effs : (p.effs.map effZ).sum ≤ c
  dats : (p.dats.map datZ).sum ≤ c
  body : wtT p.body ≤ c
  szE : ∀ x ∈ p.effs, EffSz c x
  szD : ∀ x ∈ p.dats, DatSz c x
  szB : szT p.body
theorem pr_rdb (hc : c ≤ 4194304) (h : Rdb enc Tryz.prog w n 35 cs c) : ∃ t : Pr, t.cs = cs.toArray ∧ PrOk w t ∧ PrSmall t c := by
  obtain ⟨bs, hb, hf⟩ := h.parts f35_0
  obtain ⟨b0, hb0, m0, _, g0⟩ := hf 0 _ _ f35_0
  obtain ⟨b1, hb1, m1, _, g1⟩ := hf 1 _ _ f35_1
  obtain ⟨b2, hb2, m2, _, g2⟩ := hf 2 _ _ f35_2
  rw [c22] at g0
  rw [c23] at g1
  rw [c33] at g2
  have hsum := sum_ge3 (by omega : 0 < 1) (by omega : 1 < 2) hb0 hb1 hb2
  obtain ⟨ev, effs, h0, h0', h0'', s0⟩ := Rdb.rows (Ok := fun t => EffOk w t ∧ EffSz c t) effZ e22 c43 (by omega) g0 fun m _ row b hbc _ hd => by
    obtain ⟨t, ht, ht', ht''⟩ := eff_rdb hd
    exact ⟨t, ht, ⟨ht'.1, ht'.2.up (by omega)⟩, ht''⟩
  obtain ⟨dv, dats, h1, h1', h1'', s1⟩ := Rdb.rows (Ok := fun t => DatOk w t ∧ DatSz c t) datZ e23 c52 (by omega) g1 fun m _ row b hbc _ hd => by
    obtain ⟨t, ht, ht', ht''⟩ := dat_rdb hd
    exact ⟨t, ht, ⟨ht'.1, ht'.2.up (by omega)⟩, ht''⟩
  obtain ⟨b, hbb, hbb', s2⟩ := tm_rdb _ _ _ (by omega) g2
  have hl : cs.length = 23 := (Rd.len f35_0 h.rd).trans c35
  exact ⟨⟨cs.toArray, ev, dv, effs, dats, b⟩, rfl, ⟨by simpa using hl, all_one (Rd.one rd_clos n 35 cs (by decide) h.rd), one_at h0, one_at h1, h0', h1', fun x hx => (h0'' x hx).1, fun x hx => (h1'' x hx).1, part_at.trans hbb.symm, hbb'.1⟩, ⟨by show (effs.map effZ).sum ≤ c; omega, by show (dats.map datZ).sum ≤ c; omega, by show wtT b ≤ c; omega, fun x hx => (h0'' x hx).2, fun x hx => (h1'' x hx).2, hbb'.2⟩⟩
def zeroI {H : Type} : DataW H := .lit (.int .i64 0)
def zeroS {H : Type} : DataW H := .lit (.string [])
def zeroTyD {H : Type} : DataW H := .agg [zeroI, zeroS, zeroI, .nil, .agg [.nil, zeroI]]
def zeroD {H : Type} : DataW H := .agg [.nil, .nil, .agg [zeroI, zeroI, zeroS, zeroS, zeroI, .nil, .nil, zeroTyD, .agg [.nil, zeroI], zeroTyD]]
/-- The argument whole. -/
theorem pr_argb {v : Value} {d : DataW H} {ps : List MemPlace} (hc : Rows.uptoBulk d ≤ 4194304) (h : DataW.Trod enc Tryz.prog w 0 (fun _ => true) true 35 v d ps) : ∃ p : Pr, v = .agg p.cs ∧ PrOk w p ∧ PrSmall p (Rows.uptoBulk d) := by
  obtain ⟨n, h⟩ := h
  obtain ⟨p, hp, hp', hs'⟩ := pr_rdb hc ⟨_, h, Nat.le_refl _⟩
  refine ⟨p, ?_, hp', hs'⟩
  have hs := hp'.size
  rw [hp] at hs
  cases v <;> simp [Value.cells] at hs hp <;> first | omega | (rw [hp])
theorem tm_argb {v : Value} {d : DataW H} {ps : List MemPlace} (hc : Rows.uptoBulk d ≤ 4194304) (h : DataW.Trod enc Tryz.prog w 0 (fun _ => true) true 33 v d ps) : ∃ p : Tm, v = .agg p.cs ∧ TmOk w p ∧ szT p ∧ wtT p ≤ Rows.uptoBulk d := by
  obtain ⟨n, h⟩ := h
  obtain ⟨p, hp, hp', hs'⟩ := tm_rdb _ _ _ hc ⟨_, h, Nat.le_refl _⟩
  refine ⟨p, ?_, hp'.1, hp'.2, hs'⟩
  have hs := hp'.1.size
  rw [hp] at hs
  cases v <;> simp [Value.cells] at hs hp <;> first | omega | (rw [hp])
end
-- ------------------------------------------------------------------ the words of what is small
theorem PrSmall.szP {p : Pr} {c : Nat} (h : PrSmall p c) (hc : c ≤ 4194304) : SzP p :=
  ⟨fun x hx => ⟨Nat.le_trans (h.szE x hx).1 hc, fun o ho => by obtain ⟨h1, h2, h3⟩ := (h.szE x hx).2 o ho; exact ⟨by omega, by omega, by omega⟩⟩,
   fun d hd => ⟨Nat.le_trans (h.szD d hd).1 hc, fun k hk => ⟨Nat.le_trans ((h.szD d hd).2 k hk).1 hc, fun t ht => Nat.le_trans (((h.szD d hd).2 k hk).2 t ht) hc⟩⟩, h.szB⟩
theorem PrSmall.lens {p : Pr} {c : Nat} (h : PrSmall p c) (hc : c ≤ 4194304) : p.effs.length ≤ 1073741824 ∧ p.dats.length ≤ 1073741824 := by
  have h1 := sum_pos (l := p.effs) (f := effZ) (fun x _ => by simp [effZ])
  have h2 := sum_pos (l := p.dats) (f := datZ) (fun x _ => by simp [datZ])
  have := h.effs; have := h.dats
  omega
theorem PrSmall.up {p : Pr} {b c : Nat} (h : PrSmall p b) (hb : b ≤ c) : PrSmall p c :=
  ⟨Nat.le_trans h.effs hb, Nat.le_trans h.dats hb, Nat.le_trans h.body hb, fun x hx => (h.szE x hx).up hb, fun x hx => (h.szD x hx).up hb, h.szB⟩
theorem btN_len (sep : ByteArray) (l : List (List ByteArray)) : (btN sep (fun i => l.getD i []) l.length).length ≤ (l.map fun x => x.length + 1).sum := by
  have h := btB_sum sep l l.length (Nat.le_refl _)
  rw [List.take_length] at h
  have e : ∀ l : List (List ByteArray), sumB l = (l.map fun x => x.length + 1).sum := by
    intro l
    induction l with
    | nil => rfl
    | cons a l ih => rw [sumB, ih]; simp
  rw [e] at h; exact h
theorem typW_q {t : Ty} (h : t.nm.size ≤ 4194304) : (typW t).size ≤ 4194306 := by
  unfold typW
  split
  · omega
  · exact getD_size (ss := [(⟨#[105, 110, 116]⟩ : ByteArray), (⟨#[98, 111, 111, 108]⟩ : ByteArray), (⟨#[117, 110, 105, 116]⟩ : ByteArray)]) (fun x hx => by
      simp only [List.mem_cons, List.not_mem_nil, or_false] at hx
      rcases hx with rfl | rfl | rfl <;> decide) _
theorem getD_q {l : List (List ByteArray)} (h : ∀ x ∈ l, Q x) (i : Nat) : Q (l.getD i []) := by
  rw [List.getD_eq_getElem?_getD]
  cases e : l[i]? with
  | none => exact Q.nil
  | some x => exact h x (List.mem_of_getElem? e)
theorem effW_q {x : Eff} {c : Nat} (hc : c ≤ 4194304) (h : EffSz c x) : Q (effW' x) := by
  unfold effW'
  refine Q.app (Q.app (Q.cons (by decide) (Q.cons (by have := h.1; omega) (Q.cons (by decide) Q.nil))) (Q.bt (by decide) (getD_q fun y hy => ?_) _)) (Q.cons (by decide) Q.nil)
  obtain ⟨o, ho, rfl⟩ := List.mem_map.1 hy
  obtain ⟨h1, h2, h3⟩ := h.2 o ho
  exact Q.cons (by omega) (Q.cons (by decide) (Q.cons (typW_q (by omega)) (Q.cons (by decide) (Q.cons (typW_q (by omega)) Q.nil))))
theorem datW_q {x : Dat} {c : Nat} (hc : c ≤ 4194304) (h : DatSz c x) : Q (datW' x) := by
  unfold datW'
  refine Q.app (Q.app (Q.cons (by decide) (Q.cons (by have := h.1; omega) (Q.cons (by decide) Q.nil))) (Q.bt (by decide) (getD_q fun y hy => ?_) _)) (Q.cons (by decide) Q.nil)
  obtain ⟨o, ho, rfl⟩ := List.mem_map.1 hy
  obtain ⟨h1, h2⟩ := h.2 o ho
  unfold cnW'
  refine Q.app (Q.cons (by omega) Q.nil) fun z hz => ?_
  obtain ⟨t, ht, rfl⟩ := List.mem_map.1 hz
  exact typW_q (Nat.le_trans (h2 t ht) hc)
theorem effW_len (x : Eff) : (effW' x).length ≤ 6 * effZ x := by
  have h := btN_len (⟨#[59]⟩ : ByteArray) (x.ops.map opW)
  rw [List.length_map, List.map_map] at h
  have e : (x.ops.map ((fun y : List ByteArray => y.length + 1) ∘ opW)).sum ≤ 6 * x.ops.length := by
    have : ∀ l : List Op, (l.map ((fun y : List ByteArray => y.length + 1) ∘ opW)).sum ≤ 6 * l.length := by
      intro l
      induction l with
      | nil => simp
      | cons a l ih => simp only [List.map_cons, List.sum_cons, List.length_cons]; have : ((fun y : List ByteArray => y.length + 1) ∘ opW) a = 6 := rfl; omega
    exact this _
  unfold effW' effZ
  simp only [List.length_append, List.length_cons, List.length_nil]; omega
theorem datW_len (x : Dat) : (datW' x).length ≤ 6 * datZ x := by
  have h := btN_len (⟨#[59]⟩ : ByteArray) (x.cons.map cnW')
  rw [List.length_map, List.map_map] at h
  have e : (x.cons.map ((fun y : List ByteArray => y.length + 1) ∘ cnW')).sum ≤ 2 * (x.cons.map cnZ).sum := by
    have : ∀ l : List Cn, (l.map ((fun y : List ByteArray => y.length + 1) ∘ cnW')).sum ≤ 2 * (l.map cnZ).sum := by
      intro l
      induction l with
      | nil => simp
      | cons a l ih =>
        simp only [List.map_cons, List.sum_cons]
        have : ((fun y : List ByteArray => y.length + 1) ∘ cnW') a ≤ 2 * cnZ a := by show (cnW' a).length + 1 ≤ 2 * cnZ a; unfold cnW' cnZ; simp only [List.length_append, List.length_cons, List.length_nil, List.length_map]; omega
        omega
    exact this _
  unfold datW' datZ
  simp only [List.length_append, List.length_cons, List.length_nil]; omega
theorem flat_le {α : Type} {f : α → List ByteArray} {g : α → Nat} (h : ∀ x, (f x).length ≤ 6 * g x) (l : List α) : (l.flatMap f).length ≤ 6 * (l.map g).sum := by
  induction l with
  | nil => simp
  | cons a l ih => rw [List.flatMap_cons, List.length_append, List.map_cons, List.sum_cons]; have := h a; omega
theorem flat_q {α : Type} {f : α → List ByteArray} {l : List α} (h : ∀ x ∈ l, Q (f x)) : Q (l.flatMap f) := fun y hy => by
  obtain ⟨x, hx, hy⟩ := List.mem_flatMap.1 hy
  exact h x hx y hy
/-- The words of a program of a small bulk, with a body that is small. -/
theorem PrSmall.few {p : Pr} {c : Nat} (h : PrSmall p c) (hc : c ≤ 1048576) {t : Tm} (hz : szT t) (hw : wtT t ≤ 1048576) (q : Pr) (h1 : q.effs = p.effs) (h2 : q.dats = p.dats) (h3 : q.body = t) (hr : rightB t = true) : FewW (printW q) := by
  have hf := few_t hz hr (by omega)
  have hl := (lenT t).1
  have e1 := flat_le effW_len p.effs
  have e2 := flat_le datW_len p.dats
  have := h.effs; have := h.dats
  unfold printW declW
  rw [h1, h2, h3]
  refine ⟨?_, Q.app (Q.app (flat_q fun x hx => effW_q (by omega) (h.szE x hx)) (flat_q fun x hx => datW_q (by omega) (h.szD x hx))) hf.2⟩
  simp only [List.length_append]
  have : (exprW t).length ≤ 5 * wtT t := by show (eaT t).e.length ≤ _; omega
  omega
theorem RightB.written {p : Pr} (h : RightB p = true) : rightB p.body = true := by
  unfold RightB at h
  simp only [Bool.and_eq_true] at h
  exact written_right h.2.2
end Go.Proofs.YtkclecfbjfdfkaaGreatDoor
