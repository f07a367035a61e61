/-
  From what an argument reads as to how it lies in memory: plain lemmas over any program; no condition beyond those that stand in each statement.
-/
import Derived.Test.YtkjmjnddanhapaaD2
import Derived.ProofKit
namespace Go.Proofs.Ytkjmjnddanhapaa
open Go.RowKit

section
variable {H : Type} (enc : TypeId × Value → H) (P : Program) (w : World)
/-- These cells can be read as data of a type, in so many steps. -/
def Rd (n : Nat) (t : TypeId) (cs : List Value) : Prop := ∃ x, DataW.trod enc P w 0 (fun _ => true) true n t cs = some x
end

def kindB (P : Program) (t : TypeId) : Nat :=
  match P.underlying t with
  | some (.int .i64) => 1
  | some .string => 2
  | some .bool => 3
  | _ => 0
/-- A field's place, its type. -/
def fieldT (P : Program) (t : TypeId) (i : Nat) : Option (Nat × TypeId) :=
  match P.underlying t with
  | some (.struct fs) => (fs[i]?).map fun f => (f.offset, f.type)
  | _ => none
/-- These types' cells are all their fields', and their fields are among them. -/
def closB (P : Program) (ts : List TypeId) : Bool :=
  ts.all fun t => match P.underlying t with
    | some (.struct fs) => (fs.toList.all fun f => ts.contains f.type) && (List.range (P.cellsOf t)).all fun j => fs.toList.any fun f => Nat.ble f.offset j && Nat.blt j (f.offset + P.cellsOf f.type)
    | some (.int _) | some .string | some .bool | some (.slice _) => true
    | _ => false

section
variable {H : Type} {enc : TypeId × Value → H} {P : Program} {w : World} {n : Nat} {t e : TypeId} {cs : List Value}

theorem Rd.int (ht : kindB P t = 1) (h : Rd enc P w n t cs) : ∃ m, cs = [.int .i64 m] := by
  obtain ⟨x, h⟩ := h
  have hu : P.underlying t = some (.int .i64) := by
    unfold kindB at ht
    split at ht <;> first | assumption | cases ht
  obtain ⟨m, h1, _⟩ := DataW.trod_int hu h
  exact ⟨m, h1⟩
theorem Rd.field {i o : Nat} {u : TypeId} (ht : fieldT P t i = some (o, u)) (h : Rd enc P w n t cs) : ∃ m, m < n ∧ Rd enc P w m u ((cs.drop o).take (P.cellsOf u)) := by
  obtain ⟨x, h⟩ := h
  unfold fieldT at ht
  split at ht
  · rename_i fs hu
    obtain ⟨xs, m, rfl, _, _, hl, hf⟩ := DataW.trod_struct hu h
    cases hi : fs[i]? with
    | none => rw [hi] at ht; cases ht
    | some f =>
      rw [hi] at ht
      simp only [Option.map_some, Option.some.injEq, Prod.mk.injEq] at ht
      obtain ⟨rfl, rfl⟩ := ht
      have h1 := hf i f hi
      have : i < xs.length := by rw [hl]; exact (Array.getElem?_eq_some_iff.1 hi).1
      exact ⟨m, Nat.lt_succ_self m, xs[i], by rw [h1, List.getElem?_eq_getElem this]⟩
  · cases ht
theorem Rd.len {i o : Nat} {u : TypeId} (ht : fieldT P t i = some (o, u)) (h : Rd enc P w n t cs) : cs.length = P.cellsOf t := by
  obtain ⟨x, h⟩ := h
  unfold fieldT at ht
  split at ht
  · rename_i fs hu
    obtain ⟨xs, m, rfl, _, hc, _⟩ := DataW.trod_struct hu h
    exact hc
  · cases ht

theorem cells_at {a : Addr} {k : Nat} {row : List Value} (h : w.cells? 0 a k = some row) : row.length = k ∧ (0 < k → a.spot = none) ∧ CellsAt w a.block a.off row.toArray := by
  unfold World.cells? at h
  rw [if_pos (Nat.zero_le _)] at h
  have key : ∀ (k : Nat) (s : Nat) (row : List Value), (List.range' s k).mapM (fun i => w.cell? (a.add i)) = some row → row.length = k ∧ ∀ j : Nat, ∀ v, row[j]? = some v → w.cell? (a.add (s + j)) = some v := by
    intro k
    induction k with
    | zero => intro s row h; simp at h; subst h; exact ⟨rfl, fun j v hv => by simp at hv⟩
    | succ k ih =>
      intro s row h
      rw [List.range'_succ, List.mapM_cons] at h
      cases hc : w.cell? (a.add s) with
      | none => simp [hc] at h
      | some c =>
        cases hr : (List.range' (s + 1) k).mapM (fun i => w.cell? (a.add i)) with
        | none => simp [hc, hr] at h
        | some r =>
          simp [hc, hr] at h
          subst h
          obtain ⟨h1, h2⟩ := ih (s + 1) r hr
          refine ⟨by simp [h1], fun j v hv => ?_⟩
          cases j with
          | zero => simp at hv; subst hv; exact hc
          | succ j =>
            have := h2 j v (by simpa using hv)
            rw [← this]; congr 2; omega
  rw [List.range_eq_range'] at h
  obtain ⟨h1, h2⟩ := key k 0 row h
  have hsp : 0 < k → a.spot = none := by
    intro hk
    have hl : 0 < row.length := by omega
    have := h2 0 row[0] (List.getElem?_eq_getElem hl)
    rw [show a.add (0 + 0) = a by simp [Addr.add]] at this
    unfold World.cell? at this
    split at this
    · split at this
      · cases this
      · rename_i hs; cases hq : a.spot with
        | none => rfl
        | some q => rw [hq] at hs; exact absurd rfl hs
    · cases this
  refine ⟨h1, hsp, fun j v hv => ?_⟩
  have hj : j < row.length := by simpa using (Array.getElem?_eq_some_iff.1 hv).1
  have h3 := h2 j v (by simpa using hv)
  have hs := hsp (by omega)
  obtain ⟨b, o, sp⟩ := a
  simp only at hs
  subst hs
  rw [Nat.zero_add, add_at] at h3
  exact h3

/-- A slice: what it is, where its elements lie, and that each can be read. -/
theorem Rd.slice {sz : Nat} (ht : elemB P t = some e) (hc : P.cellsOf e = sz) (hz : 0 < sz) (h : Rd enc P w n t cs) :
    ∃ v len, cs = [v] ∧ SlOk v len ∧ len ≤ 9223372036854775807 ∧ ∃ m, m < n ∧ ∀ i, i < len → ∃ row : List Value, row.length = sz ∧ CellsAt w (vBlock v) (vOff v + i * sz) row.toArray ∧ Rd enc P w m e row := by
  obtain ⟨x, h⟩ := h
  have hn : 0 < n := by cases n with | zero => simp [DataW.trod] at h | succ n => omega
  rcases DataW.trod_slice (underlying_elem ht) h with ⟨rfl, _⟩ | ⟨a, len, cap, elems, rest, m, rfl, rfl, _, _, hl, hm, hel, hget, _⟩
  · exact ⟨_, 0, rfl, .inl ⟨rfl, rfl⟩, by omega, 0, hn, fun i hi => by omega⟩
  · rw [hc] at hget
    have each : ∀ i, i < len → ∃ row : List Value, w.cells? 0 (a.add (i * sz)) sz = some row ∧ Rd enc P w m e row := by
      intro i hi
      have h1 := hget i hi
      have hlt : i < elems.length := by omega
      rw [List.getElem?_eq_getElem hlt, Option.bind_eq_some_iff] at h1
      obtain ⟨row, h2, h3⟩ := h1
      exact ⟨row, h2, _, h3⟩
    have hsp : 0 < len → a.spot = none := by
      intro h0
      obtain ⟨row, h2, _⟩ := each 0 h0
      have := (cells_at h2).2.1 hz
      simpa [Addr.add] using this
    refine ⟨_, len, rfl, .inr ⟨a, cap, rfl, hl, hsp⟩, by have : maxLen = 9223372036854775807 := rfl; omega, m, Nat.lt_succ_self m, fun i hi => ?_⟩
    obtain ⟨row, h2, h3⟩ := each i hi
    obtain ⟨h4, _, h5⟩ := cells_at h2
    refine ⟨row, h4, ?_, h3⟩
    have ha := hsp (by omega)
    obtain ⟨b, o, sp⟩ := a
    simp only at ha
    subst ha
    rw [add_at] at h5
    exact h5

theorem list_of {β : Type} {Q : Nat → β → Prop} : ∀ (len : Nat), (∀ i, i < len → ∃ b, Q i b) → ∃ l : List β, l.length = len ∧ ∀ i b, l[i]? = some b → Q i b := by
  intro len
  induction len with
  | zero => intro _; exact ⟨[], rfl, fun i b h => by simp at h⟩
  | succ len ih =>
    intro h
    obtain ⟨l, h1, h2⟩ := ih fun i hi => h i (by omega)
    obtain ⟨b, hb⟩ := h len (by omega)
    refine ⟨l ++ [b], by simp [h1], fun i c hc => ?_⟩
    by_cases hi : i < l.length
    · exact h2 i c (by rwa [List.getElem?_append_left hi] at hc)
    · rw [List.getElem?_append_right (by omega)] at hc
      have : i - l.length = 0 := by
        have := (List.getElem?_eq_some_iff.1 hc).1
        simp at this; omega
      rw [this] at hc
      simp at hc
      subst hc
      have : i = len := by omega
      rw [this]; exact hb

/-- A slice of such. -/
theorem Rd.rows {β : Type} {sz : Nat} {f : β → Array Value} {Ok : β → Prop} (ht : elemB P t = some e) (hc : P.cellsOf e = sz) (hz : 0 < sz) (h : Rd enc P w n t cs)
    (each : ∀ m, m < n → ∀ row : List Value, row.length = sz → Rd enc P w m e row → ∃ b, f b = row.toArray ∧ Ok b) : ∃ (v : Value) (l : List β), cs = [v] ∧ RowsAt w v sz (l.map f) ∧ ∀ b ∈ l, Ok b := by
  obtain ⟨v, len, h1, h2, h3, m, hm, h4⟩ := Rd.slice ht hc hz h
  obtain ⟨l, hl, hq⟩ := list_of (Q := fun i b => (f b).size = sz ∧ CellsAt w (vBlock v) (vOff v + i * sz) (f b) ∧ Ok b) len fun i hi => by
    obtain ⟨row, r1, r2, r3⟩ := h4 i hi
    obtain ⟨b, b1, b2⟩ := each m hm row r1 r3
    exact ⟨b, by rw [b1]; simpa using r1, by rw [b1]; exact r2, b2⟩
  refine ⟨v, l, h1, ⟨by simpa [hl] using h2, fun i cs hi => ?_, fun i cs hi => ?_, by simpa [hl] using h3⟩, fun b hb => ?_⟩
  · simp only [List.getElem?_map, Option.map_eq_some_iff] at hi
    obtain ⟨b, hb, rfl⟩ := hi; exact (hq i b hb).1
  · simp only [List.getElem?_map, Option.map_eq_some_iff] at hi
    obtain ⟨b, hb, rfl⟩ := hi; exact (hq i b hb).2.1
  · obtain ⟨i, hi⟩ := List.getElem?_of_mem hb
    exact (hq i b hi).2.2

theorem Rd.one {ts : List TypeId} (hc : closB P ts = true) : ∀ (n : Nat) (t : TypeId) (cs : List Value), t ∈ ts → Rd enc P w n t cs → ∀ v ∈ cs, v.oneCell' = true := by
  intro n
  induction n with
  | zero => intro t cs _ h; obtain ⟨x, h⟩ := h; simp [DataW.trod] at h
  | succ n ih =>
    intro t cs ht h
    have hct := List.all_eq_true.1 hc t ht
    obtain ⟨x, h⟩ := h
    cases hu : P.underlying t with
    | none => unfold DataW.trod at h; rw [hu] at h; simp at h
    | some d =>
      cases d with
      | struct fs =>
        obtain ⟨xs, m, hm, _, hcl, hl, hf⟩ := DataW.trod_struct hu h
        obtain rfl : n = m := by omega
        rw [hu] at hct
        simp only [Bool.and_eq_true] at hct
        intro v hv
        obtain ⟨j, hj⟩ := List.getElem?_of_mem hv
        have hjl : j < P.cellsOf t := by rw [← hcl]; exact (List.getElem?_eq_some_iff.1 hj).1
        have h2 := List.all_eq_true.1 hct.2 j (by simpa using hjl)
        obtain ⟨f, hf1, hf2⟩ := List.any_eq_true.1 h2
        simp only [Bool.and_eq_true, Nat.ble_eq, Nat.blt_eq] at hf2
        have hf3 := List.all_eq_true.1 hct.1 f hf1
        obtain ⟨i, hi⟩ := List.getElem?_of_mem hf1
        have hi' : fs[i]? = some f := by simpa using hi
        have h4 := hf i f hi'
        have hil : i < xs.length := by rw [hl]; exact (Array.getElem?_eq_some_iff.1 hi').1
        rw [List.getElem?_eq_getElem hil] at h4
        refine ih f.type _ (List.contains_iff_mem.1 hf3) ⟨_, h4⟩ v ?_
        refine List.mem_of_getElem? (i := j - f.offset) ?_
        rw [List.getElem?_take_of_lt (by omega), List.getElem?_drop]
        rw [show f.offset + (j - f.offset) = j by omega]; exact hj
      | int k => obtain ⟨m, rfl, _⟩ := DataW.trod_int hu h; intro v hv; simp at hv; subst hv; rfl
      | string => obtain ⟨m, rfl, _⟩ := DataW.trod_string hu h; intro v hv; simp at hv; subst hv; rfl
      | bool => obtain ⟨m, rfl, _⟩ := DataW.trod_bool hu h; intro v hv; simp at hv; subst hv; rfl
      | slice e =>
        rcases DataW.trod_slice hu h with ⟨rfl, _⟩ | ⟨a, len, cap, elems, rest, m, _, rfl, _⟩
        · intro v hv; simp at hv; subst hv; rfl
        · intro v hv; simp at hv; subst hv; rfl
      | _ => rw [hu] at hct; cases hct

end
end Go.Proofs.Ytkjmjnddanhapaa
