/-
  A slice's part from a place on, strings in their order, bits and remainders; rows of strings beside a row that grows. Plain lemmas over any program; no condition beyond those that stand in each statement.
-/
import Derived.Test.YtkjmjnddanhapaaK10
import Derived.Laws.Entries
namespace Go.Proofs.Ytkjmjnddanhapaa
open Go.RowKit

/-- A slice from a place on. -/
def dropV (sz : Nat) (v : Value) (l : Nat) : Value := match v with | .slice a n c => .slice (if c = l then a else a.map (·.add (l * sz))) (n - l) (c - l) | v => v
section
variable {P : Program} {N : Nat} {ds : List Deferred} {L : List (Nat × Value)} {w : World} {ops : Array Oper} {Q : Exit → Act → World → Prop} {rest : List Oper} {d : Nat}
  {ty : TypeId} {pos : String} {aft : Array Edge} {x y : Operand}
theorem At.sliceFrom {t e : TypeId} {sz n h : Nat} {v : Value} (hx : ev L x = some v) (hy : ev L y = some (.int .i64 (h : Int))) (hv : SlOk v n) (he : elemB P t = some e) (hs : sizeB P e = some sz) (hh : h ≤ n) (hN : Nat.blt d N = true)
    (k : At N ds ((d, dropV sz v h) :: L) (wpList P ops Q rest) w) :
    At N ds L (wpList P ops Q (⟨some d, .slice t x (some y) none none, ty, pos, aft, none⟩ :: rest)) w := by
  have key : ∀ (a : Option Addr) (c : Nat), v = .slice a n c → At N ds L (wpList P ops Q (⟨some d, .slice t x (some y) none none, ty, pos, aft, none⟩ :: rest)) w := by
    rintro a c rfl
    exact At.op rfl rfl hN (fun b ha => by
      obtain ⟨h1, h2⟩ := elem_eq he
      have := run_slice_l (P := P) w t a n c h1 .i64 (h : Int) (by omega) (by omega)
      rw [h2, run_sizeOf hs] at this
      simp only [execOp, ha.ev hx, ha.ev hy, Option.map_some, Option.map_none, run_sliceAt_slice (P := P) w t _ _ _ _ h1, Sem.run_bind, this, Result.andThen_ok, Sem.run_pure]
      simp [sliced, dropV]) k
  rcases hv with ⟨rfl, rfl⟩ | ⟨a, cap, rfl, hc, hsp⟩
  · exact key none 0 rfl
  · exact key (some a) cap rfl
end
theorem SlOk.drop {v : Value} {n h sz : Nat} (hv : SlOk v n) (hh : h ≤ n) : SlOk (dropV sz v h) (n - h) := by
  rcases hv with ⟨rfl, rfl⟩ | ⟨a, cap, rfl, hc, hsp⟩
  · obtain rfl : h = 0 := by omega
    exact .inl ⟨rfl, rfl⟩
  · simp only [dropV]
    by_cases hcap : cap = h
    · rw [if_pos hcap]; exact .inr ⟨a, _, rfl, by omega, fun h0 => hsp (by omega)⟩
    · rw [if_neg hcap]
      exact .inr ⟨a.add (h * sz), _, rfl, by omega, fun h0 => by
        have := hsp (by omega)
        obtain ⟨b, o, sp⟩ := a
        simp only at this
        subst this
        rw [add_at]⟩
theorem RowsAt.drop {w : World} {v : Value} {sz : Nat} {rows : List (Array Value)} (hr : RowsAt w v sz rows) {h : Nat} (hh : h ≤ rows.length) : RowsAt w (dropV sz v h) sz (rows.drop h) := by
  refine ⟨by rw [List.length_drop]; exact hr.ok.drop hh, fun i cs hi => ?_, fun i cs hi => ?_, ?_⟩
  · rw [List.getElem?_drop] at hi; exact hr.size _ cs hi
  · rw [List.getElem?_drop] at hi
    have hlt := lt_of_some hi
    have h3 := hr.at_ _ cs hi
    rcases hr.ok with ⟨_, h0⟩ | ⟨⟨b, o, sp⟩, cap, rfl, hc, hsp⟩
    · omega
    · obtain rfl : sp = none := hsp (by omega)
      have hcap : ¬ cap = h := by omega
      simp only [dropV, if_neg hcap, Option.map_some, add_at, vBlock, vOff] at h3 ⊢
      rw [show o + h * sz + i * sz = o + (h + i) * sz by rw [Nat.add_mul, Nat.add_assoc]]
      exact h3
  · have := hr.len; simp; omega
theorem StrsAt.drop {w : World} {v : Value} {ss : List ByteArray} (h : StrsAt w v ss) {k : Nat} (hk : k ≤ ss.length) : StrsAt w (dropV 1 v k) (ss.drop k) := by
  have := RowsAt.drop h (h := k) (by simpa using hk)
  rw [← List.map_drop] at this
  exact this

-- ------------------------------------------------------------------ a row of strings beside one that grows
def ApartS (u : Value) (ss : List ByteArray) (v : Value) : Prop := ss = [] ∨ ∀ g, v.ownBlock = some g → g ≠ vBlock u
section
variable {w w' : World} {u v v' : Value} {ss : List ByteArray}
theorem StrsAt.lt (h : StrsAt w u ss) (hne : ss ≠ []) : vBlock u < w.heap.size := by
  obtain ⟨s, r, rfl⟩ := List.exists_cons_of_ne_nil hne
  exact cell_lt (StrsAt.get h (i := 0) (s := s) rfl)
theorem ApartS.fresh {b n c : Nat} {o : Obj} (h : StrsAt w u ss) (hF : Fresh w w' b o) : ApartS u ss (.slice (some ⟨b, 0, none⟩) n c) := by
  by_cases hne : ss = []
  · exact .inl hne
  · refine .inr fun g hg => ?_
    cases hg
    have := StrsAt.lt h hne
    have := hF.eq
    show b ≠ _
    omega
theorem ApartS.nil : ApartS u ss (.slice none 0 0) := .inr fun g hg => by cases hg
theorem ApartS.app (ap : ApartS u ss v) (hA : AppR w w' v v') (h : StrsAt w u ss) : ApartS u ss v' := by
  rcases ap with h0 | h0
  · exact .inl h0
  · by_cases hne : ss = []
    · exact .inl hne
    · refine .inr fun g hg => ?_
      rcases hA.blk with h1 | ⟨g', h1, h2⟩
      · exact h0 g (by rw [← h1]; exact hg)
      · rw [h1] at hg; cases hg
        have := StrsAt.lt h hne
        omega
theorem AppR.strs (hA : AppR w w' v v') (h : StrsAt w u ss) (ap : ApartS u ss v) : StrsAt w' u ss := by
  refine ⟨RowsAt.ok h, RowsAt.size h, fun i cs hi j x hx => ?_, RowsAt.len h⟩
  have h1 := RowsAt.at_ h i cs hi j x hx
  rcases ap with h0 | h0
  · subst h0; simp at hi
  · have hlt := cell_lt h1
    have hb := hA.grown.block _ hlt fun e => h0 _ e.symm rfl
    simp only [World.cell?] at h1 ⊢
    rw [hb]; exact h1
end
end Go.Proofs.Ytkjmjnddanhapaa
