/-
  The walk's own small calculus: capacities, cuts of slices, a row made long enough beforehand. Plain lemmas over any program; no condition beyond those that stand in each statement.
-/
import Derived.Test.YtkjmjnddanhapaaD2
import Derived.Lib.AppendZeros
namespace Go.Proofs.Ytkjmjnddanhapaa
open Go.RowKit

section
variable {P : Program} {N : Nat} {ds : List Deferred} {L : List (Nat × Value)} {w : World} {ops : Array Oper} {Q : Exit → Act → World → Prop} {rest : List Oper}
  {d : Nat} {ty : TypeId} {pos : String} {aft : Array Edge} {x y : Operand}

theorem elem_eq {P : Program} {t e : TypeId} (h : elemB P t = some e) : P.underlying t = some (.slice (P.elem t)) ∧ P.elem t = e := by
  have hu := underlying_elem h
  have : P.elem t = e := by simp [Program.elem, hu]
  exact ⟨by rw [this]; exact hu, this⟩

/-- A guarded operation whose guard was not done itself. -/
theorem At.noU {o : Oper} {j g : Nat} {b : Bool} (hg : o.guard = some (j, b)) (hj : (ops[j]?).bind (·.dst) = some g) (hN : Nat.blt g N = true) (hv : look L g = some undef)
    (hd : o.dst = some d) (hdN : Nat.blt d N = true) (k : At N ds ((d, undef) :: L) (wpList P ops Q rest) w) : At N ds L (wpList P ops Q (o :: rest)) w := fun a ha => by
  have hN' : g < a.tmps.size := by rw [ha.size]; simpa [Nat.blt_eq] using hN
  have hy : Region.wanted o (yielded ops a.tmps) = false := by
    have hgv := ha.get g _ hv
    have : a.tmps[g]? = some undef := by
      rw [Array.getElem?_eq_getElem hN']; simpa [hN'] using hgv
    simp [Region.wanted, hg, yielded, hj, this, undef]
  unfold wpList
  rw [if_neg (by rw [hy]; simp), hd]
  exact k _ (ha.put hdN)
def boolB (P : Program) (t : TypeId) : Bool := match P.underlying t with | some .bool => true | _ => false
theorem underlying_bool {P : Program} {t : TypeId} (h : boolB P t = true) : P.underlying t = some .bool := by
  unfold boolB at h
  split at h
  · assumption
  · cases h
theorem At.neB {m n : Bool} {u u' : TypeId} (hx : ev L x = some (.bool m)) (hy : ev L y = some (.bool n)) (hb : boolB P u = true) (hN : Nat.blt d N = true) (k : At N ds ((d, .bool (!decide (m = n))) :: L) (wpList P ops Q rest) w) :
    At N ds L (wpList P ops Q (⟨some d, .binOp .neq u x y u', ty, pos, aft, none⟩ :: rest)) w :=
  At.op rfl rfl hN (fun a ha => by
    have e : (m == n) = decide (m = n) := by cases m <;> cases n <;> rfl
    have h : (Op.equal u (.bool m) (.bool n)).run P w = .ok (m == n) w := run_equalIn_bool w 9999 u m n (underlying_bool hb)
    simp [execOp, ha.ev hx, ha.ev hy, eqGuard, binOp, h, e]) k
theorem At.sliceHi {t e : TypeId} {sz n c : Nat} {h : Nat} {b : Option Addr} (hx : ev L x = some (.slice b n c)) (hy : ev L y = some (.int .i64 (h : Int))) (he : elemB P t = some e) (hs : sizeB P e = some sz) (hh : h ≤ c) (hN : Nat.blt d N = true)
    (k : At N ds ((d, .slice (if c = 0 then b else b.map (·.add (0 * sz))) h c) :: L) (wpList P ops Q rest) w) :
    At N ds L (wpList P ops Q (⟨some d, .slice t x none (some y) none, ty, pos, aft, none⟩ :: rest)) w :=
  At.op rfl rfl hN (fun a ha => by
    obtain ⟨h1, h2⟩ := elem_eq he
    have := run_slice_h (P := P) w t b n c h1 .i64 (h : Int) (by omega) (by omega)
    rw [h2, run_sizeOf hs] at this
    simp only [execOp, ha.ev hx, ha.ev hy, Option.map_some, Option.map_none, run_sliceAt_slice (P := P) w t _ _ _ _ h1, Sem.run_bind, this, Result.andThen_ok, Sem.run_pure]
    simp [sliced]) k

end

-- rows of strings that nobody writes to any more
section
variable {T : TypeId} {w w' : World} {v : Value} {ss : List ByteArray}
theorem Fresh.belowSelf {b : Nat} {o : Obj} (h : Fresh w w' b o) : Below w.heap.size w w' := h.below (Below.refl _ _) (Nat.le_refl _)
theorem StrsAt.fresh {b : Nat} {o : Obj} (h : StrsAt w v ss) (hF : Fresh w w' b o) : StrsAt w' v ss := h.keep hF.belowSelf
theorem StrsAt.below (h : StrsAt w v ss) (hB : Below w.heap.size w w') : StrsAt w' v ss := h.keep hB
theorem StrsAt.drew (h : StrsAt w v ss) : StrsAt w.drew v ss := h.keep (Below.drewB (Below.refl w.heap.size w))

theorem Bld.one {P : Program} {t : TypeId} {C C' : Array Value} {i off : Nat} {v : Value} {r : List (Nat × Value)} (hf : fieldB P t i = some (off, 1)) (h1 : v.oneCell' = true) (hr : off + 1 ≤ C.size) (h : Bld P t (C.setIfInBounds off v) r C') : Bld P t C ((i, v) :: r) C' :=
  Bld.cons hf (by rw [cells_one h1]; rfl) hr (by rw [cells_one h1, splice_one (by omega)]; exact h)
theorem RowsAt.own {w : World} {b n c sz : Nat} {rows : List (Array Value)} {T : TypeId} {fr : Nat × Nat} (h : w.heap[b]? = some (.cells (rows.flatMap (·.toList)).toArray T fr)) (hs : ∀ r ∈ rows, r.size = sz) (hn : n = rows.length) (hc : n ≤ c) (hm : n ≤ 9223372036854775807 := by decide) : RowsAt w (.slice (some ⟨b, 0, none⟩) n c) sz rows := by
  subst hn
  refine ⟨.inr ⟨⟨b, 0, none⟩, c, rfl, hc, fun _ => rfl⟩, fun i cs hi => hs cs (List.mem_of_getElem? hi), fun i cs hi j v hv => ?_, hm⟩
  have := flat_get hs hi hv
  simp only [vBlock, vOff, Nat.zero_add]
  have h2 : (rows.flatMap (·.toList)).toArray[i * sz + j]? = some v := by simpa using this
  exact cell_own h h2
theorem Bld.whole {P : Program} {t : TypeId} {C cs : Array Value} {i n : Nat} (hf : fieldB P t i = some (0, n)) (h1 : cs.size = n) (h2 : C.size = n) : Bld P t C [(i, .agg cs)] cs :=
  Bld.cons hf h1 (by omega) (by rw [show Value.cells (.agg cs) = cs from rfl, splice_all (by omega)]; exact Bld.nil _)
/-- Two rows in different blocks. -/
def Apart (u v : Value) : Prop := ∀ g, u.ownBlock = some g → v.ownBlock ≠ some g
theorem Apart.symm {u v : Value} (h : Apart u v) : Apart v u := fun g hv hu => h g hu hv
theorem Apart.nil (v : Value) : Apart v (.slice none 0 0) := fun g _ h => by cases h
theorem OwnS.apart {u : Value} {b0 : Nat} {C : Array Value} {T' : TypeId} {fr : Nat × Nat} (hu : OwnS T w u ss) (hF : Fr (fun k => k = b0 ∨ some k = v.ownBlock) w w') (hb : w.heap[b0]? = some (.cells C T' fr)) (hT : Nat.beq T' T = false) (ha : Apart u v) : OwnS T w' u ss :=
  hF.own hu fun g hg hS => by
    rcases hS with rfl | h
    · exact hu.neT hb hT hg.symm
    · exact ha g hg h.symm
end
end Go.Proofs.Ytkjmjnddanhapaa
