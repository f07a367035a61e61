/-
  Strings as rows of bytes: their length, their bytes, their parts; a string's bytes in a slice. Plain lemmas over any program; no condition beyond those that stand in each statement.
-/
import Derived.Test.YtkjmjnddanhapaaK13
import Derived.Laws.Strings
import Derived.Laws.Slices
import Derived.Lib.ConvBytes
namespace Go.Proofs.Ytkjmjnddanhapaa
open Go.RowKit

/-- The string of these bytes. -/
def bs (l : List UInt8) : ByteArray := ⟨l.toArray⟩
theorem bs_size (l : List UInt8) : (bs l).size = l.length := by simp [bs, ByteArray.size]
theorem bs_list (l : List UInt8) : (bs l).data.toList = l := by simp [bs]
theorem bs_of (s : ByteArray) : s = bs s.data.toList := by cases s; simp [bs]
theorem bs_inj {a b : List UInt8} : bs a = bs b ↔ a = b := ⟨fun h => by have := congrArg (fun s : ByteArray => s.data.toList) h; simpa [bs] using this, fun h => by rw [h]⟩
theorem bs_extract (l : List UInt8) (i j : Nat) : (bs l).extract i j = bs ((l.drop i).take (j - i)) := by
  apply ByteArray.ext
  simp only [bs, ByteArray.data_extract, List.extract_toArray, List.extract_eq_take_drop]
theorem bs_take (l : List UInt8) (n : Nat) : (bs l).extract 0 n = bs (l.take n) := by rw [bs_extract]; simp
theorem bs_drop (l : List UInt8) (n : Nat) : (bs l).extract n (bs l).size = bs (l.drop n) := by
  rw [bs_extract, bs_size, List.take_of_length_le (by simp)]
theorem bs_append (a b : List UInt8) : bs a ++ bs b = bs (a ++ b) := by
  apply ByteArray.ext
  simp [bs]
section
variable {P : Program} {N : Nat} {ds : List Deferred} {L : List (Nat × Value)} {w : World} {ops : Array Oper} {Q : Exit → Act → World → Prop} {rest : List Oper} {d : Nat}
  {ty : TypeId} {pos : String} {aft : Array Edge} {x y : Operand}
theorem At.lenB {t : TypeId} {l : List UInt8} (hx : ev L x = some (.string (bs l))) (ht : strB P t = true) (hN : Nat.blt d N = true) (k : At N ds ((d, .int .i64 (l.length : Int)) :: L) (wpList P ops Q rest) w) :
    At N ds L (wpList P ops Q (⟨some d, .call ⟨.builtin .len, #[x], #[t]⟩, ty, pos, aft, none⟩ :: rest)) w :=
  At.lenStr hx ht hN (by rw [bs_size]; exact k)
theorem At.indexB {t : TypeId} {l : List UInt8} {i : Nat} {u : UInt8} {q : IntKind} (hx : ev L x = some (.string (bs l))) (hy : ev L y = some (.int q (i : Int))) (hu : l[i]? = some u) (ht : strB P t = true) (hN : Nat.blt d N = true)
    (k : At N ds ((d, .int .u8 (u.toNat : Int)) :: L) (wpList P ops Q rest) w) :
    At N ds L (wpList P ops Q (⟨some d, .index t x y, ty, pos, aft, none⟩ :: rest)) w :=
  At.op rfl rfl hN (fun a ha => by
    have hlt : i < l.length := (List.getElem?_eq_some_iff.1 hu).1
    have hi : 0 ≤ (i : Int) ∧ (i : Int) < ((bs l).size : Int) := by rw [bs_size]; omega
    have h := run_index_string (P := P) w t (bs l) q (i : Int) (underlying_str ht)
    rw [dif_pos hi] at h
    have hg : ((bs l)[(i : Int).toNat]'(by rw [bs_size]; omega)) = u := by
      have := (List.getElem?_eq_some_iff.1 hu).2
      simp only [Int.toNat_natCast]
      show (bs l).data[i]'_ = u
      simp only [bs, List.getElem_toArray]
      exact this
    rw [hg] at h
    simp only [execOp, ha.ev hx, ha.ev hy, Sem.run_bind, h, Result.andThen_ok, Sem.run_pure]) k
theorem At.takeB {t : TypeId} {l : List UInt8} {h : Nat} {q : IntKind} (hx : ev L x = some (.string (bs l))) (hy : ev L y = some (.int q (h : Int))) (ht : strB P t = true) (hh : h ≤ l.length) (hN : Nat.blt d N = true)
    (k : At N ds ((d, .string (bs (l.take h))) :: L) (wpList P ops Q rest) w) :
    At N ds L (wpList P ops Q (⟨some d, .slice t x none (some y) none, ty, pos, aft, none⟩ :: rest)) w :=
  At.op rfl rfl hN (fun a ha => by
    have hu := underlying_str ht
    have := run_slice_string_h (P := P) w t (bs l) hu q (h : Int) (by omega) (by rw [bs_size]; omega)
    rw [Int.toNat_natCast, bs_take] at this
    simp only [execOp, ha.ev hx, ha.ev hy, Option.map_some, Option.map_none, run_sliceAt_string (P := P) w t _ _ _ _ hu, Sem.run_bind, this, Result.andThen_ok, Sem.run_pure]) k
theorem At.dropB {t : TypeId} {l : List UInt8} {h : Nat} {q : IntKind} (hx : ev L x = some (.string (bs l))) (hy : ev L y = some (.int q (h : Int))) (ht : strB P t = true) (hh : h ≤ l.length) (hN : Nat.blt d N = true)
    (k : At N ds ((d, .string (bs (l.drop h))) :: L) (wpList P ops Q rest) w) :
    At N ds L (wpList P ops Q (⟨some d, .slice t x (some y) none none, ty, pos, aft, none⟩ :: rest)) w :=
  At.op rfl rfl hN (fun a ha => by
    have hu := underlying_str ht
    have := run_slice_string_l (P := P) w t (bs l) hu q (h : Int) (by omega) (by rw [bs_size]; omega)
    rw [Int.toNat_natCast, bs_drop] at this
    simp only [execOp, ha.ev hx, ha.ev hy, Option.map_some, Option.map_none, run_sliceAt_string (P := P) w t _ _ _ _ hu, Sem.run_bind, this, Result.andThen_ok, Sem.run_pure]) k
theorem At.catB {a b : List UInt8} {u u' : TypeId} (hx : ev L x = some (.string (bs a))) (hy : ev L y = some (.string (bs b))) (hN : Nat.blt d N = true) (hl : a.length + b.length ≤ 9223372036854775807)
    (k : At N ds ((d, .string (bs (a ++ b))) :: L) (wpList P ops Q rest) w) :
    At N ds L (wpList P ops Q (⟨some d, .binOp .add u x y u', ty, pos, aft, none⟩ :: rest)) w :=
  At.cat hx hy hN (by rw [bs_size, bs_size]; exact hl) (by rw [bs_append]; exact k)
theorem At.eqB' {a b : List UInt8} {u u' : TypeId} (hx : ev L x = some (.string (bs a))) (hy : ev L y = some (.string (bs b))) (hN : Nat.blt d N = true) (k : At N ds ((d, .bool (decide (a = b))) :: L) (wpList P ops Q rest) w) :
    At N ds L (wpList P ops Q (⟨some d, .binOp .eql u x y u', ty, pos, aft, none⟩ :: rest)) w :=
  At.eqS hx hy hN (by rw [decide_eq_decide.2 bs_inj]; exact k)
theorem At.neB' {a b : List UInt8} {u u' : TypeId} (hx : ev L x = some (.string (bs a))) (hy : ev L y = some (.string (bs b))) (hN : Nat.blt d N = true) (k : At N ds ((d, .bool (!decide (a = b))) :: L) (wpList P ops Q rest) w) :
    At N ds L (wpList P ops Q (⟨some d, .binOp .neq u x y u', ty, pos, aft, none⟩ :: rest)) w :=
  At.neS hx hy hN (by rw [decide_eq_decide.2 bs_inj]; exact k)
theorem At.quoI {q : IntKind} {m n : Int} {u u' : TypeId} (hx : ev L x = some (.int q m)) (hy : ev L y = some (.int q n)) (h0 : n ≠ 0) (hN : Nat.blt d N = true) (k : At N ds ((d, .int q (q.wrap (m.tdiv n))) :: L) (wpList P ops Q rest) w) :
    At N ds L (wpList P ops Q (⟨some d, .binOp .quo u x y u', ty, pos, aft, none⟩ :: rest)) w :=
  At.op rfl rfl hN (fun a ha => by simp [execOp, ha.ev hx, ha.ev hy, eqGuard, binOp, Op.intDiv, h0]) k

/-- A slice that holds these bytes. -/
def BytesAt (w : World) (v : Value) (l : List UInt8) : Prop := RowsAt w v 1 (l.map fun u => #[Value.int .u8 (u.toNat : Int)])
theorem At.toBytes {s t e : TypeId} {l : List UInt8} (hx : ev L x = some (.string (bs l))) (hs : strB P s = true) (ht : elemB P t = some e) (he : intKB P e = some .u8) (hl : l.length ≤ 8796093022208) (hN : Nat.blt d N = true)
    (k : ∀ b c w', w.heap.size ≤ b → Below w.heap.size w w' → BytesAt w' (.slice (some ⟨b, 0, none⟩) l.length c) l → At N ds ((d, .slice (some ⟨b, 0, none⟩) l.length c) :: L) (wpList P ops Q rest) w') :
    At N ds L (wpList P ops Q (⟨some d, .convert s t x, ty, pos, aft, none⟩ :: rest)) w := by
  have hrun := Lib.run_convert_string_bytes (P := P) w s t e (bs l) (underlying_str hs) (underlying_elem ht) (underlying_intK he)
  rw [bs_size] at hrun
  refine At.op (v := .slice (some ⟨w.heap.size, 0, none⟩) l.length (grownCap w l.length 0 e)) (w' := Lib.bytesWorld w e (bs l)) rfl rfl hN (fun a ha => by simp only [execOp, ha.ev hx, Sem.run_bind, hrun, Result.andThen_ok, Sem.run_pure]) (k w.heap.size (grownCap w l.length 0 e) _ (Nat.le_refl _) ?_ ?_)
  · refine ⟨rfl, rfl, rfl, ?_, fun j hj => Lib.bytesWorld_at_old w e (bs l) j hj⟩
    rw [Lib.bytesWorld_size]; omega
  · have hcap : l.length ≤ grownCap w l.length 0 e := grownCap_ge w l.length 0 e
    refine ⟨.inr ⟨⟨w.heap.size, 0, none⟩, grownCap w l.length 0 e, by simp, by simpa using hcap, fun _ => rfl⟩, fun i cs hi => ?_, fun i cs hi j v hv => ?_, by simp; omega⟩
    · simp only [List.getElem?_map, Option.map_eq_some_iff] at hi
      obtain ⟨u, _, rfl⟩ := hi; rfl
    · simp only [List.getElem?_map, Option.map_eq_some_iff] at hi
      obtain ⟨u, hu, rfl⟩ := hi
      have hj : j = 0 := by have := (Array.getElem?_eq_some_iff.1 hv).1; simp at this; omega
      subst hj
      simp at hv
      subst hv
      have hlt := (List.getElem?_eq_some_iff.1 hu).1
      have := Lib.bytesWorld_cell w e (bs l) i (by rw [bs_size]; exact hlt)
      simp only [vBlock, vOff, Nat.zero_add, Nat.mul_one, Nat.add_zero]
      rw [this, bs_list]
      simp [List.getD, hu]
theorem BytesAt.get {l : List UInt8} {v : Value} (h : BytesAt w v l) {i : Nat} {u : UInt8} (hi : l[i]? = some u) : w.cell? ⟨vBlock v, vOff v + i * 1, none⟩ = some (.int .u8 (u.toNat : Int)) := by
  have := RowsAt.at_ h i #[.int .u8 (u.toNat : Int)] (by simp [hi]) 0 (.int .u8 (u.toNat : Int)) rfl
  simpa using this
theorem BytesAt.ok {l : List UInt8} {v : Value} (h : BytesAt w v l) : SlOk v l.length := by have := RowsAt.ok h; simpa using this
theorem BytesAt.keep {w' : World} {l : List UInt8} {v : Value} (h : BytesAt w v l) (hB : Below w.heap.size w w') : BytesAt w' v l := RowsAt.keep h hB
theorem BytesAt.below {w' : World} {l : List UInt8} {v : Value} (h : BytesAt w v l) (hB : Below w.heap.size w w') : BytesAt w' v l := RowsAt.keep h hB
theorem BytesAt.fresh {w' : World} {l : List UInt8} {v : Value} {b : Nat} {o : Obj} (h : BytesAt w v l) (hF : Fresh w w' b o) : BytesAt w' v l := h.keep hF.belowSelf
theorem BytesAt.drew {l : List UInt8} {v : Value} (h : BytesAt w v l) : BytesAt w.drew v l := h.keep (Below.drewB (Below.refl w.heap.size w))
end
end Go.Proofs.Ytkjmjnddanhapaa
