/-
  What the arguments of the laws of the layer scope read as: the trees that lie there. Facts of this seat's program, shown by computation; no condition.
-/
import Derived.Test.YtkclfcdppnlkbaaR1
namespace Go.Proofs.Ytkclfcdppnlkbaa
open Go.RowKit

section
variable {H : Type} {enc : TypeId × Value → H} {P : Program} {w : World} {n : Nat} {t u e : TypeId} {cs : List Value} {i o : Nat}
theorem Rd.fInt (hf : fieldT P t i = some (o, u)) (hk : kindB P u = 1) (hc : P.cellsOf u = 1) (h : Rd enc P w n t cs) : ∃ m, cs.toArray[o]? = some (.int .i64 m) := by
  obtain ⟨m, _, h1⟩ := Rd.field hf h
  rw [hc] at h1
  obtain ⟨v, h2⟩ := Rd.int hk h1
  exact ⟨v, one_at h2⟩
theorem Rd.fStr (hf : fieldT P t i = some (o, u)) (hk : kindB P u = 2) (hc : P.cellsOf u = 1) (h : Rd enc P w n t cs) : ∃ s, cs.toArray[o]? = some (.string s) := by
  obtain ⟨m, _, h1⟩ := Rd.field hf h
  rw [hc] at h1
  obtain ⟨v, h2, _⟩ := Rd.str hk h1
  exact ⟨v, one_at h2⟩
theorem Rd.fSl {sz : Nat} (hf : fieldT P t i = some (o, u)) (he : elemB P u = some e) (hce : P.cellsOf e = sz) (hz : 0 < sz) (hc : P.cellsOf u = 1) (h : Rd enc P w n t cs) : ∃ v len, cs.toArray[o]? = some v ∧ SlOk v len := by
  obtain ⟨m, _, h1⟩ := Rd.field hf h
  rw [hc] at h1
  obtain ⟨v, len, h2, h3, _⟩ := Rd.slice he hce hz h1
  exact ⟨v, len, one_at h2, h3⟩
theorem Rd.fRows {β : Type} {sz : Nat} {f : β → Array Value} {Ok : β → Prop} (hf : fieldT P t i = some (o, u)) (he : elemB P u = some e) (hce : P.cellsOf e = sz) (hz : 0 < sz) (hc : P.cellsOf u = 1) (h : Rd enc P w n t cs)
    (each : ∀ m, m < n → ∀ row : List Value, row.length = sz → Rd enc P w m e row → ∃ b, f b = row.toArray ∧ Ok b) : ∃ (v : Value) (l : List β), cs.toArray[o]? = some v ∧ RowsAt w v sz (l.map f) ∧ ∀ b ∈ l, Ok b := by
  obtain ⟨m, hm, h1⟩ := Rd.field hf h
  rw [hc] at h1
  obtain ⟨v, l, h2, h3, h4⟩ := Rd.rows he hce hz h1 fun m' hm' row hr hd => each m' (by omega) row hr hd
  exact ⟨v, l, one_at h2, h3, h4⟩
theorem Rd.strs (he : elemB P t = some e) (hk : kindB P e = 2) (hce : P.cellsOf e = 1) (h : Rd enc P w n t cs) : ∃ (v : Value) (ss : List ByteArray), cs = [v] ∧ StrsAt w v ss := by
  obtain ⟨v, l, h2, h3, _⟩ := Rd.rows (f := fun s : ByteArray => #[Value.string s]) (Ok := fun _ => True) he hce (by omega) h fun m hm row hr hd => by
    obtain ⟨s, rfl, _⟩ := Rd.str hk hd
    exact ⟨s, rfl, trivial⟩
  exact ⟨v, l, h2, h3⟩
theorem Rd.fStrs (hf : fieldT P t i = some (o, u)) (he : elemB P u = some e) (hk : kindB P e = 2) (hce : P.cellsOf e = 1) (hc : P.cellsOf u = 1) (h : Rd enc P w n t cs) : ∃ (v : Value) (ss : List ByteArray), cs.toArray[o]? = some v ∧ StrsAt w v ss := by
  obtain ⟨m, _, h1⟩ := Rd.field hf h
  rw [hc] at h1
  obtain ⟨v, ss, h2, h3⟩ := Rd.strs he hk hce h1
  exact ⟨v, ss, one_at h2, h3⟩
theorem Rd.fSub {k : Nat} (hf : fieldT P t i = some (o, u)) (hc : P.cellsOf u = k) (h : Rd enc P w n t cs) : ∃ m, m < n ∧ Rd enc P w m u ((cs.drop o).take k) := by
  obtain ⟨m, hm, h1⟩ := Rd.field hf h
  rw [hc] at h1
  exact ⟨m, hm, h1⟩
theorem sub_at {cs : List Value} {o k j : Nat} {v : Value} (hj : j < k) (h : ((cs.drop o).take k).toArray[j]? = some v) : cs.toArray[o + j]? = some v := by
  have : ((cs.drop o).take k)[j]? = some v := by simpa using h
  rw [List.getElem?_take_of_lt hj, List.getElem?_drop] at this
  simpa using this
end

section
variable {H : Type} {enc : TypeId × Value → H} {w : World} {n : Nat} {cs : List Value}
theorem rd_clos : closB Try.prog [35, 33, 31, 29, 71, 43, 45, 52, 54, 3, 9, 22, 23, 24, 25, 26, 27, 41, 50] = true := by kernel_rfl
theorem c3 : Try.prog.cellsOf 3 = 1 := by kernel_rfl
theorem c9 : Try.prog.cellsOf 9 = 1 := by kernel_rfl
theorem c22 : Try.prog.cellsOf 22 = 1 := by kernel_rfl
theorem c23 : Try.prog.cellsOf 23 = 1 := by kernel_rfl
theorem c24 : Try.prog.cellsOf 24 = 1 := by kernel_rfl
theorem c25 : Try.prog.cellsOf 25 = 1 := by kernel_rfl
theorem c26 : Try.prog.cellsOf 26 = 1 := by kernel_rfl
theorem c27 : Try.prog.cellsOf 27 = 1 := by kernel_rfl
theorem c41 : Try.prog.cellsOf 41 = 1 := by kernel_rfl
theorem c50 : Try.prog.cellsOf 50 = 1 := by kernel_rfl
theorem c29 : Try.prog.cellsOf 29 = 2 := by kernel_rfl
theorem c31 : Try.prog.cellsOf 31 = 6 := by kernel_rfl
theorem c33 : Try.prog.cellsOf 33 = 21 := by kernel_rfl
theorem c35 : Try.prog.cellsOf 35 = 23 := by kernel_rfl
theorem c43 : Try.prog.cellsOf 43 = 2 := by kernel_rfl
theorem c45 : Try.prog.cellsOf 45 = 13 := by kernel_rfl
theorem c52 : Try.prog.cellsOf 52 = 2 := by kernel_rfl
theorem c54 : Try.prog.cellsOf 54 = 2 := by kernel_rfl
theorem c71 : Try.prog.cellsOf 71 = 23 := by kernel_rfl
theorem k3 : kindB Try.prog 3 = 1 := by kernel_rfl
theorem k9 : kindB Try.prog 9 = 2 := by kernel_rfl
theorem e22 : elemB Try.prog 22 = some 43 := by kernel_rfl
theorem e23 : elemB Try.prog 23 = some 52 := by kernel_rfl
theorem e24 : elemB Try.prog 24 = some 33 := by kernel_rfl
theorem e25 : elemB Try.prog 25 = some 71 := by kernel_rfl
theorem e26 : elemB Try.prog 26 = some 31 := by kernel_rfl
theorem e27 : elemB Try.prog 27 = some 9 := by kernel_rfl
theorem e41 : elemB Try.prog 41 = some 45 := by kernel_rfl
theorem e50 : elemB Try.prog 50 = some 54 := by kernel_rfl
theorem f31_0 : fieldT Try.prog 31 0 = some (0, 3) := by kernel_rfl
theorem f31_1 : fieldT Try.prog 31 1 = some (1, 9) := by kernel_rfl
theorem f31_2 : fieldT Try.prog 31 2 = some (2, 3) := by kernel_rfl
theorem f31_3 : fieldT Try.prog 31 3 = some (3, 26) := by kernel_rfl
theorem f31_4 : fieldT Try.prog 31 4 = some (4, 29) := by kernel_rfl
theorem f29_0 : fieldT Try.prog 29 0 = some (0, 27) := by kernel_rfl
theorem f29_1 : fieldT Try.prog 29 1 = some (1, 3) := by kernel_rfl
theorem f45_0 : fieldT Try.prog 45 0 = some (0, 9) := by kernel_rfl
theorem f45_1 : fieldT Try.prog 45 1 = some (1, 31) := by kernel_rfl
theorem f45_2 : fieldT Try.prog 45 2 = some (7, 31) := by kernel_rfl
theorem f43_0 : fieldT Try.prog 43 0 = some (0, 9) := by kernel_rfl
theorem f43_1 : fieldT Try.prog 43 1 = some (1, 41) := by kernel_rfl
theorem f54_0 : fieldT Try.prog 54 0 = some (0, 9) := by kernel_rfl
theorem f54_1 : fieldT Try.prog 54 1 = some (1, 26) := by kernel_rfl
theorem f52_0 : fieldT Try.prog 52 0 = some (0, 9) := by kernel_rfl
theorem f52_1 : fieldT Try.prog 52 1 = some (1, 50) := by kernel_rfl
theorem f33_0 : fieldT Try.prog 33 0 = some (0, 3) := by kernel_rfl
theorem f33_1 : fieldT Try.prog 33 1 = some (1, 3) := by kernel_rfl
theorem f33_2 : fieldT Try.prog 33 2 = some (2, 9) := by kernel_rfl
theorem f33_3 : fieldT Try.prog 33 3 = some (3, 9) := by kernel_rfl
theorem f33_4 : fieldT Try.prog 33 4 = some (4, 3) := by kernel_rfl
theorem f33_5 : fieldT Try.prog 33 5 = some (5, 24) := by kernel_rfl
theorem f33_6 : fieldT Try.prog 33 6 = some (6, 25) := by kernel_rfl
theorem f71_0 : fieldT Try.prog 71 0 = some (0, 9) := by kernel_rfl
theorem f71_1 : fieldT Try.prog 71 1 = some (1, 27) := by kernel_rfl
theorem f71_2 : fieldT Try.prog 71 2 = some (2, 33) := by kernel_rfl
theorem f35_0 : fieldT Try.prog 35 0 = some (0, 22) := by kernel_rfl
theorem f35_1 : fieldT Try.prog 35 1 = some (1, 23) := by kernel_rfl
theorem f35_2 : fieldT Try.prog 35 2 = some (2, 33) := by kernel_rfl

theorem ty_rd (h : Rd enc Try.prog w n 31 cs) : ∃ t : Ty, t.cs = cs.toArray ∧ TyOk t := by
  obtain ⟨k, h0⟩ := Rd.fInt f31_0 k3 c3 h
  obtain ⟨nm, h1⟩ := Rd.fStr f31_1 k9 c9 h
  obtain ⟨var, h2⟩ := Rd.fInt f31_2 k3 c3 h
  obtain ⟨av, args, h3, h3'⟩ := Rd.fSl f31_3 e26 c31 (by omega) c26 h
  obtain ⟨m, _, hr⟩ := Rd.fSub f31_4 c29 h
  obtain ⟨lv, labels, h4, h4'⟩ := Rd.fSl f29_0 e27 c9 (by omega) c27 hr
  obtain ⟨rv, h5⟩ := Rd.fInt f29_1 k3 c3 hr
  have hl : cs.length = 6 := (Rd.len f31_0 h).trans c31
  exact ⟨⟨cs.toArray, k, nm, var, av, args, lv, labels, rv⟩, rfl, by simpa using hl, all_one (Rd.one rd_clos n 31 cs (by decide) h), h0, h1, h2, h3, sub_at (by omega) h4, sub_at (by omega) h5, h3', h4'⟩
theorem op_rd (h : Rd enc Try.prog w n 45 cs) : ∃ t : Op, t.cs = cs.toArray ∧ OpOk t := by
  obtain ⟨nm, h0⟩ := Rd.fStr f45_0 k9 c9 h
  obtain ⟨m1, _, h1⟩ := Rd.fSub f45_1 c31 h
  obtain ⟨m2, _, h2⟩ := Rd.fSub f45_2 c31 h
  obtain ⟨a, ha, ha'⟩ := ty_rd h1
  obtain ⟨b, hb, hb'⟩ := ty_rd h2
  have hl : cs.length = 13 := (Rd.len f45_0 h).trans c45
  exact ⟨⟨cs.toArray, nm, a, b⟩, rfl, by simpa using hl, all_one (Rd.one rd_clos n 45 cs (by decide) h), h0, part_at.trans ha.symm, part_at.trans hb.symm, ha', hb'⟩
theorem eff_rd (h : Rd enc Try.prog w n 43 cs) : ∃ t : Eff, t.cs = cs.toArray ∧ EffOk w t := by
  obtain ⟨nm, h0⟩ := Rd.fStr f43_0 k9 c9 h
  obtain ⟨v, l, h1, h2, h3⟩ := Rd.fRows f43_1 e41 c45 (by omega) c41 h fun m _ row _ hd => op_rd hd
  have hl : cs.length = 2 := (Rd.len f43_0 h).trans c43
  exact ⟨⟨cs.toArray, nm, v, l⟩, rfl, by simpa using hl, all_one (Rd.one rd_clos n 43 cs (by decide) h), h0, h1, h2, h3⟩
theorem cn_rd (h : Rd enc Try.prog w n 54 cs) : ∃ t : Cn, t.cs = cs.toArray ∧ CnOk w t := by
  obtain ⟨nm, h0⟩ := Rd.fStr f54_0 k9 c9 h
  obtain ⟨v, l, h1, h2, h3⟩ := Rd.fRows f54_1 e26 c31 (by omega) c26 h fun m _ row _ hd => ty_rd hd
  have hl : cs.length = 2 := (Rd.len f54_0 h).trans c54
  exact ⟨⟨cs.toArray, nm, v, l⟩, rfl, by simpa using hl, all_one (Rd.one rd_clos n 54 cs (by decide) h), h0, h1, h2, h3⟩
theorem dat_rd (h : Rd enc Try.prog w n 52 cs) : ∃ t : Dat, t.cs = cs.toArray ∧ DatOk w t := by
  obtain ⟨nm, h0⟩ := Rd.fStr f52_0 k9 c9 h
  obtain ⟨v, l, h1, h2, h3⟩ := Rd.fRows f52_1 e50 c54 (by omega) c50 h fun m _ row _ hd => cn_rd hd
  have hl : cs.length = 2 := (Rd.len f52_0 h).trans c52
  exact ⟨⟨cs.toArray, nm, v, l⟩, rfl, by simpa using hl, all_one (Rd.one rd_clos n 52 cs (by decide) h), h0, h1, h2, h3⟩
theorem tm_rd : ∀ (n : Nat) (cs : List Value), Rd enc Try.prog w n 33 cs → ∃ t : Tm, t.cs = cs.toArray ∧ TmOk w t := by
  intro n
  induction n using Nat.strongRecOn with
  | _ n ih =>
    intro cs h
    obtain ⟨k, h0⟩ := Rd.fInt f33_0 k3 c3 h
    obtain ⟨at_, h1⟩ := Rd.fInt f33_1 k3 c3 h
    obtain ⟨nm, h2⟩ := Rd.fStr f33_2 k9 c9 h
    obtain ⟨pm, h3⟩ := Rd.fStr f33_3 k9 c9 h
    obtain ⟨m, h4⟩ := Rd.fInt f33_4 k3 c3 h
    obtain ⟨kv, kids, h5, h5', h5''⟩ := Rd.fRows f33_5 e24 c33 (by omega) c24 h fun m hm row _ hd => ih m hm row hd
    obtain ⟨av, arms, h6, h6', h6''⟩ := Rd.fRows (f := Am.cs) (Ok := AmOk w) f33_6 e25 c71 (by omega) c25 h fun m hm row hr hd => by
      obtain ⟨nm, a0⟩ := Rd.fStr f71_0 k9 c9 hd
      obtain ⟨vv, vars, a1, a1'⟩ := Rd.fStrs f71_1 e27 k9 c9 c27 hd
      obtain ⟨m', hm', a2⟩ := Rd.fSub f71_2 c33 hd
      obtain ⟨b, hb, hb'⟩ := ih m' (by omega) _ a2
      exact ⟨.mk row.toArray nm vv vars b, rfl, .mk ⟨by simpa [Am.cs] using hr, all_one (Rd.one rd_clos m 71 row (by decide) hd), a0, a1, a1', part_at.trans hb.symm⟩ hb'⟩
    have hl : cs.length = 21 := (Rd.len f33_0 h).trans c33
    exact ⟨.mk cs.toArray k at_ nm pm m kv av kids arms, rfl, .mk ⟨by simpa [Tm.cs] using hl, all_one (Rd.one rd_clos n 33 cs (by decide) h), h0, h1, h2, h3, h4, h5, h6, h5', h6'⟩ h5'' h6''⟩
theorem pr_rd (h : Rd enc Try.prog w n 35 cs) : ∃ t : Pr, t.cs = cs.toArray ∧ PrOk w t := by
  obtain ⟨ev, effs, h0, h0', h0''⟩ := Rd.fRows f35_0 e22 c43 (by omega) c22 h fun m _ row _ hd => eff_rd hd
  obtain ⟨dv, dats, h1, h1', h1''⟩ := Rd.fRows f35_1 e23 c52 (by omega) c23 h fun m _ row _ hd => dat_rd hd
  obtain ⟨m, _, h2⟩ := Rd.fSub f35_2 c33 h
  obtain ⟨b, hb, hb'⟩ := tm_rd _ _ h2
  have hl : cs.length = 23 := (Rd.len f35_0 h).trans c35
  exact ⟨⟨cs.toArray, ev, dv, effs, dats, b⟩, rfl, by simpa using hl, all_one (Rd.one rd_clos n 35 cs (by decide) h), h0, h1, h0', h1', h0'', h1'', part_at.trans hb.symm, hb'⟩
/-- The argument whole. -/
theorem pr_arg {v : Value} {d : DataW H} {ps : List MemPlace} (h : DataW.Trod enc Try.prog w 0 (fun _ => true) true 35 v d ps) : ∃ p : Pr, v = .agg p.cs ∧ PrOk w p := by
  obtain ⟨n, h⟩ := h
  obtain ⟨p, hp, hp'⟩ := pr_rd ⟨_, h⟩
  refine ⟨p, ?_, hp'⟩
  have hs := hp'.size
  rw [hp] at hs
  cases v <;> simp [Value.cells] at hs hp <;> first | omega | (rw [hp])
end
end Go.Proofs.Ytkclfcdppnlkbaa
