/-
  Part 6 of 6 of a proof: sourceLarge_holds. No condition beyond those that stand in each statement.
-/
import Derived.Test.YtfoolfecjjngpaaGreatPl5
import Derived.Test.YtfoolfecjjngpaaGreatRows
set_option linter.unusedVariables false
set_option linter.unusedSimpArgs false
namespace Go.Proofs.YtfoolfecjjngpaaGreat
open Go.RowKit
theorem en134 : entB Tryz.prog 134 = true := by kernel_rfl
theorem en135 : entB Tryz.prog 135 = true := by kernel_rfl
theorem en136 : entB Tryz.prog 136 = true := by kernel_rfl
theorem en137 : entB Tryz.prog 137 = true := by kernel_rfl
theorem en150 : entB Tryz.prog 150 = true := by kernel_rfl
theorem en153 : entB Tryz.prog 153 = true := by kernel_rfl
theorem en157 : entB Tryz.prog 157 = true := by kernel_rfl
theorem en159 : entB Tryz.prog 159 = true := by kernel_rfl
theorem en32 : entB Tryz.prog 32 = true := by kernel_rfl
theorem fo49_2 : fieldB Tryz.prog 49 2 = some (6, 1) := by kernel_rfl
theorem na115 (p : Value) (w : World) : (nilAhead (Tryz.prog.types.size + Made.depth) 115 p "brocade/source.gets").run Tryz.prog w = .ok (some false) w := by kernel_rfl
theorem me115 (p : Value) (w : World) : (Go.method (Tryz.prog.types.size + Made.depth) 115 p "brocade/source.gets").run Tryz.prog w = .ok (134, p) w := by kernel_rfl
theorem na117 (p : Value) (w : World) : (nilAhead (Tryz.prog.types.size + Made.depth) 117 p "brocade/source.gets").run Tryz.prog w = .ok (some false) w := by kernel_rfl
theorem me117 (p : Value) (w : World) : (Go.method (Tryz.prog.types.size + Made.depth) 117 p "brocade/source.gets").run Tryz.prog w = .ok (135, p) w := by kernel_rfl
theorem na121 (p : Value) (w : World) : (nilAhead (Tryz.prog.types.size + Made.depth) 121 p "brocade/source.gets").run Tryz.prog w = .ok (some false) w := by kernel_rfl
theorem me121 (p : Value) (w : World) : (Go.method (Tryz.prog.types.size + Made.depth) 121 p "brocade/source.gets").run Tryz.prog w = .ok (136, p) w := by kernel_rfl
theorem na124 (p : Value) (w : World) : (nilAhead (Tryz.prog.types.size + Made.depth) 124 p "brocade/source.gets").run Tryz.prog w = .ok (some false) w := by kernel_rfl
theorem me124 (p : Value) (w : World) : (Go.method (Tryz.prog.types.size + Made.depth) 124 p "brocade/source.gets").run Tryz.prog w = .ok (137, p) w := by kernel_rfl
theorem na126 (p : Value) (w : World) : (nilAhead (Tryz.prog.types.size + Made.depth) 126 p "brocade/source.gets").run Tryz.prog w = .ok (some false) w := by kernel_rfl
theorem me126 (p : Value) (w : World) : (Go.method (Tryz.prog.types.size + Made.depth) 126 p "brocade/source.gets").run Tryz.prog w = .ok (150, p) w := by kernel_rfl
theorem na128 (p : Value) (w : World) : (nilAhead (Tryz.prog.types.size + Made.depth) 128 p "brocade/source.gets").run Tryz.prog w = .ok (some false) w := by kernel_rfl
theorem me128 (p : Value) (w : World) : (Go.method (Tryz.prog.types.size + Made.depth) 128 p "brocade/source.gets").run Tryz.prog w = .ok (153, p) w := by kernel_rfl
theorem na129 (p : Value) (w : World) : (nilAhead (Tryz.prog.types.size + Made.depth) 129 p "brocade/source.gets").run Tryz.prog w = .ok (some false) w := by kernel_rfl
theorem me129 (p : Value) (w : World) : (Go.method (Tryz.prog.types.size + Made.depth) 129 p "brocade/source.gets").run Tryz.prog w = .ok (157, p) w := by kernel_rfl
theorem na207 (p : Value) (w : World) : (nilAhead (Tryz.prog.types.size + Made.depth) 207 p "brocade/source.gets").run Tryz.prog w = .ok (some false) w := by kernel_rfl
theorem me207 (p : Value) (w : World) : (Go.method (Tryz.prog.types.size + Made.depth) 207 p "brocade/source.gets").run Tryz.prog w = .ok (159, p) w := by kernel_rfl
theorem na_any {M : List (Option Nat)} {nc t : Nat} {w : World} {p : Value} {y : X} (h : XAt M nc w .f [.iface t p] y) (w' : World) : (nilAhead (Tryz.prog.types.size + Made.depth) t p "brocade/source.gets").run Tryz.prog w' = .ok (some false) w' := by
 cases h with
 | arg => exact na115 _ _
 | fn => exact na207 _ _
 | bnd => exact na117 _ _
 | frk => exact na121 _ _
 | gat => exact na124 _ _
 | way => exact na126 _ _
 | ask => exact na128 _ _
 | hnd => exact na129 _ _
theorem gets_any {E : List (Option Nat)} {b : Nat} {x : Sx} {s : SS} {t : Nat} {p : Value} {y : X} {k n : Int} {nm : ByteArray} {kv fp kp : Value} {vx : X} (w : World) (hM : StA E b x w s) (hf : XAt (x.M b ++ E) s.cells.length w .f [.iface t p] y) (hv : XAt (x.M b ++ E) s.cells.length w .v (V7 k n nm kv fp kp) vx) (ok : frOk y) (h1 : s.tr.length ≤ 1000000000000) (h2 : s.cells.length ≤ 1000000000000) (h3 : lenX s.fr ≤ 1000000000000) :
  ∃ f, (Go.method (Tryz.prog.types.size + Made.depth) t p "brocade/source.gets").run Tryz.prog w = .ok (f, p) w ∧ entB Tryz.prog f = true ∧ Calls Tryz.prog f ([p, .pointer (some ⟨b, 0, none⟩), .agg #[.int .i64 k, .int .i64 n, .string nm, .slice none 0 0, kv, fp, kp]] : List Value).toArray w (Pst E b x w (getsF y s vx)) := by
 cases hf with
 | arg ht he => exact ⟨134, me115 _ _, en134, gArg_any w hM ht he hv⟩
 | fn hl hx =>
  obtain ⟨k', n', nm', kv', fp', kp', rows, f, st, rfl, rfl, hv2, hf2, hs2, _⟩ := hx.vinv
  exact ⟨159, me207 _ _, en159, gFn_any w hM hx rfl hf2 hs2 ok hv⟩
 | bnd ht he => exact ⟨135, me117 _ _, en135, gBnd_any w hM ht he hv⟩
 | frk hl hr hm ht he => exact ⟨136, me121 _ _, en136, gFrk_any w hM hl hr hm ht he hv⟩
 | gat ht rows hr hm hk he => exact ⟨137, me124 _ _, en137, gGat_any w hM ht ⟨hr, hm, hk⟩ he hv (by simpa [frOk] using ok) h1 h2⟩
 | way hr hm ht he => exact ⟨150, me126 _ _, en150, gWay_any w hM hr hm ht he hv⟩
 | ask => exact ⟨153, me128 _ _, en153, gAsk_any _ w hM h3 hv⟩
 | @hnd av ev l e hr hm ht he =>
  cases l with
  | nil => exact ⟨157, me129 _ _, en157, gHnd0_any w hM hr hm ht he hv⟩
  | cons a r => exact ⟨157, me129 _ _, en157, gHnd1_any w hM hr hm ht he hv⟩
theorem step_any {E : List (Option Nat)} {b : Nat} {x : Sx} {s : SS}  (w : World) (hM : StA E b x w s) (hSm : Sm s) :
    Calls Tryz.prog 25 ([.pointer (some ⟨b, 0, none⟩)] : List Value).toArray w (Pst E b x w ((stepF s).getD s, (stepF s).isSome)) := by
  have hfr0 := hM.fr
  have hG := Gr.refl (x.M b) w
  refine At.enter (N := 53) Tryz.func25 rfl rfl (by simp) [(0, .pointer (some ⟨b, 0, none⟩))] (by simp) ?_
  refine .seq (.region (.assign rfl rfl (.ops0 (.thenN (.seq (.seq (.region (.move rfl rfl ?_))))))))
  refine At.call en31 rfl rfl (ended_any _ hM) (fun e w1 hR => ?_)
  obtain ⟨rfl, hbl1⟩ := hR
  refine ⟨_, rfl, ?_⟩
  replace hG := hG.below hbl1
  replace hM := hM.below hbl1
  refine .ops0 (.thenN ?_)
  refine At.cond (b := (endedF s)) rfl (fun hc1 => ?_) (fun hc1 => ?_)
  · skip
    refine .seq (.region (.assign rfl rfl (.ops0 (.thenN (.retc (.thenR (.doneR (ResV.tmp rfl ResV.nil) ?_)))))))
    exact Pst.fin (by rw [stepF_end hc1]; rfl) hM hG
  · skip
    refine .skip (.thenN (.seq (.region (.move rfl rfl (.nilCheck rfl rfl (.fieldAddr rfl fo84_7 rfl (.fieldAddr rfl fo49_2 rfl (.load rfl (Ld.ownCell ag3 hM.blk (mx_at (j := 18) hM.tsz rfl rfl)) rfl (.add rfl rfl rfl (.nilCheck rfl rfl (.fieldAddr rfl fo84_7 rfl (.fieldAddr rfl fo49_2 rfl ?_))))))))))))
    refine At.stS { x with st := (IntKind.i64.wrap (x.st + 1)) } { s with st := (IntKind.i64.wrap (s.st + 1)) } 18 rfl rfl hM sz3 rfl rfl rfl rfl rfl rfl rfl (fun w2 S1 hM G1 => ?_) (n := (congrArg (fun z => IntKind.i64.wrap (z + 1)) hM.n))
    replace hG := hG.trans G1
    refine .ops0 (.thenN (.seq (.region (.assign rfl rfl (.ops0 (.thenN (.seq (.seq (.region (.move rfl rfl (.nilCheck rfl rfl (.fieldAddr rfl fo84_2 rfl (.load rfl (Ld.ownCell ag4 hM.blk (mx_at (j := 1) hM.tsz rfl rfl)) rfl (.ops0 (.thenN ?_)))))))))))))))
    refine At.cond (b := x.at_) rfl (fun hc2 => ?_) (fun hc2 => ?_)
    · skip
      have hat : s.at_ = true := hM.at_.symm.trans hc2
      refine .region (.move rfl rfl ?_)
      refine At.callM en32 rfl rfl (looks_any  _ hM ) (fun x1 w3 hM G2 => ?_)
      replace hG := hG.trans G2
      refine .assign rfl rfl (.ops0 (.thenN (.seq (.seq (.region (.move rfl rfl (.not rfl rfl (.ops0 (.thenN ?_)))))))))
      refine At.cond (b := (!(looksF { s with st := (IntKind.i64.wrap (s.st + 1)) }).2)) rfl (fun hc3 => ?_) (fun hc3 => ?_)
      · skip
        refine .region (.move rfl rfl ?_)
        refine At.callM en33 rfl rfl (ends_any 4 _ hM ) (fun x2 w4 hM G3 => ?_)
        replace hG := hG.trans G3
        refine .ops0 (.thenN (.seq (.region (.assign rfl rfl (.ops0 (.thenN (.retc (.doneR (ResV.tmp rfl ResV.nil) ?_))))))))
        exact Pst.fin (by rw [stepF_at hc1 hat]; have e3 := bnot_t hc3; exact congrArg (fun q => (q, true)) (by rw [Option.getD_some, e3]; rfl)) hM hG
      · skip
        refine .skip (.thenN (.seq (.region (.assign rfl rfl (.ops0 (.thenN (.retc (.doneR (ResV.tmp rfl ResV.nil) ?_))))))))
        exact Pst.fin (by rw [stepF_at hc1 hat]; have e3 := bnot_f hc3; exact congrArg (fun q => (q, true)) (by rw [Option.getD_some, e3]; rfl)) hM hG
    · skip
      have hat : s.at_ = false := hM.at_.symm.trans hc2
      refine .seq (.region (.move rfl rfl (.nilCheck rfl rfl (.fieldAddr rfl fo84_4 rfl (.load rfl (Ld.ownCell ag80 hM.blk (mx_at (j := 9) hM.tsz rfl rfl)) rfl ?_)))))
      obtain ⟨bi1, ti1, ri1, xi1, yi1, pi1, ei1, hbi1, mbi1, hxi1, hyi1⟩ := hfr0.sinv' (not_ended hc1 hat)
      refine .set (d := 25) (u := .pointer (some ⟨bi1, 0, none⟩)) rfl pi1 (.nilCheck rfl rfl (.fieldAddr rfl fo88_0 rfl (.load rfl (Ld.ownCell ag86 (hG.ext.old mbi1 hbi1) rfl) rfl (.assign rfl rfl ?_))))
      obtain ⟨fT, fp, hft, _⟩ := hxi1.frm; rw [hft] at hxi1
      refine .set (d := 28) (u := .iface fT fp) rfl hft (.set (d := 4) (u := .iface fT fp) rfl hft (.ops0 (.thenN (.seq (.region (.move rfl rfl (.move rfl rfl (.nilCheck rfl rfl (.fieldAddr rfl fo84_4 rfl (.load rfl (Ld.ownCell ag80 hM.blk (mx_at (j := 9) hM.tsz rfl rfl)) rfl (.set (d := 33) (u := .pointer (some ⟨bi1, 0, none⟩)) rfl pi1 (.nilCheck rfl rfl (.fieldAddr rfl fo88_1 rfl (.load rfl (Ld.ownCell ag80 (hG.ext.old mbi1 hbi1) rfl) rfl (.nilCheck rfl rfl (.fieldAddr rfl fo84_4 rfl ?_))))))))))))))))
      refine At.stS { x with st := (IntKind.i64.wrap (x.st + 1)), fr := ri1 } { s with st := (IntKind.i64.wrap (s.st + 1)), fr := yi1 } 9 rfl rfl hM sz80 hyi1.one rfl rfl rfl rfl rfl rfl (fun w5 S2 hM G4 => ?_) (fr := (hyi1.gr hG.ext (Nat.le_refl _)))
      replace hG := hG.trans G4
      refine .ops0 (.thenN (.drawG (n := 11) mixed (by kernel_rfl) rfl (PanicOk.then PanicOk.body) ?_))
      replace hG := hG.drew
      replace hM := hM.drew
      refine At.wpcS (i := 0) (d := 39) ((.iface fT fp)) (by kernel_rfl) rfl rfl rfl (fun Lx => ?_) ?_
      · skip
        exact .move rfl rfl (.ops0 fun a ha => ⟨ha, rfl⟩)
      refine At.wpcS (i := 1) (d := 40) (.pointer (some ⟨b, 0, none⟩)) (by kernel_rfl) rfl rfl rfl (fun Lx => ?_) ?_
      · skip
        exact .move rfl rfl (.ops0 fun a ha => ⟨ha, rfl⟩)
      refine At.wpcS (i := 2) (d := 41) (.pointer (some ⟨b, 0, none⟩)) (by kernel_rfl) rfl rfl rfl (fun Lx => ?_) ?_
      · skip
        exact .move rfl rfl (.ops0 fun a ha => ⟨ha, rfl⟩)
      refine At.wpcS (i := 3) (d := 42) (.pointer (some ⟨b, 0, none⟩)) (by kernel_rfl) rfl rfl rfl (fun Lx => ?_) ?_
      · skip
        exact .nilCheck rfl rfl (.ops0 fun a ha => ⟨ha, rfl⟩)
      refine At.wpcS (i := 4) (d := 43) (.pointer (some ⟨b, 0 + 23, none⟩)) (by kernel_rfl) rfl rfl rfl (fun Lx => ?_) ?_
      · skip
        exact .fieldAddr rfl fo84_3 rfl (.ops0 fun a ha => ⟨ha, rfl⟩)
      refine At.wpcS (i := 5) (d := 44) (.agg #[.int .i64 x.k, .int .i64 x.n, .string x.nm, zN, x.kv, x.fp, x.kp]) (by kernel_rfl) rfl rfl rfl (fun Lx => ?_) ?_
      · skip
        exact .load rfl (Ld.ownPart (n := 7) (cs := (V7 x.k x.n x.nm x.kv x.fp x.kp).toArray) ag82 sz82 hM.blk (mx_sub hM.tsz 2 rfl rfl)) rfl (.ops0 fun a ha => ⟨ha, rfl⟩)
      refine At.wpcS (i := 6) (d := 45) (.func (.method "brocade/source.gets") #[(.iface fT fp)] #[]) (by kernel_rfl) rfl rfl rfl (fun Lx => ?_) ?_
      · skip
        exact .method rfl rfl (.ops0 fun a ha => ⟨ha, rfl⟩)
      refine At.wpcS (i := 7) (d := 46) (.func (.method "brocade/source.gets") #[(.iface fT fp)] #[]) (by kernel_rfl) rfl rfl rfl (fun Lx => ?_) ?_
      · skip
        exact .methodC rfl (na_any hxi1 _) rfl (.ops0 fun a ha => ⟨ha, rfl⟩)
      refine At.wpcS (i := 8) (d := 47) ((.iface fT fp)) (by kernel_rfl) rfl rfl rfl (fun Lx => ?_) ?_
      · skip
        exact .move rfl rfl (.ops0 fun a ha => ⟨ha, rfl⟩)
      refine At.wpcE [9] (by kernel_rfl) (by kernel_rfl) (.cons [] rfl (by kernel_rfl) ?_ .nil)
      obtain ⟨f9, hq1, hq2, hq3⟩ := gets_any _ hM (hxi1.gr hG.ext (Nat.le_refl _)) hM.v (by have q := hSm.2.2.2 hat; rw [ei1] at q; exact q) hSm.1 hSm.2.1 (by show lenX yi1 ≤ _; have q := hSm.2.2.1; rw [ei1, lenX] at q; omega)
      refine At.invoke rfl hq1 hq2 rfl rfl hq3 (fun e9 w6 hR => ?_)
      obtain ⟨x3, rfl, hM, G5⟩ := hR; refine ⟨_, rfl, ?_⟩
      replace hG := hG.trans G5
      refine .ops0 (.wpcN .nil ?_)
      refine At.wpcE [10] (by kernel_rfl) (by kernel_rfl) (.cons [] rfl (by kernel_rfl) ?_ .nil)
      refine .assign rfl rfl (.ops0 (.wpcN .nil (.wpcZ (.thenN (.seq (.seq (.region (.move rfl rfl (.not rfl rfl (.ops0 (.thenN ?_)))))))))))
      refine At.cond (b := (!(getsF xi1 { s with st := (IntKind.i64.wrap (s.st + 1)), fr := yi1 } s.v).2)) rfl (fun hc4 => ?_) (fun hc4 => ?_)
      · skip
        refine .region (.move rfl rfl ?_)
        refine At.callM en33 rfl rfl (ends_any 4 _ hM ) (fun x4 w7 hM G6 => ?_)
        replace hG := hG.trans G6
        refine .ops0 (.thenN (.seq (.region (.assign rfl rfl (.ops0 (.thenN (.retc (.doneR (ResV.tmp rfl ResV.nil) ?_))))))))
        exact Pst.fin (by rw [stepF_fr hc1 hat ei1]; have e3 := bnot_t hc4; exact congrArg (fun q => (q, true)) (by rw [Option.getD_some, e3]; rfl)) hM hG
      · skip
        refine .skip (.thenN (.seq (.region (.assign rfl rfl (.ops0 (.thenN (.retc (.doneR (ResV.tmp rfl ResV.nil) ?_))))))))
        exact Pst.fin (by rw [stepF_fr hc1 hat ei1]; have e3 := bnot_f hc4; exact congrArg (fun q => (q, true)) (by rw [Option.getD_some, e3]; rfl)) hM hG
theorem runF_succ (i : Nat) (s : SS) : runF (i + 1) s = (stepF (runF i s)).getD (runF i s) := by
  induction i generalizing s with
  | zero => rw [runF, runF]; cases h : stepF s <;> rfl
  | succ i ih =>
    rw [runF]
    cases h : stepF s with
    | none => simp [runF, h]
    | some s' => simp only []; rw [ih, runF, h]
theorem runF_stop {i n : Nat} {s : SS} (h : stepF (runF i s) = none) (hn : i ≤ n) : runF n s = runF i s := by
  obtain ⟨k, rfl⟩ : ∃ k, n = i + k := ⟨n - i, by omega⟩
  clear hn
  induction k with
  | zero => rfl
  | succ k ih => rw [← Nat.add_assoc, runF_succ, ih, h]; rfl
theorem RAt.weak {M M' : List (Option Nat)} {w : World} {cs : List Value} {r : SR} (h : RAt M w cs r) (hM : ∀ q ∈ M', q ∈ M) : RAt M' w cs r := by
  obtain ⟨k, n, nm, kv, tv, e, ho, ht, hm⟩ := h
  exact ⟨k, n, nm, kv, tv, e, ho.weak hM, ht, fun hn he => hm hn (hM _ he)⟩
theorem Gr.newM {M M' : List (Option Nat)} {w w1 w2 : World} (hG : Gr [] w [] w1) (G : Gr M w1 M' w2) (hl : ∀ g, some g ∈ M → w.heap.size ≤ g) (g : Nat) (hg : some g ∈ M') : w.heap.size ≤ g := by
  apply Classical.byContradiction
  intro hn
  exact G.out (Nat.lt_of_lt_of_le (Nat.lt_of_not_le hn) hG.size) (fun hm => hn (hl g hm)) hg
theorem runR_end {i : Nat} {n : Int} {t : ST} {l : List Int} (h : n.toNat ≤ i ∨ stepF (runF i (startF t l)) = none) (hi : i ≤ n.toNat) : nowF (runF i (startF t l)) = runR t l n := by
  rcases h with h | h
  · rw [runR, Nat.le_antisymm h hi]
  · rw [runR, runF_stop h hi]
theorem en24 : entB Tryz.prog 24 = true := by kernel_rfl
theorem en25 : entB Tryz.prog 25 = true := by kernel_rfl
theorem en26 : entB Tryz.prog 26 = true := by kernel_rfl
theorem run_any {E : List (Option Nat)} {t : Tm} {v1 v2 vl : Value} {l : List Int} (fuel : Int) (w : World)  (h1 : v1.oneCell' = true) (h2 : v2.oneCell' = true) (ht : Xs kTm E w [t]) (hE : MLt w.heap.size E) (hi : IntsAt w vl l) (hl : l.length ≤ 1000000000000) (hf : fuel ≤ 1000000000) (hSm : ∀ i, i ≤ fuel.toNat → Sm (runF i (startF (shT t) l))) :
  Calls Tryz.prog 14 ([.agg (mx [v1, v2] t.cs []), vl, .int .i64 fuel] : List Value).toArray w fun r w' => ∃ cs : List Value, r = .returned (.agg cs.toArray) ∧ RAt E w' cs (runR (shT t) l fuel) ∧ Below w.heap.size w w' := by
 have hG := Gr.refl [] w
 refine At.enter (N := 23) Tryz.func14 rfl rfl (by simp) [(0, .agg (mx [v1, v2] t.cs [])), (1, vl), (2, .int .i64 fuel)] (by simp) ?_
 refine .seq (.region ?_)
 refine At.box rfl rfl (fun b1 w1 F1 => ?_)
 have hb1 : w1.heap[b1]? = some (.cells (mx [v1, v2] t.cs []) 38) := F1.new
 replace hG := hG.below F1.bel
 refine At.alloc ze49 rfl (fun b2 w2 F2 => ?_)
 have gb2 := Nat.le_trans hG.size (Nat.le_of_eq F2.eq.symm)
 replace hb1 := F2.old hb1
 have hb2 : w2.heap[b2]? = some (.cells #[zI, zI, zI, zS, zN, zN, zI, zI] 49) := F2.new
 replace hG := hG.below F2.bel
 refine .ops0 (.thenN (.seq (.region (.load rfl (Ld.own ag38 (sz38.trans (congrArg some (mx_size (pre := [v1, v2]) (post := []) ht.one.size).symm)) hb1) rfl (.move rfl rfl ?_)))))
 have hG0 := hG
 have lb1 := lt_of_obj hb1
 have lb2 := lt_of_obj hb2
 refine At.call en24 rfl rfl (start_any (E := E) _ h1 h2 (ht.gr hG.any) (fun q hq => Nat.lt_of_lt_of_le (hE q hq) hG.size) (IntsAt.keep hi hG.base) hl) (fun e w3 hR => ?_)
 obtain ⟨b, x0, rfl, hS, hbl1, hgl⟩ := hR; refine ⟨_, rfl, ?_⟩
 replace hb1 := Below.old hbl1 hb1
 replace hb2 := Below.old hbl1 hb2
 replace hG := hG.below hbl1
 have hG1 := (Gr.refl [] w2).below hbl1
 refine .assign rfl rfl (.ops0 (.thenN (.seq (.seq (.region (.assign rfl rfl (.ops0 (.thenN (.block ?_)))))))))
 refine At.loop (Nat × Sx) (fun (i, x1) => [(2, .int .i64 fuel), (6, .pointer (some ⟨b2, 0, none⟩)), (7, .pointer (some ⟨b, 0, none⟩)), (8, .int .i64 (i : Int))]) (fun (i, x1) w4 => Gr [] w [] w4 ∧ w4.heap[b1]? = some (.cells (mx [v1, v2] t.cs []) 38) ∧ w4.heap[b2]? = some (.cells #[zI, zI, zI, zS, zN, zN, zI, zI] 49) ∧ StA E b x1 w4 (runF i (startF (shT t) l)) ∧ Gr [] w2 [] w4 ∧ (∀ g, some g ∈ x1.M b → w2.heap.size ≤ g) ∧ (i ≤ fuel.toNat)) (fun (i, x1) => fuel.toNat - i) (0, x0) (Sub.cons rfl (Sub.cons rfl (Sub.cons rfl (Sub.cons rfl Sub.nil)))) ⟨hG, hb1, hb2, (hS), (hG1), (hgl), (Nat.zero_le _)⟩ (fun gh w4 hI => ?_)
 obtain ⟨i, x1⟩ := gh
 obtain ⟨hG, hb1, hb2, hS, hG1, hgl, hib⟩ := hI
 show At _ _ [(2, .int .i64 fuel), (6, .pointer (some ⟨b2, 0, none⟩)), (7, .pointer (some ⟨b, 0, none⟩)), (8, .int .i64 (i : Int))] _ _
 refine .seq (.seq (.region (.move rfl rfl (.move rfl rfl (.lss rfl rfl rfl (.move rfl rfl ?_))))))
 refine At.cases (decide ((i : Int) < fuel)) (fun hg1 => ?_) (fun hg1 => ?_)
 ·skip
  refine .set (d := 15) (u := .bool true) rfl (congrArg Value.bool hg1) ?_
  have hg1' := of_decide_eq_true hg1
  refine .yes rfl rfl rfl rfl (.move rfl rfl (.yes rfl rfl rfl rfl ?_))
  refine At.call en25 rfl rfl (step_any _ hS (hSm i hib)) (fun e w5 hR => ?_)
  obtain ⟨x2, rfl, hS2, G1⟩ := hR; refine ⟨_, rfl, ?_⟩
  replace hG := hG.low G1 (fun g hg => Nat.le_trans hG0.size (hgl g hg)); have hgl2 := Gr.newM hG1 G1 hgl; replace hG1 := hG1.low G1 hgl; rw [← runF_succ] at hS2
  replace hb1 := G1.old (fun hm => absurd (hgl _ hm) (Nat.not_le.2 lb1)) hb1
  replace hb2 := G1.old (fun hm => absurd (hgl _ hm) (Nat.not_le.2 lb2)) hb2
  refine .pickT rfl rfl rfl (.ops0 (.thenN ?_))
  refine At.cond (b := (stepF (runF i (startF (shT t) l))).isSome) rfl (fun hc1 => ?_) (fun hc1 => ?_)
  ·skip
   refine .skip (.thenN (.seq (.block (.skip (.inN (.thenN (.region (.move rfl rfl (.addI rfl rfl rfl (by omega) (.assign rfl rfl (.ops0 (.thenN ?_))))))))))))
   exact fun act_ hact_ => ⟨((i + 1), x2), hact_.sub (Sub.cons rfl (Sub.cons rfl (Sub.cons rfl (Sub.cons rfl Sub.nil)))), ⟨hG, hb1, hb2, hS2, hG1, (hgl2), (by have := of_decide_eq_true hg1; omega)⟩, by first | (have := of_decide_eq_true hg1; dsimp only; omega) | (have := of_decide_eq_true hc2; dsimp only; omega)⟩
  refine .exit (.thenE (.thenE (.inE (.thenN (.seq (.region (.move rfl rfl ?_)))))))
  have hno : stepF (runF i (startF (shT t) l)) = none := by cases hq : stepF (runF i (startF (shT t) l)) with | none => rfl | some z => rw [hq] at hc1; cases hc1
  rw [runF_succ, hno] at hS2; replace hS2 : StA E b x2 _ (runF i (startF (shT t) l)) := hS2
  refine At.call en26 rfl rfl (now_any (some b2 :: E) _ hS2 (fun q hq => by rcases List.mem_cons.1 hq with e | e; cases e; exact lt_of_obj hb2; exact Nat.lt_of_lt_of_le (hE q e) hG.size) (hSm i hib).1) (fun e w6 hR => ?_)
  obtain ⟨cs, rfl, hra, hbl2⟩ := hR; refine ⟨_, rfl, ?_⟩
  replace hb2 := Below.old hbl2 hb2
  replace hG := hG.below hbl2
  rw [runR_end (n := fuel) (.inr hno) hib] at hra; obtain ⟨rk, rn, rnm, rkv, rtv, rfl, ho, htv, htm⟩ := hra
  refine At.storeAll rfl rfl hb2 sz49 rfl (by first | (simp [Value.oneCell', ho.one, htv.ok.one]; done) | (simp only [List.all_toArray, List.all_cons, List.all_nil, ho.one, htv.ok.one, Bool.and_true, Bool.true_and] <;> rfl)) (fun w7 S1 => ?_)
  replace hb2 : w7.heap[b2]? = some (.cells #[.int .i64 ((runR (shT t) l fuel).ok), .int .i64 rk, .int .i64 rn, .string rnm, rkv, rtv, .int .i64 ((runR (shT t) l fuel).st), .int .i64 ((runR (shT t) l fuel).kn)] 49) := S1.new
  replace hG := hG.set S1 (.inr gb2)
  refine .ops0 (.thenN (.retc (.doneR (ResV.cell rfl (Ld.own (C := #[.int .i64 ((runR (shT t) l fuel).ok), .int .i64 rk, .int .i64 rn, .string rnm, rkv, rtv, .int .i64 ((runR (shT t) l fuel).st), .int .i64 ((runR (shT t) l fuel).kn)]) ag49 sz49 hb2) ResV.nil) ?_)))
  exact ⟨_, rfl, RAt.weak (M := some b2 :: E) (RAt.gr (w := w6) ⟨rk, rn, rnm, rkv, rtv, rfl, ho, htv, htm⟩ ((Gr.refl _ _).set S1 (.inl (by simp)))) (fun q hq => List.mem_cons_of_mem _ hq), hG.base⟩
 refine .set (d := 15) (u := .bool false) rfl (congrArg Value.bool hg1) ?_
 have hg1' := of_decide_eq_false hg1
 refine .no rfl rfl rfl rfl rfl rfl rfl (.no rfl rfl rfl rfl rfl rfl rfl (.pickF rfl rfl rfl (.ops0 (.thenN (.condF rfl (.exit (.thenE (.thenE (.inE (.thenN (.seq (.region (.move rfl rfl ?_)))))))))))))
 refine At.call en26 rfl rfl (now_any (some b2 :: E) _ hS (fun q hq => by rcases List.mem_cons.1 hq with e | e; cases e; exact lt_of_obj hb2; exact Nat.lt_of_lt_of_le (hE q e) hG.size) (hSm i hib).1) (fun e w8 hR => ?_)
 obtain ⟨cs, rfl, hra, hbl3⟩ := hR; refine ⟨_, rfl, ?_⟩
 replace hb2 := Below.old hbl3 hb2
 replace hG := hG.below hbl3
 rw [runR_end (n := fuel) (.inl (by have := of_decide_eq_false hg1; omega)) hib] at hra; obtain ⟨rk, rn, rnm, rkv, rtv, rfl, ho, htv, htm⟩ := hra
 refine At.storeAll rfl rfl hb2 sz49 rfl (by first | (simp [Value.oneCell', ho.one, htv.ok.one]; done) | (simp only [List.all_toArray, List.all_cons, List.all_nil, ho.one, htv.ok.one, Bool.and_true, Bool.true_and] <;> rfl)) (fun w9 S2 => ?_)
 replace hb2 : w9.heap[b2]? = some (.cells #[.int .i64 ((runR (shT t) l fuel).ok), .int .i64 rk, .int .i64 rn, .string rnm, rkv, rtv, .int .i64 ((runR (shT t) l fuel).st), .int .i64 ((runR (shT t) l fuel).kn)] 49) := S2.new
 replace hG := hG.set S2 (.inr gb2)
 refine .ops0 (.thenN (.retc (.doneR (ResV.cell rfl (Ld.own (C := #[.int .i64 ((runR (shT t) l fuel).ok), .int .i64 rk, .int .i64 rn, .string rnm, rkv, rtv, .int .i64 ((runR (shT t) l fuel).st), .int .i64 ((runR (shT t) l fuel).kn)]) ag49 sz49 hb2) ResV.nil) ?_)))
 exact ⟨_, rfl, RAt.weak (M := some b2 :: E) (RAt.gr (w := w8) ⟨rk, rn, rnm, rkv, rtv, rfl, ho, htv, htm⟩ ((Gr.refl _ _).set S2 (.inl (by simp)))) (fun q hq => List.mem_cons_of_mem _ hq), hG.base⟩
def smF : Nat → SS → Prop
  | 0, s => Sm s
  | n + 1, s => Sm s ∧ ∀ s', stepF s = some s' → smF n s'
theorem smF_all {n : Nat} {s : SS} (h : smF n s) {i : Nat} (hi : i ≤ n) : Sm (runF i s) := by
  induction n generalizing s i with
  | zero => rw [Nat.le_zero.1 hi]; exact h
  | succ n ih =>
    cases i with
    | zero => exact h.1
    | succ i =>
      rw [runF]
      cases hs : stepF s with
      | none => exact h.1
      | some s' => exact ih (h.2 s' hs) (by omega)
structure Me where
  cells : List X
  inp : List Int
  tr : List Int
  kn : Int
def sT (t : ST) (e fr : X) (m : Me) (v : X) (c : Int) : SS := ⟨t, e, true, v, fr, m.cells, m.inp, 0, m.tr, c, m.kn⟩
def sV (v fr : X) (m : Me) (t : ST) (e : X) (c : Int) : SS := ⟨t, e, false, v, fr, m.cells, m.inp, 0, m.tr, c, m.kn⟩
def Q (P : SR → Prop) (n : Nat) (s : SS) : Prop := smF n s ∧ P (nowF (runF n s))
def QT (P : SR → Prop) (n : Nat) (t : ST) (e fr : X) (m : Me) : Prop := ∀ v c, Q P n (sT t e fr m v c)
def QV (P : SR → Prop) (n : Nat) (v fr : X) (m : Me) : Prop := ∀ t e c, Q P n (sV v fr m t e c)
def Bd (fr : X) (m : Me) : Prop := m.tr.length ≤ 1000000000000 ∧ m.cells.length ≤ 1000000000000 ∧ lenX fr ≤ 1000000000000
section
variable {P : SR → Prop} {n : Nat} {s s' : SS} {t : ST} {e fr v : X} {m : Me}
theorem Q.step (h : Sm s) (hs : stepF s = some s') (k : Q P n s') : Q P (n + 1) s :=
  ⟨⟨h, fun s2 h2 => by rw [hs] at h2; cases h2; exact k.1⟩, by rw [runF, hs]; exact k.2⟩
theorem Q.stop (h : Sm s) (hs : stepF s = none) (k : P (nowF s)) : Q P n s := by
  have e : runF n s = s := runF_stop (i := 0) hs (Nat.zero_le n)
  refine ⟨?_, by rw [e]; exact k⟩
  cases n with
  | zero => exact h
  | succ n => exact ⟨h, fun s2 h2 => by rw [hs] at h2; cases h2⟩
theorem Bd.tt (h : Bd fr m) {c : Int} : Sm (sT t e fr m v c) := ⟨h.1, h.2.1, h.2.2, fun h => by cases h⟩
theorem Bd.vv (h : Bd fr m) (ht : topOk fr) {c : Int} : Sm (sV v fr m t e c) := ⟨h.1, h.2.1, h.2.2, fun _ => ht⟩
end
abbrev wc (c : Int) : Int := IntKind.i64.wrap (c + 1)
abbrev tI (j : Int) : ST := .mk 2 0 eB eB j [] []
abbrev tVar (nm : ByteArray) : ST := .mk 1 0 nm eB 0 [] []
abbrev tOp (nm : ByteArray) (ks : List ST) : ST := .mk 10 0 nm eB 0 ks []
abbrev tCon (nm : ByteArray) (ks : List ST) : ST := .mk 11 0 nm eB 0 ks []
abbrev tLet (nm : ByteArray) (a b : ST) : ST := .mk 7 0 nm eB 0 [a, b] []
abbrev tApp (f a : ST) : ST := .mk 6 0 eB eB 0 [f, a] []
section
variable {P : SR → Prop} {n : Nat} {j j2 : Int} {nm : ByteArray} {a b f : ST} {e fr v u : X} {m : Me} {arms : List SA}
theorem QT.int (hb : Bd fr m) (k : QV P n (vI j) fr m) : QT P (n + 1) (tI j) e fr m := fun v c => .step hb.tt (by kernel_rfl) (k (tI j) e (wc c))
theorem QT.var (h : findX nm e = some u) (hb : Bd fr m) (k : QV P n u fr m) : QT P (n + 1) (tVar nm) e fr m := fun v c =>
  .step (s' := sV u fr m (tVar nm) e (IntKind.i64.wrap (c + 1))) hb.tt (by
    rw [stepF_at rfl rfl]
    have e1 : looksF { sT (tVar nm) e fr m v c with st := IntKind.i64.wrap (c + 1) } = (sV u fr m (tVar nm) e (IntKind.i64.wrap (c + 1)), true) := by
      show (match findX nm e with | some v' => _ | none => _ : R) = _
      rw [h]; rfl
    exact congrArg (fun q : R => some (bif q.2 then q.1 else q.1.ends 4)) e1) (k _ _ _)
theorem QT.app (hb : Bd fr m) (k : QT P n f e (.s (.arg a e) fr) m) : QT P (n + 1) (tApp f a) e fr m := fun v c => .step hb.tt (by kernel_rfl) (k v (wc c))
theorem QT.let_ (hb : Bd fr m) (k : QT P n a e (.s (.bnd nm b e) fr) m) : QT P (n + 1) (tLet nm a b) e fr m := fun v c => .step hb.tt (by kernel_rfl) (k v (wc c))
theorem QT.con2 (hb : Bd fr m) (k : QT P n a e (.s (.gat (tCon nm [a, b]) [] e) fr) m) : QT P (n + 1) (tCon nm [a, b]) e fr m := fun v c => .step hb.tt (by kernel_rfl) (k v (wc c))
abbrev nmGet : ByteArray := ⟨#[33]⟩
abbrev nmSet : ByteArray := ⟨#[58, 61]⟩
abbrev nmAdd : ByteArray := ⟨#[43]⟩
theorem QV.bnd (hb : Bd (.s (.bnd nm b e) fr) m) (k : QT P n b (.e nm v e) fr m) : QV P (n + 1) v (.s (.bnd nm b e) fr) m := fun t e9 c => .step (hb.vv trivial) (by kernel_rfl) (k v (wc c))
theorem QV.arg (hb : Bd (.s (.arg a e) fr) m) (k : QT P n a e (.s (.fn v) fr) m) : QV P (n + 1) v (.s (.arg a e) fr) m := fun t e9 c => .step (hb.vv trivial) (by kernel_rfl) (k v (wc c))
theorem QV.next (hb : Bd (.s (.gat (tOp nm [a, b]) [] e) fr) m) (k : QT P n b e (.s (.gat (tOp nm [a, b]) [v] e) fr) m) : QV P (n + 1) v (.s (.gat (tOp nm [a, b]) [] e) fr) m := fun t e9 c => .step (hb.vv (Nat.zero_le _)) (by kernel_rfl) (k v (wc c))
theorem QV.nextC (hb : Bd (.s (.gat (tCon nm [a, b]) [] e) fr) m) (k : QT P n b e (.s (.gat (tCon nm [a, b]) [v] e) fr) m) : QV P (n + 1) v (.s (.gat (tCon nm [a, b]) [] e) fr) m := fun t e9 c => .step (hb.vv (Nat.zero_le _)) (by kernel_rfl) (k v (wc c))
theorem QV.con (hb : Bd (.s (.gat (tCon nm [a, b]) [u] e) fr) m) (k : QV P n (vC nm [u, v]) fr m) : QV P (n + 1) v (.s (.gat (tCon nm [a, b]) [u] e) fr) m := fun t e9 c => .step (hb.vv (by simp [topOk, frOk])) (by kernel_rfl) (k t e9 (wc c))
theorem QV.add (hb : Bd (.s (.gat (tOp nmAdd [a, b]) [vI j] e) fr) m) (k : QV P n (vI (IntKind.i64.wrap (j + j2))) fr m) : QV P (n + 1) (vI j2) (.s (.gat (tOp nmAdd [a, b]) [vI j] e) fr) m := fun t e9 c => .step (hb.vv (by simp [topOk, frOk])) (by kernel_rfl) (k t e9 (wc c))
theorem QV.get {cells : List X} {inp tr : List Int} {kn : Int} (hb : Bd (.s (.gat (tOp nmGet [a]) [] e) fr) ⟨cells, inp, tr, kn⟩) (k : QV P n (cells.getD j.toNat .nil) fr ⟨cells, inp, tr, kn⟩) : QV P (n + 1) (vR j) (.s (.gat (tOp nmGet [a]) [] e) fr) ⟨cells, inp, tr, kn⟩ := fun t e9 c => .step (hb.vv (Nat.zero_le _)) (by kernel_rfl) (k t e9 (wc c))
theorem QV.set {cells : List X} {inp tr : List Int} {kn : Int} (hb : Bd (.s (.gat (tOp nmSet [a, b]) [vR j] e) fr) ⟨cells, inp, tr, kn⟩) (k : QV P n vU fr ⟨cells.set j.toNat v, inp, tr, kn⟩) : QV P (n + 1) v (.s (.gat (tOp nmSet [a, b]) [vR j] e) fr) ⟨cells, inp, tr, kn⟩ := fun t e9 c => .step (hb.vv (by simp [topOk, frOk])) (by kernel_rfl) (k t e9 (wc c))
theorem QV.hnd {x : ByteArray} {xs : List ByteArray} {nm2 : ByteArray} (hb : Bd (.s (.hnd (.mk nm2 (x :: xs) b :: arms) e) fr) m) (k : QT P n b (.e x v e) fr m) : QV P (n + 1) v (.s (.hnd (.mk nm2 (x :: xs) b :: arms) e) fr) m := fun t e9 c => .step (hb.vv trivial) (by kernel_rfl) (k v (wc c))
theorem QV.ask {l : List X} {x1 x2 nm2 : ByteArray} {e2 r : X} {cells : List X} {inp tr : List Int} {kn : Int} (h : askF nm fr [] = some (l, .mk nm2 [x1, x2] b, e2, r)) (hb : Bd (.s (.ask nm) fr) ⟨cells, inp, tr, kn⟩) (k : QT P n b (.e x2 (vK (stk l .nil)) (.e x1 v e2)) r ⟨cells, inp, tr, IntKind.i64.wrap (kn + 1)⟩) :
    QV P (n + 1) v (.s (.ask nm) fr) ⟨cells, inp, tr, kn⟩ := fun t e c =>
  .step (s' := sT b (.e x2 (vK (stk l .nil)) (.e x1 v e2)) r ⟨cells, inp, tr, IntKind.i64.wrap (kn + 1)⟩ v (IntKind.i64.wrap (c + 1))) (hb.vv trivial) (by
    rw [stepF_fr (f := .ask nm) (r := fr) rfl rfl rfl]
    have e1 : getsF (.ask nm) { sV v (.s (.ask nm) fr) ⟨cells, inp, tr, kn⟩ t e c with st := IntKind.i64.wrap (c + 1), fr := fr } v = (sT b (.e x2 (vK (stk l .nil)) (.e x1 v e2)) r ⟨cells, inp, tr, IntKind.i64.wrap (kn + 1)⟩ v (IntKind.i64.wrap (c + 1)), true) := by
      simp only [getsF]; rw [show askF nm fr [] = _ from h]; rfl
    exact congrArg (fun q : R => some (bif q.2 then q.1 else q.1.ends 4)) e1) (k _ _)
theorem QV.end_ (hb : Bd .nil m) (k : ∀ c, P ⟨1, shwX v, m.tr, c, m.kn⟩) : QV P n v .nil m := fun _ _ _ => .stop (hb.vv trivial) (by kernel_rfl) (k _)
end
theorem Bd.of {fr : X} {m : Me} (h1 : m.tr.length ≤ 1000000) (h2 : m.cells.length ≤ 1000000) (h3 : lenX fr ≤ 1000000) : Bd fr m := ⟨by omega, by omega, by omega⟩
theorem QT.start {P : SR → Prop} {N : Nat} {t : ST} {inp : List Int} (h : QT P N t .nil .nil ⟨[], inp, [], 0⟩) {n : Int} (hn : n.toNat = N) : (∀ i, i ≤ n.toNat → Sm (runF i (startF t inp))) ∧ P (runR t inp n) := by
  subst hn
  exact ⟨fun i hi => smF_all (h (.v 0 0 eB [] .nil .nil) 0).1 hi, (h (.v 0 0 eB [] .nil .nil) 0).2⟩
def smC (s : SS) : Bool := decide (s.tr.length ≤ 1000) && decide (s.cells.length ≤ 1000) && decide (lenX s.fr ≤ 1000) && (s.at_ || (match s.fr with | .s (.gat _ done _) _ => decide (done.length ≤ 1000) | .s (.fn (.v _ _ _ _ _ st)) _ => decide (lenX st ≤ 1000) | _ => true))
def smR : Nat → SS → Bool
  | 0, s => smC s
  | n + 1, s => smC s && (match stepF s with | some s => smR n s | none => true)
theorem smC_ok {s : SS} (h : smC s = true) : Sm s := by
  simp only [smC, Bool.and_eq_true, decide_eq_true_eq] at h
  obtain ⟨⟨⟨h1, h2⟩, h3⟩, h4⟩ := h
  refine ⟨by omega, by omega, by omega, fun ha => ?_⟩
  rw [ha, Bool.false_or] at h4
  unfold topOk
  split
  · next f r e =>
    rw [e] at h4
    cases f <;> first | trivial | skip
    case gat t d e2 => have := of_decide_eq_true h4; show d.length ≤ _; omega
    case fn g => cases g <;> first | trivial | (have := of_decide_eq_true h4; show lenX _ ≤ _; omega)
  · trivial
theorem smR_ok {n : Nat} {s : SS} (h : smR n s = true) : smF n s := by
  induction n generalizing s with
  | zero => exact smC_ok h
  | succ n ih =>
    have h' := Bool.and_eq_true_iff.mp h
    refine ⟨smC_ok h'.1, fun s2 h2 => ih ?_⟩
    have q := h'.2
    rw [h2] at q; exact q
def shB1 : List UInt8 := [104, 97, 110, 100, 108, 101, 32, 69, 32, 40, 103, 101, 116, 33, 40, 41, 41, 32, 123, 32, 114, 101, 116, 117, 114, 110, 32, 120, 32, 45, 62, 32, 120, 59, 32, 103, 101, 116, 32, 97, 32, 107, 32, 45, 62, 32, 107, 32, 49, 32, 43, 32, 107, 32, 50, 32, 125]
def shB2 : List UInt8 := [108, 101, 116, 32, 95, 32, 61, 32, 112, 114, 105, 110, 116, 32, 55, 32, 105, 110, 32, 49, 32, 47, 32, 48]
def shB3 : List UInt8 := [114, 101, 97, 100, 32, 40, 41]
def shB4 : List UInt8 := [103, 101, 116, 33, 40, 41]
def shT' (l : List UInt8) : ST := ((parseR l).1.getD zP).body
def shQ (l : List UInt8) (q : SR → Bool) : Prop := (∀ i, i ≤ (100 : Int).toNat → Sm (runF i (startF (shT' l) []))) ∧ q (runR (shT' l) [] 100) = true
theorem shQ_of {l : List UInt8} {q : SR → Bool} (h : (smR 100 (startF (shT' l) []) && q (runR (shT' l) [] 100)) = true) : shQ l q :=
  have h' := Bool.and_eq_true_iff.mp h
  ⟨fun _ hi => smF_all (smR_ok h'.1) hi, h'.2⟩
def ovN : OV → Int | .mk _ n _ _ => n
theorem sh1 : shQ shB1 fun r => decide (r.ok = 1) && decide (ovN r.v = 3) && decide (r.kn = 1) := shQ_of (by kernel_rfl)
theorem sh2 : shQ shB2 fun r => decide (r.ok = 2) && decide (r.tr = [7]) := shQ_of (by kernel_rfl)
theorem sh3 : shQ shB3 fun r => decide (r.ok = 3) && decide (r.st = 1) := shQ_of (by kernel_rfl)
theorem sh4 : shQ shB4 fun r => decide (r.ok = 4) := shQ_of (by kernel_rfl)
def TT (M : List (Option Nat)) (w : World) (t : Tm) (x : ST) : Prop := Xs kTm M w [t] ∧ shT t = x
def TL (M : List (Option Nat)) (w : World) (v : Value) (xs : List ST) : Prop := ∃ ks : List Tm, RowsAt w v 21 (ks.map Tm.cs) ∧ Xs kTm M w ks ∧ (ks ≠ [] → some (vBlock v) ∉ M) ∧ ks.map shT = xs
def TS (M : List (Option Nat)) (w : World) (v : Value) (l : List ByteArray) : Prop := StrsAt w v l ∧ (l ≠ [] → some (vBlock v) ∉ M)
def TA (M : List (Option Nat)) (w : World) (a : Am) (y : SA) : Prop := Xs kAm M w [a] ∧ shAm a = y
def TAL (M : List (Option Nat)) (w : World) (v : Value) (ys : List SA) : Prop := ∃ ms : List Am, RowsAt w v 23 (ms.map Am.cs) ∧ Xs kAm M w ms ∧ (ms ≠ [] → some (vBlock v) ∉ M) ∧ ms.map shAm = ys
def TI (M : List (Option Nat)) (w : World) (v : Value) (l : List Int) : Prop := IntsAt w v l ∧ (l ≠ [] → some (vBlock v) ∉ M)
def TO (M : List (Option Nat)) (w : World) (k n : Int) (nm : ByteArray) (kv : Value) (y : OV) : Prop := OAt M w (V4 k n nm kv) y
section
variable {M M' : List (Option Nat)} {w w' : World} {t : Tm} {a : Am} {v : Value}
theorem TT.gr {x : ST} (h : TT M w t x) (hG : Gr M w M' w') (_ : 0 ≤ 0) : TT M' w' t x := ⟨h.1.gr hG, h.2⟩
theorem TL.gr {xs : List ST} (h : TL M w v xs) (hG : Gr M w M' w') (_ : 0 ≤ 0) : TL M' w' v xs := by
  obtain ⟨ks, h1, h2, h3, h4⟩ := h
  exact ⟨ks, h1.gr hG (fun q => h3 (map_ne q)), h2.gr hG, fun q => hG.out (h1.blkLt (by decide) q) (h3 q), h4⟩
theorem TS.gr {l : List ByteArray} (h : TS M w v l) (hG : Gr M w M' w') (_ : 0 ≤ 0) : TS M' w' v l :=
  ⟨h.1.gr hG (fun q => h.2 (map_ne q)), fun q => hG.out (h.1.blkLt (by decide) q) (h.2 q)⟩
theorem TAL.gr {ys : List SA} (h : TAL M w v ys) (hG : Gr M w M' w') (_ : 0 ≤ 0) : TAL M' w' v ys := by
  obtain ⟨ks, h1, h2, h3, h4⟩ := h
  exact ⟨ks, h1.gr hG (fun q => h3 (map_ne q)), h2.gr hG, fun q => hG.out (h1.blkLt (by decide) q) (h3 q), h4⟩
theorem TA.gr {y : SA} (h : TA M w a y) (hG : Gr M w M' w') (_ : 0 ≤ 0) : TA M' w' a y := ⟨h.1.gr hG, h.2⟩
theorem TI.gr {l : List Int} (h : TI M w v l) (hG : Gr M w M' w') (_ : 0 ≤ 0) : TI M' w' v l := ⟨RowsAt.gr h.1 hG fun hn => h.2 (map_ne hn), fun hn => hG.out (RowsAt.blkLt h.1 (by decide) hn) (h.2 hn)⟩
theorem TO.gr {k n : Int} {nm : ByteArray} {kv : Value} {y : OV} (h : TO M w k n nm kv y) (hG : Gr M w M' w') (_ : 0 ≤ 0) : TO M' w' k n nm kv y := OAt.gr h hG
theorem TT.weak {x : ST} (h : TT M w t x) (hM : ∀ q ∈ M', q ∈ M) : TT M' w t x := ⟨h.1.weaken hM, h.2⟩
theorem TL.nil : TL M w (.slice none 0 0) [] := ⟨[], RowsAt.nil _ _, Xs.nil _ _ _, fun h => absurd rfl h, rfl⟩
theorem TAL.nil : TAL M w (.slice none 0 0) [] := ⟨[], RowsAt.nil _ _, Xs.nil _ _ _, fun h => absurd rfl h, rfl⟩
theorem shT_made {k a' n : Int} {nm pm : ByteArray} {kv av : Value} {ks : List Tm} {ms : List Am} : shT (tmA k a' nm pm n kv ks av ms) = .mk k a' nm pm n (ks.map shT) (ms.map shAm) := by
  rw [tmA, shT, shL_map]; congr 1
  induction ms with
  | nil => rfl
  | cons a r ih => cases a; rw [shA, ih]; rfl
theorem TT.made (k a' : Int) (nm pm : ByteArray) (n : Int) {kv av : Value} {xs : List ST} {ys : List SA} (hk : TL M w kv xs) (ha : TAL M w av ys) : ∃ t : Tm, tmC k a' nm pm n kv av = t.cs ∧ TT M w t (.mk k a' nm pm n xs ys) := by
  obtain ⟨ks, h1, h2, h3, h4⟩ := hk
  obtain ⟨ms, g1, g2, g3, g4⟩ := ha
  exact ⟨tmA k a' nm pm n kv ks av ms, rfl, Xs.mkT h2 g2 h1 g1 h3 g3, by rw [shT_made, h4, g4]⟩
theorem TA.made (nm : ByteArray) {vv : Value} {l : List ByteArray} {x : ST} (ht : TT M w t x) (hs : TS M w vv l) : ∃ a : Am, mx [.string nm, vv] t.cs [] = a.cs ∧ TA M w a (.mk nm l x) :=
  ⟨amA nm vv l t, by simp [mx, amA, Am.cs], Xs.mkA ht.1 hs.1 hs.2, by rw [← ht.2]; rfl⟩
theorem MLt.out {b : Nat} {o : Obj} (h : MLt w.heap.size M) (F : Fresh w w' b o) : some b ∉ M := fun e => by have := h b e; have := F.eq; omega
theorem TL.one {b : Nat} {T : TypeId} {fr : Nat × Nat} {x : ST} (ht : TT M w t x) (F : Fresh w w' b (.cells (([.agg t.cs] : List Value).flatMap fun v => v.cells.toList).toArray T fr)) (hM : MLt w.heap.size M) : TL M w' (.slice (some ⟨b, 0, none⟩) 1 1) [x] := by
  have h := ht.gr (Gr.of F.bel M) (Nat.le_refl _)
  exact ⟨[t], rows_tm (ks := [t]) F.new (fun u hu => by rw [List.mem_singleton.1 hu]; exact h.1.one) rfl (by decide), h.1, fun _ => hM.out F, by rw [← ht.2]; rfl⟩
theorem TL.two {b : Nat} {T : TypeId} {fr : Nat × Nat} {t2 : Tm} {x y : ST} (ht : TT M w t x) (hu : TT M w t2 y) (F : Fresh w w' b (.cells (([.agg t.cs, .agg t2.cs] : List Value).flatMap fun v => v.cells.toList).toArray T fr)) (hM : MLt w.heap.size M) : TL M w' (.slice (some ⟨b, 0, none⟩) 2 2) [x, y] := by
  have h := ht.gr (Gr.of F.bel M) (Nat.le_refl _)
  have k := hu.gr (Gr.of F.bel M) (Nat.le_refl _)
  exact ⟨[t, t2], rows_tm (ks := [t, t2]) F.new (mem2 h.1.one k.1.one) rfl (by decide), Xs.cons h.1 k.1, fun _ => hM.out F, by rw [← ht.2, ← hu.2]; rfl⟩
theorem TAL.two {b : Nat} {T : TypeId} {fr : Nat × Nat} {a2 : Am} {x y : SA} (ht : TA M w a x) (hu : TA M w a2 y) (F : Fresh w w' b (.cells (([.agg a.cs, .agg a2.cs] : List Value).flatMap fun v => v.cells.toList).toArray T fr)) (hM : MLt w.heap.size M) : TAL M w' (.slice (some ⟨b, 0, none⟩) 2 2) [x, y] := by
  have h := ht.gr (Gr.of F.bel M) (Nat.le_refl _)
  have k := hu.gr (Gr.of F.bel M) (Nat.le_refl _)
  exact ⟨[a, a2], RowsAt.own (rows := [a, a2].map Am.cs) F.new (by intro r hr; obtain ⟨u, hu, rfl⟩ := List.mem_map.1 hr; exact (mem2 (Q := fun u : Am => u.cs.size = 23) h.1.one.c.size k.1.one.c.size) u hu) rfl (Nat.le_refl _) (by decide), Xs.cons h.1 k.1, fun _ => hM.out F, by rw [← ht.2, ← hu.2]; rfl⟩
end
def sr1 : SR := runR (shT' shB1) [] 100
def sr2 : SR := runR (shT' shB2) [] 100
def sr3 : SR := runR (shT' shB3) [] 100
def sr4 : SR := runR (shT' shB4) [] 100
theorem sr1_is : sr1.ok = 1 ∧ ovN sr1.v = 3 ∧ sr1.kn = 1 := by have h := sh1.2; simp only [Bool.and_eq_true, decide_eq_true_eq] at h; exact ⟨h.1.1, h.1.2, h.2⟩
theorem sr2_is : sr2.ok = 2 ∧ sr2.tr = [7] := by have h := sh2.2; simp only [Bool.and_eq_true, decide_eq_true_eq] at h; exact h
theorem sr3_is : sr3.ok = 3 ∧ sr3.st = 1 := by have h := sh3.2; simp only [Bool.and_eq_true, decide_eq_true_eq] at h; exact h
theorem sr4_is : sr4.ok = 4 := of_decide_eq_true sh4.2
theorem OAt.n {M : List (Option Nat)} {w : World} {k n : Int} {nm : ByteArray} {kv : Value} {y : OV} (h : OAt M w (V4 k n nm kv) y) : ovN y = n := by
  cases h with
  | mk rows hr hm hk => rfl
theorem PrOk.mx {w : World} {p : Pr} (h : PrOk w p) : p.cs = Go.Proofs.YtfoolfecjjngpaaGreat.mx [p.ev, p.dv] p.body.cs [] := by
  apply Array.ext
  · rw [h.size, mx_size h.bodyOk.size]; rfl
  · intro i h1 h2
    apply Option.some.inj
    rw [← Array.getElem?_eq_getElem h1, ← Array.getElem?_eq_getElem h2]
    match i, h1 with
    | 0, _ => rw [h.c0]; exact (mx_pre rfl).symm
    | 1, _ => rw [h.c1]; exact (mx_pre rfl).symm
    | i + 2, h1 =>
      have hi : i < 21 := by have := h.size; omega
      have e : p.body.cs[i]? = p.cs[i + 2]? := by rw [← h.bodyCs, Array.getElem?_extract]; simp [hi, Nat.add_comm]; intro hh; omega
      rw [← e, Array.getElem?_eq_getElem (by rw [h.bodyOk.size]; exact hi)]
      exact (mx_in (j := i) (by simp; omega) (Array.getElem?_eq_getElem _)).symm
theorem PrOk.ones {w : World} {p : Pr} (h : PrOk w p) : p.ev.oneCell' = true ∧ p.dv.oneCell' = true := ⟨h.effsAt.ok.one, h.datsAt.ok.one⟩
theorem TI.ofOwn {w : World} {v : Value} {l : List Int} {M : List (Option Nat)} (h : Own w 3 1 v l.length (l.map (Value.int .i64))) (hb : ∀ g, v.ownBlock = some g → some g ∉ M) : TI M w v l := ⟨IntsAt.ofOwn h, IntsAt.out h hb⟩
theorem TI.take {w : World} {v : Value} {l : List Int} {n : Nat} (h : IntsAt w v l) (hn : n ≤ l.length) : IntsAt w (takeV v n) (l.take n) := rows_take h hn
theorem TO.is {M : List (Option Nat)} {w : World} {k n k' n' : Int} {nm nm' : ByteArray} {kv : Value} {l : List OV} (h : TO M w k n nm kv (.mk k' n' nm' l)) :
    k = k' ∧ n = n' ∧ nm = nm' ∧ ∃ rows : List (List Value × OV), RowsAt w kv 4 (rows.map fun p => p.1.toArray) ∧ rows.map Prod.snd = l ∧ ∀ p ∈ rows, ∃ k2 n2 nm2 kv2, p.1 = V4 k2 n2 nm2 kv2 ∧ TO M w k2 n2 nm2 kv2 p.2 := by
  cases h with
  | mk rows hr hm hk => exact ⟨rfl, rfl, rfl, rows, hr, rfl, fun p hp => by
      have h2 := hk p hp
      obtain ⟨cs, y⟩ := p
      cases h2 with
      | mk rows' hr' hm' hk' => exact ⟨_, _, _, _, rfl, .mk rows' hr' hm' hk'⟩⟩
theorem two_of {α β : Type} {f : α → β} {l : List α} {x y : β} (h : l.map f = [x, y]) : ∃ a b, l = [a, b] := by
  cases l with
  | nil => cases h
  | cons a r => cases r with
    | nil => cases h
    | cons b r => cases r with
      | nil => exact ⟨_, _, rfl⟩
      | cons c r => cases h
theorem numL_any {M : List (Option Nat)} {nc : Nat} (n : Int) (w : World) (hMl : MLt w.heap.size M)  :
  Calls Tryz.prog 20 ([.int .i64 n] : List Value).toArray w fun r w' => ∃ t : Tm, r = .returned (.agg t.cs) ∧ TT M w' t (tI n) ∧ Below w.heap.size w w' := by
 have hG := Gr.refl [] w
 refine At.enter (N := 5) Tryz.func20 rfl rfl (by simp) [(0, .int .i64 n)] (by simp) ?_
 refine .seq (.region ?_)
 refine At.alloc ze31 rfl (fun b1 w1 F1 => ?_)
 have gb1 := Nat.le_trans hG.size (Nat.le_of_eq F1.eq.symm)
 have hb1 : w1.heap[b1]? = some (.cells #[zI, zI, zS, zS, zI, zN, zN, zI, zS, zI, zN, zN, zI, zN, zI, zI, zS, zI, zN, zN, zI] 31) := F1.new
 replace hG := hG.below F1.bel
 refine .ops0 (.thenN (.seq (.region (.move rfl rfl (.build (C := #[.int .i64 2, zI, zS, zS, .int .i64 n, zN, zN, zI, zS, zI, zN, zN, zI, zN, zI, zI, zS, zI, zN, zN, zI]) sd31 ze31 rfl (Bld.cons fo31_0 rfl (by first | decide | exact Nat.le_of_ble_eq_true rfl) (Bld.cons fo31_4 rfl (by first | decide | exact Nat.le_of_ble_eq_true rfl) (Bld.nil _))) rfl ?_)))))
 obtain ⟨q1, et1, hT1⟩ := TT.made (M := (some b1 :: M)) (w := w1) 2 0 eB eB n TL.nil TAL.nil
 refine .set (d := 4) (u := .agg q1.cs) rfl (congrArg Value.agg et1) ?_
 refine At.storeAll rfl rfl hb1 (sz31.trans (congrArg some hT1.1.one.size.symm)) hT1.1.one.size.symm hT1.1.one.one (fun w2 S1 => ?_)
 replace hb1 : w2.heap[b1]? = some (.cells q1.cs 31) := S1.new
 replace hG := hG.set S1 (.inr gb1)
 replace hT1 := hT1.gr ((Gr.refl _ _).set S1 (.inl (by simp))) (Nat.le_refl _)
 refine .ops0 (.thenN (.retc (.doneR (ResV.cell rfl (Ld.own ag31 (sz31.trans (congrArg some hT1.1.one.size.symm)) hb1) ResV.nil) ?_)))
 exact ⟨q1, rfl, hT1.weak (fun q hq => by simp [hq]), hG.base⟩
theorem varL_any {M : List (Option Nat)} {nc : Nat} (nm : ByteArray) (w : World) (hMl : MLt w.heap.size M)  :
  Calls Tryz.prog 19 ([.string nm] : List Value).toArray w fun r w' => ∃ t : Tm, r = .returned (.agg t.cs) ∧ TT M w' t (tVar nm) ∧ Below w.heap.size w w' := by
 have hG := Gr.refl [] w
 refine At.enter (N := 5) Tryz.func19 rfl rfl (by simp) [(0, .string nm)] (by simp) ?_
 refine .seq (.region ?_)
 refine At.alloc ze31 rfl (fun b1 w1 F1 => ?_)
 have gb1 := Nat.le_trans hG.size (Nat.le_of_eq F1.eq.symm)
 have hb1 : w1.heap[b1]? = some (.cells #[zI, zI, zS, zS, zI, zN, zN, zI, zS, zI, zN, zN, zI, zN, zI, zI, zS, zI, zN, zN, zI] 31) := F1.new
 replace hG := hG.below F1.bel
 refine .ops0 (.thenN (.seq (.region (.move rfl rfl (.build (C := #[.int .i64 1, zI, .string nm, zS, zI, zN, zN, zI, zS, zI, zN, zN, zI, zN, zI, zI, zS, zI, zN, zN, zI]) sd31 ze31 rfl (Bld.cons fo31_0 rfl (by first | decide | exact Nat.le_of_ble_eq_true rfl) (Bld.cons fo31_2 rfl (by first | decide | exact Nat.le_of_ble_eq_true rfl) (Bld.nil _))) rfl ?_)))))
 obtain ⟨q1, et1, hT1⟩ := TT.made (M := (some b1 :: M)) (w := w1) 1 0 nm eB 0 TL.nil TAL.nil
 refine .set (d := 4) (u := .agg q1.cs) rfl (congrArg Value.agg et1) ?_
 refine At.storeAll rfl rfl hb1 (sz31.trans (congrArg some hT1.1.one.size.symm)) hT1.1.one.size.symm hT1.1.one.one (fun w2 S1 => ?_)
 replace hb1 : w2.heap[b1]? = some (.cells q1.cs 31) := S1.new
 replace hG := hG.set S1 (.inr gb1)
 replace hT1 := hT1.gr ((Gr.refl _ _).set S1 (.inl (by simp))) (Nat.le_refl _)
 refine .ops0 (.thenN (.retc (.doneR (ResV.cell rfl (Ld.own ag31 (sz31.trans (congrArg some hT1.1.one.size.symm)) hb1) ResV.nil) ?_)))
 exact ⟨q1, rfl, hT1.weak (fun q hq => by simp [hq]), hG.base⟩
theorem letL_any {M : List (Option Nat)} {nc : Nat} (nm : ByteArray) {ta tb : Tm} {xa xb : ST} (w : World) (hMl : MLt w.heap.size M) (ha : TT M w ta xa) (hb : TT M w tb xb) :
  Calls Tryz.prog 17 ([.string nm, .agg ta.cs, .agg tb.cs] : List Value).toArray w fun r w' => ∃ t : Tm, r = .returned (.agg t.cs) ∧ TT M w' t (tLet nm xa xb) ∧ Below w.heap.size w w' := by
 have hG := Gr.refl [] w
 refine At.enter (N := 12) Tryz.func17 rfl rfl (by simp) [(0, .string nm), (1, .agg ta.cs), (2, .agg tb.cs)] (by simp) ?_
 refine .seq (.region ?_)
 refine At.box rfl rfl (fun b1 w1 F1 => ?_)
 have hb1 : w1.heap[b1]? = some (.cells ta.cs 31) := F1.new
 replace hG := hG.below F1.bel
 refine At.box rfl rfl (fun b2 w2 F2 => ?_)
 replace hb1 := F2.old hb1
 have hb2 : w2.heap[b2]? = some (.cells tb.cs 31) := F2.new
 replace hG := hG.below F2.bel
 refine At.alloc ze31 rfl (fun b3 w3 F3 => ?_)
 have gb3 := Nat.le_trans hG.size (Nat.le_of_eq F3.eq.symm)
 replace hb1 := F3.old hb1
 replace hb2 := F3.old hb2
 have hb3 : w3.heap[b3]? = some (.cells #[zI, zI, zS, zS, zI, zN, zN, zI, zS, zI, zN, zN, zI, zN, zI, zI, zS, zI, zN, zN, zI] 31) := F3.new
 replace hG := hG.below F3.bel
 refine .ops0 (.thenN (.seq (.region (.move rfl rfl (.load rfl (Ld.own ag31 (sz31.trans (congrArg some (ha.gr ((Gr.of hG.base _).to (nw_add gb3)) (Nat.le_refl _)).1.one.size.symm)) hb1) rfl (.load rfl (Ld.own ag31 (sz31.trans (congrArg some (hb.gr ((Gr.of hG.base _).to (nw_add gb3)) (Nat.le_refl _)).1.one.size.symm)) hb2) rfl ?_))))))
 refine At.buildSlice (xs := [.tmp 8, .tmp 9]) rfl rfl el22 sz31 ze31 (by intro v hv; simp only [List.mem_cons, List.not_mem_nil, or_false] at hv; rcases hv with rfl | rfl <;> first | exact (ha.gr ((Gr.of hG.base _).to (nw_add gb3)) (Nat.le_refl _)).1.one.size | exact (hb.gr ((Gr.of hG.base _).to (nw_add gb3)) (Nat.le_refl _)).1.one.size) rfl (by decide) rfl (fun b4 w4 F4 => ?_)
 have hL4 := TL.two (ha.gr ((Gr.of hG.base _).to (nw_add gb3)) (Nat.le_refl _)) (hb.gr ((Gr.of hG.base _).to (nw_add gb3)) (Nat.le_refl _)) F4 (MLt.blk hb3 (fun q hq => Nat.lt_of_lt_of_le (hMl q hq) hG.size))
 replace hb3 := F4.old hb3
 replace hG := hG.below F4.bel
 refine .build (C := #[.int .i64 7, zI, .string nm, zS, zI, .slice (some ⟨b4, 0, none⟩) 2 2, zN, zI, zS, zI, zN, zN, zI, zN, zI, zI, zS, zI, zN, zN, zI]) sd31 ze31 rfl (Bld.cons fo31_0 rfl (by first | decide | exact Nat.le_of_ble_eq_true rfl) (Bld.cons fo31_2 rfl (by first | decide | exact Nat.le_of_ble_eq_true rfl) (Bld.cons fo31_5 rfl (by first | decide | exact Nat.le_of_ble_eq_true rfl) (Bld.nil _)))) rfl ?_
 obtain ⟨q1, et1, hT1⟩ := TT.made (M := (some b3 :: M)) (w := w4) 7 0 nm eB 0 hL4 TAL.nil
 refine .set (d := 11) (u := .agg q1.cs) rfl (congrArg Value.agg et1) ?_
 refine At.storeAll rfl rfl hb3 (sz31.trans (congrArg some hT1.1.one.size.symm)) hT1.1.one.size.symm hT1.1.one.one (fun w5 S1 => ?_)
 replace hb3 : w5.heap[b3]? = some (.cells q1.cs 31) := S1.new
 replace hG := hG.set S1 (.inr gb3)
 replace hT1 := hT1.gr ((Gr.refl _ _).set S1 (.inl (by simp))) (Nat.le_refl _)
 refine .ops0 (.thenN (.retc (.doneR (ResV.cell rfl (Ld.own ag31 (sz31.trans (congrArg some hT1.1.one.size.symm)) hb3) ResV.nil) ?_)))
 exact ⟨q1, rfl, hT1.weak (fun q hq => by simp [hq]), hG.base⟩
theorem en14 : entB Tryz.prog 14 = true := by kernel_rfl
theorem en21 : entB Tryz.prog 21 = true := by kernel_rfl
theorem en28 : entB Tryz.prog 28 = true := by kernel_rfl
theorem read_any {M : List (Option Nat)} {nc : Nat} {m : Int} (l : List UInt8) (w : World) (hMl : MLt w.heap.size M) (hll : l.length ≤ 1000) (hm : w.cell? ⟨0, 0, none⟩ = some (.int .i64 m)) (hps : (parseR l).1.isSome = true) :
  Calls Tryz.prog 21 ([.string (bs l)] : List Value).toArray w fun r w' => ∃ v1 v2 t, r = .returned (.agg (mx [v1, v2] t.cs [])) ∧ v1.oneCell' = true ∧ v2.oneCell' = true ∧ TT M w' t (shT' l) ∧ Below w.heap.size w w' := by
 have hG := Gr.refl [] w
 refine At.enter (N := 14) Tryz.func21 rfl rfl (by simp) [(0, .string (bs l))] (by simp) ?_
 refine .seq (.region ?_)
 refine At.alloc ze38 rfl (fun b1 w1 F1 => ?_)
 have gb1 := Nat.le_trans hG.size (Nat.le_of_eq F1.eq.symm)
 have hb1 : w1.heap[b1]? = some (.cells #[zN, zN, zI, zI, zS, zS, zI, zN, zN, zI, zS, zI, zN, zN, zI, zN, zI, zI, zS, zI, zN, zN, zI] 38) := F1.new
 replace hG := hG.below F1.bel
 refine .ops0 (.thenN (.seq (.region (.move rfl rfl ?_))))
 refine At.toBytes (l := l) rfl st9 el74 ik5 (by omega) rfl (fun b2 cap1 w2 hgbb1 hbl1 hby1 => ?_)
 replace hb1 := Below.old hbl1 hb1
 replace hG := hG.below hbl1
 have hml := (MLt.blk hb1 (fun q hq => Nat.lt_of_lt_of_le (hMl q hq) hG.size))
 refine At.call en28 rfl rfl (parse_any (.slice (some ⟨b2, 0, none⟩) l.length cap1) l m _ hby1 (cell_keep hm hG.base) (parseR_good hps)) (fun e w3 hR => ?_)
 obtain ⟨p, rfl, hbl2, hp, hsh, _, hpb⟩ := hR; refine ⟨_, rfl, ?_⟩
 replace hb1 := Below.old hbl2 hb1
 replace hG := hG.below hbl2
 have hT : TT (some b1 :: M) w3 p.body (shT' l) := ⟨fun u hu => by cases List.mem_singleton.1 hu; exact ⟨hp.bodyOk, fun b hb hm => absurd (hml b hm) (Nat.not_lt.2 (hpb b (.inr (.inr (.inr (.inr hb))))))⟩, by show shT p.body = _; unfold shT'; rw [← hsh]; rfl⟩; have h12 := hp.ones
 refine .set (d := 9) (u := .tuple #[.agg (mx [p.ev, p.dv] p.body.cs []), .int .i64 ((parseR l).2.1), .int .i64 ((parseR l).2.2)]) rfl (by rw [hp.mx]) (.move rfl rfl (.extract rfl rfl rfl (.extract rfl rfl rfl (.extract rfl rfl rfl ?_))))
 refine At.alloc ze38 rfl (fun b3 w4 F2 => ?_)
 have n_b1_b3 : b1 ≠ b3 := Nat.ne_of_lt (F2.lt hb1)
 replace hb1 := F2.old hb1
 have hb3 : w4.heap[b3]? = some (.cells #[zN, zN, zI, zI, zS, zS, zI, zN, zN, zI, zS, zI, zN, zN, zI, zN, zI, zI, zS, zI, zN, zN, zI] 38) := F2.new
 refine At.storeAll rfl rfl hb3 (sz38.trans (congrArg some (mx_size (pre := [p.ev, p.dv]) (post := []) hT.1.one.size).symm)) (mx_size (pre := [p.ev, p.dv]) (post := []) hT.1.one.size).symm (mx_all (by simp only [List.all_cons, List.all_nil, h12.1, h12.2, Bool.and_true] <;> rfl) hT.1.one.one rfl) (fun w5 S1 => ?_)
 replace hb1 := S1.other hb1 n_b1_b3
 replace hb3 : w5.heap[b3]? = some (.cells (mx [p.ev, p.dv] p.body.cs []) 38) := S1.new
 replace hG := hG.below (F2.bel2 S1)
 replace hT := hT.gr (Gr.of (F2.bel2 S1) _) (Nat.le_refl _)
 refine .assign rfl rfl (.assign rfl rfl (.ops0 (.thenN (.seq (.region (.load rfl (Ld.own ag38 (sz38.trans (congrArg some (mx_size (pre := [p.ev, p.dv]) (post := []) hT.1.one.size).symm)) hb3) rfl ?_))))))
 refine At.storeAll rfl rfl hb1 (sz38.trans (congrArg some (mx_size (pre := [p.ev, p.dv]) (post := []) hT.1.one.size).symm)) (mx_size (pre := [p.ev, p.dv]) (post := []) hT.1.one.size).symm (mx_all (by simp only [List.all_cons, List.all_nil, h12.1, h12.2, Bool.and_true] <;> rfl) hT.1.one.one rfl) (fun w6 S2 => ?_)
 replace hb1 : w6.heap[b1]? = some (.cells (mx [p.ev, p.dv] p.body.cs []) 38) := S2.new
 replace hG := hG.set S2 (.inr gb1)
 replace hT := hT.gr ((Gr.refl _ _).set S2 (.inl (by simp))) (Nat.le_refl _)
 refine .ops0 (.thenN (.retc (.doneR (ResV.cell rfl (Ld.own ag38 (sz38.trans (congrArg some (mx_size (pre := [p.ev, p.dv]) (post := []) hT.1.one.size).symm)) hb1) ResV.nil) ?_)))
 exact ⟨p.ev, p.dv, p.body, rfl, h12.1, h12.2, hT.weak (fun q hq => by simp [hq]), hG.base⟩
theorem shown_any {m : Int} (w : World)  (hm : w.cell? ⟨0, 0, none⟩ = some (.int .i64 m)) :
  Calls Tryz.prog 11 ([] : List Value).toArray w fun r w' => r = .returned (.bool true) ∧ Below w.heap.size w w' := by
 have hG := Gr.refl [] w
 refine At.enter (N := 65) Tryz.func11 rfl rfl (by simp) [] (by simp) ?_
 refine .seq (.region (.assign rfl rfl (.ops0 (.thenN (.seq (.region ?_))))))
 refine At.call en21 rfl rfl (read_any (M := []) (nc := 0) shB1 _ (MLt.nil _) (by decide) (cell_keep hm hG.base) (by kernel_rfl)) (fun e w1 hR => ?_)
 obtain ⟨va1, vb1, tm1, rfl, oa1, ob1, hT1, hbl1⟩ := hR; refine ⟨_, rfl, ?_⟩
 replace hG := hG.below hbl1
 refine At.call en14 rfl rfl (run_any (E := []) (l := []) 100 _ oa1 ob1 hT1.1 (MLt.nil _) (RowsAt.nil _ 1) (by decide) (by decide) (by rw [hT1.2]; exact sh1.1)) (fun e w2 hR => ?_)
 obtain ⟨cs, rfl, hra, hbl2⟩ := hR; refine ⟨_, rfl, ?_⟩; rw [hT1.2] at hra; replace hra : RAt [] w2 cs sr1 := hra
 replace hG := hG.below hbl2
 obtain ⟨rk1, rn1, rm1, rv1, rt1, rfl, ho1, hi1, hz1⟩ := hra; replace ho1 : TO [] w2 rk1 rn1 rm1 rv1 sr1.v := ho1; replace hi1 : TI [] w2 rt1 sr1.tr := ⟨hi1, hz1⟩
 have hn1 : rn1 = 3 := by have h := OAt.n ho1; rw [sr1_is.2.1] at h; exact h.symm
 refine At.alloc ze49 rfl (fun b1 w3 F1 => ?_)
 have hb1 : w3.heap[b1]? = some (.cells #[zI, zI, zI, zS, zN, zN, zI, zI] 49) := F1.new
 refine At.storeAll rfl rfl hb1 sz49 rfl (by first | (simp [Value.oneCell', (OAt.one ho1), hi1.1.ok.one]; done) | (simp only [List.all_toArray, List.all_cons, List.all_nil, (OAt.one ho1), hi1.1.ok.one, Bool.and_true, Bool.true_and] <;> rfl)) (fun w4 S1 => ?_)
 replace hb1 : w4.heap[b1]? = some (.cells #[.int .i64 sr1.ok, .int .i64 rk1, .int .i64 rn1, .string rm1, rv1, rt1, .int .i64 sr1.st, .int .i64 sr1.kn] 49) := S1.new
 replace hG := hG.below (F1.bel2 S1)
 refine .ops0 (.thenN (.seq (.region ?_)))
 refine At.call en21 rfl rfl (read_any (M := []) (nc := 0) shB2 _ (MLt.nil _) (by decide) (cell_keep hm hG.base) (by kernel_rfl)) (fun e w5 hR => ?_)
 obtain ⟨va2, vb2, tm2, rfl, oa2, ob2, hT2, hbl3⟩ := hR; refine ⟨_, rfl, ?_⟩
 replace hb1 := Below.old hbl3 hb1
 replace hG := hG.below hbl3
 refine At.call en14 rfl rfl (run_any (E := []) (l := []) 100 _ oa2 ob2 hT2.1 (MLt.nil _) (RowsAt.nil _ 1) (by decide) (by decide) (by rw [hT2.2]; exact sh2.1)) (fun e w6 hR => ?_)
 obtain ⟨cs, rfl, hra, hbl4⟩ := hR; refine ⟨_, rfl, ?_⟩; rw [hT2.2] at hra; replace hra : RAt [] w6 cs sr2 := hra
 replace hb1 := Below.old hbl4 hb1
 replace hG := hG.below hbl4
 obtain ⟨rk2, rn2, rm2, rv2, rt2, rfl, ho2, hi2, hz2⟩ := hra; replace ho2 : TO [] w6 rk2 rn2 rm2 rv2 sr2.v := ho2; replace hi2 : TI [] w6 rt2 sr2.tr := ⟨hi2, hz2⟩
 rw [sr2_is.2] at hi2
 refine At.alloc ze49 rfl (fun b2 w7 F2 => ?_)
 have n_b1_b2 : b1 ≠ b2 := Nat.ne_of_lt (F2.lt hb1)
 replace hb1 := F2.old hb1
 have hb2 : w7.heap[b2]? = some (.cells #[zI, zI, zI, zS, zN, zN, zI, zI] 49) := F2.new
 refine At.storeAll rfl rfl hb2 sz49 rfl (by first | (simp [Value.oneCell', (OAt.one ho2), hi2.1.ok.one]; done) | (simp only [List.all_toArray, List.all_cons, List.all_nil, (OAt.one ho2), hi2.1.ok.one, Bool.and_true, Bool.true_and] <;> rfl)) (fun w8 S2 => ?_)
 replace hb1 := S2.other hb1 n_b1_b2
 replace hb2 : w8.heap[b2]? = some (.cells #[.int .i64 sr2.ok, .int .i64 rk2, .int .i64 rn2, .string rm2, rv2, rt2, .int .i64 sr2.st, .int .i64 sr2.kn] 49) := S2.new
 replace hG := hG.below (F2.bel2 S2)
 replace hi2 := hi2.gr (Gr.of (F2.bel2 S2) _) (Nat.le_refl _)
 refine .ops0 (.thenN (.seq (.region ?_)))
 refine At.call en21 rfl rfl (read_any (M := []) (nc := 0) shB3 _ (MLt.nil _) (by decide) (cell_keep hm hG.base) (by kernel_rfl)) (fun e w9 hR => ?_)
 obtain ⟨va3, vb3, tm3, rfl, oa3, ob3, hT3, hbl5⟩ := hR; refine ⟨_, rfl, ?_⟩
 replace hb1 := Below.old hbl5 hb1
 replace hb2 := Below.old hbl5 hb2
 replace hG := hG.below hbl5
 replace hi2 := hi2.gr (Gr.of hbl5 _) (Nat.le_refl _)
 refine At.call en14 rfl rfl (run_any (E := []) (l := []) 100 _ oa3 ob3 hT3.1 (MLt.nil _) (RowsAt.nil _ 1) (by decide) (by decide) (by rw [hT3.2]; exact sh3.1)) (fun e w10 hR => ?_)
 obtain ⟨cs, rfl, hra, hbl6⟩ := hR; refine ⟨_, rfl, ?_⟩; rw [hT3.2] at hra; replace hra : RAt [] w10 cs sr3 := hra
 replace hb1 := Below.old hbl6 hb1
 replace hb2 := Below.old hbl6 hb2
 replace hG := hG.below hbl6
 replace hi2 := hi2.gr (Gr.of hbl6 _) (Nat.le_refl _)
 obtain ⟨rk3, rn3, rm3, rv3, rt3, rfl, ho3, hi3, hz3⟩ := hra; replace ho3 : TO [] w10 rk3 rn3 rm3 rv3 sr3.v := ho3; replace hi3 : TI [] w10 rt3 sr3.tr := ⟨hi3, hz3⟩
 refine At.alloc ze49 rfl (fun b3 w11 F3 => ?_)
 have n_b1_b3 : b1 ≠ b3 := Nat.ne_of_lt (F3.lt hb1)
 have n_b2_b3 : b2 ≠ b3 := Nat.ne_of_lt (F3.lt hb2)
 replace hb1 := F3.old hb1
 replace hb2 := F3.old hb2
 have hb3 : w11.heap[b3]? = some (.cells #[zI, zI, zI, zS, zN, zN, zI, zI] 49) := F3.new
 refine At.storeAll rfl rfl hb3 sz49 rfl (by first | (simp [Value.oneCell', (OAt.one ho3), hi3.1.ok.one]; done) | (simp only [List.all_toArray, List.all_cons, List.all_nil, (OAt.one ho3), hi3.1.ok.one, Bool.and_true, Bool.true_and] <;> rfl)) (fun w12 S3 => ?_)
 replace hb1 := S3.other hb1 n_b1_b3
 replace hb2 := S3.other hb2 n_b2_b3
 replace hb3 : w12.heap[b3]? = some (.cells #[.int .i64 sr3.ok, .int .i64 rk3, .int .i64 rn3, .string rm3, rv3, rt3, .int .i64 sr3.st, .int .i64 sr3.kn] 49) := S3.new
 replace hG := hG.below (F3.bel2 S3)
 replace hi2 := hi2.gr (Gr.of (F3.bel2 S3) _) (Nat.le_refl _)
 refine .ops0 (.thenN (.seq (.region ?_)))
 refine At.call en21 rfl rfl (read_any (M := []) (nc := 0) shB4 _ (MLt.nil _) (by decide) (cell_keep hm hG.base) (by kernel_rfl)) (fun e w13 hR => ?_)
 obtain ⟨va4, vb4, tm4, rfl, oa4, ob4, hT4, hbl7⟩ := hR; refine ⟨_, rfl, ?_⟩
 replace hb1 := Below.old hbl7 hb1
 replace hb2 := Below.old hbl7 hb2
 replace hb3 := Below.old hbl7 hb3
 replace hG := hG.below hbl7
 replace hi2 := hi2.gr (Gr.of hbl7 _) (Nat.le_refl _)
 refine At.call en14 rfl rfl (run_any (E := []) (l := []) 100 _ oa4 ob4 hT4.1 (MLt.nil _) (RowsAt.nil _ 1) (by decide) (by decide) (by rw [hT4.2]; exact sh4.1)) (fun e w14 hR => ?_)
 obtain ⟨cs, rfl, hra, hbl8⟩ := hR; refine ⟨_, rfl, ?_⟩; rw [hT4.2] at hra; replace hra : RAt [] w14 cs sr4 := hra
 replace hb1 := Below.old hbl8 hb1
 replace hb2 := Below.old hbl8 hb2
 replace hb3 := Below.old hbl8 hb3
 replace hG := hG.below hbl8
 replace hi2 := hi2.gr (Gr.of hbl8 _) (Nat.le_refl _)
 obtain ⟨rk4, rn4, rm4, rv4, rt4, rfl, ho4, hi4, hz4⟩ := hra; replace ho4 : TO [] w14 rk4 rn4 rm4 rv4 sr4.v := ho4; replace hi4 : TI [] w14 rt4 sr4.tr := ⟨hi4, hz4⟩
 refine At.alloc ze49 rfl (fun b4 w15 F4 => ?_)
 have n_b1_b4 : b1 ≠ b4 := Nat.ne_of_lt (F4.lt hb1)
 have n_b2_b4 : b2 ≠ b4 := Nat.ne_of_lt (F4.lt hb2)
 have n_b3_b4 : b3 ≠ b4 := Nat.ne_of_lt (F4.lt hb3)
 replace hb1 := F4.old hb1
 replace hb2 := F4.old hb2
 replace hb3 := F4.old hb3
 have hb4 : w15.heap[b4]? = some (.cells #[zI, zI, zI, zS, zN, zN, zI, zI] 49) := F4.new
 refine At.storeAll rfl rfl hb4 sz49 rfl (by first | (simp [Value.oneCell', (OAt.one ho4), hi4.1.ok.one]; done) | (simp only [List.all_toArray, List.all_cons, List.all_nil, (OAt.one ho4), hi4.1.ok.one, Bool.and_true, Bool.true_and] <;> rfl)) (fun w16 S4 => ?_)
 replace hb1 := S4.other hb1 n_b1_b4
 replace hb2 := S4.other hb2 n_b2_b4
 replace hb3 := S4.other hb3 n_b3_b4
 replace hb4 : w16.heap[b4]? = some (.cells #[.int .i64 sr4.ok, .int .i64 rk4, .int .i64 rn4, .string rm4, rv4, rt4, .int .i64 sr4.st, .int .i64 sr4.kn] 49) := S4.new
 replace hG := hG.below (F4.bel2 S4)
 replace hi2 := hi2.gr (Gr.of (F4.bel2 S4) _) (Nat.le_refl _)
 refine .ops0 (.thenN (.seq (.region ?_)))
 refine At.join [(0, .bool (decide ((([7] : List Int).length : Int) = 1)))] (fun w' => w16 = w') ?_ (fun w17 hS => ?_)
 ·skip
  refine .fieldAddr rfl fo49_0 rfl (.fieldAddr rfl fo47_0 rfl (.load rfl (Ld.ownCell ag3 hb1 rfl) rfl (.eqI rfl rfl rfl (.set (d := 16) (u := .bool true) rfl (congrArg Value.bool (decide_eq_true sr1_is.1)) (.move rfl rfl (.yes rfl rfl rfl rfl (.fieldAddr rfl fo49_0 rfl (.yes rfl rfl rfl rfl (.fieldAddr rfl fo47_1 rfl (.yes rfl rfl rfl rfl (.fieldAddr rfl fo45_1 rfl (.yes rfl rfl rfl rfl (.load rfl (Ld.ownCell ag3 hb1 rfl) rfl (.yes rfl rfl rfl rfl (.eqI rfl rfl rfl (.set (d := 22) (u := .bool true) rfl (congrArg Value.bool (decide_eq_true hn1)) (.pickT rfl rfl rfl (.move rfl rfl (.yes rfl rfl rfl rfl (.fieldAddr rfl fo49_3 rfl (.yes rfl rfl rfl rfl (.load rfl (Ld.ownCell ag3 hb1 rfl) rfl (.yes rfl rfl rfl rfl (.eqI rfl rfl rfl (.set (d := 27) (u := .bool true) rfl (congrArg Value.bool (decide_eq_true sr1_is.2.2)) (.pickT rfl rfl rfl (.move rfl rfl (.yes rfl rfl rfl rfl (.fieldAddr rfl fo49_0 rfl (.yes rfl rfl rfl rfl (.fieldAddr rfl fo47_0 rfl (.yes rfl rfl rfl rfl (.load rfl (Ld.ownCell ag3 hb2 rfl) rfl (.yes rfl rfl rfl rfl (.eqI rfl rfl rfl (.set (d := 33) (u := .bool true) rfl (congrArg Value.bool (decide_eq_true sr2_is.1)) (.pickT rfl rfl rfl (.move rfl rfl (.yes rfl rfl rfl rfl ?_)))))))))))))))))))))))))))))))))))))))
  refine .fieldAddr rfl fo49_1 rfl (.yes rfl rfl rfl rfl (.load rfl (Ld.ownCell ag32 hb2 rfl) rfl (.yes rfl rfl rfl rfl (.lenSl rfl hi2.1.ok el32 rfl (.yes rfl rfl rfl rfl (.eqI rfl rfl rfl (.pickT rfl rfl rfl (.move rfl rfl ?_))))))))
  refine At.cases (decide ((([7] : List Int).length : Int) = 1)) (fun hg1 => ?_) (fun hg1 => ?_)
  ·skip
   refine .set (d := 41) (u := .bool true) rfl (congrArg Value.bool hg1) ?_
   have hg1' := of_decide_eq_true hg1
   refine .yes rfl rfl rfl rfl (.fieldAddr rfl fo49_1 rfl (.yes rfl rfl rfl rfl (.load rfl (Ld.ownCell ag32 hb2 rfl) rfl (.yes rfl rfl rfl rfl (.indexAddr (i := 0) rfl rfl hi2.1.ok (lt_of_some (rfl : ([7] : List Int)[0]? = some 7)) el32 sz3 rfl (.yes rfl rfl rfl rfl (.load rfl (Ld.cell ag3 (cell_keep ((hi2.1).get (rfl : ([7] : List Int)[0]? = some 7)) (Below.refl _ _))) rfl (.yes rfl rfl rfl rfl (.eqI rfl rfl rfl (.set (d := 46) (u := .bool true) rfl (congrArg Value.bool (decide_eq_true rfl)) (.pickT rfl rfl rfl (.move rfl rfl (.yes rfl rfl rfl rfl (.fieldAddr rfl fo49_0 rfl (.yes rfl rfl rfl rfl (.fieldAddr rfl fo47_0 rfl (.yes rfl rfl rfl rfl (.load rfl (Ld.ownCell ag3 hb3 rfl) rfl (.yes rfl rfl rfl rfl (.eqI rfl rfl rfl (.set (d := 52) (u := .bool true) rfl (congrArg Value.bool (decide_eq_true sr3_is.1)) (.pickT rfl rfl rfl (.move rfl rfl (.yes rfl rfl rfl rfl (.fieldAddr rfl fo49_2 rfl (.yes rfl rfl rfl rfl (.load rfl (Ld.ownCell ag3 hb3 rfl) rfl (.yes rfl rfl rfl rfl (.eqI rfl rfl rfl (.set (d := 57) (u := .bool true) rfl (congrArg Value.bool (decide_eq_true sr3_is.2)) (.pickT rfl rfl rfl (.move rfl rfl (.yes rfl rfl rfl rfl (.fieldAddr rfl fo49_0 rfl (.yes rfl rfl rfl rfl (.fieldAddr rfl fo47_0 rfl (.yes rfl rfl rfl rfl (.load rfl (Ld.ownCell ag3 hb4 rfl) rfl (.yes rfl rfl rfl rfl ?_)))))))))))))))))))))))))))))))))))))))
   refine .eqI rfl rfl rfl (.set (d := 63) (u := .bool true) rfl (congrArg Value.bool (decide_eq_true sr4_is)) (.pickT rfl rfl rfl (.assign rfl rfl ?_)))
   exact At.joined (Sub.cons (by show some (Value.bool true) = some (Value.bool (decide ((([7] : List Int).length : Int) = 1))); rw [hg1] <;> rfl) Sub.nil) rfl
  refine .set (d := 41) (u := .bool false) rfl (congrArg Value.bool hg1) ?_
  have hg1' := of_decide_eq_false hg1
  refine .no rfl rfl rfl rfl rfl rfl rfl (.no rfl rfl rfl rfl rfl rfl rfl (.no rfl rfl rfl rfl rfl rfl rfl (.no rfl rfl rfl rfl rfl rfl rfl (.no rfl rfl rfl rfl rfl rfl rfl (.pickF rfl rfl rfl (.move rfl rfl (.no rfl rfl rfl rfl rfl rfl rfl (.no rfl rfl rfl rfl rfl rfl rfl (.no rfl rfl rfl rfl rfl rfl rfl (.no rfl rfl rfl rfl rfl rfl rfl (.pickF rfl rfl rfl (.move rfl rfl (.no rfl rfl rfl rfl rfl rfl rfl (.no rfl rfl rfl rfl rfl rfl rfl (.no rfl rfl rfl rfl rfl rfl rfl (.pickF rfl rfl rfl (.move rfl rfl (.no rfl rfl rfl rfl rfl rfl rfl (.no rfl rfl rfl rfl rfl rfl rfl (.no rfl rfl rfl rfl rfl rfl rfl (.no rfl rfl rfl rfl rfl rfl rfl (.pickF rfl rfl rfl (.assign rfl rfl ?_)))))))))))))))))))))))
  exact At.joined (Sub.cons (by show some (Value.bool false) = some (Value.bool (decide ((([7] : List Int).length : Int) = 1))); rw [hg1] <;> rfl) Sub.nil) rfl
 subst hS
 refine .thenN (.retc (.doneR (ResV.tmp rfl ResV.nil) ?_))
 exact ⟨rfl, hG.base⟩
abbrev nmX : ByteArray := ⟨#[120]⟩
abbrev nmP : ByteArray := ⟨#[80]⟩
def lgT : Nat → ST
  | 0 => tVar nmX
  | n + 1 => tLet nmX (tCon nmP [tVar nmX, tVar nmX]) (lgT n)
def pv (j : Int) : Nat → X
  | 0 => vI j
  | n + 1 => vC nmP [pv j n, pv j n]
def lgP (x : X) (r : SR) : Prop := r.ok = 1 ∧ r.v = shwX x
theorem findX_hd {nm : ByteArray} {v e : X} : findX nm (.e nm v e) = some v := by simp [findX]
theorem lg_run (j : Int) (n i : Nat) (e : X) (k : Nat) (he : findX nmX e = some (pv j i)) : QT (lgP (pv j (i + n))) (7 * n + 1 + k) (lgT n) e .nil ⟨[], [], [], 0⟩ := by
  induction n generalizing i e with
  | zero => rw [show 7 * 0 + 1 + k = k + 1 by omega]; exact .var he (.of (by simp) (by simp) (by simp [lenX])) (.end_ (.of (by simp) (by simp) (by simp [lenX])) fun c => ⟨rfl, rfl⟩)
  | succ n ih =>
    rw [show 7 * (n + 1) + 1 + k = (((((7 * n + 1 + k) + 1) + 1) + 1) + 1) + 1 + 1 + 1 by omega, show i + (n + 1) = (i + 1) + n by omega]
    exact .let_ (.of (by simp) (by simp) (by simp [lenX])) (.con2 (.of (by simp) (by simp) (by simp [lenX])) (.var he (.of (by simp) (by simp) (by simp [lenX])) (.nextC (.of (by simp) (by simp) (by simp [lenX])) (.var he (.of (by simp) (by simp) (by simp [lenX])) (.con (.of (by simp) (by simp) (by simp [lenX])) (.bnd (.of (by simp) (by simp) (by simp [lenX])) (ih (i + 1) _ findX_hd)))))))
theorem large_run (j : Int) {n : Nat} (hn : n ≤ 60) : (∀ i, i ≤ (1500 : Int).toNat → Sm (runF i (startF (tLet nmX (tI j) (lgT n)) []))) ∧ lgP (pv j n) (runR (tLet nmX (tI j) (lgT n)) [] 1500) :=
  QT.start (N := (7 * n + 1 + (1496 - 7 * n)) + 1 + 1 + 1) (.let_ (.of (by simp) (by simp) (by simp [lenX])) (.int (.of (by simp) (by simp) (by simp [lenX])) (.bnd (.of (by simp) (by simp) (by simp [lenX])) (by have := lg_run j n 0 (.e nmX (vI j) .nil) (1496 - 7 * n) findX_hd; rwa [Nat.zero_add] at this)))) (by show 1500 = _; omega)
def pcN : Nat → Int
  | 0 => 1
  | n + 1 => 2 * pcN n + 1
theorem pcN_pos (n : Nat) : 1 ≤ pcN n := by
  induction n with
  | zero => exact Int.le_refl _
  | succ n ih => rw [pcN]; omega
theorem pcs_pv (j : Int) (n : Nat) : ∀ m : Int, 0 ≤ m → (pcN n ≤ m → pcs m (pv j n) = pcN n) ∧ (m < pcN n → m < pcs m (pv j n)) := by
  induction n with
  | zero =>
    intro m hm
    have : pcs m (pv j 0) = 1 := by simp [pv, vI, pcs, pcsL]
    rw [this]; exact ⟨fun _ => rfl, fun h => h⟩
  | succ n ih =>
    intro m hm
    have hp := pcN_pos n
    have e : pcs m (pv j (n + 1)) = pcsL m 1 [pv j n, pv j n] := by rw [pv, vC, pcs]
    rw [e, pcN]
    simp only [pcsL]
    by_cases h0 : m < 1
    · simp only [decide_eq_true h0, cond_true]; constructor
      · intro h; omega
      · intro h; omega
    · simp only [decide_eq_false h0, cond_false]
      obtain ⟨a1, a2⟩ := ih (m - 1) (by omega)
      by_cases h1 : m < 1 + pcs (m - 1) (pv j n)
      · simp only [decide_eq_true h1, cond_true]
        refine ⟨fun h => ?_, fun _ => h1⟩
        have := a1 (by omega); omega
      · simp only [decide_eq_false h1, cond_false]
        have hc : pcN n ≤ m - 1 := by
          apply Classical.byContradiction
          intro hn; have := a2 (by omega); omega
        rw [a1 hc]
        obtain ⟨b1, b2⟩ := ih (m - (1 + pcN n)) (by omega)
        constructor
        · intro h; rw [b1 (by omega)]; omega
        · intro h; have := b2 (by omega); omega
def ovp (j : Int) : Nat → OV
  | 0 => .mk 1 j eB []
  | n + 1 => .mk 4 0 nmP [ovp j n, ovp j n]
theorem whl_pv (j : Int) (n : Nat) : whl (pv j n) = ovp j n := by
  induction n with
  | zero => rfl
  | succ n ih => rw [pv, vC, whl, whlL, whlL, whlL, ih]; rfl
theorem pcN_ge {m n : Nat} (h : m ≤ n) : pcN m ≤ pcN n := by
  induction n with
  | zero => rw [Nat.le_zero.1 h]; exact Int.le_refl _
  | succ n ih =>
    by_cases e : m = n + 1
    · subst e; exact Int.le_refl _
    · have := ih (by omega); have := pcN_pos n; rw [pcN]; omega
theorem shw_pv (j : Int) (n : Nat) : shwX (pv j n) = (bif decide (n < 13) then ovp j n else .mk 4 0 nmP []) := by
  obtain ⟨a, b⟩ := pcs_pv j n 10000 (by decide)
  unfold shwX
  by_cases h : n < 13
  · have h1 : pcN n ≤ pcN 12 := pcN_ge (by omega)
    have h2 : pcN 12 = 8191 := by decide
    rw [a (by omega), decide_eq_true h, decide_eq_false (by omega)]
    exact whl_pv j n
  · have h1 : pcN 13 ≤ pcN n := pcN_ge (by omega)
    have h2 : pcN 13 = 16383 := by decide
    rw [decide_eq_true (b (by omega)), decide_eq_false h]
    cases n with
    | zero => omega
    | succ n => rfl
theorem en11 : entB Tryz.prog 11 = true := by kernel_rfl
theorem en17 : entB Tryz.prog 17 = true := by kernel_rfl
theorem en19 : entB Tryz.prog 19 = true := by kernel_rfl
theorem en20 : entB Tryz.prog 20 = true := by kernel_rfl
theorem sd38 : sizedB Tryz.prog 38 = true := by kernel_rfl
theorem sourceLarge_any {m : Int} (n0 v0 : Int) (w : World)  (hm : w.cell? ⟨0, 0, none⟩ = some (.int .i64 m)) :
  Calls Tryz.prog 10 ([.int .i64 n0, .int .i64 v0] : List Value).toArray w fun r w' => r = .returned (.bool true) ∧ Below w.heap.size w w' := by
 have hG := Gr.refl [] w
 refine At.enter (N := 101) Tryz.func10 rfl rfl (by simp) [(0, .int .i64 n0), (1, .int .i64 v0)] (by simp) ?_
 refine .seq (.region (.assign rfl rfl (.ops0 (.thenN (.seq (.region ?_))))))
 refine At.call en11 rfl rfl (shown_any _ (cell_keep hm hG.base)) (fun e w1 hR => ?_)
 obtain ⟨rfl, hbl1⟩ := hR
 refine ⟨_, rfl, ?_⟩
 replace hG := hG.below hbl1
 refine .assign rfl rfl (.ops0 (.thenN (.seq (.region (.move rfl rfl (.andI rfl rfl rfl (.remI rfl rfl (by omega) rfl ?_)))))))
 obtain ⟨nq1, hnq1, lnq1⟩ := and_mod n0 (k := 61) (by decide)
 refine .set (d := 14) (u := .int .i64 (nq1 : Int)) rfl (congrArg (Value.int .i64) hnq1) (.assign rfl rfl (.ops0 (.thenN (.seq (.region ?_)))))
 refine At.call en19 rfl rfl (varL_any (M := []) (nc := 0) (⟨#[120]⟩ : ByteArray) _ (MLt.nil _)) (fun e w2 hR => ?_)
 obtain ⟨q1, rfl, hT1, hbl2⟩ := hR; refine ⟨_, rfl, ?_⟩
 replace hG := hG.below hbl2
 refine At.alloc ze31 rfl (fun b1 w3 F1 => ?_)
 have gb1 := Nat.le_trans hG.size (Nat.le_of_eq F1.eq.symm)
 have hb1 : w3.heap[b1]? = some (.cells #[zI, zI, zS, zS, zI, zN, zN, zI, zS, zI, zN, zN, zI, zN, zI, zI, zS, zI, zN, zN, zI] 31) := F1.new
 replace hG := hG.below F1.bel
 replace hT1 := hT1.gr (Gr.add F1) (Nat.le_refl _)
 refine At.storeAll rfl rfl hb1 (sz31.trans (congrArg some hT1.1.one.size.symm)) hT1.1.one.size.symm hT1.1.one.one (fun w4 S1 => ?_)
 replace hb1 : w4.heap[b1]? = some (.cells q1.cs 31) := S1.new
 replace hG := hG.set S1 (.inr gb1)
 replace hT1 := hT1.gr ((Gr.refl _ _).set S1 (.inl (by simp))) (Nat.le_refl _)
 refine .ops0 (.thenN (.seq (.seq (.region (.assign rfl rfl (.ops0 (.thenN (.block ?_))))))))
 refine At.loop (Nat × Tm) (fun (i, t) => [(0, .int .i64 (nq1 : Int)), (1, .int .i64 v0), (5, .bool true), (6, .pointer (some ⟨b1, 0, none⟩)), (7, .int .i64 (i : Int))]) (fun (i, t) w5 => Gr [] w [] w5 ∧ w5.heap[b1]? = some (.cells t.cs 31) ∧ TT [some b1] w5 t (lgT i) ∧ (i ≤ nq1)) (fun (i, t) => nq1 - i) (0, q1) (Sub.cons rfl (Sub.cons rfl (Sub.cons rfl (Sub.cons rfl (Sub.cons rfl Sub.nil))))) ⟨hG, hb1, (hT1), (Nat.zero_le _)⟩ (fun gh w5 hI => ?_)
 obtain ⟨i, t⟩ := gh
 obtain ⟨hG, hb1, hT, hiq⟩ := hI
 show At _ _ [(0, .int .i64 (nq1 : Int)), (1, .int .i64 v0), (5, .bool true), (6, .pointer (some ⟨b1, 0, none⟩)), (7, .int .i64 (i : Int))] _ _
 refine .seq (.seq (.region (.move rfl rfl (.move rfl rfl (.lss rfl rfl rfl (.ops0 (.thenN ?_)))))))
 refine At.cond (b := decide ((i : Int) < (nq1 : Int))) rfl (fun hc1 => ?_) (fun hc1 => ?_)
 ·skip
  have hc1' := of_decide_eq_true hc1
  refine .skip (.thenN (.seq (.block (.drawG (n := 7) mixed (by kernel_rfl) rfl (PanicOk.block (PanicOk.then (PanicOk.then (PanicOk.block (PanicOk.then PanicOk.body))))) ?_))))
  replace hG := hG.drew
  replace hT := hT.gr (Gr.refl _ _).drew (Nat.le_refl _)
  have hb1 : _ := (show w5.drew.heap[b1]? = _ from hb1)
  refine .wpcS (i := 4) (d := 25) (.agg t.cs) (by kernel_rfl) rfl rfl rfl (fun Lx => .load rfl (Ld.own ag31 (sz31.trans (congrArg some hT.1.one.size.symm)) hb1) rfl (.ops0 fun a ha => ⟨ha, rfl⟩)) ?_
  refine At.wpcE [0] (by kernel_rfl) (by kernel_rfl) (.cons [4] rfl (by kernel_rfl) ?_ .nil)
  refine At.call en19 rfl rfl (varL_any (M := (some b1 :: [])) (nc := 0) (⟨#[120]⟩ : ByteArray) _ (MLt.blk hb1 (MLt.nil _))) (fun e w6 hR => ?_)
  obtain ⟨q2, rfl, hT2, hbl3⟩ := hR; refine ⟨_, rfl, ?_⟩
  replace hb1 := Below.old hbl3 hb1
  replace hG := hG.below hbl3
  replace hT := hT.gr (Gr.of hbl3 _) (Nat.le_refl _)
  refine .ops0 ?_
  refine At.wpcN (.cons rfl rfl rfl rfl (fun Lx => ?_) .nil) ?_
  ·skip
   exact .load rfl (Ld.own ag31 (sz31.trans (congrArg some hT.1.one.size.symm)) hb1) rfl (.ops0 fun a ha => ⟨ha, rfl⟩)
  refine At.wpcE [1] (by kernel_rfl) (by kernel_rfl) (.cons [4] rfl (by kernel_rfl) ?_ .nil)
  refine At.call en19 rfl rfl (varL_any (M := (some b1 :: [])) (nc := 0) (⟨#[120]⟩ : ByteArray) _ (MLt.blk hb1 (MLt.nil _))) (fun e w7 hR => ?_)
  obtain ⟨q3, rfl, hT3, hbl4⟩ := hR; refine ⟨_, rfl, ?_⟩
  replace hb1 := Below.old hbl4 hb1
  replace hG := hG.below hbl4
  replace hT := hT.gr (Gr.of hbl4 _) (Nat.le_refl _)
  replace hT2 := hT2.gr (Gr.of hbl4 _) (Nat.le_refl _)
  refine .ops0 ?_
  refine At.wpcN (.cons rfl rfl rfl rfl (fun Lx => ?_) .nil) ?_
  ·skip
   exact .load rfl (Ld.own ag31 (sz31.trans (congrArg some hT.1.one.size.symm)) hb1) rfl (.ops0 fun a ha => ⟨ha, rfl⟩)
  refine At.wpcE [2] (by kernel_rfl) (by kernel_rfl) (.cons [4] rfl (by kernel_rfl) ?_ .nil)
  refine At.buildSlice (xs := [.tmp 21, .tmp 22]) rfl rfl el22 sz31 ze31 (by intro v hv; simp only [List.mem_cons, List.not_mem_nil, or_false] at hv; rcases hv with rfl | rfl <;> first | exact hT2.1.one.size | exact hT3.1.one.size) rfl (by decide) rfl (fun b2 w8 F2 => ?_)
  have hL2 := TL.two hT2 hT3 F2 (MLt.blk hb1 (MLt.nil _))
  replace hb1 := F2.old hb1
  replace hG := hG.below F2.bel
  replace hT := hT.gr (Gr.of F2.bel _) (Nat.le_refl _)
  refine .ops0 ?_
  refine At.wpcN (.cons rfl rfl rfl rfl (fun Lx => ?_) .nil) ?_
  ·skip
   exact .load rfl (Ld.own ag31 (sz31.trans (congrArg some hT.1.one.size.symm)) hb1) rfl (.ops0 fun a ha => ⟨ha, rfl⟩)
  refine .wpcS (i := 3) (d := 24) (.agg #[.int .i64 11, zI, .string (⟨#[80]⟩ : ByteArray), zS, zI, .slice (some ⟨b2, 0, none⟩) 2 2, zN, zI, zS, zI, zN, zN, zI, zN, zI, zI, zS, zI, zN, zN, zI]) (by kernel_rfl) rfl rfl rfl (fun Lx => .build (C := #[.int .i64 11, zI, .string (⟨#[80]⟩ : ByteArray), zS, zI, .slice (some ⟨b2, 0, none⟩) 2 2, zN, zI, zS, zI, zN, zN, zI, zN, zI, zI, zS, zI, zN, zN, zI]) sd31 ze31 rfl (Bld.cons fo31_0 rfl (by first | decide | exact Nat.le_of_ble_eq_true rfl) (Bld.cons fo31_2 rfl (by first | decide | exact Nat.le_of_ble_eq_true rfl) (Bld.cons fo31_5 rfl (by first | decide | exact Nat.le_of_ble_eq_true rfl) (Bld.nil _)))) rfl (.ops0 fun a ha => ⟨ha, rfl⟩)) ?_
  refine At.wpcE [5] (by kernel_rfl) (by kernel_rfl) (.cons [] rfl (by kernel_rfl) ?_ .nil)
  obtain ⟨q4, et4, hT4⟩ := TT.made (M := (some b1 :: [])) (w := w8) 11 0 (⟨#[80]⟩ : ByteArray) eB 0 hL2 TAL.nil
  refine .set (d := 24) (u := .agg q4.cs) rfl (congrArg Value.agg et4) ?_
  refine At.call en17 rfl rfl (letL_any (M := (some b1 :: [])) (nc := 0) (⟨#[120]⟩ : ByteArray) _ (MLt.blk hb1 (MLt.nil _)) hT4 hT) (fun e w9 hR => ?_)
  obtain ⟨q5, rfl, hT5, hbl5⟩ := hR; refine ⟨_, rfl, ?_⟩
  replace hb1 := Below.old hbl5 hb1
  replace hG := hG.below hbl5
  replace hT := hT.gr (Gr.of hbl5 _) (Nat.le_refl _)
  refine .ops0 (.wpcN .nil ?_)
  refine At.wpcE [6] (by kernel_rfl) (by kernel_rfl) (.cons [] rfl (by kernel_rfl) ?_ .nil)
  refine At.storeAll rfl rfl hb1 (sz31.trans (congrArg some hT5.1.one.size.symm)) (hT.1.one.size.trans hT5.1.one.size.symm) hT5.1.one.one (fun w10 S2 => ?_)
  replace hb1 : w10.heap[b1]? = some (.cells q5.cs 31) := S2.new
  replace hG := hG.set S2 (.inr gb1)
  replace hT5 := hT5.gr ((Gr.refl _ _).set S2 (.inl (by simp))) (Nat.le_refl _)
  refine .ops0 (.wpcN .nil (.wpcZ (.inN (.thenN (.region (.move rfl rfl (.addI rfl rfl rfl (by omega) (.assign rfl rfl (.ops0 (.thenN ?_))))))))))
  exact fun act_ hact_ => ⟨((i + 1), q5), hact_.sub (Sub.cons rfl (Sub.cons rfl (Sub.cons rfl (Sub.cons rfl (Sub.cons rfl Sub.nil))))), ⟨hG, hb1, hT5, (by omega)⟩, by first | omega | (dsimp only; omega)⟩
 have hc1' := of_decide_eq_false hc1
 refine .exit (.thenE (.thenE (.inE (.thenN (.seq (.drawG (n := 8) mixed (by kernel_rfl) rfl (PanicOk.then PanicOk.body) ?_))))))
 replace hG := hG.drew
 replace hT := hT.gr (Gr.refl _ _).drew (Nat.le_refl _)
 have hb1 : _ := (show w5.drew.heap[b1]? = _ from hb1)
 refine .wpcS (i := 0) (d := 27) (.int .i64 v0) (by kernel_rfl) rfl rfl rfl (fun Lx => .move rfl rfl (.ops0 fun a ha => ⟨ha, rfl⟩)) ?_
 refine .wpcS (i := 2) (d := 29) (.agg t.cs) (by kernel_rfl) rfl rfl rfl (fun Lx => .load rfl (Ld.own ag31 (sz31.trans (congrArg some hT.1.one.size.symm)) hb1) rfl (.ops0 fun a ha => ⟨ha, rfl⟩)) ?_
 refine At.wpcE [1, 6] (by kernel_rfl) (by kernel_rfl) (.cons [2] rfl (by kernel_rfl) ?_ (.cons [0, 2] rfl (by kernel_rfl) ?_ .nil))
 ·skip
  refine At.call en20 rfl rfl (numL_any (M := (some b1 :: [])) (nc := 0) v0 _ (MLt.blk hb1 (MLt.nil _))) (fun e w11 hR => ?_)
  obtain ⟨q6, rfl, hT6, hbl6⟩ := hR; refine ⟨_, rfl, ?_⟩
  replace hb1 := Below.old hbl6 hb1
  replace hG := hG.below hbl6
  replace hT := hT.gr (Gr.of hbl6 _) (Nat.le_refl _)
  refine .ops0 ?_
  refine At.wpcN (.cons rfl rfl rfl rfl (fun Lx => ?_) .nil) ?_
  ·skip
   exact .load rfl (Ld.own ag31 (sz31.trans (congrArg some hT.1.one.size.symm)) hb1) rfl (.ops0 fun a ha => ⟨ha, rfl⟩)
  refine At.wpcE [3, 6] (by kernel_rfl) (by kernel_rfl) (.cons [] rfl (by kernel_rfl) ?_ (.cons [2] rfl (by kernel_rfl) ?_ .nil))
  ·skip
   refine At.call en17 rfl rfl (letL_any (M := (some b1 :: [])) (nc := 0) (⟨#[120]⟩ : ByteArray) _ (MLt.blk hb1 (MLt.nil _)) hT6 hT) (fun e w12 hR => ?_)
   obtain ⟨q7, rfl, hT7, hbl7⟩ := hR; refine ⟨_, rfl, ?_⟩
   replace hb1 := Below.old hbl7 hb1
   replace hG := hG.below hbl7
   refine .ops0 (.wpcN .nil ?_)
   refine .wpcS (i := 4) (d := 31) (.agg (mx [zN, zN] q7.cs [])) (by kernel_rfl) rfl rfl rfl (fun Lx => .build (C := (mx [zN, zN] q7.cs [])) sd38 ze38 rfl (Bld.mxT (pre := [zN, zN]) (post := []) fo38_2 hT7.1.one.size (Nat.le_of_ble_eq_true rfl) rfl rfl (Bld.nil _)) rfl (.ops0 fun a ha => ⟨ha, rfl⟩)) ?_
   refine At.wpcE [5, 6] (by kernel_rfl) (by kernel_rfl) (.cons [] rfl (by kernel_rfl) ?_ (.cons [4] rfl (by kernel_rfl) ?_ .nil))
   ·skip
    have hie : i = nq1 := by have := of_decide_eq_false hc1; omega
    rw [hie] at hT7
    obtain ⟨R, hRR⟩ : ∃ R, runR (tLet nmX (tI v0) (lgT nq1)) [] 1500 = R := ⟨_, rfl⟩; have hrd := (large_run v0 (n := nq1) (by omega)).2; rw [hRR] at hrd; obtain ⟨hr1, hr2⟩ := hrd; rw [shw_pv] at hr2
    refine At.call en14 rfl rfl (run_any (E := (some b1 :: [])) (l := []) 1500 _ ((SlOk.nil)).one ((SlOk.nil)).one hT7.1 (MLt.blk hb1 (MLt.nil _)) (RowsAt.nil _ 1) (by decide) (by decide) (by rw [hT7.2]; exact (large_run v0 (by omega)).1)) (fun e w13 hR => ?_)
    obtain ⟨cs, rfl, hra, hbl8⟩ := hR; refine ⟨_, rfl, ?_⟩; rw [hT7.2] at hra; rw [hRR] at hra
    replace hb1 := Below.old hbl8 hb1
    replace hG := hG.below hbl8
    obtain ⟨rk1, rn1, rm1, rv1, rt1, rfl, ho1, hi1, hz1⟩ := hra; replace ho1 : TO (some b1 :: []) w13 rk1 rn1 rm1 rv1 R.v := ho1; replace hi1 : TI (some b1 :: []) w13 rt1 R.tr := ⟨hi1, hz1⟩
    rw [hr2] at ho1
    refine .ops0 (.wpcN .nil ?_)
    refine At.wpcE [6] (by kernel_rfl) (by kernel_rfl) (.cons [] rfl (by kernel_rfl) ?_ .nil)
    refine At.alloc ze49 rfl (fun b3 w14 F3 => ?_)
    have n_b1_b3 : b1 ≠ b3 := Nat.ne_of_lt (F3.lt hb1)
    have gb3 := Nat.le_trans hG.size (Nat.le_of_eq F3.eq.symm)
    replace hb1 := F3.old hb1
    have hb3 : w14.heap[b3]? = some (.cells #[zI, zI, zI, zS, zN, zN, zI, zI] 49) := F3.new
    replace hG := hG.below F3.bel
    replace ho1 := ho1.gr (Gr.add F3) (Nat.le_refl _)
    replace hi1 := hi1.gr (Gr.add F3) (Nat.le_refl _)
    refine .ops0 (.wpcN .nil ?_)
    refine At.wpcE [7] (by kernel_rfl) (by kernel_rfl) (.cons [] rfl (by kernel_rfl) ?_ .nil)
    refine At.storeAll rfl rfl hb3 sz49 rfl (by first | (simp [Value.oneCell', (OAt.one ho1), hi1.1.ok.one]; done) | (simp only [List.all_toArray, List.all_cons, List.all_nil, (OAt.one ho1), hi1.1.ok.one, Bool.and_true, Bool.true_and] <;> rfl)) (fun w15 S3 => ?_)
    replace hb1 := S3.other hb1 n_b1_b3
    replace hb3 : w15.heap[b3]? = some (.cells #[.int .i64 R.ok, .int .i64 rk1, .int .i64 rn1, .string rm1, rv1, rt1, .int .i64 R.st, .int .i64 R.kn] 49) := S3.new
    replace hG := hG.set S3 (.inr gb3)
    replace ho1 := ho1.gr ((Gr.refl _ _).set S3 (.inl (by simp))) (Nat.le_refl _)
    refine .ops0 (.wpcN .nil (.wpcZ (.thenN (.seq (.seq (.region (.fieldAddr rfl fo49_0 rfl (.fieldAddr rfl fo47_0 rfl (.load rfl (Ld.ownCell ag3 hb3 rfl) rfl (.neI rfl rfl rfl (.set (d := 36) (u := .bool false) rfl (congrArg Value.bool (by rw [hr1]; rfl)) (.ops0 (.thenN (.condF rfl (.skip (.thenN (.seq (.region (.fieldAddr rfl fo49_0 rfl (.fieldAddr rfl fo47_1 rfl (.load rfl (Ld.ownPart (n := 4) (cs := #[.int .i64 rk1, .int .i64 rn1, .string rm1, rv1]) ag45 sz45 hb3 rfl) rfl ?_)))))))))))))))))))))
    refine At.alloc ze45 rfl (fun b4 w16 F4 => ?_)
    have n_b1_b4 : b1 ≠ b4 := Nat.ne_of_lt (F4.lt hb1)
    have n_b3_b4 : b3 ≠ b4 := Nat.ne_of_lt (F4.lt hb3)
    have gb4 := Nat.le_trans hG.size (Nat.le_of_eq F4.eq.symm)
    replace hb1 := F4.old hb1
    replace hb3 := F4.old hb3
    have hb4 : w16.heap[b4]? = some (.cells #[zI, zI, zS, zN] 45) := F4.new
    replace hG := hG.below F4.bel
    replace ho1 := ho1.gr (Gr.add F4) (Nat.le_refl _)
    refine At.storeAll rfl rfl hb4 sz45 rfl (by first | (simp [Value.oneCell', (OAt.one ho1)]; done) | (simp only [List.all_toArray, List.all_cons, List.all_nil, (OAt.one ho1), Bool.and_true, Bool.true_and] <;> rfl)) (fun w17 S4 => ?_)
    replace hb1 := S4.other hb1 n_b1_b4
    replace hb3 := S4.other hb3 n_b3_b4
    replace hb4 : w17.heap[b4]? = some (.cells #[.int .i64 rk1, .int .i64 rn1, .string rm1, rv1] 45) := S4.new
    replace hG := hG.set S4 (.inr gb4)
    replace ho1 := ho1.gr ((Gr.refl _ _).set S4 (.inl (by simp))) (Nat.le_refl _)
    refine .ops0 (.thenN (.seq (.seq (.region (.move rfl rfl (.eqI rfl rfl rfl (.ops0 (.thenN ?_))))))))
    refine At.cond (b := decide ((nq1 : Int) = 0)) rfl (fun hc2 => ?_) (fun hc2 => ?_)
    ·skip
     have hc2' := of_decide_eq_true hc2
     refine .seq (.region ?_)
     refine At.join [(4, .bool true)] (fun w' => w17 = w') ?_ (fun w18 hS => ?_)
     ·skip
      have hz : nq1 = 0 := by have := of_decide_eq_true hc2; omega
      rw [hz] at ho1; obtain ⟨hk9, hn9, _⟩ := TO.is (show TO _ _ rk1 rn1 rm1 rv1 (.mk 1 v0 eB []) from ho1)
      refine .move rfl rfl (.move rfl rfl (.yes rfl rfl rfl rfl (.fieldAddr rfl fo45_0 rfl (.yes rfl rfl rfl rfl (.load rfl (Ld.ownCell ag3 hb4 rfl) rfl (.yes rfl rfl rfl rfl (.eqI rfl rfl rfl (.set (d := 46) (u := .bool true) rfl (congrArg Value.bool (decide_eq_true hk9)) (.pickT rfl rfl rfl (.move rfl rfl (.yes rfl rfl rfl rfl (.fieldAddr rfl fo45_1 rfl (.yes rfl rfl rfl rfl (.load rfl (Ld.ownCell ag3 hb4 rfl) rfl (.yes rfl rfl rfl rfl (.move rfl rfl (.yes rfl rfl rfl rfl (.eqI rfl rfl rfl (.set (d := 52) (u := .bool true) rfl (congrArg Value.bool (decide_eq_true hn9)) (.pickT rfl rfl rfl (.assign rfl rfl ?_)))))))))))))))))))))
      exact At.joined (Sub.cons rfl Sub.nil) rfl
     subst hS
     refine .thenN (.retc (.thenR (.doneR (ResV.tmp rfl ResV.nil) ?_)))
     exact ⟨rfl, hG.base⟩
    have hc2' := of_decide_eq_false hc2
    refine .skip (.thenN (.seq (.seq (.region ?_))))
    refine At.join [(0, .int .i64 (nq1 : Int)), (1, .int .i64 v0), (5, .bool true), (9, .pointer (some ⟨b4, 0, none⟩)), (61, .bool false)] (fun w' => w17 = w') ?_ (fun w19 hS => ?_)
    ·skip
     obtain ⟨p, hp⟩ : ∃ p, nq1 = p + 1 := ⟨nq1 - 1, by have := of_decide_eq_false hc2; omega⟩
     obtain ⟨hk9, hm9⟩ : rk1 = 4 ∧ rm1 = nmP := by rw [hp] at ho1; cases hq : decide (p + 1 < 13) with | true => rw [hq] at ho1; have q := TO.is (show TO _ _ rk1 rn1 rm1 rv1 (.mk 4 0 nmP [ovp v0 p, ovp v0 p]) from ho1); exact ⟨q.1, q.2.2.1⟩ | false => rw [hq] at ho1; have q := TO.is (show TO _ _ rk1 rn1 rm1 rv1 (.mk 4 0 nmP []) from ho1); exact ⟨q.1, q.2.2.1⟩
     refine .fieldAddr rfl fo45_0 rfl (.load rfl (Ld.ownCell ag3 hb4 rfl) rfl (.neI rfl rfl rfl (.set (d := 56) (u := .bool false) rfl (congrArg Value.bool (by rw [hk9]; rfl)) (.move rfl rfl (.yes rfl rfl rfl rfl (.fieldAddr rfl fo45_2 rfl (.yes rfl rfl rfl rfl (.load rfl (Ld.ownCell ag9 hb4 rfl) rfl (.yes rfl rfl rfl rfl (.neS rfl rfl rfl (.set (d := 60) (u := .bool false) rfl (congrArg Value.bool (by rw [hm9]; rfl)) (.pickF rfl rfl rfl ?_))))))))))))
     exact At.joined (Sub.cons rfl (Sub.cons rfl (Sub.cons rfl (Sub.cons rfl (Sub.cons rfl Sub.nil))))) rfl
    subst hS
    refine .thenN (.condF rfl (.skip (.thenN (.seq (.seq (.region (.move rfl rfl (.geq rfl rfl rfl (.ops0 (.thenN ?_))))))))))
    refine At.cond (b := decide (13 ≤ (nq1 : Int))) rfl (fun hc3 => ?_) (fun hc3 => ?_)
    ·skip
     have hc3' := of_decide_eq_true hc3
     refine .seq (.region ?_)
     refine At.join [(4, .bool true)] (fun w' => w17 = w') ?_ (fun w20 hS => ?_)
     ·skip
      have h13 : decide (nq1 < 13) = false := decide_eq_false (by have := of_decide_eq_true hc3; omega)
      rw [h13] at ho1; obtain ⟨_, _, _, rows, hrw, hsn, _⟩ := TO.is (show TO _ _ rk1 rn1 rm1 rv1 (.mk 4 0 nmP []) from ho1); have hrl : rows = [] := List.map_eq_nil_iff.1 hsn; subst hrl
      refine .move rfl rfl (.move rfl rfl (.yes rfl rfl rfl rfl (.fieldAddr rfl fo45_3 rfl (.yes rfl rfl rfl rfl (.load rfl (Ld.ownCell ag43 hb4 rfl) rfl (.yes rfl rfl rfl rfl (.lenSl (n := 0) rfl hrw.ok el43 rfl (.yes rfl rfl rfl rfl (.eqI rfl rfl rfl (.set (d := 69) (u := .bool true) rfl (congrArg Value.bool rfl) (.pickT rfl rfl rfl (.assign rfl rfl ?_))))))))))))
      exact At.joined (Sub.cons rfl Sub.nil) rfl
     subst hS
     refine .thenN (.retc (.thenR (.doneR (ResV.tmp rfl ResV.nil) ?_)))
     exact ⟨rfl, hG.base⟩
    have hc3' := of_decide_eq_false hc3
    refine .skip (.thenN (.seq (.seq (.region (.assign rfl rfl (.ops0 (.thenN (.block ?_))))))))
    have ho9 := ho1; rw [show decide (nq1 < 13) = true from decide_eq_true (by have := of_decide_eq_false hc3; omega)] at ho9; replace ho9 : TO _ _ rk1 rn1 rm1 rv1 (ovp v0 (nq1 - 0)) := ho9
    refine At.loop (Nat × Int × Int × ByteArray × Value) (fun (i, k9, n9, m9, v9) => [(0, .int .i64 (nq1 : Int)), (1, .int .i64 v0), (5, .bool true), (9, .pointer (some ⟨b4, 0, none⟩)), (10, .int .i64 (i : Int))]) (fun (i, k9, n9, m9, v9) w21 => Gr [] w [] w21 ∧ w21.heap[b1]? = some (.cells t.cs 31) ∧ w21.heap[b3]? = some (.cells #[.int .i64 R.ok, .int .i64 rk1, .int .i64 rn1, .string rm1, rv1, rt1, .int .i64 R.st, .int .i64 R.kn] 49) ∧ w21.heap[b4]? = some (.cells #[.int .i64 k9, .int .i64 n9, .string m9, v9] 45) ∧ TO (some b4 :: (some b3 :: (some b1 :: []))) w21 k9 n9 m9 v9 (ovp v0 (nq1 - i)) ∧ (i ≤ nq1)) (fun (i, k9, n9, m9, v9) => nq1 - i) (0, rk1, rn1, rm1, rv1) (Sub.cons rfl (Sub.cons rfl (Sub.cons rfl (Sub.cons rfl (Sub.cons rfl Sub.nil))))) ⟨hG, hb1, hb3, hb4, (ho9), (Nat.zero_le _)⟩ (fun gh w21 hI => ?_)
    obtain ⟨i, k9, n9, m9, v9⟩ := gh
    obtain ⟨hG, hb1, hb3, hb4, ho9, hiq⟩ := hI
    show At _ _ [(0, .int .i64 (nq1 : Int)), (1, .int .i64 v0), (5, .bool true), (9, .pointer (some ⟨b4, 0, none⟩)), (10, .int .i64 (i : Int))] _ _
    refine .seq (.seq (.region (.move rfl rfl (.move rfl rfl (.lss rfl rfl rfl (.ops0 (.thenN ?_)))))))
    refine At.cond (b := decide ((i : Int) < (nq1 : Int))) rfl (fun hc4 => ?_) (fun hc4 => ?_)
    ·skip
     have hc4' := of_decide_eq_true hc4
     refine .skip (.thenN (.seq (.block (.seq (.seq (.region ?_))))))
     refine At.join [(0, .int .i64 (nq1 : Int)), (1, .int .i64 v0), (5, .bool true), (9, .pointer (some ⟨b4, 0, none⟩)), (10, .int .i64 (i : Int)), (84, .bool false)] (fun w' => w21 = w') ?_ (fun w22 hS => ?_)
     ·skip
      obtain ⟨p, hp⟩ : ∃ p, nq1 - i = p + 1 := ⟨nq1 - i - 1, by have := of_decide_eq_true hc4; omega⟩
      rw [hp] at ho9; obtain ⟨hk9, _, _, rows, hrw, hsn, hall⟩ := TO.is (show TO _ _ k9 n9 m9 v9 (.mk 4 0 nmP [ovp v0 p, ovp v0 p]) from ho9)
      obtain ⟨a1, a2, rfl⟩ : ∃ a1 a2, rows = [a1, a2] := two_of hsn
      refine .fieldAddr rfl fo45_0 rfl (.load rfl (Ld.ownCell ag3 hb4 rfl) rfl (.neI rfl rfl rfl (.set (d := 78) (u := .bool false) rfl (congrArg Value.bool (by rw [hk9]; rfl)) (.move rfl rfl (.yes rfl rfl rfl rfl (.fieldAddr rfl fo45_3 rfl (.yes rfl rfl rfl rfl (.load rfl (Ld.ownCell ag43 hb4 rfl) rfl (.yes rfl rfl rfl rfl (.lenSl (n := 2) rfl hrw.ok el43 rfl (.yes rfl rfl rfl rfl (.neI rfl rfl rfl (.set (d := 83) (u := .bool false) rfl (congrArg Value.bool rfl) (.pickF rfl rfl rfl ?_))))))))))))))
      exact At.joined (Sub.cons rfl (Sub.cons rfl (Sub.cons rfl (Sub.cons rfl (Sub.cons rfl (Sub.cons rfl Sub.nil)))))) rfl
     subst hS
     refine .thenN (.condF rfl (.skip (.thenN (.region ?_))))
     obtain ⟨p, hp⟩ : ∃ p, nq1 - i = p + 1 := ⟨nq1 - i - 1, by have := of_decide_eq_true hc4; omega⟩
     rw [hp] at ho9; obtain ⟨hk9, _, _, rows, hrw, hsn, hall⟩ := TO.is (show TO _ _ k9 n9 m9 v9 (.mk 4 0 nmP [ovp v0 p, ovp v0 p]) from ho9)
     obtain ⟨a1, a2, rfl⟩ : ∃ a1 a2, rows = [a1, a2] := two_of hsn
     obtain ⟨k8, n8, m8, v8, eu, h8⟩ := hall a2 (by simp); have hu : [a1, a2][1]? = some a2 := rfl; have e8 : a2.2 = ovp v0 p := by simp at hsn; exact hsn.2
     rw [e8] at h8
     refine .fieldAddr rfl fo45_3 rfl (.load rfl (Ld.ownCell ag43 hb4 rfl) rfl (.indexAddr (i := 1) rfl rfl hrw.ok (by simp) el43 sz45 rfl (.load rfl (Ld.row (cs := (V4 k8 n8 m8 v8).toArray) ag45 sz45 (by have q := hrw.row hu; simp only [eu] at q; exact q)) rfl ?_)))
     refine At.storeAll rfl rfl hb4 sz45 rfl (by first | (simp [Value.oneCell', h8.one]; done) | (simp only [List.all_toArray, List.all_cons, List.all_nil, h8.one, Bool.and_true, Bool.true_and] <;> rfl)) (fun w23 S5 => ?_)
     replace hb1 := S5.other hb1 n_b1_b4
     replace hb3 := S5.other hb3 n_b3_b4
     replace hb4 : w23.heap[b4]? = some (.cells #[.int .i64 k8, .int .i64 n8, .string m8, v8] 45) := S5.new
     replace hG := hG.set S5 (.inr gb4)
     replace h8 := h8.gr ((Gr.refl _ _).set S5 (.inl (by simp))) (Nat.le_refl _)
     refine .ops0 (.inN (.thenN (.region (.move rfl rfl (.addI rfl rfl rfl (by omega) (.assign rfl rfl (.ops0 (.thenN ?_))))))))
     exact fun act_ hact_ => ⟨((i + 1), k8, n8, m8, v8), hact_.sub (Sub.cons rfl (Sub.cons rfl (Sub.cons rfl (Sub.cons rfl (Sub.cons rfl Sub.nil))))), ⟨hG, hb1, hb3, hb4, (by rw [show nq1 - (i + 1) = p by omega]; exact h8), (by omega)⟩, by first | omega | (dsimp only; omega)⟩
    have hc4' := of_decide_eq_false hc4
    refine .exit (.thenE (.thenE (.inE (.thenN (.seq (.region ?_))))))
    refine At.join [(4, .bool true)] (fun w' => w21 = w') ?_ (fun w24 hS => ?_)
    ·skip
     have hie2 : nq1 - i = 0 := by have := of_decide_eq_false hc4; omega
     rw [hie2] at ho9; obtain ⟨hk9, hn9, _⟩ := TO.is (show TO _ _ k9 n9 m9 v9 (.mk 1 v0 eB []) from ho9)
     refine .move rfl rfl (.move rfl rfl (.yes rfl rfl rfl rfl (.fieldAddr rfl fo45_0 rfl (.yes rfl rfl rfl rfl (.load rfl (Ld.ownCell ag3 hb4 rfl) rfl (.yes rfl rfl rfl rfl (.eqI rfl rfl rfl (.set (d := 93) (u := .bool true) rfl (congrArg Value.bool (decide_eq_true hk9)) (.pickT rfl rfl rfl (.move rfl rfl (.yes rfl rfl rfl rfl (.fieldAddr rfl fo45_1 rfl (.yes rfl rfl rfl rfl (.load rfl (Ld.ownCell ag3 hb4 rfl) rfl (.yes rfl rfl rfl rfl (.move rfl rfl (.yes rfl rfl rfl rfl (.eqI rfl rfl rfl (.set (d := 99) (u := .bool true) rfl (congrArg Value.bool (decide_eq_true hn9)) (.pickT rfl rfl rfl (.assign rfl rfl ?_)))))))))))))))))))))
     exact At.joined (Sub.cons rfl Sub.nil) rfl
    subst hS
    refine .thenN (.retc (.doneR (ResV.tmp rfl ResV.nil) ?_))
    exact ⟨rfl, hG.base⟩
   refine At.alloc ze49 rfl (fun b5 w25 F5 => ?_)
   have n_b1_b5 : b1 ≠ b5 := Nat.ne_of_lt (F5.lt hb1)
   have gb5 := Nat.le_trans hG.size (Nat.le_of_eq F5.eq.symm)
   replace hb1 := F5.old hb1
   have hb5 : w25.heap[b5]? = some (.cells #[zI, zI, zI, zS, zN, zN, zI, zI] 49) := F5.new
   replace hG := hG.below F5.bel
   replace hT7 := hT7.gr (Gr.add F5) (Nat.le_refl _)
   refine .ops0 ?_
   refine At.wpcN (.cons rfl rfl rfl rfl (fun Lx => ?_) .nil) ?_
   ·skip
    exact .build (C := (mx [zN, zN] q7.cs [])) sd38 ze38 rfl (Bld.mxT (pre := [zN, zN]) (post := []) fo38_2 hT7.1.one.size (Nat.le_of_ble_eq_true rfl) rfl rfl (Bld.nil _)) rfl (.ops0 fun a ha => ⟨ha, rfl⟩)
   refine At.wpcE [5] (by kernel_rfl) (by kernel_rfl) (.cons [] rfl (by kernel_rfl) ?_ .nil)
   have hie : i = nq1 := by have := of_decide_eq_false hc1; omega
   rw [hie] at hT7
   obtain ⟨R, hRR⟩ : ∃ R, runR (tLet nmX (tI v0) (lgT nq1)) [] 1500 = R := ⟨_, rfl⟩; have hrd := (large_run v0 (n := nq1) (by omega)).2; rw [hRR] at hrd; obtain ⟨hr1, hr2⟩ := hrd; rw [shw_pv] at hr2
   refine At.call en14 rfl rfl (run_any (E := (some b5 :: (some b1 :: []))) (l := []) 1500 _ ((SlOk.nil)).one ((SlOk.nil)).one hT7.1 (MLt.blk hb5 (MLt.blk hb1 (MLt.nil _))) (RowsAt.nil _ 1) (by decide) (by decide) (by rw [hT7.2]; exact (large_run v0 (by omega)).1)) (fun e w26 hR => ?_)
   obtain ⟨cs, rfl, hra, hbl9⟩ := hR; refine ⟨_, rfl, ?_⟩; rw [hT7.2] at hra; rw [hRR] at hra
   replace hb1 := Below.old hbl9 hb1
   replace hb5 := Below.old hbl9 hb5
   replace hG := hG.below hbl9
   obtain ⟨rk1, rn1, rm1, rv1, rt1, rfl, ho1, hi1, hz1⟩ := hra; replace ho1 : TO (some b5 :: (some b1 :: [])) w26 rk1 rn1 rm1 rv1 R.v := ho1; replace hi1 : TI (some b5 :: (some b1 :: [])) w26 rt1 R.tr := ⟨hi1, hz1⟩
   rw [hr2] at ho1
   refine .ops0 (.wpcN .nil ?_)
   refine At.wpcE [7] (by kernel_rfl) (by kernel_rfl) (.cons [] rfl (by kernel_rfl) ?_ .nil)
   refine At.storeAll rfl rfl hb5 sz49 rfl (by first | (simp [Value.oneCell', (OAt.one ho1), hi1.1.ok.one]; done) | (simp only [List.all_toArray, List.all_cons, List.all_nil, (OAt.one ho1), hi1.1.ok.one, Bool.and_true, Bool.true_and] <;> rfl)) (fun w27 S6 => ?_)
   replace hb1 := S6.other hb1 n_b1_b5
   replace hb5 : w27.heap[b5]? = some (.cells #[.int .i64 R.ok, .int .i64 rk1, .int .i64 rn1, .string rm1, rv1, rt1, .int .i64 R.st, .int .i64 R.kn] 49) := S6.new
   replace hG := hG.set S6 (.inr gb5)
   replace ho1 := ho1.gr ((Gr.refl _ _).set S6 (.inl (by simp))) (Nat.le_refl _)
   refine .ops0 (.wpcN .nil (.wpcZ (.thenN (.seq (.seq (.region (.fieldAddr rfl fo49_0 rfl (.fieldAddr rfl fo47_0 rfl (.load rfl (Ld.ownCell ag3 hb5 rfl) rfl (.neI rfl rfl rfl (.set (d := 36) (u := .bool false) rfl (congrArg Value.bool (by rw [hr1]; rfl)) (.ops0 (.thenN (.condF rfl (.skip (.thenN (.seq (.region (.fieldAddr rfl fo49_0 rfl (.fieldAddr rfl fo47_1 rfl (.load rfl (Ld.ownPart (n := 4) (cs := #[.int .i64 rk1, .int .i64 rn1, .string rm1, rv1]) ag45 sz45 hb5 rfl) rfl ?_)))))))))))))))))))))
   refine At.alloc ze45 rfl (fun b6 w28 F6 => ?_)
   have n_b1_b6 : b1 ≠ b6 := Nat.ne_of_lt (F6.lt hb1)
   have n_b5_b6 : b5 ≠ b6 := Nat.ne_of_lt (F6.lt hb5)
   have gb6 := Nat.le_trans hG.size (Nat.le_of_eq F6.eq.symm)
   replace hb1 := F6.old hb1
   replace hb5 := F6.old hb5
   have hb6 : w28.heap[b6]? = some (.cells #[zI, zI, zS, zN] 45) := F6.new
   replace hG := hG.below F6.bel
   replace ho1 := ho1.gr (Gr.add F6) (Nat.le_refl _)
   refine At.storeAll rfl rfl hb6 sz45 rfl (by first | (simp [Value.oneCell', (OAt.one ho1)]; done) | (simp only [List.all_toArray, List.all_cons, List.all_nil, (OAt.one ho1), Bool.and_true, Bool.true_and] <;> rfl)) (fun w29 S7 => ?_)
   replace hb1 := S7.other hb1 n_b1_b6
   replace hb5 := S7.other hb5 n_b5_b6
   replace hb6 : w29.heap[b6]? = some (.cells #[.int .i64 rk1, .int .i64 rn1, .string rm1, rv1] 45) := S7.new
   replace hG := hG.set S7 (.inr gb6)
   replace ho1 := ho1.gr ((Gr.refl _ _).set S7 (.inl (by simp))) (Nat.le_refl _)
   refine .ops0 (.thenN (.seq (.seq (.region (.move rfl rfl (.eqI rfl rfl rfl (.ops0 (.thenN ?_))))))))
   refine At.cond (b := decide ((nq1 : Int) = 0)) rfl (fun hc5 => ?_) (fun hc5 => ?_)
   ·skip
    have hc5' := of_decide_eq_true hc5
    refine .seq (.region ?_)
    refine At.join [(4, .bool true)] (fun w' => w29 = w') ?_ (fun w30 hS => ?_)
    ·skip
     have hz : nq1 = 0 := by have := of_decide_eq_true hc5; omega
     rw [hz] at ho1; obtain ⟨hk9, hn9, _⟩ := TO.is (show TO _ _ rk1 rn1 rm1 rv1 (.mk 1 v0 eB []) from ho1)
     refine .move rfl rfl (.move rfl rfl (.yes rfl rfl rfl rfl (.fieldAddr rfl fo45_0 rfl (.yes rfl rfl rfl rfl (.load rfl (Ld.ownCell ag3 hb6 rfl) rfl (.yes rfl rfl rfl rfl (.eqI rfl rfl rfl (.set (d := 46) (u := .bool true) rfl (congrArg Value.bool (decide_eq_true hk9)) (.pickT rfl rfl rfl (.move rfl rfl (.yes rfl rfl rfl rfl (.fieldAddr rfl fo45_1 rfl (.yes rfl rfl rfl rfl (.load rfl (Ld.ownCell ag3 hb6 rfl) rfl (.yes rfl rfl rfl rfl (.move rfl rfl (.yes rfl rfl rfl rfl (.eqI rfl rfl rfl (.set (d := 52) (u := .bool true) rfl (congrArg Value.bool (decide_eq_true hn9)) (.pickT rfl rfl rfl (.assign rfl rfl ?_)))))))))))))))))))))
     exact At.joined (Sub.cons rfl Sub.nil) rfl
    subst hS
    refine .thenN (.retc (.thenR (.doneR (ResV.tmp rfl ResV.nil) ?_)))
    exact ⟨rfl, hG.base⟩
   have hc5' := of_decide_eq_false hc5
   refine .skip (.thenN (.seq (.seq (.region ?_))))
   refine At.join [(0, .int .i64 (nq1 : Int)), (1, .int .i64 v0), (5, .bool true), (9, .pointer (some ⟨b6, 0, none⟩)), (61, .bool false)] (fun w' => w29 = w') ?_ (fun w31 hS => ?_)
   ·skip
    obtain ⟨p, hp⟩ : ∃ p, nq1 = p + 1 := ⟨nq1 - 1, by have := of_decide_eq_false hc5; omega⟩
    obtain ⟨hk9, hm9⟩ : rk1 = 4 ∧ rm1 = nmP := by rw [hp] at ho1; cases hq : decide (p + 1 < 13) with | true => rw [hq] at ho1; have q := TO.is (show TO _ _ rk1 rn1 rm1 rv1 (.mk 4 0 nmP [ovp v0 p, ovp v0 p]) from ho1); exact ⟨q.1, q.2.2.1⟩ | false => rw [hq] at ho1; have q := TO.is (show TO _ _ rk1 rn1 rm1 rv1 (.mk 4 0 nmP []) from ho1); exact ⟨q.1, q.2.2.1⟩
    refine .fieldAddr rfl fo45_0 rfl (.load rfl (Ld.ownCell ag3 hb6 rfl) rfl (.neI rfl rfl rfl (.set (d := 56) (u := .bool false) rfl (congrArg Value.bool (by rw [hk9]; rfl)) (.move rfl rfl (.yes rfl rfl rfl rfl (.fieldAddr rfl fo45_2 rfl (.yes rfl rfl rfl rfl (.load rfl (Ld.ownCell ag9 hb6 rfl) rfl (.yes rfl rfl rfl rfl (.neS rfl rfl rfl (.set (d := 60) (u := .bool false) rfl (congrArg Value.bool (by rw [hm9]; rfl)) (.pickF rfl rfl rfl ?_))))))))))))
    exact At.joined (Sub.cons rfl (Sub.cons rfl (Sub.cons rfl (Sub.cons rfl (Sub.cons rfl Sub.nil))))) rfl
   subst hS
   refine .thenN (.condF rfl (.skip (.thenN (.seq (.seq (.region (.move rfl rfl (.geq rfl rfl rfl (.ops0 (.thenN ?_))))))))))
   refine At.cond (b := decide (13 ≤ (nq1 : Int))) rfl (fun hc6 => ?_) (fun hc6 => ?_)
   ·skip
    have hc6' := of_decide_eq_true hc6
    refine .seq (.region ?_)
    refine At.join [(4, .bool true)] (fun w' => w29 = w') ?_ (fun w32 hS => ?_)
    ·skip
     have h13 : decide (nq1 < 13) = false := decide_eq_false (by have := of_decide_eq_true hc6; omega)
     rw [h13] at ho1; obtain ⟨_, _, _, rows, hrw, hsn, _⟩ := TO.is (show TO _ _ rk1 rn1 rm1 rv1 (.mk 4 0 nmP []) from ho1); have hrl : rows = [] := List.map_eq_nil_iff.1 hsn; subst hrl
     refine .move rfl rfl (.move rfl rfl (.yes rfl rfl rfl rfl (.fieldAddr rfl fo45_3 rfl (.yes rfl rfl rfl rfl (.load rfl (Ld.ownCell ag43 hb6 rfl) rfl (.yes rfl rfl rfl rfl (.lenSl (n := 0) rfl hrw.ok el43 rfl (.yes rfl rfl rfl rfl (.eqI rfl rfl rfl (.set (d := 69) (u := .bool true) rfl (congrArg Value.bool rfl) (.pickT rfl rfl rfl (.assign rfl rfl ?_))))))))))))
     exact At.joined (Sub.cons rfl Sub.nil) rfl
    subst hS
    refine .thenN (.retc (.thenR (.doneR (ResV.tmp rfl ResV.nil) ?_)))
    exact ⟨rfl, hG.base⟩
   have hc6' := of_decide_eq_false hc6
   refine .skip (.thenN (.seq (.seq (.region (.assign rfl rfl (.ops0 (.thenN (.block ?_))))))))
   have ho9 := ho1; rw [show decide (nq1 < 13) = true from decide_eq_true (by have := of_decide_eq_false hc6; omega)] at ho9; replace ho9 : TO _ _ rk1 rn1 rm1 rv1 (ovp v0 (nq1 - 0)) := ho9
   refine At.loop (Nat × Int × Int × ByteArray × Value) (fun (i, k9, n9, m9, v9) => [(0, .int .i64 (nq1 : Int)), (1, .int .i64 v0), (5, .bool true), (9, .pointer (some ⟨b6, 0, none⟩)), (10, .int .i64 (i : Int))]) (fun (i, k9, n9, m9, v9) w33 => Gr [] w [] w33 ∧ w33.heap[b1]? = some (.cells t.cs 31) ∧ w33.heap[b5]? = some (.cells #[.int .i64 R.ok, .int .i64 rk1, .int .i64 rn1, .string rm1, rv1, rt1, .int .i64 R.st, .int .i64 R.kn] 49) ∧ w33.heap[b6]? = some (.cells #[.int .i64 k9, .int .i64 n9, .string m9, v9] 45) ∧ TO (some b6 :: (some b5 :: (some b1 :: []))) w33 k9 n9 m9 v9 (ovp v0 (nq1 - i)) ∧ (i ≤ nq1)) (fun (i, k9, n9, m9, v9) => nq1 - i) (0, rk1, rn1, rm1, rv1) (Sub.cons rfl (Sub.cons rfl (Sub.cons rfl (Sub.cons rfl (Sub.cons rfl Sub.nil))))) ⟨hG, hb1, hb5, hb6, (ho9), (Nat.zero_le _)⟩ (fun gh w33 hI => ?_)
   obtain ⟨i, k9, n9, m9, v9⟩ := gh
   obtain ⟨hG, hb1, hb5, hb6, ho9, hiq⟩ := hI
   show At _ _ [(0, .int .i64 (nq1 : Int)), (1, .int .i64 v0), (5, .bool true), (9, .pointer (some ⟨b6, 0, none⟩)), (10, .int .i64 (i : Int))] _ _
   refine .seq (.seq (.region (.move rfl rfl (.move rfl rfl (.lss rfl rfl rfl (.ops0 (.thenN ?_)))))))
   refine At.cond (b := decide ((i : Int) < (nq1 : Int))) rfl (fun hc7 => ?_) (fun hc7 => ?_)
   ·skip
    have hc7' := of_decide_eq_true hc7
    refine .skip (.thenN (.seq (.block (.seq (.seq (.region ?_))))))
    refine At.join [(0, .int .i64 (nq1 : Int)), (1, .int .i64 v0), (5, .bool true), (9, .pointer (some ⟨b6, 0, none⟩)), (10, .int .i64 (i : Int)), (84, .bool false)] (fun w' => w33 = w') ?_ (fun w34 hS => ?_)
    ·skip
     obtain ⟨p, hp⟩ : ∃ p, nq1 - i = p + 1 := ⟨nq1 - i - 1, by have := of_decide_eq_true hc7; omega⟩
     rw [hp] at ho9; obtain ⟨hk9, _, _, rows, hrw, hsn, hall⟩ := TO.is (show TO _ _ k9 n9 m9 v9 (.mk 4 0 nmP [ovp v0 p, ovp v0 p]) from ho9)
     obtain ⟨a1, a2, rfl⟩ : ∃ a1 a2, rows = [a1, a2] := two_of hsn
     refine .fieldAddr rfl fo45_0 rfl (.load rfl (Ld.ownCell ag3 hb6 rfl) rfl (.neI rfl rfl rfl (.set (d := 78) (u := .bool false) rfl (congrArg Value.bool (by rw [hk9]; rfl)) (.move rfl rfl (.yes rfl rfl rfl rfl (.fieldAddr rfl fo45_3 rfl (.yes rfl rfl rfl rfl (.load rfl (Ld.ownCell ag43 hb6 rfl) rfl (.yes rfl rfl rfl rfl (.lenSl (n := 2) rfl hrw.ok el43 rfl (.yes rfl rfl rfl rfl (.neI rfl rfl rfl (.set (d := 83) (u := .bool false) rfl (congrArg Value.bool rfl) (.pickF rfl rfl rfl ?_))))))))))))))
     exact At.joined (Sub.cons rfl (Sub.cons rfl (Sub.cons rfl (Sub.cons rfl (Sub.cons rfl (Sub.cons rfl Sub.nil)))))) rfl
    subst hS
    refine .thenN (.condF rfl (.skip (.thenN (.region ?_))))
    obtain ⟨p, hp⟩ : ∃ p, nq1 - i = p + 1 := ⟨nq1 - i - 1, by have := of_decide_eq_true hc7; omega⟩
    rw [hp] at ho9; obtain ⟨hk9, _, _, rows, hrw, hsn, hall⟩ := TO.is (show TO _ _ k9 n9 m9 v9 (.mk 4 0 nmP [ovp v0 p, ovp v0 p]) from ho9)
    obtain ⟨a1, a2, rfl⟩ : ∃ a1 a2, rows = [a1, a2] := two_of hsn
    obtain ⟨k8, n8, m8, v8, eu, h8⟩ := hall a2 (by simp); have hu : [a1, a2][1]? = some a2 := rfl; have e8 : a2.2 = ovp v0 p := by simp at hsn; exact hsn.2
    rw [e8] at h8
    refine .fieldAddr rfl fo45_3 rfl (.load rfl (Ld.ownCell ag43 hb6 rfl) rfl (.indexAddr (i := 1) rfl rfl hrw.ok (by simp) el43 sz45 rfl (.load rfl (Ld.row (cs := (V4 k8 n8 m8 v8).toArray) ag45 sz45 (by have q := hrw.row hu; simp only [eu] at q; exact q)) rfl ?_)))
    refine At.storeAll rfl rfl hb6 sz45 rfl (by first | (simp [Value.oneCell', h8.one]; done) | (simp only [List.all_toArray, List.all_cons, List.all_nil, h8.one, Bool.and_true, Bool.true_and] <;> rfl)) (fun w35 S8 => ?_)
    replace hb1 := S8.other hb1 n_b1_b6
    replace hb5 := S8.other hb5 n_b5_b6
    replace hb6 : w35.heap[b6]? = some (.cells #[.int .i64 k8, .int .i64 n8, .string m8, v8] 45) := S8.new
    replace hG := hG.set S8 (.inr gb6)
    replace h8 := h8.gr ((Gr.refl _ _).set S8 (.inl (by simp))) (Nat.le_refl _)
    refine .ops0 (.inN (.thenN (.region (.move rfl rfl (.addI rfl rfl rfl (by omega) (.assign rfl rfl (.ops0 (.thenN ?_))))))))
    exact fun act_ hact_ => ⟨((i + 1), k8, n8, m8, v8), hact_.sub (Sub.cons rfl (Sub.cons rfl (Sub.cons rfl (Sub.cons rfl (Sub.cons rfl Sub.nil))))), ⟨hG, hb1, hb5, hb6, (by rw [show nq1 - (i + 1) = p by omega]; exact h8), (by omega)⟩, by first | omega | (dsimp only; omega)⟩
   have hc7' := of_decide_eq_false hc7
   refine .exit (.thenE (.thenE (.inE (.thenN (.seq (.region ?_))))))
   refine At.join [(4, .bool true)] (fun w' => w33 = w') ?_ (fun w36 hS => ?_)
   ·skip
    have hie2 : nq1 - i = 0 := by have := of_decide_eq_false hc7; omega
    rw [hie2] at ho9; obtain ⟨hk9, hn9, _⟩ := TO.is (show TO _ _ k9 n9 m9 v9 (.mk 1 v0 eB []) from ho9)
    refine .move rfl rfl (.move rfl rfl (.yes rfl rfl rfl rfl (.fieldAddr rfl fo45_0 rfl (.yes rfl rfl rfl rfl (.load rfl (Ld.ownCell ag3 hb6 rfl) rfl (.yes rfl rfl rfl rfl (.eqI rfl rfl rfl (.set (d := 93) (u := .bool true) rfl (congrArg Value.bool (decide_eq_true hk9)) (.pickT rfl rfl rfl (.move rfl rfl (.yes rfl rfl rfl rfl (.fieldAddr rfl fo45_1 rfl (.yes rfl rfl rfl rfl (.load rfl (Ld.ownCell ag3 hb6 rfl) rfl (.yes rfl rfl rfl rfl (.move rfl rfl (.yes rfl rfl rfl rfl (.eqI rfl rfl rfl (.set (d := 99) (u := .bool true) rfl (congrArg Value.bool (decide_eq_true hn9)) (.pickT rfl rfl rfl (.assign rfl rfl ?_)))))))))))))))))))))
    exact At.joined (Sub.cons rfl Sub.nil) rfl
   subst hS
   refine .thenN (.retc (.doneR (ResV.tmp rfl ResV.nil) ?_))
   exact ⟨rfl, hG.base⟩
  refine At.alloc ze49 rfl (fun b7 w37 F7 => ?_)
  have n_b1_b7 : b1 ≠ b7 := Nat.ne_of_lt (F7.lt hb1)
  have gb7 := Nat.le_trans hG.size (Nat.le_of_eq F7.eq.symm)
  replace hb1 := F7.old hb1
  have hb7 : w37.heap[b7]? = some (.cells #[zI, zI, zI, zS, zN, zN, zI, zI] 49) := F7.new
  replace hG := hG.below F7.bel
  replace hT := hT.gr (Gr.add F7) (Nat.le_refl _)
  replace hT6 := hT6.gr (Gr.add F7) (Nat.le_refl _)
  refine .ops0 ?_
  refine At.wpcN (.cons rfl rfl rfl rfl (fun Lx => ?_) .nil) ?_
  ·skip
   exact .load rfl (Ld.own ag31 (sz31.trans (congrArg some hT.1.one.size.symm)) hb1) rfl (.ops0 fun a ha => ⟨ha, rfl⟩)
  refine At.wpcE [3] (by kernel_rfl) (by kernel_rfl) (.cons [] rfl (by kernel_rfl) ?_ .nil)
  refine At.call en17 rfl rfl (letL_any (M := (some b7 :: (some b1 :: []))) (nc := 0) (⟨#[120]⟩ : ByteArray) _ (MLt.blk hb7 (MLt.blk hb1 (MLt.nil _))) hT6 hT) (fun e w38 hR => ?_)
  obtain ⟨q8, rfl, hT8, hbl10⟩ := hR; refine ⟨_, rfl, ?_⟩
  replace hb1 := Below.old hbl10 hb1
  replace hb7 := Below.old hbl10 hb7
  replace hG := hG.below hbl10
  refine .ops0 (.wpcN .nil ?_)
  refine .wpcS (i := 4) (d := 31) (.agg (mx [zN, zN] q8.cs [])) (by kernel_rfl) rfl rfl rfl (fun Lx => .build (C := (mx [zN, zN] q8.cs [])) sd38 ze38 rfl (Bld.mxT (pre := [zN, zN]) (post := []) fo38_2 hT8.1.one.size (Nat.le_of_ble_eq_true rfl) rfl rfl (Bld.nil _)) rfl (.ops0 fun a ha => ⟨ha, rfl⟩)) ?_
  refine At.wpcE [5] (by kernel_rfl) (by kernel_rfl) (.cons [] rfl (by kernel_rfl) ?_ .nil)
  have hie : i = nq1 := by have := of_decide_eq_false hc1; omega
  rw [hie] at hT8
  obtain ⟨R, hRR⟩ : ∃ R, runR (tLet nmX (tI v0) (lgT nq1)) [] 1500 = R := ⟨_, rfl⟩; have hrd := (large_run v0 (n := nq1) (by omega)).2; rw [hRR] at hrd; obtain ⟨hr1, hr2⟩ := hrd; rw [shw_pv] at hr2
  refine At.call en14 rfl rfl (run_any (E := (some b7 :: (some b1 :: []))) (l := []) 1500 _ ((SlOk.nil)).one ((SlOk.nil)).one hT8.1 (MLt.blk hb7 (MLt.blk hb1 (MLt.nil _))) (RowsAt.nil _ 1) (by decide) (by decide) (by rw [hT8.2]; exact (large_run v0 (by omega)).1)) (fun e w39 hR => ?_)
  obtain ⟨cs, rfl, hra, hbl11⟩ := hR; refine ⟨_, rfl, ?_⟩; rw [hT8.2] at hra; rw [hRR] at hra
  replace hb1 := Below.old hbl11 hb1
  replace hb7 := Below.old hbl11 hb7
  replace hG := hG.below hbl11
  obtain ⟨rk1, rn1, rm1, rv1, rt1, rfl, ho1, hi1, hz1⟩ := hra; replace ho1 : TO (some b7 :: (some b1 :: [])) w39 rk1 rn1 rm1 rv1 R.v := ho1; replace hi1 : TI (some b7 :: (some b1 :: [])) w39 rt1 R.tr := ⟨hi1, hz1⟩
  rw [hr2] at ho1
  refine .ops0 (.wpcN .nil ?_)
  refine At.wpcE [7] (by kernel_rfl) (by kernel_rfl) (.cons [] rfl (by kernel_rfl) ?_ .nil)
  refine At.storeAll rfl rfl hb7 sz49 rfl (by first | (simp [Value.oneCell', (OAt.one ho1), hi1.1.ok.one]; done) | (simp only [List.all_toArray, List.all_cons, List.all_nil, (OAt.one ho1), hi1.1.ok.one, Bool.and_true, Bool.true_and] <;> rfl)) (fun w40 S9 => ?_)
  replace hb1 := S9.other hb1 n_b1_b7
  replace hb7 : w40.heap[b7]? = some (.cells #[.int .i64 R.ok, .int .i64 rk1, .int .i64 rn1, .string rm1, rv1, rt1, .int .i64 R.st, .int .i64 R.kn] 49) := S9.new
  replace hG := hG.set S9 (.inr gb7)
  replace ho1 := ho1.gr ((Gr.refl _ _).set S9 (.inl (by simp))) (Nat.le_refl _)
  refine .ops0 (.wpcN .nil (.wpcZ (.thenN (.seq (.seq (.region (.fieldAddr rfl fo49_0 rfl (.fieldAddr rfl fo47_0 rfl (.load rfl (Ld.ownCell ag3 hb7 rfl) rfl (.neI rfl rfl rfl (.set (d := 36) (u := .bool false) rfl (congrArg Value.bool (by rw [hr1]; rfl)) (.ops0 (.thenN (.condF rfl (.skip (.thenN (.seq (.region (.fieldAddr rfl fo49_0 rfl (.fieldAddr rfl fo47_1 rfl (.load rfl (Ld.ownPart (n := 4) (cs := #[.int .i64 rk1, .int .i64 rn1, .string rm1, rv1]) ag45 sz45 hb7 rfl) rfl ?_)))))))))))))))))))))
  refine At.alloc ze45 rfl (fun b8 w41 F8 => ?_)
  have n_b1_b8 : b1 ≠ b8 := Nat.ne_of_lt (F8.lt hb1)
  have n_b7_b8 : b7 ≠ b8 := Nat.ne_of_lt (F8.lt hb7)
  have gb8 := Nat.le_trans hG.size (Nat.le_of_eq F8.eq.symm)
  replace hb1 := F8.old hb1
  replace hb7 := F8.old hb7
  have hb8 : w41.heap[b8]? = some (.cells #[zI, zI, zS, zN] 45) := F8.new
  replace hG := hG.below F8.bel
  replace ho1 := ho1.gr (Gr.add F8) (Nat.le_refl _)
  refine At.storeAll rfl rfl hb8 sz45 rfl (by first | (simp [Value.oneCell', (OAt.one ho1)]; done) | (simp only [List.all_toArray, List.all_cons, List.all_nil, (OAt.one ho1), Bool.and_true, Bool.true_and] <;> rfl)) (fun w42 S10 => ?_)
  replace hb1 := S10.other hb1 n_b1_b8
  replace hb7 := S10.other hb7 n_b7_b8
  replace hb8 : w42.heap[b8]? = some (.cells #[.int .i64 rk1, .int .i64 rn1, .string rm1, rv1] 45) := S10.new
  replace hG := hG.set S10 (.inr gb8)
  replace ho1 := ho1.gr ((Gr.refl _ _).set S10 (.inl (by simp))) (Nat.le_refl _)
  refine .ops0 (.thenN (.seq (.seq (.region (.move rfl rfl (.eqI rfl rfl rfl (.ops0 (.thenN ?_))))))))
  refine At.cond (b := decide ((nq1 : Int) = 0)) rfl (fun hc8 => ?_) (fun hc8 => ?_)
  ·skip
   have hc8' := of_decide_eq_true hc8
   refine .seq (.region ?_)
   refine At.join [(4, .bool true)] (fun w' => w42 = w') ?_ (fun w43 hS => ?_)
   ·skip
    have hz : nq1 = 0 := by have := of_decide_eq_true hc8; omega
    rw [hz] at ho1; obtain ⟨hk9, hn9, _⟩ := TO.is (show TO _ _ rk1 rn1 rm1 rv1 (.mk 1 v0 eB []) from ho1)
    refine .move rfl rfl (.move rfl rfl (.yes rfl rfl rfl rfl (.fieldAddr rfl fo45_0 rfl (.yes rfl rfl rfl rfl (.load rfl (Ld.ownCell ag3 hb8 rfl) rfl (.yes rfl rfl rfl rfl (.eqI rfl rfl rfl (.set (d := 46) (u := .bool true) rfl (congrArg Value.bool (decide_eq_true hk9)) (.pickT rfl rfl rfl (.move rfl rfl (.yes rfl rfl rfl rfl (.fieldAddr rfl fo45_1 rfl (.yes rfl rfl rfl rfl (.load rfl (Ld.ownCell ag3 hb8 rfl) rfl (.yes rfl rfl rfl rfl (.move rfl rfl (.yes rfl rfl rfl rfl (.eqI rfl rfl rfl (.set (d := 52) (u := .bool true) rfl (congrArg Value.bool (decide_eq_true hn9)) (.pickT rfl rfl rfl (.assign rfl rfl ?_)))))))))))))))))))))
    exact At.joined (Sub.cons rfl Sub.nil) rfl
   subst hS
   refine .thenN (.retc (.thenR (.doneR (ResV.tmp rfl ResV.nil) ?_)))
   exact ⟨rfl, hG.base⟩
  have hc8' := of_decide_eq_false hc8
  refine .skip (.thenN (.seq (.seq (.region ?_))))
  refine At.join [(0, .int .i64 (nq1 : Int)), (1, .int .i64 v0), (5, .bool true), (9, .pointer (some ⟨b8, 0, none⟩)), (61, .bool false)] (fun w' => w42 = w') ?_ (fun w44 hS => ?_)
  ·skip
   obtain ⟨p, hp⟩ : ∃ p, nq1 = p + 1 := ⟨nq1 - 1, by have := of_decide_eq_false hc8; omega⟩
   obtain ⟨hk9, hm9⟩ : rk1 = 4 ∧ rm1 = nmP := by rw [hp] at ho1; cases hq : decide (p + 1 < 13) with | true => rw [hq] at ho1; have q := TO.is (show TO _ _ rk1 rn1 rm1 rv1 (.mk 4 0 nmP [ovp v0 p, ovp v0 p]) from ho1); exact ⟨q.1, q.2.2.1⟩ | false => rw [hq] at ho1; have q := TO.is (show TO _ _ rk1 rn1 rm1 rv1 (.mk 4 0 nmP []) from ho1); exact ⟨q.1, q.2.2.1⟩
   refine .fieldAddr rfl fo45_0 rfl (.load rfl (Ld.ownCell ag3 hb8 rfl) rfl (.neI rfl rfl rfl (.set (d := 56) (u := .bool false) rfl (congrArg Value.bool (by rw [hk9]; rfl)) (.move rfl rfl (.yes rfl rfl rfl rfl (.fieldAddr rfl fo45_2 rfl (.yes rfl rfl rfl rfl (.load rfl (Ld.ownCell ag9 hb8 rfl) rfl (.yes rfl rfl rfl rfl (.neS rfl rfl rfl (.set (d := 60) (u := .bool false) rfl (congrArg Value.bool (by rw [hm9]; rfl)) (.pickF rfl rfl rfl ?_))))))))))))
   exact At.joined (Sub.cons rfl (Sub.cons rfl (Sub.cons rfl (Sub.cons rfl (Sub.cons rfl Sub.nil))))) rfl
  subst hS
  refine .thenN (.condF rfl (.skip (.thenN (.seq (.seq (.region (.move rfl rfl (.geq rfl rfl rfl (.ops0 (.thenN ?_))))))))))
  refine At.cond (b := decide (13 ≤ (nq1 : Int))) rfl (fun hc9 => ?_) (fun hc9 => ?_)
  ·skip
   have hc9' := of_decide_eq_true hc9
   refine .seq (.region ?_)
   refine At.join [(4, .bool true)] (fun w' => w42 = w') ?_ (fun w45 hS => ?_)
   ·skip
    have h13 : decide (nq1 < 13) = false := decide_eq_false (by have := of_decide_eq_true hc9; omega)
    rw [h13] at ho1; obtain ⟨_, _, _, rows, hrw, hsn, _⟩ := TO.is (show TO _ _ rk1 rn1 rm1 rv1 (.mk 4 0 nmP []) from ho1); have hrl : rows = [] := List.map_eq_nil_iff.1 hsn; subst hrl
    refine .move rfl rfl (.move rfl rfl (.yes rfl rfl rfl rfl (.fieldAddr rfl fo45_3 rfl (.yes rfl rfl rfl rfl (.load rfl (Ld.ownCell ag43 hb8 rfl) rfl (.yes rfl rfl rfl rfl (.lenSl (n := 0) rfl hrw.ok el43 rfl (.yes rfl rfl rfl rfl (.eqI rfl rfl rfl (.set (d := 69) (u := .bool true) rfl (congrArg Value.bool rfl) (.pickT rfl rfl rfl (.assign rfl rfl ?_))))))))))))
    exact At.joined (Sub.cons rfl Sub.nil) rfl
   subst hS
   refine .thenN (.retc (.thenR (.doneR (ResV.tmp rfl ResV.nil) ?_)))
   exact ⟨rfl, hG.base⟩
  have hc9' := of_decide_eq_false hc9
  refine .skip (.thenN (.seq (.seq (.region (.assign rfl rfl (.ops0 (.thenN (.block ?_))))))))
  have ho9 := ho1; rw [show decide (nq1 < 13) = true from decide_eq_true (by have := of_decide_eq_false hc9; omega)] at ho9; replace ho9 : TO _ _ rk1 rn1 rm1 rv1 (ovp v0 (nq1 - 0)) := ho9
  refine At.loop (Nat × Int × Int × ByteArray × Value) (fun (i, k9, n9, m9, v9) => [(0, .int .i64 (nq1 : Int)), (1, .int .i64 v0), (5, .bool true), (9, .pointer (some ⟨b8, 0, none⟩)), (10, .int .i64 (i : Int))]) (fun (i, k9, n9, m9, v9) w46 => Gr [] w [] w46 ∧ w46.heap[b1]? = some (.cells t.cs 31) ∧ w46.heap[b7]? = some (.cells #[.int .i64 R.ok, .int .i64 rk1, .int .i64 rn1, .string rm1, rv1, rt1, .int .i64 R.st, .int .i64 R.kn] 49) ∧ w46.heap[b8]? = some (.cells #[.int .i64 k9, .int .i64 n9, .string m9, v9] 45) ∧ TO (some b8 :: (some b7 :: (some b1 :: []))) w46 k9 n9 m9 v9 (ovp v0 (nq1 - i)) ∧ (i ≤ nq1)) (fun (i, k9, n9, m9, v9) => nq1 - i) (0, rk1, rn1, rm1, rv1) (Sub.cons rfl (Sub.cons rfl (Sub.cons rfl (Sub.cons rfl (Sub.cons rfl Sub.nil))))) ⟨hG, hb1, hb7, hb8, (ho9), (Nat.zero_le _)⟩ (fun gh w46 hI => ?_)
  obtain ⟨i, k9, n9, m9, v9⟩ := gh
  obtain ⟨hG, hb1, hb7, hb8, ho9, hiq⟩ := hI
  show At _ _ [(0, .int .i64 (nq1 : Int)), (1, .int .i64 v0), (5, .bool true), (9, .pointer (some ⟨b8, 0, none⟩)), (10, .int .i64 (i : Int))] _ _
  refine .seq (.seq (.region (.move rfl rfl (.move rfl rfl (.lss rfl rfl rfl (.ops0 (.thenN ?_)))))))
  refine At.cond (b := decide ((i : Int) < (nq1 : Int))) rfl (fun hc10 => ?_) (fun hc10 => ?_)
  ·skip
   have hc10' := of_decide_eq_true hc10
   refine .skip (.thenN (.seq (.block (.seq (.seq (.region ?_))))))
   refine At.join [(0, .int .i64 (nq1 : Int)), (1, .int .i64 v0), (5, .bool true), (9, .pointer (some ⟨b8, 0, none⟩)), (10, .int .i64 (i : Int)), (84, .bool false)] (fun w' => w46 = w') ?_ (fun w47 hS => ?_)
   ·skip
    obtain ⟨p, hp⟩ : ∃ p, nq1 - i = p + 1 := ⟨nq1 - i - 1, by have := of_decide_eq_true hc10; omega⟩
    rw [hp] at ho9; obtain ⟨hk9, _, _, rows, hrw, hsn, hall⟩ := TO.is (show TO _ _ k9 n9 m9 v9 (.mk 4 0 nmP [ovp v0 p, ovp v0 p]) from ho9)
    obtain ⟨a1, a2, rfl⟩ : ∃ a1 a2, rows = [a1, a2] := two_of hsn
    refine .fieldAddr rfl fo45_0 rfl (.load rfl (Ld.ownCell ag3 hb8 rfl) rfl (.neI rfl rfl rfl (.set (d := 78) (u := .bool false) rfl (congrArg Value.bool (by rw [hk9]; rfl)) (.move rfl rfl (.yes rfl rfl rfl rfl (.fieldAddr rfl fo45_3 rfl (.yes rfl rfl rfl rfl (.load rfl (Ld.ownCell ag43 hb8 rfl) rfl (.yes rfl rfl rfl rfl (.lenSl (n := 2) rfl hrw.ok el43 rfl (.yes rfl rfl rfl rfl (.neI rfl rfl rfl (.set (d := 83) (u := .bool false) rfl (congrArg Value.bool rfl) (.pickF rfl rfl rfl ?_))))))))))))))
    exact At.joined (Sub.cons rfl (Sub.cons rfl (Sub.cons rfl (Sub.cons rfl (Sub.cons rfl (Sub.cons rfl Sub.nil)))))) rfl
   subst hS
   refine .thenN (.condF rfl (.skip (.thenN (.region ?_))))
   obtain ⟨p, hp⟩ : ∃ p, nq1 - i = p + 1 := ⟨nq1 - i - 1, by have := of_decide_eq_true hc10; omega⟩
   rw [hp] at ho9; obtain ⟨hk9, _, _, rows, hrw, hsn, hall⟩ := TO.is (show TO _ _ k9 n9 m9 v9 (.mk 4 0 nmP [ovp v0 p, ovp v0 p]) from ho9)
   obtain ⟨a1, a2, rfl⟩ : ∃ a1 a2, rows = [a1, a2] := two_of hsn
   obtain ⟨k8, n8, m8, v8, eu, h8⟩ := hall a2 (by simp); have hu : [a1, a2][1]? = some a2 := rfl; have e8 : a2.2 = ovp v0 p := by simp at hsn; exact hsn.2
   rw [e8] at h8
   refine .fieldAddr rfl fo45_3 rfl (.load rfl (Ld.ownCell ag43 hb8 rfl) rfl (.indexAddr (i := 1) rfl rfl hrw.ok (by simp) el43 sz45 rfl (.load rfl (Ld.row (cs := (V4 k8 n8 m8 v8).toArray) ag45 sz45 (by have q := hrw.row hu; simp only [eu] at q; exact q)) rfl ?_)))
   refine At.storeAll rfl rfl hb8 sz45 rfl (by first | (simp [Value.oneCell', h8.one]; done) | (simp only [List.all_toArray, List.all_cons, List.all_nil, h8.one, Bool.and_true, Bool.true_and] <;> rfl)) (fun w48 S11 => ?_)
   replace hb1 := S11.other hb1 n_b1_b8
   replace hb7 := S11.other hb7 n_b7_b8
   replace hb8 : w48.heap[b8]? = some (.cells #[.int .i64 k8, .int .i64 n8, .string m8, v8] 45) := S11.new
   replace hG := hG.set S11 (.inr gb8)
   replace h8 := h8.gr ((Gr.refl _ _).set S11 (.inl (by simp))) (Nat.le_refl _)
   refine .ops0 (.inN (.thenN (.region (.move rfl rfl (.addI rfl rfl rfl (by omega) (.assign rfl rfl (.ops0 (.thenN ?_))))))))
   exact fun act_ hact_ => ⟨((i + 1), k8, n8, m8, v8), hact_.sub (Sub.cons rfl (Sub.cons rfl (Sub.cons rfl (Sub.cons rfl (Sub.cons rfl Sub.nil))))), ⟨hG, hb1, hb7, hb8, (by rw [show nq1 - (i + 1) = p by omega]; exact h8), (by omega)⟩, by first | omega | (dsimp only; omega)⟩
  have hc10' := of_decide_eq_false hc10
  refine .exit (.thenE (.thenE (.inE (.thenN (.seq (.region ?_))))))
  refine At.join [(4, .bool true)] (fun w' => w46 = w') ?_ (fun w49 hS => ?_)
  ·skip
   have hie2 : nq1 - i = 0 := by have := of_decide_eq_false hc10; omega
   rw [hie2] at ho9; obtain ⟨hk9, hn9, _⟩ := TO.is (show TO _ _ k9 n9 m9 v9 (.mk 1 v0 eB []) from ho9)
   refine .move rfl rfl (.move rfl rfl (.yes rfl rfl rfl rfl (.fieldAddr rfl fo45_0 rfl (.yes rfl rfl rfl rfl (.load rfl (Ld.ownCell ag3 hb8 rfl) rfl (.yes rfl rfl rfl rfl (.eqI rfl rfl rfl (.set (d := 93) (u := .bool true) rfl (congrArg Value.bool (decide_eq_true hk9)) (.pickT rfl rfl rfl (.move rfl rfl (.yes rfl rfl rfl rfl (.fieldAddr rfl fo45_1 rfl (.yes rfl rfl rfl rfl (.load rfl (Ld.ownCell ag3 hb8 rfl) rfl (.yes rfl rfl rfl rfl (.move rfl rfl (.yes rfl rfl rfl rfl (.eqI rfl rfl rfl (.set (d := 99) (u := .bool true) rfl (congrArg Value.bool (decide_eq_true hn9)) (.pickT rfl rfl rfl (.assign rfl rfl ?_)))))))))))))))))))))
   exact At.joined (Sub.cons rfl Sub.nil) rfl
  subst hS
  refine .thenN (.retc (.doneR (ResV.tmp rfl ResV.nil) ?_))
  exact ⟨rfl, hG.base⟩
 refine At.alloc ze49 rfl (fun b9 w50 F9 => ?_)
 have n_b1_b9 : b1 ≠ b9 := Nat.ne_of_lt (F9.lt hb1)
 have gb9 := Nat.le_trans hG.size (Nat.le_of_eq F9.eq.symm)
 replace hb1 := F9.old hb1
 have hb9 : w50.heap[b9]? = some (.cells #[zI, zI, zI, zS, zN, zN, zI, zI] 49) := F9.new
 replace hG := hG.below F9.bel
 replace hT := hT.gr (Gr.add F9) (Nat.le_refl _)
 refine .ops0 ?_
 refine At.wpcN (.cons rfl rfl rfl rfl (fun Lx => ?_) (.cons rfl rfl rfl rfl (fun Lx => ?_) .nil)) ?_
 ·skip
  exact .move rfl rfl (.ops0 fun a ha => ⟨ha, rfl⟩)
 ·skip
  exact .load rfl (Ld.own ag31 (sz31.trans (congrArg some hT.1.one.size.symm)) hb1) rfl (.ops0 fun a ha => ⟨ha, rfl⟩)
 refine At.wpcE [1] (by kernel_rfl) (by kernel_rfl) (.cons [2] rfl (by kernel_rfl) ?_ .nil)
 refine At.call en20 rfl rfl (numL_any (M := (some b9 :: (some b1 :: []))) (nc := 0) v0 _ (MLt.blk hb9 (MLt.blk hb1 (MLt.nil _)))) (fun e w51 hR => ?_)
 obtain ⟨q9, rfl, hT9, hbl12⟩ := hR; refine ⟨_, rfl, ?_⟩
 replace hb1 := Below.old hbl12 hb1
 replace hb9 := Below.old hbl12 hb9
 replace hG := hG.below hbl12
 replace hT := hT.gr (Gr.of hbl12 _) (Nat.le_refl _)
 refine .ops0 ?_
 refine At.wpcN (.cons rfl rfl rfl rfl (fun Lx => ?_) .nil) ?_
 ·skip
  exact .load rfl (Ld.own ag31 (sz31.trans (congrArg some hT.1.one.size.symm)) hb1) rfl (.ops0 fun a ha => ⟨ha, rfl⟩)
 refine At.wpcE [3] (by kernel_rfl) (by kernel_rfl) (.cons [] rfl (by kernel_rfl) ?_ .nil)
 refine At.call en17 rfl rfl (letL_any (M := (some b9 :: (some b1 :: []))) (nc := 0) (⟨#[120]⟩ : ByteArray) _ (MLt.blk hb9 (MLt.blk hb1 (MLt.nil _))) hT9 hT) (fun e w52 hR => ?_)
 obtain ⟨q10, rfl, hT10, hbl13⟩ := hR; refine ⟨_, rfl, ?_⟩
 replace hb1 := Below.old hbl13 hb1
 replace hb9 := Below.old hbl13 hb9
 replace hG := hG.below hbl13
 refine .ops0 (.wpcN .nil ?_)
 refine .wpcS (i := 4) (d := 31) (.agg (mx [zN, zN] q10.cs [])) (by kernel_rfl) rfl rfl rfl (fun Lx => .build (C := (mx [zN, zN] q10.cs [])) sd38 ze38 rfl (Bld.mxT (pre := [zN, zN]) (post := []) fo38_2 hT10.1.one.size (Nat.le_of_ble_eq_true rfl) rfl rfl (Bld.nil _)) rfl (.ops0 fun a ha => ⟨ha, rfl⟩)) ?_
 refine At.wpcE [5] (by kernel_rfl) (by kernel_rfl) (.cons [] rfl (by kernel_rfl) ?_ .nil)
 have hie : i = nq1 := by have := of_decide_eq_false hc1; omega
 rw [hie] at hT10
 obtain ⟨R, hRR⟩ : ∃ R, runR (tLet nmX (tI v0) (lgT nq1)) [] 1500 = R := ⟨_, rfl⟩; have hrd := (large_run v0 (n := nq1) (by omega)).2; rw [hRR] at hrd; obtain ⟨hr1, hr2⟩ := hrd; rw [shw_pv] at hr2
 refine At.call en14 rfl rfl (run_any (E := (some b9 :: (some b1 :: []))) (l := []) 1500 _ ((SlOk.nil)).one ((SlOk.nil)).one hT10.1 (MLt.blk hb9 (MLt.blk hb1 (MLt.nil _))) (RowsAt.nil _ 1) (by decide) (by decide) (by rw [hT10.2]; exact (large_run v0 (by omega)).1)) (fun e w53 hR => ?_)
 obtain ⟨cs, rfl, hra, hbl14⟩ := hR; refine ⟨_, rfl, ?_⟩; rw [hT10.2] at hra; rw [hRR] at hra
 replace hb1 := Below.old hbl14 hb1
 replace hb9 := Below.old hbl14 hb9
 replace hG := hG.below hbl14
 obtain ⟨rk1, rn1, rm1, rv1, rt1, rfl, ho1, hi1, hz1⟩ := hra; replace ho1 : TO (some b9 :: (some b1 :: [])) w53 rk1 rn1 rm1 rv1 R.v := ho1; replace hi1 : TI (some b9 :: (some b1 :: [])) w53 rt1 R.tr := ⟨hi1, hz1⟩
 rw [hr2] at ho1
 refine .ops0 (.wpcN .nil ?_)
 refine At.wpcE [7] (by kernel_rfl) (by kernel_rfl) (.cons [] rfl (by kernel_rfl) ?_ .nil)
 refine At.storeAll rfl rfl hb9 sz49 rfl (by first | (simp [Value.oneCell', (OAt.one ho1), hi1.1.ok.one]; done) | (simp only [List.all_toArray, List.all_cons, List.all_nil, (OAt.one ho1), hi1.1.ok.one, Bool.and_true, Bool.true_and] <;> rfl)) (fun w54 S12 => ?_)
 replace hb1 := S12.other hb1 n_b1_b9
 replace hb9 : w54.heap[b9]? = some (.cells #[.int .i64 R.ok, .int .i64 rk1, .int .i64 rn1, .string rm1, rv1, rt1, .int .i64 R.st, .int .i64 R.kn] 49) := S12.new
 replace hG := hG.set S12 (.inr gb9)
 replace ho1 := ho1.gr ((Gr.refl _ _).set S12 (.inl (by simp))) (Nat.le_refl _)
 refine .ops0 (.wpcN .nil (.wpcZ (.thenN (.seq (.seq (.region (.fieldAddr rfl fo49_0 rfl (.fieldAddr rfl fo47_0 rfl (.load rfl (Ld.ownCell ag3 hb9 rfl) rfl (.neI rfl rfl rfl (.set (d := 36) (u := .bool false) rfl (congrArg Value.bool (by rw [hr1]; rfl)) (.ops0 (.thenN (.condF rfl (.skip (.thenN (.seq (.region (.fieldAddr rfl fo49_0 rfl (.fieldAddr rfl fo47_1 rfl (.load rfl (Ld.ownPart (n := 4) (cs := #[.int .i64 rk1, .int .i64 rn1, .string rm1, rv1]) ag45 sz45 hb9 rfl) rfl ?_)))))))))))))))))))))
 refine At.alloc ze45 rfl (fun b10 w55 F10 => ?_)
 have n_b1_b10 : b1 ≠ b10 := Nat.ne_of_lt (F10.lt hb1)
 have n_b9_b10 : b9 ≠ b10 := Nat.ne_of_lt (F10.lt hb9)
 have gb10 := Nat.le_trans hG.size (Nat.le_of_eq F10.eq.symm)
 replace hb1 := F10.old hb1
 replace hb9 := F10.old hb9
 have hb10 : w55.heap[b10]? = some (.cells #[zI, zI, zS, zN] 45) := F10.new
 replace hG := hG.below F10.bel
 replace ho1 := ho1.gr (Gr.add F10) (Nat.le_refl _)
 refine At.storeAll rfl rfl hb10 sz45 rfl (by first | (simp [Value.oneCell', (OAt.one ho1)]; done) | (simp only [List.all_toArray, List.all_cons, List.all_nil, (OAt.one ho1), Bool.and_true, Bool.true_and] <;> rfl)) (fun w56 S13 => ?_)
 replace hb1 := S13.other hb1 n_b1_b10
 replace hb9 := S13.other hb9 n_b9_b10
 replace hb10 : w56.heap[b10]? = some (.cells #[.int .i64 rk1, .int .i64 rn1, .string rm1, rv1] 45) := S13.new
 replace hG := hG.set S13 (.inr gb10)
 replace ho1 := ho1.gr ((Gr.refl _ _).set S13 (.inl (by simp))) (Nat.le_refl _)
 refine .ops0 (.thenN (.seq (.seq (.region (.move rfl rfl (.eqI rfl rfl rfl (.ops0 (.thenN ?_))))))))
 refine At.cond (b := decide ((nq1 : Int) = 0)) rfl (fun hc11 => ?_) (fun hc11 => ?_)
 ·skip
  have hc11' := of_decide_eq_true hc11
  refine .seq (.region ?_)
  refine At.join [(4, .bool true)] (fun w' => w56 = w') ?_ (fun w57 hS => ?_)
  ·skip
   have hz : nq1 = 0 := by have := of_decide_eq_true hc11; omega
   rw [hz] at ho1; obtain ⟨hk9, hn9, _⟩ := TO.is (show TO _ _ rk1 rn1 rm1 rv1 (.mk 1 v0 eB []) from ho1)
   refine .move rfl rfl (.move rfl rfl (.yes rfl rfl rfl rfl (.fieldAddr rfl fo45_0 rfl (.yes rfl rfl rfl rfl (.load rfl (Ld.ownCell ag3 hb10 rfl) rfl (.yes rfl rfl rfl rfl (.eqI rfl rfl rfl (.set (d := 46) (u := .bool true) rfl (congrArg Value.bool (decide_eq_true hk9)) (.pickT rfl rfl rfl (.move rfl rfl (.yes rfl rfl rfl rfl (.fieldAddr rfl fo45_1 rfl (.yes rfl rfl rfl rfl (.load rfl (Ld.ownCell ag3 hb10 rfl) rfl (.yes rfl rfl rfl rfl (.move rfl rfl (.yes rfl rfl rfl rfl (.eqI rfl rfl rfl (.set (d := 52) (u := .bool true) rfl (congrArg Value.bool (decide_eq_true hn9)) (.pickT rfl rfl rfl (.assign rfl rfl ?_)))))))))))))))))))))
   exact At.joined (Sub.cons rfl Sub.nil) rfl
  subst hS
  refine .thenN (.retc (.thenR (.doneR (ResV.tmp rfl ResV.nil) ?_)))
  exact ⟨rfl, hG.base⟩
 have hc11' := of_decide_eq_false hc11
 refine .skip (.thenN (.seq (.seq (.region ?_))))
 refine At.join [(0, .int .i64 (nq1 : Int)), (1, .int .i64 v0), (5, .bool true), (9, .pointer (some ⟨b10, 0, none⟩)), (61, .bool false)] (fun w' => w56 = w') ?_ (fun w58 hS => ?_)
 ·skip
  obtain ⟨p, hp⟩ : ∃ p, nq1 = p + 1 := ⟨nq1 - 1, by have := of_decide_eq_false hc11; omega⟩
  obtain ⟨hk9, hm9⟩ : rk1 = 4 ∧ rm1 = nmP := by rw [hp] at ho1; cases hq : decide (p + 1 < 13) with | true => rw [hq] at ho1; have q := TO.is (show TO _ _ rk1 rn1 rm1 rv1 (.mk 4 0 nmP [ovp v0 p, ovp v0 p]) from ho1); exact ⟨q.1, q.2.2.1⟩ | false => rw [hq] at ho1; have q := TO.is (show TO _ _ rk1 rn1 rm1 rv1 (.mk 4 0 nmP []) from ho1); exact ⟨q.1, q.2.2.1⟩
  refine .fieldAddr rfl fo45_0 rfl (.load rfl (Ld.ownCell ag3 hb10 rfl) rfl (.neI rfl rfl rfl (.set (d := 56) (u := .bool false) rfl (congrArg Value.bool (by rw [hk9]; rfl)) (.move rfl rfl (.yes rfl rfl rfl rfl (.fieldAddr rfl fo45_2 rfl (.yes rfl rfl rfl rfl (.load rfl (Ld.ownCell ag9 hb10 rfl) rfl (.yes rfl rfl rfl rfl (.neS rfl rfl rfl (.set (d := 60) (u := .bool false) rfl (congrArg Value.bool (by rw [hm9]; rfl)) (.pickF rfl rfl rfl ?_))))))))))))
  exact At.joined (Sub.cons rfl (Sub.cons rfl (Sub.cons rfl (Sub.cons rfl (Sub.cons rfl Sub.nil))))) rfl
 subst hS
 refine .thenN (.condF rfl (.skip (.thenN (.seq (.seq (.region (.move rfl rfl (.geq rfl rfl rfl (.ops0 (.thenN ?_))))))))))
 refine At.cond (b := decide (13 ≤ (nq1 : Int))) rfl (fun hc12 => ?_) (fun hc12 => ?_)
 ·skip
  have hc12' := of_decide_eq_true hc12
  refine .seq (.region ?_)
  refine At.join [(4, .bool true)] (fun w' => w56 = w') ?_ (fun w59 hS => ?_)
  ·skip
   have h13 : decide (nq1 < 13) = false := decide_eq_false (by have := of_decide_eq_true hc12; omega)
   rw [h13] at ho1; obtain ⟨_, _, _, rows, hrw, hsn, _⟩ := TO.is (show TO _ _ rk1 rn1 rm1 rv1 (.mk 4 0 nmP []) from ho1); have hrl : rows = [] := List.map_eq_nil_iff.1 hsn; subst hrl
   refine .move rfl rfl (.move rfl rfl (.yes rfl rfl rfl rfl (.fieldAddr rfl fo45_3 rfl (.yes rfl rfl rfl rfl (.load rfl (Ld.ownCell ag43 hb10 rfl) rfl (.yes rfl rfl rfl rfl (.lenSl (n := 0) rfl hrw.ok el43 rfl (.yes rfl rfl rfl rfl (.eqI rfl rfl rfl (.set (d := 69) (u := .bool true) rfl (congrArg Value.bool rfl) (.pickT rfl rfl rfl (.assign rfl rfl ?_))))))))))))
   exact At.joined (Sub.cons rfl Sub.nil) rfl
  subst hS
  refine .thenN (.retc (.thenR (.doneR (ResV.tmp rfl ResV.nil) ?_)))
  exact ⟨rfl, hG.base⟩
 have hc12' := of_decide_eq_false hc12
 refine .skip (.thenN (.seq (.seq (.region (.assign rfl rfl (.ops0 (.thenN (.block ?_))))))))
 have ho9 := ho1; rw [show decide (nq1 < 13) = true from decide_eq_true (by have := of_decide_eq_false hc12; omega)] at ho9; replace ho9 : TO _ _ rk1 rn1 rm1 rv1 (ovp v0 (nq1 - 0)) := ho9
 refine At.loop (Nat × Int × Int × ByteArray × Value) (fun (i, k9, n9, m9, v9) => [(0, .int .i64 (nq1 : Int)), (1, .int .i64 v0), (5, .bool true), (9, .pointer (some ⟨b10, 0, none⟩)), (10, .int .i64 (i : Int))]) (fun (i, k9, n9, m9, v9) w60 => Gr [] w [] w60 ∧ w60.heap[b1]? = some (.cells t.cs 31) ∧ w60.heap[b9]? = some (.cells #[.int .i64 R.ok, .int .i64 rk1, .int .i64 rn1, .string rm1, rv1, rt1, .int .i64 R.st, .int .i64 R.kn] 49) ∧ w60.heap[b10]? = some (.cells #[.int .i64 k9, .int .i64 n9, .string m9, v9] 45) ∧ TO (some b10 :: (some b9 :: (some b1 :: []))) w60 k9 n9 m9 v9 (ovp v0 (nq1 - i)) ∧ (i ≤ nq1)) (fun (i, k9, n9, m9, v9) => nq1 - i) (0, rk1, rn1, rm1, rv1) (Sub.cons rfl (Sub.cons rfl (Sub.cons rfl (Sub.cons rfl (Sub.cons rfl Sub.nil))))) ⟨hG, hb1, hb9, hb10, (ho9), (Nat.zero_le _)⟩ (fun gh w60 hI => ?_)
 obtain ⟨i, k9, n9, m9, v9⟩ := gh
 obtain ⟨hG, hb1, hb9, hb10, ho9, hiq⟩ := hI
 show At _ _ [(0, .int .i64 (nq1 : Int)), (1, .int .i64 v0), (5, .bool true), (9, .pointer (some ⟨b10, 0, none⟩)), (10, .int .i64 (i : Int))] _ _
 refine .seq (.seq (.region (.move rfl rfl (.move rfl rfl (.lss rfl rfl rfl (.ops0 (.thenN ?_)))))))
 refine At.cond (b := decide ((i : Int) < (nq1 : Int))) rfl (fun hc13 => ?_) (fun hc13 => ?_)
 ·skip
  have hc13' := of_decide_eq_true hc13
  refine .skip (.thenN (.seq (.block (.seq (.seq (.region ?_))))))
  refine At.join [(0, .int .i64 (nq1 : Int)), (1, .int .i64 v0), (5, .bool true), (9, .pointer (some ⟨b10, 0, none⟩)), (10, .int .i64 (i : Int)), (84, .bool false)] (fun w' => w60 = w') ?_ (fun w61 hS => ?_)
  ·skip
   obtain ⟨p, hp⟩ : ∃ p, nq1 - i = p + 1 := ⟨nq1 - i - 1, by have := of_decide_eq_true hc13; omega⟩
   rw [hp] at ho9; obtain ⟨hk9, _, _, rows, hrw, hsn, hall⟩ := TO.is (show TO _ _ k9 n9 m9 v9 (.mk 4 0 nmP [ovp v0 p, ovp v0 p]) from ho9)
   obtain ⟨a1, a2, rfl⟩ : ∃ a1 a2, rows = [a1, a2] := two_of hsn
   refine .fieldAddr rfl fo45_0 rfl (.load rfl (Ld.ownCell ag3 hb10 rfl) rfl (.neI rfl rfl rfl (.set (d := 78) (u := .bool false) rfl (congrArg Value.bool (by rw [hk9]; rfl)) (.move rfl rfl (.yes rfl rfl rfl rfl (.fieldAddr rfl fo45_3 rfl (.yes rfl rfl rfl rfl (.load rfl (Ld.ownCell ag43 hb10 rfl) rfl (.yes rfl rfl rfl rfl (.lenSl (n := 2) rfl hrw.ok el43 rfl (.yes rfl rfl rfl rfl (.neI rfl rfl rfl (.set (d := 83) (u := .bool false) rfl (congrArg Value.bool rfl) (.pickF rfl rfl rfl ?_))))))))))))))
   exact At.joined (Sub.cons rfl (Sub.cons rfl (Sub.cons rfl (Sub.cons rfl (Sub.cons rfl (Sub.cons rfl Sub.nil)))))) rfl
  subst hS
  refine .thenN (.condF rfl (.skip (.thenN (.region ?_))))
  obtain ⟨p, hp⟩ : ∃ p, nq1 - i = p + 1 := ⟨nq1 - i - 1, by have := of_decide_eq_true hc13; omega⟩
  rw [hp] at ho9; obtain ⟨hk9, _, _, rows, hrw, hsn, hall⟩ := TO.is (show TO _ _ k9 n9 m9 v9 (.mk 4 0 nmP [ovp v0 p, ovp v0 p]) from ho9)
  obtain ⟨a1, a2, rfl⟩ : ∃ a1 a2, rows = [a1, a2] := two_of hsn
  obtain ⟨k8, n8, m8, v8, eu, h8⟩ := hall a2 (by simp); have hu : [a1, a2][1]? = some a2 := rfl; have e8 : a2.2 = ovp v0 p := by simp at hsn; exact hsn.2
  rw [e8] at h8
  refine .fieldAddr rfl fo45_3 rfl (.load rfl (Ld.ownCell ag43 hb10 rfl) rfl (.indexAddr (i := 1) rfl rfl hrw.ok (by simp) el43 sz45 rfl (.load rfl (Ld.row (cs := (V4 k8 n8 m8 v8).toArray) ag45 sz45 (by have q := hrw.row hu; simp only [eu] at q; exact q)) rfl ?_)))
  refine At.storeAll rfl rfl hb10 sz45 rfl (by first | (simp [Value.oneCell', h8.one]; done) | (simp only [List.all_toArray, List.all_cons, List.all_nil, h8.one, Bool.and_true, Bool.true_and] <;> rfl)) (fun w62 S14 => ?_)
  replace hb1 := S14.other hb1 n_b1_b10
  replace hb9 := S14.other hb9 n_b9_b10
  replace hb10 : w62.heap[b10]? = some (.cells #[.int .i64 k8, .int .i64 n8, .string m8, v8] 45) := S14.new
  replace hG := hG.set S14 (.inr gb10)
  replace h8 := h8.gr ((Gr.refl _ _).set S14 (.inl (by simp))) (Nat.le_refl _)
  refine .ops0 (.inN (.thenN (.region (.move rfl rfl (.addI rfl rfl rfl (by omega) (.assign rfl rfl (.ops0 (.thenN ?_))))))))
  exact fun act_ hact_ => ⟨((i + 1), k8, n8, m8, v8), hact_.sub (Sub.cons rfl (Sub.cons rfl (Sub.cons rfl (Sub.cons rfl (Sub.cons rfl Sub.nil))))), ⟨hG, hb1, hb9, hb10, (by rw [show nq1 - (i + 1) = p by omega]; exact h8), (by omega)⟩, by first | omega | (dsimp only; omega)⟩
 have hc13' := of_decide_eq_false hc13
 refine .exit (.thenE (.thenE (.inE (.thenN (.seq (.region ?_))))))
 refine At.join [(4, .bool true)] (fun w' => w60 = w') ?_ (fun w63 hS => ?_)
 ·skip
  have hie2 : nq1 - i = 0 := by have := of_decide_eq_false hc13; omega
  rw [hie2] at ho9; obtain ⟨hk9, hn9, _⟩ := TO.is (show TO _ _ k9 n9 m9 v9 (.mk 1 v0 eB []) from ho9)
  refine .move rfl rfl (.move rfl rfl (.yes rfl rfl rfl rfl (.fieldAddr rfl fo45_0 rfl (.yes rfl rfl rfl rfl (.load rfl (Ld.ownCell ag3 hb10 rfl) rfl (.yes rfl rfl rfl rfl (.eqI rfl rfl rfl (.set (d := 93) (u := .bool true) rfl (congrArg Value.bool (decide_eq_true hk9)) (.pickT rfl rfl rfl (.move rfl rfl (.yes rfl rfl rfl rfl (.fieldAddr rfl fo45_1 rfl (.yes rfl rfl rfl rfl (.load rfl (Ld.ownCell ag3 hb10 rfl) rfl (.yes rfl rfl rfl rfl (.move rfl rfl (.yes rfl rfl rfl rfl (.eqI rfl rfl rfl (.set (d := 99) (u := .bool true) rfl (congrArg Value.bool (decide_eq_true hn9)) (.pickT rfl rfl rfl (.assign rfl rfl ?_)))))))))))))))))))))
  exact At.joined (Sub.cons rfl Sub.nil) rfl
 subst hS
 refine .thenN (.retc (.doneR (ResV.tmp rfl ResV.nil) ?_))
 exact ⟨rfl, hG.base⟩
section
variable {H : Type} (enc : TypeId × Value → H) (P : Program) (w : World)
def Rd (n : Nat) (t : TypeId) (cs : List Value) : Prop := ∃ x, DataW.trod enc P w 0 (fun _ => true) true n t cs = some x
end
def kindB (P : Program) (t : TypeId) : Nat :=
  match P.underlying t with
  | some (.int .i64) => 1
  | some .string => 2
  | some .bool => 3
  | _ => 0
def fieldT (P : Program) (t : TypeId) (i : Nat) : Option (Nat × TypeId) :=
  match P.underlying t with
  | some (.struct fs) => (fs[i]?).map fun f => (f.offset, f.type)
  | _ => none
def closB (P : Program) (ts : List TypeId) : Bool :=
  ts.all fun t => match P.underlying t with
    | some (.struct fs) => (fs.toList.all fun f => ts.contains f.type) && (List.range (P.cellsOf t)).all fun j => fs.toList.any fun f => Nat.ble f.offset j && Nat.blt j (f.offset + P.cellsOf f.type)
    | some (.int _) | some .string | some .bool | some (.slice _) => true
    | _ => false
section
variable {H : Type} {enc : TypeId × Value → H} {P : Program} {w : World} {n : Nat} {t e : TypeId} {cs : List Value}
theorem Rd.int (ht : kindB P t = 1) (h : Rd enc P w n t cs) : ∃ m, cs = [.int .i64 m] := by
  obtain ⟨x, h⟩ := h
  have hu : P.underlying t = some (.int .i64) := by
    unfold kindB at ht
    split at ht <;> first | assumption | cases ht
  obtain ⟨m, h1, _⟩ := DataW.trod_int hu h
  exact ⟨m, h1⟩
theorem Rd.field {i o : Nat} {u : TypeId} (ht : fieldT P t i = some (o, u)) (h : Rd enc P w n t cs) : ∃ m, m < n ∧ Rd enc P w m u ((cs.drop o).take (P.cellsOf u)) := by
  obtain ⟨x, h⟩ := h
  unfold fieldT at ht
  split at ht
  · rename_i fs hu
    obtain ⟨xs, m, rfl, _, _, hl, hf⟩ := DataW.trod_struct hu h
    cases hi : fs[i]? with
    | none => rw [hi] at ht; cases ht
    | some f =>
      rw [hi] at ht
      simp only [Option.map_some, Option.some.injEq, Prod.mk.injEq] at ht
      obtain ⟨rfl, rfl⟩ := ht
      have h1 := hf i f hi
      have : i < xs.length := by rw [hl]; exact (Array.getElem?_eq_some_iff.1 hi).1
      exact ⟨m, Nat.lt_succ_self m, xs[i], by rw [h1, List.getElem?_eq_getElem this]⟩
  · cases ht
theorem Rd.len {i o : Nat} {u : TypeId} (ht : fieldT P t i = some (o, u)) (h : Rd enc P w n t cs) : cs.length = P.cellsOf t := by
  obtain ⟨x, h⟩ := h
  unfold fieldT at ht
  split at ht
  · rename_i fs hu
    obtain ⟨xs, m, rfl, _, hc, _⟩ := DataW.trod_struct hu h
    exact hc
  · cases ht
theorem cells_at {a : Addr} {k : Nat} {row : List Value} (h : w.cells? 0 a k = some row) : row.length = k ∧ (0 < k → a.spot = none) ∧ CellsAt w a.block a.off row.toArray := by
  unfold World.cells? at h
  rw [if_pos (Nat.zero_le _)] at h
  have key : ∀ (k : Nat) (s : Nat) (row : List Value), (List.range' s k).mapM (fun i => w.cell? (a.add i)) = some row → row.length = k ∧ ∀ j : Nat, ∀ v, row[j]? = some v → w.cell? (a.add (s + j)) = some v := by
    intro k
    induction k with
    | zero => intro s row h; simp at h; subst h; exact ⟨rfl, fun j v hv => by simp at hv⟩
    | succ k ih =>
      intro s row h
      rw [List.range'_succ, List.mapM_cons] at h
      cases hc : w.cell? (a.add s) with
      | none => simp [hc] at h
      | some c =>
        cases hr : (List.range' (s + 1) k).mapM (fun i => w.cell? (a.add i)) with
        | none => simp [hc, hr] at h
        | some r =>
          simp [hc, hr] at h
          subst h
          obtain ⟨h1, h2⟩ := ih (s + 1) r hr
          refine ⟨by simp [h1], fun j v hv => ?_⟩
          cases j with
          | zero => simp at hv; subst hv; exact hc
          | succ j =>
            have := h2 j v (by simpa using hv)
            rw [← this]; congr 2; omega
  rw [List.range_eq_range'] at h
  obtain ⟨h1, h2⟩ := key k 0 row h
  have hsp : 0 < k → a.spot = none := by
    intro hk
    have hl : 0 < row.length := by omega
    have := h2 0 row[0] (List.getElem?_eq_getElem hl)
    rw [show a.add (0 + 0) = a by simp [Addr.add]] at this
    unfold World.cell? at this
    split at this
    · split at this
      · cases this
      · rename_i hs; cases hq : a.spot with
        | none => rfl
        | some q => rw [hq] at hs; exact absurd rfl hs
    · cases this
  refine ⟨h1, hsp, fun j v hv => ?_⟩
  have hj : j < row.length := by simpa using (Array.getElem?_eq_some_iff.1 hv).1
  have h3 := h2 j v (by simpa using hv)
  have hs := hsp (by omega)
  obtain ⟨b, o, sp⟩ := a
  simp only at hs
  subst hs
  rw [Nat.zero_add, add_at] at h3
  exact h3
theorem Rd.slice {sz : Nat} (ht : elemB P t = some e) (hc : P.cellsOf e = sz) (hz : 0 < sz) (h : Rd enc P w n t cs) :
    ∃ v len, cs = [v] ∧ SlOk v len ∧ len ≤ 9223372036854775807 ∧ ∃ m, m < n ∧ ∀ i, i < len → ∃ row : List Value, row.length = sz ∧ CellsAt w (vBlock v) (vOff v + i * sz) row.toArray ∧ Rd enc P w m e row := by
  obtain ⟨x, h⟩ := h
  have hn : 0 < n := by cases n with | zero => simp [DataW.trod] at h | succ n => omega
  rcases DataW.trod_slice (underlying_elem ht) h with ⟨rfl, _⟩ | ⟨a, len, cap, elems, rest, m, rfl, rfl, _, _, hl, hm, hel, hget, _⟩
  · exact ⟨_, 0, rfl, .inl ⟨rfl, rfl⟩, by omega, 0, hn, fun i hi => by omega⟩
  · rw [hc] at hget
    have each : ∀ i, i < len → ∃ row : List Value, w.cells? 0 (a.add (i * sz)) sz = some row ∧ Rd enc P w m e row := by
      intro i hi
      have h1 := hget i hi
      have hlt : i < elems.length := by omega
      rw [List.getElem?_eq_getElem hlt, Option.bind_eq_some_iff] at h1
      obtain ⟨row, h2, h3⟩ := h1
      exact ⟨row, h2, _, h3⟩
    have hsp : 0 < len → a.spot = none := by
      intro h0
      obtain ⟨row, h2, _⟩ := each 0 h0
      have := (cells_at h2).2.1 hz
      simpa [Addr.add] using this
    refine ⟨_, len, rfl, .inr ⟨a, cap, rfl, hl, hsp⟩, by have : maxLen = 9223372036854775807 := rfl; omega, m, Nat.lt_succ_self m, fun i hi => ?_⟩
    obtain ⟨row, h2, h3⟩ := each i hi
    obtain ⟨h4, _, h5⟩ := cells_at h2
    refine ⟨row, h4, ?_, h3⟩
    have ha := hsp (by omega)
    obtain ⟨b, o, sp⟩ := a
    simp only at ha
    subst ha
    rw [add_at] at h5
    exact h5
theorem list_of {β : Type} {Q : Nat → β → Prop} : ∀ (len : Nat), (∀ i, i < len → ∃ b, Q i b) → ∃ l : List β, l.length = len ∧ ∀ i b, l[i]? = some b → Q i b := by
  intro len
  induction len with
  | zero => intro _; exact ⟨[], rfl, fun i b h => by simp at h⟩
  | succ len ih =>
    intro h
    obtain ⟨l, h1, h2⟩ := ih fun i hi => h i (by omega)
    obtain ⟨b, hb⟩ := h len (by omega)
    refine ⟨l ++ [b], by simp [h1], fun i c hc => ?_⟩
    by_cases hi : i < l.length
    · exact h2 i c (by rwa [List.getElem?_append_left hi] at hc)
    · rw [List.getElem?_append_right (by omega)] at hc
      have : i - l.length = 0 := by
        have := (List.getElem?_eq_some_iff.1 hc).1
        simp at this; omega
      rw [this] at hc
      simp at hc
      subst hc
      have : i = len := by omega
      rw [this]; exact hb
theorem Rd.rows {β : Type} {sz : Nat} {f : β → Array Value} {Ok : β → Prop} (ht : elemB P t = some e) (hc : P.cellsOf e = sz) (hz : 0 < sz) (h : Rd enc P w n t cs)
    (each : ∀ m, m < n → ∀ row : List Value, row.length = sz → Rd enc P w m e row → ∃ b, f b = row.toArray ∧ Ok b) : ∃ (v : Value) (l : List β), cs = [v] ∧ RowsAt w v sz (l.map f) ∧ ∀ b ∈ l, Ok b := by
  obtain ⟨v, len, h1, h2, h3, m, hm, h4⟩ := Rd.slice ht hc hz h
  obtain ⟨l, hl, hq⟩ := list_of (Q := fun i b => (f b).size = sz ∧ CellsAt w (vBlock v) (vOff v + i * sz) (f b) ∧ Ok b) len fun i hi => by
    obtain ⟨row, r1, r2, r3⟩ := h4 i hi
    obtain ⟨b, b1, b2⟩ := each m hm row r1 r3
    exact ⟨b, by rw [b1]; simpa using r1, by rw [b1]; exact r2, b2⟩
  refine ⟨v, l, h1, ⟨by simpa [hl] using h2, fun i cs hi => ?_, fun i cs hi => ?_, by simpa [hl] using h3⟩, fun b hb => ?_⟩
  · simp only [List.getElem?_map, Option.map_eq_some_iff] at hi
    obtain ⟨b, hb, rfl⟩ := hi; exact (hq i b hb).1
  · simp only [List.getElem?_map, Option.map_eq_some_iff] at hi
    obtain ⟨b, hb, rfl⟩ := hi; exact (hq i b hb).2.1
  · obtain ⟨i, hi⟩ := List.getElem?_of_mem hb
    exact (hq i b hi).2.2
theorem Rd.one {ts : List TypeId} (hc : closB P ts = true) : ∀ (n : Nat) (t : TypeId) (cs : List Value), t ∈ ts → Rd enc P w n t cs → ∀ v ∈ cs, v.oneCell' = true := by
  intro n
  induction n with
  | zero => intro t cs _ h; obtain ⟨x, h⟩ := h; simp [DataW.trod] at h
  | succ n ih =>
    intro t cs ht h
    have hct := List.all_eq_true.1 hc t ht
    obtain ⟨x, h⟩ := h
    cases hu : P.underlying t with
    | none => unfold DataW.trod at h; rw [hu] at h; simp at h
    | some d =>
      cases d with
      | struct fs =>
        obtain ⟨xs, m, hm, _, hcl, hl, hf⟩ := DataW.trod_struct hu h
        obtain rfl : n = m := by omega
        rw [hu] at hct
        simp only [Bool.and_eq_true] at hct
        intro v hv
        obtain ⟨j, hj⟩ := List.getElem?_of_mem hv
        have hjl : j < P.cellsOf t := by rw [← hcl]; exact (List.getElem?_eq_some_iff.1 hj).1
        have h2 := List.all_eq_true.1 hct.2 j (by simpa using hjl)
        obtain ⟨f, hf1, hf2⟩ := List.any_eq_true.1 h2
        simp only [Bool.and_eq_true, Nat.ble_eq, Nat.blt_eq] at hf2
        have hf3 := List.all_eq_true.1 hct.1 f hf1
        obtain ⟨i, hi⟩ := List.getElem?_of_mem hf1
        have hi' : fs[i]? = some f := by simpa using hi
        have h4 := hf i f hi'
        have hil : i < xs.length := by rw [hl]; exact (Array.getElem?_eq_some_iff.1 hi').1
        rw [List.getElem?_eq_getElem hil] at h4
        refine ih f.type _ (List.contains_iff_mem.1 hf3) ⟨_, h4⟩ v ?_
        refine List.mem_of_getElem? (i := j - f.offset) ?_
        rw [List.getElem?_take_of_lt (by omega), List.getElem?_drop]
        rw [show f.offset + (j - f.offset) = j by omega]; exact hj
      | int k => obtain ⟨m, rfl, _⟩ := DataW.trod_int hu h; intro v hv; simp at hv; subst hv; rfl
      | string => obtain ⟨m, rfl, _⟩ := DataW.trod_string hu h; intro v hv; simp at hv; subst hv; rfl
      | bool => obtain ⟨m, rfl, _⟩ := DataW.trod_bool hu h; intro v hv; simp at hv; subst hv; rfl
      | slice e =>
        rcases DataW.trod_slice hu h with ⟨rfl, _⟩ | ⟨a, len, cap, elems, rest, m, _, rfl, _⟩
        · intro v hv; simp at hv; subst hv; rfl
        · intro v hv; simp at hv; subst hv; rfl
      | _ => rw [hu] at hct; cases hct
end
section
variable {H : Type} {enc : TypeId × Value → H}
theorem c3 : Tryz.prog.cellsOf 3 = 1 := by kernel_rfl
theorem max_cell {w : World} (h : w.ShapedOpen Tryz.prog) : ∃ m, w.cell? ⟨0, 0, none⟩ = some (.int .i64 m) :=
  cell_of_shapedOpen_int (zero := #[.int .i64 0]) (t := 3) h (of_decide_eq_true (by kernel_rfl)) (by kernel_rfl) rfl (by kernel_rfl) (by kernel_rfl) Tryz.underlying3
end
end Go.Proofs.YtfoolfecjjngpaaGreat
namespace Go.Proofs.YtfoolfecjjngpaaGreat
open Go.ChangeShapes Go.WideShapes Go.ChangeAt Go.RowKit
theorem own_knob : ownKnob Tryz.prog.godebug = none := by kernel_rfl
theorem laid_out : laidOutB Tryz.prog = true := by kernel_rfl
set_option maxRecDepth 100000 in
theorem sourceLarge_lifted (os : Os) (started : os.Started) (H : Type) (enc : TypeId × Value → H) :
    ReturnsInHanded {} Tryz.checked os 10 .any (Rows.sourceLargeSpec.pre6 enc Tryz.prog Tryz.f10 Rows.sourceLargeRow.domain false) (Rows.sourceLargeSpec.post enc Tryz.prog Tryz.f10 false true false false) := by
  refine returnsInHanded_of_change_shaped (C := Tryz.checked) own_knob started (by kernel_rfl) Tryz.func10
    (ChangeSpec.witness6 (enc := enc) (C := Tryz.checked) false ⟨#[], #[.int .i64 0, .int .i64 0], []⟩ 8 (by kernel_rfl) (by kernel_rfl) (by kernel_rfl) (by kernel_rfl)) ?_
  intro W base args ds gs before hval0 hW hcnd _ hsh _
  obtain ⟨m, hm⟩ := max_cell hsh
  have hval : ∀ (j : Nat) t v, Tryz.f10.params[j]? = some t → args[j]? = some v → Value.okWide Tryz.prog W .any base t v := hval0
  have hW' := hW
  obtain ⟨p, q, hA0, hV, rfl, hfz, hnd⟩ := hW
  have hA : DataW.TrodAll enc Tryz.prog W 0 (fun _ => true) true Tryz.f10.params.toList args.toList ds p := hA0
  rw [Tryz.params10] at hA hval
  obtain ⟨v0, v1, d0, d1, p0, p1, rfl, rfl, rfl, h0, h1⟩ := trodAll_two hA
  obtain ⟨rfl, rfl⟩ := trodVars_none hV
  obtain ⟨a0, rfl⟩ := okWide_int (show Tryz.prog.underlying 3 = some (.int .i64) by kernel_rfl) (hval 0 3 v0 rfl rfl)
  obtain ⟨a1, rfl⟩ := okWide_int (show Tryz.prog.underlying 3 = some (.int .i64) by kernel_rfl) (hval 1 3 v1 rfl rfl)
  clear hA0 hval0
  simp only [List.append_nil] at hW'
  have hlt : ∀ x ∈ p0 ++ p1, x.block < W.heap.size := fun x hx => by simpa using hW'.lt x hx
  refine (sourceLarge_any a0 a1 W hm).mono fun e W' ⟨he, hbelow⟩ => ?_
  subst he
  have harg0 : DataW.Trod enc Tryz.prog W' 0 (fun b => decide (b < W.heap.size)) true 3 (.int .i64 a0) d0 p0 :=
    Below.trod laid_out (by kernel_rfl) (of_decide_eq_true (by kernel_rfl)) h0 hbelow (fun x hx => hlt x (by simp [hx]))
  have harg1 : DataW.Trod enc Tryz.prog W' 0 (fun b => decide (b < W.heap.size)) true 3 (.int .i64 a1) d1 p1 :=
    Below.trod laid_out (by kernel_rfl) (of_decide_eq_true (by kernel_rfl)) h1 hbelow (fun x hx => hlt x (by simp [hx]))
  exact ⟨_, rfl, _, _, _, [], _, [], hW', trodAll_mk1 (shut_bool (by kernel_rfl) _), trodAll_mk2 harg0 harg1, rfl, hbelow.frame _, fun h => by cases h⟩
theorem sourceLarge_holds : Rows.SourceLargeSaid :=
  OpenClaim.holds_of_wide 10 Tryz.f10 rfl rfl rfl rfl rfl rfl rfl ⟨rfl, rfl, rfl, rfl, rfl⟩ rfl rfl rfl rfl rfl (by kernel_rfl) Tryz.func10 (by kernel_rfl)
    (of_decide_eq_true (by kernel_rfl)) (by unfold Func.isWrapper; rw [if_neg (by decide +kernel)]; exact ⟨rfl, rfl⟩)
    (fun os started H enc _ => sourceLarge_lifted os started H enc)
end Go.Proofs.YtfoolfecjjngpaaGreat
