/-
  Part 6 of 6 of a proof: sourceAnswers_holds. No condition beyond those that stand in each statement.
-/
import Derived.Test.YtfoolfecjjngpaaGreatPa5
import Derived.Test.YtfoolfecjjngpaaGreatRows
set_option linter.unusedVariables false
set_option linter.unusedSimpArgs false
namespace Go.Proofs.YtfoolfecjjngpaaGreat
open Go.RowKit
theorem en134 : entB Tryz.prog 134 = true := by kernel_rfl
theorem en135 : entB Tryz.prog 135 = true := by kernel_rfl
theorem en136 : entB Tryz.prog 136 = true := by kernel_rfl
theorem en137 : entB Tryz.prog 137 = true := by kernel_rfl
theorem en150 : entB Tryz.prog 150 = true := by kernel_rfl
theorem en153 : entB Tryz.prog 153 = true := by kernel_rfl
theorem en157 : entB Tryz.prog 157 = true := by kernel_rfl
theorem en159 : entB Tryz.prog 159 = true := by kernel_rfl
theorem en32 : entB Tryz.prog 32 = true := by kernel_rfl
theorem fo49_2 : fieldB Tryz.prog 49 2 = some (6, 1) := by kernel_rfl
theorem na115 (p : Value) (w : World) : (nilAhead (Tryz.prog.types.size + Made.depth) 115 p "brocade/source.gets").run Tryz.prog w = .ok (some false) w := by kernel_rfl
theorem me115 (p : Value) (w : World) : (Go.method (Tryz.prog.types.size + Made.depth) 115 p "brocade/source.gets").run Tryz.prog w = .ok (134, p) w := by kernel_rfl
theorem na117 (p : Value) (w : World) : (nilAhead (Tryz.prog.types.size + Made.depth) 117 p "brocade/source.gets").run Tryz.prog w = .ok (some false) w := by kernel_rfl
theorem me117 (p : Value) (w : World) : (Go.method (Tryz.prog.types.size + Made.depth) 117 p "brocade/source.gets").run Tryz.prog w = .ok (135, p) w := by kernel_rfl
theorem na121 (p : Value) (w : World) : (nilAhead (Tryz.prog.types.size + Made.depth) 121 p "brocade/source.gets").run Tryz.prog w = .ok (some false) w := by kernel_rfl
theorem me121 (p : Value) (w : World) : (Go.method (Tryz.prog.types.size + Made.depth) 121 p "brocade/source.gets").run Tryz.prog w = .ok (136, p) w := by kernel_rfl
theorem na124 (p : Value) (w : World) : (nilAhead (Tryz.prog.types.size + Made.depth) 124 p "brocade/source.gets").run Tryz.prog w = .ok (some false) w := by kernel_rfl
theorem me124 (p : Value) (w : World) : (Go.method (Tryz.prog.types.size + Made.depth) 124 p "brocade/source.gets").run Tryz.prog w = .ok (137, p) w := by kernel_rfl
theorem na126 (p : Value) (w : World) : (nilAhead (Tryz.prog.types.size + Made.depth) 126 p "brocade/source.gets").run Tryz.prog w = .ok (some false) w := by kernel_rfl
theorem me126 (p : Value) (w : World) : (Go.method (Tryz.prog.types.size + Made.depth) 126 p "brocade/source.gets").run Tryz.prog w = .ok (150, p) w := by kernel_rfl
theorem na128 (p : Value) (w : World) : (nilAhead (Tryz.prog.types.size + Made.depth) 128 p "brocade/source.gets").run Tryz.prog w = .ok (some false) w := by kernel_rfl
theorem me128 (p : Value) (w : World) : (Go.method (Tryz.prog.types.size + Made.depth) 128 p "brocade/source.gets").run Tryz.prog w = .ok (153, p) w := by kernel_rfl
theorem na129 (p : Value) (w : World) : (nilAhead (Tryz.prog.types.size + Made.depth) 129 p "brocade/source.gets").run Tryz.prog w = .ok (some false) w := by kernel_rfl
theorem me129 (p : Value) (w : World) : (Go.method (Tryz.prog.types.size + Made.depth) 129 p "brocade/source.gets").run Tryz.prog w = .ok (157, p) w := by kernel_rfl
theorem na207 (p : Value) (w : World) : (nilAhead (Tryz.prog.types.size + Made.depth) 207 p "brocade/source.gets").run Tryz.prog w = .ok (some false) w := by kernel_rfl
theorem me207 (p : Value) (w : World) : (Go.method (Tryz.prog.types.size + Made.depth) 207 p "brocade/source.gets").run Tryz.prog w = .ok (159, p) w := by kernel_rfl
theorem na_any {M : List (Option Nat)} {nc t : Nat} {w : World} {p : Value} {y : X} (h : XAt M nc w .f [.iface t p] y) (w' : World) : (nilAhead (Tryz.prog.types.size + Made.depth) t p "brocade/source.gets").run Tryz.prog w' = .ok (some false) w' := by
 cases h with
 | arg => exact na115 _ _
 | fn => exact na207 _ _
 | bnd => exact na117 _ _
 | frk => exact na121 _ _
 | gat => exact na124 _ _
 | way => exact na126 _ _
 | ask => exact na128 _ _
 | hnd => exact na129 _ _
theorem gets_any {E : List (Option Nat)} {b : Nat} {x : Sx} {s : SS} {t : Nat} {p : Value} {y : X} {k n : Int} {nm : ByteArray} {kv fp kp : Value} {vx : X} (w : World) (hM : StA E b x w s) (hf : XAt (x.M b ++ E) s.cells.length w .f [.iface t p] y) (hv : XAt (x.M b ++ E) s.cells.length w .v (V7 k n nm kv fp kp) vx) (ok : frOk y) (h1 : s.tr.length ≤ 1000000000000) (h2 : s.cells.length ≤ 1000000000000) (h3 : lenX s.fr ≤ 1000000000000) :
  ∃ f, (Go.method (Tryz.prog.types.size + Made.depth) t p "brocade/source.gets").run Tryz.prog w = .ok (f, p) w ∧ entB Tryz.prog f = true ∧ Calls Tryz.prog f ([p, .pointer (some ⟨b, 0, none⟩), .agg #[.int .i64 k, .int .i64 n, .string nm, .slice none 0 0, kv, fp, kp]] : List Value).toArray w (Pst E b x w (getsF y s vx)) := by
 cases hf with
 | arg ht he => exact ⟨134, me115 _ _, en134, gArg_any w hM ht he hv⟩
 | fn hl hx =>
  obtain ⟨k', n', nm', kv', fp', kp', rows, f, st, rfl, rfl, hv2, hf2, hs2, _⟩ := hx.vinv
  exact ⟨159, me207 _ _, en159, gFn_any w hM hx rfl hf2 hs2 ok hv⟩
 | bnd ht he => exact ⟨135, me117 _ _, en135, gBnd_any w hM ht he hv⟩
 | frk hl hr hm ht he => exact ⟨136, me121 _ _, en136, gFrk_any w hM hl hr hm ht he hv⟩
 | gat ht rows hr hm hk he => exact ⟨137, me124 _ _, en137, gGat_any w hM ht ⟨hr, hm, hk⟩ he hv (by simpa [frOk] using ok) h1 h2⟩
 | way hr hm ht he => exact ⟨150, me126 _ _, en150, gWay_any w hM hr hm ht he hv⟩
 | ask => exact ⟨153, me128 _ _, en153, gAsk_any _ w hM h3 hv⟩
 | @hnd av ev l e hr hm ht he =>
  cases l with
  | nil => exact ⟨157, me129 _ _, en157, gHnd0_any w hM hr hm ht he hv⟩
  | cons a r => exact ⟨157, me129 _ _, en157, gHnd1_any w hM hr hm ht he hv⟩
theorem step_any {E : List (Option Nat)} {b : Nat} {x : Sx} {s : SS}  (w : World) (hM : StA E b x w s) (hSm : Sm s) :
    Calls Tryz.prog 25 ([.pointer (some ⟨b, 0, none⟩)] : List Value).toArray w (Pst E b x w ((stepF s).getD s, (stepF s).isSome)) := by
  have hfr0 := hM.fr
  have hG := Gr.refl (x.M b) w
  refine At.enter (N := 53) Tryz.func25 rfl rfl (by simp) [(0, .pointer (some ⟨b, 0, none⟩))] (by simp) ?_
  refine .seq (.region (.assign rfl rfl (.ops0 (.thenN (.seq (.seq (.region (.move rfl rfl ?_))))))))
  refine At.call en31 rfl rfl (ended_any _ hM) (fun e w1 hR => ?_)
  obtain ⟨rfl, hbl1⟩ := hR
  refine ⟨_, rfl, ?_⟩
  replace hG := hG.below hbl1
  replace hM := hM.below hbl1
  refine .ops0 (.thenN ?_)
  refine At.cond (b := (endedF s)) rfl (fun hc1 => ?_) (fun hc1 => ?_)
  · skip
    refine .seq (.region (.assign rfl rfl (.ops0 (.thenN (.retc (.thenR (.doneR (ResV.tmp rfl ResV.nil) ?_)))))))
    exact Pst.fin (by rw [stepF_end hc1]; rfl) hM hG
  · skip
    refine .skip (.thenN (.seq (.region (.move rfl rfl (.nilCheck rfl rfl (.fieldAddr rfl fo84_7 rfl (.fieldAddr rfl fo49_2 rfl (.load rfl (Ld.ownCell ag3 hM.blk (mx_at (j := 18) hM.tsz rfl rfl)) rfl (.add rfl rfl rfl (.nilCheck rfl rfl (.fieldAddr rfl fo84_7 rfl (.fieldAddr rfl fo49_2 rfl ?_))))))))))))
    refine At.stS { x with st := (IntKind.i64.wrap (x.st + 1)) } { s with st := (IntKind.i64.wrap (s.st + 1)) } 18 rfl rfl hM sz3 rfl rfl rfl rfl rfl rfl rfl (fun w2 S1 hM G1 => ?_) (n := (congrArg (fun z => IntKind.i64.wrap (z + 1)) hM.n))
    replace hG := hG.trans G1
    refine .ops0 (.thenN (.seq (.region (.assign rfl rfl (.ops0 (.thenN (.seq (.seq (.region (.move rfl rfl (.nilCheck rfl rfl (.fieldAddr rfl fo84_2 rfl (.load rfl (Ld.ownCell ag4 hM.blk (mx_at (j := 1) hM.tsz rfl rfl)) rfl (.ops0 (.thenN ?_)))))))))))))))
    refine At.cond (b := x.at_) rfl (fun hc2 => ?_) (fun hc2 => ?_)
    · skip
      have hat : s.at_ = true := hM.at_.symm.trans hc2
      refine .region (.move rfl rfl ?_)
      refine At.callM en32 rfl rfl (looks_any  _ hM ) (fun x1 w3 hM G2 => ?_)
      replace hG := hG.trans G2
      refine .assign rfl rfl (.ops0 (.thenN (.seq (.seq (.region (.move rfl rfl (.not rfl rfl (.ops0 (.thenN ?_)))))))))
      refine At.cond (b := (!(looksF { s with st := (IntKind.i64.wrap (s.st + 1)) }).2)) rfl (fun hc3 => ?_) (fun hc3 => ?_)
      · skip
        refine .region (.move rfl rfl ?_)
        refine At.callM en33 rfl rfl (ends_any 4 _ hM ) (fun x2 w4 hM G3 => ?_)
        replace hG := hG.trans G3
        refine .ops0 (.thenN (.seq (.region (.assign rfl rfl (.ops0 (.thenN (.retc (.doneR (ResV.tmp rfl ResV.nil) ?_))))))))
        exact Pst.fin (by rw [stepF_at hc1 hat]; have e3 := bnot_t hc3; exact congrArg (fun q => (q, true)) (by rw [Option.getD_some, e3]; rfl)) hM hG
      · skip
        refine .skip (.thenN (.seq (.region (.assign rfl rfl (.ops0 (.thenN (.retc (.doneR (ResV.tmp rfl ResV.nil) ?_))))))))
        exact Pst.fin (by rw [stepF_at hc1 hat]; have e3 := bnot_f hc3; exact congrArg (fun q => (q, true)) (by rw [Option.getD_some, e3]; rfl)) hM hG
    · skip
      have hat : s.at_ = false := hM.at_.symm.trans hc2
      refine .seq (.region (.move rfl rfl (.nilCheck rfl rfl (.fieldAddr rfl fo84_4 rfl (.load rfl (Ld.ownCell ag80 hM.blk (mx_at (j := 9) hM.tsz rfl rfl)) rfl ?_)))))
      obtain ⟨bi1, ti1, ri1, xi1, yi1, pi1, ei1, hbi1, mbi1, hxi1, hyi1⟩ := hfr0.sinv' (not_ended hc1 hat)
      refine .set (d := 25) (u := .pointer (some ⟨bi1, 0, none⟩)) rfl pi1 (.nilCheck rfl rfl (.fieldAddr rfl fo88_0 rfl (.load rfl (Ld.ownCell ag86 (hG.ext.old mbi1 hbi1) rfl) rfl (.assign rfl rfl ?_))))
      obtain ⟨fT, fp, hft, _⟩ := hxi1.frm; rw [hft] at hxi1
      refine .set (d := 28) (u := .iface fT fp) rfl hft (.set (d := 4) (u := .iface fT fp) rfl hft (.ops0 (.thenN (.seq (.region (.move rfl rfl (.move rfl rfl (.nilCheck rfl rfl (.fieldAddr rfl fo84_4 rfl (.load rfl (Ld.ownCell ag80 hM.blk (mx_at (j := 9) hM.tsz rfl rfl)) rfl (.set (d := 33) (u := .pointer (some ⟨bi1, 0, none⟩)) rfl pi1 (.nilCheck rfl rfl (.fieldAddr rfl fo88_1 rfl (.load rfl (Ld.ownCell ag80 (hG.ext.old mbi1 hbi1) rfl) rfl (.nilCheck rfl rfl (.fieldAddr rfl fo84_4 rfl ?_))))))))))))))))
      refine At.stS { x with st := (IntKind.i64.wrap (x.st + 1)), fr := ri1 } { s with st := (IntKind.i64.wrap (s.st + 1)), fr := yi1 } 9 rfl rfl hM sz80 hyi1.one rfl rfl rfl rfl rfl rfl (fun w5 S2 hM G4 => ?_) (fr := (hyi1.gr hG.ext (Nat.le_refl _)))
      replace hG := hG.trans G4
      refine .ops0 (.thenN (.drawG (n := 11) mixed (by kernel_rfl) rfl (PanicOk.then PanicOk.body) ?_))
      replace hG := hG.drew
      replace hM := hM.drew
      refine At.wpcS (i := 0) (d := 39) ((.iface fT fp)) (by kernel_rfl) rfl rfl rfl (fun Lx => ?_) ?_
      · skip
        exact .move rfl rfl (.ops0 fun a ha => ⟨ha, rfl⟩)
      refine At.wpcS (i := 1) (d := 40) (.pointer (some ⟨b, 0, none⟩)) (by kernel_rfl) rfl rfl rfl (fun Lx => ?_) ?_
      · skip
        exact .move rfl rfl (.ops0 fun a ha => ⟨ha, rfl⟩)
      refine At.wpcS (i := 2) (d := 41) (.pointer (some ⟨b, 0, none⟩)) (by kernel_rfl) rfl rfl rfl (fun Lx => ?_) ?_
      · skip
        exact .move rfl rfl (.ops0 fun a ha => ⟨ha, rfl⟩)
      refine At.wpcS (i := 3) (d := 42) (.pointer (some ⟨b, 0, none⟩)) (by kernel_rfl) rfl rfl rfl (fun Lx => ?_) ?_
      · skip
        exact .nilCheck rfl rfl (.ops0 fun a ha => ⟨ha, rfl⟩)
      refine At.wpcS (i := 4) (d := 43) (.pointer (some ⟨b, 0 + 23, none⟩)) (by kernel_rfl) rfl rfl rfl (fun Lx => ?_) ?_
      · skip
        exact .fieldAddr rfl fo84_3 rfl (.ops0 fun a ha => ⟨ha, rfl⟩)
      refine At.wpcS (i := 5) (d := 44) (.agg #[.int .i64 x.k, .int .i64 x.n, .string x.nm, zN, x.kv, x.fp, x.kp]) (by kernel_rfl) rfl rfl rfl (fun Lx => ?_) ?_
      · skip
        exact .load rfl (Ld.ownPart (n := 7) (cs := (V7 x.k x.n x.nm x.kv x.fp x.kp).toArray) ag82 sz82 hM.blk (mx_sub hM.tsz 2 rfl rfl)) rfl (.ops0 fun a ha => ⟨ha, rfl⟩)
      refine At.wpcS (i := 6) (d := 45) (.func (.method "brocade/source.gets") #[(.iface fT fp)] #[]) (by kernel_rfl) rfl rfl rfl (fun Lx => ?_) ?_
      · skip
        exact .method rfl rfl (.ops0 fun a ha => ⟨ha, rfl⟩)
      refine At.wpcS (i := 7) (d := 46) (.func (.method "brocade/source.gets") #[(.iface fT fp)] #[]) (by kernel_rfl) rfl rfl rfl (fun Lx => ?_) ?_
      · skip
        exact .methodC rfl (na_any hxi1 _) rfl (.ops0 fun a ha => ⟨ha, rfl⟩)
      refine At.wpcS (i := 8) (d := 47) ((.iface fT fp)) (by kernel_rfl) rfl rfl rfl (fun Lx => ?_) ?_
      · skip
        exact .move rfl rfl (.ops0 fun a ha => ⟨ha, rfl⟩)
      refine At.wpcE [9] (by kernel_rfl) (by kernel_rfl) (.cons [] rfl (by kernel_rfl) ?_ .nil)
      obtain ⟨f9, hq1, hq2, hq3⟩ := gets_any _ hM (hxi1.gr hG.ext (Nat.le_refl _)) hM.v (by have q := hSm.2.2.2 hat; rw [ei1] at q; exact q) hSm.1 hSm.2.1 (by show lenX yi1 ≤ _; have q := hSm.2.2.1; rw [ei1, lenX] at q; omega)
      refine At.invoke rfl hq1 hq2 rfl rfl hq3 (fun e9 w6 hR => ?_)
      obtain ⟨x3, rfl, hM, G5⟩ := hR; refine ⟨_, rfl, ?_⟩
      replace hG := hG.trans G5
      refine .ops0 (.wpcN .nil ?_)
      refine At.wpcE [10] (by kernel_rfl) (by kernel_rfl) (.cons [] rfl (by kernel_rfl) ?_ .nil)
      refine .assign rfl rfl (.ops0 (.wpcN .nil (.wpcZ (.thenN (.seq (.seq (.region (.move rfl rfl (.not rfl rfl (.ops0 (.thenN ?_)))))))))))
      refine At.cond (b := (!(getsF xi1 { s with st := (IntKind.i64.wrap (s.st + 1)), fr := yi1 } s.v).2)) rfl (fun hc4 => ?_) (fun hc4 => ?_)
      · skip
        refine .region (.move rfl rfl ?_)
        refine At.callM en33 rfl rfl (ends_any 4 _ hM ) (fun x4 w7 hM G6 => ?_)
        replace hG := hG.trans G6
        refine .ops0 (.thenN (.seq (.region (.assign rfl rfl (.ops0 (.thenN (.retc (.doneR (ResV.tmp rfl ResV.nil) ?_))))))))
        exact Pst.fin (by rw [stepF_fr hc1 hat ei1]; have e3 := bnot_t hc4; exact congrArg (fun q => (q, true)) (by rw [Option.getD_some, e3]; rfl)) hM hG
      · skip
        refine .skip (.thenN (.seq (.region (.assign rfl rfl (.ops0 (.thenN (.retc (.doneR (ResV.tmp rfl ResV.nil) ?_))))))))
        exact Pst.fin (by rw [stepF_fr hc1 hat ei1]; have e3 := bnot_f hc4; exact congrArg (fun q => (q, true)) (by rw [Option.getD_some, e3]; rfl)) hM hG
theorem runF_succ (i : Nat) (s : SS) : runF (i + 1) s = (stepF (runF i s)).getD (runF i s) := by
  induction i generalizing s with
  | zero => rw [runF, runF]; cases h : stepF s <;> rfl
  | succ i ih =>
    rw [runF]
    cases h : stepF s with
    | none => simp [runF, h]
    | some s' => simp only []; rw [ih, runF, h]
theorem runF_stop {i n : Nat} {s : SS} (h : stepF (runF i s) = none) (hn : i ≤ n) : runF n s = runF i s := by
  obtain ⟨k, rfl⟩ : ∃ k, n = i + k := ⟨n - i, by omega⟩
  clear hn
  induction k with
  | zero => rfl
  | succ k ih => rw [← Nat.add_assoc, runF_succ, ih, h]; rfl
theorem RAt.weak {M M' : List (Option Nat)} {w : World} {cs : List Value} {r : SR} (h : RAt M w cs r) (hM : ∀ q ∈ M', q ∈ M) : RAt M' w cs r := by
  obtain ⟨k, n, nm, kv, tv, e, ho, ht, hm⟩ := h
  exact ⟨k, n, nm, kv, tv, e, ho.weak hM, ht, fun hn he => hm hn (hM _ he)⟩
theorem Gr.newM {M M' : List (Option Nat)} {w w1 w2 : World} (hG : Gr [] w [] w1) (G : Gr M w1 M' w2) (hl : ∀ g, some g ∈ M → w.heap.size ≤ g) (g : Nat) (hg : some g ∈ M') : w.heap.size ≤ g := by
  apply Classical.byContradiction
  intro hn
  exact G.out (Nat.lt_of_lt_of_le (Nat.lt_of_not_le hn) hG.size) (fun hm => hn (hl g hm)) hg
theorem runR_end {i : Nat} {n : Int} {t : ST} {l : List Int} (h : n.toNat ≤ i ∨ stepF (runF i (startF t l)) = none) (hi : i ≤ n.toNat) : nowF (runF i (startF t l)) = runR t l n := by
  rcases h with h | h
  · rw [runR, Nat.le_antisymm h hi]
  · rw [runR, runF_stop h hi]
theorem en24 : entB Tryz.prog 24 = true := by kernel_rfl
theorem en25 : entB Tryz.prog 25 = true := by kernel_rfl
theorem en26 : entB Tryz.prog 26 = true := by kernel_rfl
theorem run_any {E : List (Option Nat)} {t : Tm} {v1 v2 vl : Value} {l : List Int} (fuel : Int) (w : World)  (h1 : v1.oneCell' = true) (h2 : v2.oneCell' = true) (ht : Xs kTm E w [t]) (hE : MLt w.heap.size E) (hi : IntsAt w vl l) (hl : l.length ≤ 1000000000000) (hf : fuel ≤ 1000000000) (hSm : ∀ i, i ≤ fuel.toNat → Sm (runF i (startF (shT t) l))) :
  Calls Tryz.prog 14 ([.agg (mx [v1, v2] t.cs []), vl, .int .i64 fuel] : List Value).toArray w fun r w' => ∃ cs : List Value, r = .returned (.agg cs.toArray) ∧ RAt E w' cs (runR (shT t) l fuel) ∧ Below w.heap.size w w' := by
 have hG := Gr.refl [] w
 refine At.enter (N := 23) Tryz.func14 rfl rfl (by simp) [(0, .agg (mx [v1, v2] t.cs [])), (1, vl), (2, .int .i64 fuel)] (by simp) ?_
 refine .seq (.region ?_)
 refine At.box rfl rfl (fun b1 w1 F1 => ?_)
 have hb1 : w1.heap[b1]? = some (.cells (mx [v1, v2] t.cs []) 38) := F1.new
 replace hG := hG.below F1.bel
 refine At.alloc ze49 rfl (fun b2 w2 F2 => ?_)
 have gb2 := Nat.le_trans hG.size (Nat.le_of_eq F2.eq.symm)
 replace hb1 := F2.old hb1
 have hb2 : w2.heap[b2]? = some (.cells #[zI, zI, zI, zS, zN, zN, zI, zI] 49) := F2.new
 replace hG := hG.below F2.bel
 refine .ops0 (.thenN (.seq (.region (.load rfl (Ld.own ag38 (sz38.trans (congrArg some (mx_size (pre := [v1, v2]) (post := []) ht.one.size).symm)) hb1) rfl (.move rfl rfl ?_)))))
 have hG0 := hG
 have lb1 := lt_of_obj hb1
 have lb2 := lt_of_obj hb2
 refine At.call en24 rfl rfl (start_any (E := E) _ h1 h2 (ht.gr hG.any) (fun q hq => Nat.lt_of_lt_of_le (hE q hq) hG.size) (IntsAt.keep hi hG.base) hl) (fun e w3 hR => ?_)
 obtain ⟨b, x0, rfl, hS, hbl1, hgl⟩ := hR; refine ⟨_, rfl, ?_⟩
 replace hb1 := Below.old hbl1 hb1
 replace hb2 := Below.old hbl1 hb2
 replace hG := hG.below hbl1
 have hG1 := (Gr.refl [] w2).below hbl1
 refine .assign rfl rfl (.ops0 (.thenN (.seq (.seq (.region (.assign rfl rfl (.ops0 (.thenN (.block ?_)))))))))
 refine At.loop (Nat × Sx) (fun (i, x1) => [(2, .int .i64 fuel), (6, .pointer (some ⟨b2, 0, none⟩)), (7, .pointer (some ⟨b, 0, none⟩)), (8, .int .i64 (i : Int))]) (fun (i, x1) w4 => Gr [] w [] w4 ∧ w4.heap[b1]? = some (.cells (mx [v1, v2] t.cs []) 38) ∧ w4.heap[b2]? = some (.cells #[zI, zI, zI, zS, zN, zN, zI, zI] 49) ∧ StA E b x1 w4 (runF i (startF (shT t) l)) ∧ Gr [] w2 [] w4 ∧ (∀ g, some g ∈ x1.M b → w2.heap.size ≤ g) ∧ (i ≤ fuel.toNat)) (fun (i, x1) => fuel.toNat - i) (0, x0) (Sub.cons rfl (Sub.cons rfl (Sub.cons rfl (Sub.cons rfl Sub.nil)))) ⟨hG, hb1, hb2, (hS), (hG1), (hgl), (Nat.zero_le _)⟩ (fun gh w4 hI => ?_)
 obtain ⟨i, x1⟩ := gh
 obtain ⟨hG, hb1, hb2, hS, hG1, hgl, hib⟩ := hI
 show At _ _ [(2, .int .i64 fuel), (6, .pointer (some ⟨b2, 0, none⟩)), (7, .pointer (some ⟨b, 0, none⟩)), (8, .int .i64 (i : Int))] _ _
 refine .seq (.seq (.region (.move rfl rfl (.move rfl rfl (.lss rfl rfl rfl (.move rfl rfl ?_))))))
 refine At.cases (decide ((i : Int) < fuel)) (fun hg1 => ?_) (fun hg1 => ?_)
 ·skip
  refine .set (d := 15) (u := .bool true) rfl (congrArg Value.bool hg1) ?_
  have hg1' := of_decide_eq_true hg1
  refine .yes rfl rfl rfl rfl (.move rfl rfl (.yes rfl rfl rfl rfl ?_))
  refine At.call en25 rfl rfl (step_any _ hS (hSm i hib)) (fun e w5 hR => ?_)
  obtain ⟨x2, rfl, hS2, G1⟩ := hR; refine ⟨_, rfl, ?_⟩
  replace hG := hG.low G1 (fun g hg => Nat.le_trans hG0.size (hgl g hg)); have hgl2 := Gr.newM hG1 G1 hgl; replace hG1 := hG1.low G1 hgl; rw [← runF_succ] at hS2
  replace hb1 := G1.old (fun hm => absurd (hgl _ hm) (Nat.not_le.2 lb1)) hb1
  replace hb2 := G1.old (fun hm => absurd (hgl _ hm) (Nat.not_le.2 lb2)) hb2
  refine .pickT rfl rfl rfl (.ops0 (.thenN ?_))
  refine At.cond (b := (stepF (runF i (startF (shT t) l))).isSome) rfl (fun hc1 => ?_) (fun hc1 => ?_)
  ·skip
   refine .skip (.thenN (.seq (.block (.skip (.inN (.thenN (.region (.move rfl rfl (.addI rfl rfl rfl (by omega) (.assign rfl rfl (.ops0 (.thenN ?_))))))))))))
   exact fun act_ hact_ => ⟨((i + 1), x2), hact_.sub (Sub.cons rfl (Sub.cons rfl (Sub.cons rfl (Sub.cons rfl Sub.nil)))), ⟨hG, hb1, hb2, hS2, hG1, (hgl2), (by have := of_decide_eq_true hg1; omega)⟩, by first | (have := of_decide_eq_true hg1; dsimp only; omega) | (have := of_decide_eq_true hc2; dsimp only; omega)⟩
  refine .exit (.thenE (.thenE (.inE (.thenN (.seq (.region (.move rfl rfl ?_)))))))
  have hno : stepF (runF i (startF (shT t) l)) = none := by cases hq : stepF (runF i (startF (shT t) l)) with | none => rfl | some z => rw [hq] at hc1; cases hc1
  rw [runF_succ, hno] at hS2; replace hS2 : StA E b x2 _ (runF i (startF (shT t) l)) := hS2
  refine At.call en26 rfl rfl (now_any (some b2 :: E) _ hS2 (fun q hq => by rcases List.mem_cons.1 hq with e | e; cases e; exact lt_of_obj hb2; exact Nat.lt_of_lt_of_le (hE q e) hG.size) (hSm i hib).1) (fun e w6 hR => ?_)
  obtain ⟨cs, rfl, hra, hbl2⟩ := hR; refine ⟨_, rfl, ?_⟩
  replace hb2 := Below.old hbl2 hb2
  replace hG := hG.below hbl2
  rw [runR_end (n := fuel) (.inr hno) hib] at hra; obtain ⟨rk, rn, rnm, rkv, rtv, rfl, ho, htv, htm⟩ := hra
  refine At.storeAll rfl rfl hb2 sz49 rfl (by first | (simp [Value.oneCell', ho.one, htv.ok.one]; done) | (simp only [List.all_toArray, List.all_cons, List.all_nil, ho.one, htv.ok.one, Bool.and_true, Bool.true_and] <;> rfl)) (fun w7 S1 => ?_)
  replace hb2 : w7.heap[b2]? = some (.cells #[.int .i64 ((runR (shT t) l fuel).ok), .int .i64 rk, .int .i64 rn, .string rnm, rkv, rtv, .int .i64 ((runR (shT t) l fuel).st), .int .i64 ((runR (shT t) l fuel).kn)] 49) := S1.new
  replace hG := hG.set S1 (.inr gb2)
  refine .ops0 (.thenN (.retc (.doneR (ResV.cell rfl (Ld.own (C := #[.int .i64 ((runR (shT t) l fuel).ok), .int .i64 rk, .int .i64 rn, .string rnm, rkv, rtv, .int .i64 ((runR (shT t) l fuel).st), .int .i64 ((runR (shT t) l fuel).kn)]) ag49 sz49 hb2) ResV.nil) ?_)))
  exact ⟨_, rfl, RAt.weak (M := some b2 :: E) (RAt.gr (w := w6) ⟨rk, rn, rnm, rkv, rtv, rfl, ho, htv, htm⟩ ((Gr.refl _ _).set S1 (.inl (by simp)))) (fun q hq => List.mem_cons_of_mem _ hq), hG.base⟩
 refine .set (d := 15) (u := .bool false) rfl (congrArg Value.bool hg1) ?_
 have hg1' := of_decide_eq_false hg1
 refine .no rfl rfl rfl rfl rfl rfl rfl (.no rfl rfl rfl rfl rfl rfl rfl (.pickF rfl rfl rfl (.ops0 (.thenN (.condF rfl (.exit (.thenE (.thenE (.inE (.thenN (.seq (.region (.move rfl rfl ?_)))))))))))))
 refine At.call en26 rfl rfl (now_any (some b2 :: E) _ hS (fun q hq => by rcases List.mem_cons.1 hq with e | e; cases e; exact lt_of_obj hb2; exact Nat.lt_of_lt_of_le (hE q e) hG.size) (hSm i hib).1) (fun e w8 hR => ?_)
 obtain ⟨cs, rfl, hra, hbl3⟩ := hR; refine ⟨_, rfl, ?_⟩
 replace hb2 := Below.old hbl3 hb2
 replace hG := hG.below hbl3
 rw [runR_end (n := fuel) (.inl (by have := of_decide_eq_false hg1; omega)) hib] at hra; obtain ⟨rk, rn, rnm, rkv, rtv, rfl, ho, htv, htm⟩ := hra
 refine At.storeAll rfl rfl hb2 sz49 rfl (by first | (simp [Value.oneCell', ho.one, htv.ok.one]; done) | (simp only [List.all_toArray, List.all_cons, List.all_nil, ho.one, htv.ok.one, Bool.and_true, Bool.true_and] <;> rfl)) (fun w9 S2 => ?_)
 replace hb2 : w9.heap[b2]? = some (.cells #[.int .i64 ((runR (shT t) l fuel).ok), .int .i64 rk, .int .i64 rn, .string rnm, rkv, rtv, .int .i64 ((runR (shT t) l fuel).st), .int .i64 ((runR (shT t) l fuel).kn)] 49) := S2.new
 replace hG := hG.set S2 (.inr gb2)
 refine .ops0 (.thenN (.retc (.doneR (ResV.cell rfl (Ld.own (C := #[.int .i64 ((runR (shT t) l fuel).ok), .int .i64 rk, .int .i64 rn, .string rnm, rkv, rtv, .int .i64 ((runR (shT t) l fuel).st), .int .i64 ((runR (shT t) l fuel).kn)]) ag49 sz49 hb2) ResV.nil) ?_)))
 exact ⟨_, rfl, RAt.weak (M := some b2 :: E) (RAt.gr (w := w8) ⟨rk, rn, rnm, rkv, rtv, rfl, ho, htv, htm⟩ ((Gr.refl _ _).set S2 (.inl (by simp)))) (fun q hq => List.mem_cons_of_mem _ hq), hG.base⟩
def smF : Nat → SS → Prop
  | 0, s => Sm s
  | n + 1, s => Sm s ∧ ∀ s', stepF s = some s' → smF n s'
theorem smF_all {n : Nat} {s : SS} (h : smF n s) {i : Nat} (hi : i ≤ n) : Sm (runF i s) := by
  induction n generalizing s i with
  | zero => rw [Nat.le_zero.1 hi]; exact h
  | succ n ih =>
    cases i with
    | zero => exact h.1
    | succ i =>
      rw [runF]
      cases hs : stepF s with
      | none => exact h.1
      | some s' => exact ih (h.2 s' hs) (by omega)
structure Me where
  cells : List X
  inp : List Int
  tr : List Int
  kn : Int
def sT (t : ST) (e fr : X) (m : Me) (v : X) (c : Int) : SS := ⟨t, e, true, v, fr, m.cells, m.inp, 0, m.tr, c, m.kn⟩
def sV (v fr : X) (m : Me) (t : ST) (e : X) (c : Int) : SS := ⟨t, e, false, v, fr, m.cells, m.inp, 0, m.tr, c, m.kn⟩
def Q (P : SR → Prop) (n : Nat) (s : SS) : Prop := smF n s ∧ P (nowF (runF n s))
def QT (P : SR → Prop) (n : Nat) (t : ST) (e fr : X) (m : Me) : Prop := ∀ v c, Q P n (sT t e fr m v c)
def QV (P : SR → Prop) (n : Nat) (v fr : X) (m : Me) : Prop := ∀ t e c, Q P n (sV v fr m t e c)
def Bd (fr : X) (m : Me) : Prop := m.tr.length ≤ 1000000000000 ∧ m.cells.length ≤ 1000000000000 ∧ lenX fr ≤ 1000000000000
section
variable {P : SR → Prop} {n : Nat} {s s' : SS} {t : ST} {e fr v : X} {m : Me}
theorem Q.step (h : Sm s) (hs : stepF s = some s') (k : Q P n s') : Q P (n + 1) s :=
  ⟨⟨h, fun s2 h2 => by rw [hs] at h2; cases h2; exact k.1⟩, by rw [runF, hs]; exact k.2⟩
theorem Q.stop (h : Sm s) (hs : stepF s = none) (k : P (nowF s)) : Q P n s := by
  have e : runF n s = s := runF_stop (i := 0) hs (Nat.zero_le n)
  refine ⟨?_, by rw [e]; exact k⟩
  cases n with
  | zero => exact h
  | succ n => exact ⟨h, fun s2 h2 => by rw [hs] at h2; cases h2⟩
theorem Bd.tt (h : Bd fr m) {c : Int} : Sm (sT t e fr m v c) := ⟨h.1, h.2.1, h.2.2, fun h => by cases h⟩
theorem Bd.vv (h : Bd fr m) (ht : topOk fr) {c : Int} : Sm (sV v fr m t e c) := ⟨h.1, h.2.1, h.2.2, fun _ => ht⟩
end
abbrev wc (c : Int) : Int := IntKind.i64.wrap (c + 1)
abbrev tI (j : Int) : ST := .mk 2 0 eB eB j [] []
abbrev tVar (nm : ByteArray) : ST := .mk 1 0 nm eB 0 [] []
abbrev tOp (nm : ByteArray) (ks : List ST) : ST := .mk 10 0 nm eB 0 ks []
abbrev tDo (nm : ByteArray) (a : ST) : ST := .mk 13 0 nm eB 0 [a] []
abbrev tApp (f a : ST) : ST := .mk 6 0 eB eB 0 [f, a] []
abbrev tHan (nm : ByteArray) (a : ST) (arms : List SA) : ST := .mk 14 0 nm eB 0 [a] arms
section
variable {P : SR → Prop} {n : Nat} {j j2 : Int} {nm : ByteArray} {a b f : ST} {e fr v u : X} {m : Me} {arms : List SA}
theorem QT.int (hb : Bd fr m) (k : QV P n (vI j) fr m) : QT P (n + 1) (tI j) e fr m := fun v c => .step hb.tt (by kernel_rfl) (k (tI j) e (wc c))
theorem QT.var (h : findX nm e = some u) (hb : Bd fr m) (k : QV P n u fr m) : QT P (n + 1) (tVar nm) e fr m := fun v c =>
  .step (s' := sV u fr m (tVar nm) e (IntKind.i64.wrap (c + 1))) hb.tt (by
    rw [stepF_at rfl rfl]
    have e1 : looksF { sT (tVar nm) e fr m v c with st := IntKind.i64.wrap (c + 1) } = (sV u fr m (tVar nm) e (IntKind.i64.wrap (c + 1)), true) := by
      show (match findX nm e with | some v' => _ | none => _ : R) = _
      rw [h]; rfl
    exact congrArg (fun q : R => some (bif q.2 then q.1 else q.1.ends 4)) e1) (k _ _ _)
theorem QT.app (hb : Bd fr m) (k : QT P n f e (.s (.arg a e) fr) m) : QT P (n + 1) (tApp f a) e fr m := fun v c => .step hb.tt (by kernel_rfl) (k v (wc c))
theorem QT.do_ (hb : Bd fr m) (k : QT P n a e (.s (.ask nm) fr) m) : QT P (n + 1) (tDo nm a) e fr m := fun v c => .step hb.tt (by kernel_rfl) (k v (wc c))
theorem QT.han (hb : Bd fr m) (k : QT P n a e (.s (.hnd arms e) fr) m) : QT P (n + 1) (tHan nm a arms) e fr m := fun v c => .step hb.tt (by kernel_rfl) (k v (wc c))
theorem QT.op2 (hb : Bd fr m) (k : QT P n a e (.s (.gat (tOp nm [a, b]) [] e) fr) m) : QT P (n + 1) (tOp nm [a, b]) e fr m := fun v c => .step hb.tt (by kernel_rfl) (k v (wc c))
abbrev nmGet : ByteArray := ⟨#[33]⟩
abbrev nmSet : ByteArray := ⟨#[58, 61]⟩
abbrev nmAdd : ByteArray := ⟨#[43]⟩
theorem QV.bnd (hb : Bd (.s (.bnd nm b e) fr) m) (k : QT P n b (.e nm v e) fr m) : QV P (n + 1) v (.s (.bnd nm b e) fr) m := fun t e9 c => .step (hb.vv trivial) (by kernel_rfl) (k v (wc c))
theorem QV.arg (hb : Bd (.s (.arg a e) fr) m) (k : QT P n a e (.s (.fn v) fr) m) : QV P (n + 1) v (.s (.arg a e) fr) m := fun t e9 c => .step (hb.vv trivial) (by kernel_rfl) (k v (wc c))
theorem QV.fnK {top r : X} (hb : Bd (.s (.fn (vK (.s top r))) fr) m) (hl : lenX (.s top r) ≤ 1000000000000) (k : QV P n v (appX (.s top r) fr) m) : QV P (n + 1) v (.s (.fn (vK (.s top r))) fr) m := fun t e9 c => .step (hb.vv hl) (by kernel_rfl) (k t e9 (wc c))
theorem QV.next (hb : Bd (.s (.gat (tOp nm [a, b]) [] e) fr) m) (k : QT P n b e (.s (.gat (tOp nm [a, b]) [v] e) fr) m) : QV P (n + 1) v (.s (.gat (tOp nm [a, b]) [] e) fr) m := fun t e9 c => .step (hb.vv (Nat.zero_le _)) (by kernel_rfl) (k v (wc c))
theorem QV.add (hb : Bd (.s (.gat (tOp nmAdd [a, b]) [vI j] e) fr) m) (k : QV P n (vI (IntKind.i64.wrap (j + j2))) fr m) : QV P (n + 1) (vI j2) (.s (.gat (tOp nmAdd [a, b]) [vI j] e) fr) m := fun t e9 c => .step (hb.vv (by simp [topOk, frOk])) (by kernel_rfl) (k t e9 (wc c))
theorem QV.get {cells : List X} {inp tr : List Int} {kn : Int} (hb : Bd (.s (.gat (tOp nmGet [a]) [] e) fr) ⟨cells, inp, tr, kn⟩) (k : QV P n (cells.getD j.toNat .nil) fr ⟨cells, inp, tr, kn⟩) : QV P (n + 1) (vR j) (.s (.gat (tOp nmGet [a]) [] e) fr) ⟨cells, inp, tr, kn⟩ := fun t e9 c => .step (hb.vv (Nat.zero_le _)) (by kernel_rfl) (k t e9 (wc c))
theorem QV.set {cells : List X} {inp tr : List Int} {kn : Int} (hb : Bd (.s (.gat (tOp nmSet [a, b]) [vR j] e) fr) ⟨cells, inp, tr, kn⟩) (k : QV P n vU fr ⟨cells.set j.toNat v, inp, tr, kn⟩) : QV P (n + 1) v (.s (.gat (tOp nmSet [a, b]) [vR j] e) fr) ⟨cells, inp, tr, kn⟩ := fun t e9 c => .step (hb.vv (by simp [topOk, frOk])) (by kernel_rfl) (k t e9 (wc c))
theorem QV.hnd {x : ByteArray} {xs : List ByteArray} {nm2 : ByteArray} (hb : Bd (.s (.hnd (.mk nm2 (x :: xs) b :: arms) e) fr) m) (k : QT P n b (.e x v e) fr m) : QV P (n + 1) v (.s (.hnd (.mk nm2 (x :: xs) b :: arms) e) fr) m := fun t e9 c => .step (hb.vv trivial) (by kernel_rfl) (k v (wc c))
theorem QV.ask {l : List X} {x1 x2 nm2 : ByteArray} {e2 r : X} {cells : List X} {inp tr : List Int} {kn : Int} (h : askF nm fr [] = some (l, .mk nm2 [x1, x2] b, e2, r)) (hb : Bd (.s (.ask nm) fr) ⟨cells, inp, tr, kn⟩) (k : QT P n b (.e x2 (vK (stk l .nil)) (.e x1 v e2)) r ⟨cells, inp, tr, IntKind.i64.wrap (kn + 1)⟩) :
    QV P (n + 1) v (.s (.ask nm) fr) ⟨cells, inp, tr, kn⟩ := fun t e c =>
  .step (s' := sT b (.e x2 (vK (stk l .nil)) (.e x1 v e2)) r ⟨cells, inp, tr, IntKind.i64.wrap (kn + 1)⟩ v (IntKind.i64.wrap (c + 1))) (hb.vv trivial) (by
    rw [stepF_fr (f := .ask nm) (r := fr) rfl rfl rfl]
    have e1 : getsF (.ask nm) { sV v (.s (.ask nm) fr) ⟨cells, inp, tr, kn⟩ t e c with st := IntKind.i64.wrap (c + 1), fr := fr } v = (sT b (.e x2 (vK (stk l .nil)) (.e x1 v e2)) r ⟨cells, inp, tr, IntKind.i64.wrap (kn + 1)⟩ v (IntKind.i64.wrap (c + 1)), true) := by
      simp only [getsF]; rw [show askF nm fr [] = _ from h]; rfl
    exact congrArg (fun q : R => some (bif q.2 then q.1 else q.1.ends 4)) e1) (k _ _)
theorem QV.end_ (hb : Bd .nil m) (k : ∀ c, P ⟨1, shwX v, m.tr, c, m.kn⟩) : QV P n v .nil m := fun _ _ _ => .stop (hb.vv trivial) (by kernel_rfl) (k _)
end
theorem Bd.of {fr : X} {m : Me} (h1 : m.tr.length ≤ 1000000) (h2 : m.cells.length ≤ 1000000) (h3 : lenX fr ≤ 1000000) : Bd fr m := ⟨by omega, by omega, by omega⟩
theorem Q.more {P : SR → Prop} {k n : Nat} {s : SS} (h : Q P k s) (he : stepF (runF k s) = none) (hn : k ≤ n) : Q P n s := by
  refine ⟨?_, by rw [runF_stop he hn]; exact h.2⟩
  induction k generalizing n s with
  | zero =>
    have hs : stepF s = none := he
    cases n with
    | zero => exact h.1
    | succ n => exact ⟨h.1, fun s2 h2 => by rw [hs] at h2; cases h2⟩
  | succ k ih =>
    cases n with
    | zero => omega
    | succ n =>
      refine ⟨h.1.1, fun s2 h2 => ?_⟩
      refine ih (s := s2) ⟨h.1.2 s2 h2, ?_⟩ ?_ (by omega)
      · have := h.2; rw [runF, h2] at this; exact this
      · rw [runF, h2] at he; exact he
theorem QT.start {P : SR → Prop} {N : Nat} {t : ST} {inp : List Int} (h : QT P N t .nil .nil ⟨[], inp, [], 0⟩) {n : Int} (hn : n.toNat = N) : (∀ i, i ≤ n.toNat → Sm (runF i (startF t inp))) ∧ P (runR t inp n) := by
  subst hn
  exact ⟨fun i hi => smF_all (h (.v 0 0 eB [] .nil .nil) 0).1 hi, (h (.v 0 0 eB [] .nil .nil) 0).2⟩
def smC (s : SS) : Bool := decide (s.tr.length ≤ 1000) && decide (s.cells.length ≤ 1000) && decide (lenX s.fr ≤ 1000) && (s.at_ || (match s.fr with | .s (.gat _ done _) _ => decide (done.length ≤ 1000) | .s (.fn (.v _ _ _ _ _ st)) _ => decide (lenX st ≤ 1000) | _ => true))
def smR : Nat → SS → Bool
  | 0, s => smC s
  | n + 1, s => smC s && (match stepF s with | some s => smR n s | none => true)
theorem smC_ok {s : SS} (h : smC s = true) : Sm s := by
  simp only [smC, Bool.and_eq_true, decide_eq_true_eq] at h
  obtain ⟨⟨⟨h1, h2⟩, h3⟩, h4⟩ := h
  refine ⟨by omega, by omega, by omega, fun ha => ?_⟩
  rw [ha, Bool.false_or] at h4
  unfold topOk
  split
  · next f r e =>
    rw [e] at h4
    cases f <;> first | trivial | skip
    case gat t d e2 => have := of_decide_eq_true h4; show d.length ≤ _; omega
    case fn g => cases g <;> first | trivial | (have := of_decide_eq_true h4; show lenX _ ≤ _; omega)
  · trivial
theorem smR_ok {n : Nat} {s : SS} (h : smR n s = true) : smF n s := by
  induction n generalizing s with
  | zero => exact smC_ok h
  | succ n ih =>
    have h' := Bool.and_eq_true_iff.mp h
    refine ⟨smC_ok h'.1, fun s2 h2 => ih ?_⟩
    have q := h'.2
    rw [h2] at q; exact q
def shB1 : List UInt8 := [104, 97, 110, 100, 108, 101, 32, 69, 32, 40, 103, 101, 116, 33, 40, 41, 41, 32, 123, 32, 114, 101, 116, 117, 114, 110, 32, 120, 32, 45, 62, 32, 120, 59, 32, 103, 101, 116, 32, 97, 32, 107, 32, 45, 62, 32, 107, 32, 49, 32, 43, 32, 107, 32, 50, 32, 125]
def shB2 : List UInt8 := [108, 101, 116, 32, 95, 32, 61, 32, 112, 114, 105, 110, 116, 32, 55, 32, 105, 110, 32, 49, 32, 47, 32, 48]
def shB3 : List UInt8 := [114, 101, 97, 100, 32, 40, 41]
def shB4 : List UInt8 := [103, 101, 116, 33, 40, 41]
def shT' (l : List UInt8) : ST := ((parseR l).1.getD zP).body
def shQ (l : List UInt8) (q : SR → Bool) : Prop := (∀ i, i ≤ (100 : Int).toNat → Sm (runF i (startF (shT' l) []))) ∧ q (runR (shT' l) [] 100) = true
theorem shQ_of {l : List UInt8} {q : SR → Bool} (h : (smR 100 (startF (shT' l) []) && q (runR (shT' l) [] 100)) = true) : shQ l q :=
  have h' := Bool.and_eq_true_iff.mp h
  ⟨fun _ hi => smF_all (smR_ok h'.1) hi, h'.2⟩
def ovN : OV → Int | .mk _ n _ _ => n
theorem sh1 : shQ shB1 fun r => decide (r.ok = 1) && decide (ovN r.v = 3) && decide (r.kn = 1) := shQ_of (by kernel_rfl)
theorem sh2 : shQ shB2 fun r => decide (r.ok = 2) && decide (r.tr = [7]) := shQ_of (by kernel_rfl)
theorem sh3 : shQ shB3 fun r => decide (r.ok = 3) && decide (r.st = 1) := shQ_of (by kernel_rfl)
theorem sh4 : shQ shB4 fun r => decide (r.ok = 4) := shQ_of (by kernel_rfl)
def TT (M : List (Option Nat)) (w : World) (t : Tm) (x : ST) : Prop := Xs kTm M w [t] ∧ shT t = x
def TL (M : List (Option Nat)) (w : World) (v : Value) (xs : List ST) : Prop := ∃ ks : List Tm, RowsAt w v 21 (ks.map Tm.cs) ∧ Xs kTm M w ks ∧ (ks ≠ [] → some (vBlock v) ∉ M) ∧ ks.map shT = xs
def TS (M : List (Option Nat)) (w : World) (v : Value) (l : List ByteArray) : Prop := StrsAt w v l ∧ (l ≠ [] → some (vBlock v) ∉ M)
def TA (M : List (Option Nat)) (w : World) (a : Am) (y : SA) : Prop := Xs kAm M w [a] ∧ shAm a = y
def TAL (M : List (Option Nat)) (w : World) (v : Value) (ys : List SA) : Prop := ∃ ms : List Am, RowsAt w v 23 (ms.map Am.cs) ∧ Xs kAm M w ms ∧ (ms ≠ [] → some (vBlock v) ∉ M) ∧ ms.map shAm = ys
def TI (M : List (Option Nat)) (w : World) (v : Value) (l : List Int) : Prop := IntsAt w v l ∧ (l ≠ [] → some (vBlock v) ∉ M)
def TO (M : List (Option Nat)) (w : World) (k n : Int) (nm : ByteArray) (kv : Value) (y : OV) : Prop := OAt M w (V4 k n nm kv) y
section
variable {M M' : List (Option Nat)} {w w' : World} {t : Tm} {a : Am} {v : Value}
theorem TT.gr {x : ST} (h : TT M w t x) (hG : Gr M w M' w') (_ : 0 ≤ 0) : TT M' w' t x := ⟨h.1.gr hG, h.2⟩
theorem TL.gr {xs : List ST} (h : TL M w v xs) (hG : Gr M w M' w') (_ : 0 ≤ 0) : TL M' w' v xs := by
  obtain ⟨ks, h1, h2, h3, h4⟩ := h
  exact ⟨ks, h1.gr hG (fun q => h3 (map_ne q)), h2.gr hG, fun q => hG.out (h1.blkLt (by decide) q) (h3 q), h4⟩
theorem TS.gr {l : List ByteArray} (h : TS M w v l) (hG : Gr M w M' w') (_ : 0 ≤ 0) : TS M' w' v l :=
  ⟨h.1.gr hG (fun q => h.2 (map_ne q)), fun q => hG.out (h.1.blkLt (by decide) q) (h.2 q)⟩
theorem TAL.gr {ys : List SA} (h : TAL M w v ys) (hG : Gr M w M' w') (_ : 0 ≤ 0) : TAL M' w' v ys := by
  obtain ⟨ks, h1, h2, h3, h4⟩ := h
  exact ⟨ks, h1.gr hG (fun q => h3 (map_ne q)), h2.gr hG, fun q => hG.out (h1.blkLt (by decide) q) (h3 q), h4⟩
theorem TA.gr {y : SA} (h : TA M w a y) (hG : Gr M w M' w') (_ : 0 ≤ 0) : TA M' w' a y := ⟨h.1.gr hG, h.2⟩
theorem TI.gr {l : List Int} (h : TI M w v l) (hG : Gr M w M' w') (_ : 0 ≤ 0) : TI M' w' v l := ⟨RowsAt.gr h.1 hG fun hn => h.2 (map_ne hn), fun hn => hG.out (RowsAt.blkLt h.1 (by decide) hn) (h.2 hn)⟩
theorem TO.gr {k n : Int} {nm : ByteArray} {kv : Value} {y : OV} (h : TO M w k n nm kv y) (hG : Gr M w M' w') (_ : 0 ≤ 0) : TO M' w' k n nm kv y := OAt.gr h hG
theorem TT.weak {x : ST} (h : TT M w t x) (hM : ∀ q ∈ M', q ∈ M) : TT M' w t x := ⟨h.1.weaken hM, h.2⟩
theorem TL.nil : TL M w (.slice none 0 0) [] := ⟨[], RowsAt.nil _ _, Xs.nil _ _ _, fun h => absurd rfl h, rfl⟩
theorem TAL.nil : TAL M w (.slice none 0 0) [] := ⟨[], RowsAt.nil _ _, Xs.nil _ _ _, fun h => absurd rfl h, rfl⟩
theorem shT_made {k a' n : Int} {nm pm : ByteArray} {kv av : Value} {ks : List Tm} {ms : List Am} : shT (tmA k a' nm pm n kv ks av ms) = .mk k a' nm pm n (ks.map shT) (ms.map shAm) := by
  rw [tmA, shT, shL_map]; congr 1
  induction ms with
  | nil => rfl
  | cons a r ih => cases a; rw [shA, ih]; rfl
theorem TT.made (k a' : Int) (nm pm : ByteArray) (n : Int) {kv av : Value} {xs : List ST} {ys : List SA} (hk : TL M w kv xs) (ha : TAL M w av ys) : ∃ t : Tm, tmC k a' nm pm n kv av = t.cs ∧ TT M w t (.mk k a' nm pm n xs ys) := by
  obtain ⟨ks, h1, h2, h3, h4⟩ := hk
  obtain ⟨ms, g1, g2, g3, g4⟩ := ha
  exact ⟨tmA k a' nm pm n kv ks av ms, rfl, Xs.mkT h2 g2 h1 g1 h3 g3, by rw [shT_made, h4, g4]⟩
theorem TA.made (nm : ByteArray) {vv : Value} {l : List ByteArray} {x : ST} (ht : TT M w t x) (hs : TS M w vv l) : ∃ a : Am, mx [.string nm, vv] t.cs [] = a.cs ∧ TA M w a (.mk nm l x) :=
  ⟨amA nm vv l t, by simp [mx, amA, Am.cs], Xs.mkA ht.1 hs.1 hs.2, by rw [← ht.2]; rfl⟩
theorem MLt.out {b : Nat} {o : Obj} (h : MLt w.heap.size M) (F : Fresh w w' b o) : some b ∉ M := fun e => by have := h b e; have := F.eq; omega
theorem TL.one {b : Nat} {T : TypeId} {fr : Nat × Nat} {x : ST} (ht : TT M w t x) (F : Fresh w w' b (.cells (([.agg t.cs] : List Value).flatMap fun v => v.cells.toList).toArray T fr)) (hM : MLt w.heap.size M) : TL M w' (.slice (some ⟨b, 0, none⟩) 1 1) [x] := by
  have h := ht.gr (Gr.of F.bel M) (Nat.le_refl _)
  exact ⟨[t], rows_tm (ks := [t]) F.new (fun u hu => by rw [List.mem_singleton.1 hu]; exact h.1.one) rfl (by decide), h.1, fun _ => hM.out F, by rw [← ht.2]; rfl⟩
theorem TL.two {b : Nat} {T : TypeId} {fr : Nat × Nat} {t2 : Tm} {x y : ST} (ht : TT M w t x) (hu : TT M w t2 y) (F : Fresh w w' b (.cells (([.agg t.cs, .agg t2.cs] : List Value).flatMap fun v => v.cells.toList).toArray T fr)) (hM : MLt w.heap.size M) : TL M w' (.slice (some ⟨b, 0, none⟩) 2 2) [x, y] := by
  have h := ht.gr (Gr.of F.bel M) (Nat.le_refl _)
  have k := hu.gr (Gr.of F.bel M) (Nat.le_refl _)
  exact ⟨[t, t2], rows_tm (ks := [t, t2]) F.new (mem2 h.1.one k.1.one) rfl (by decide), Xs.cons h.1 k.1, fun _ => hM.out F, by rw [← ht.2, ← hu.2]; rfl⟩
theorem TAL.two {b : Nat} {T : TypeId} {fr : Nat × Nat} {a2 : Am} {x y : SA} (ht : TA M w a x) (hu : TA M w a2 y) (F : Fresh w w' b (.cells (([.agg a.cs, .agg a2.cs] : List Value).flatMap fun v => v.cells.toList).toArray T fr)) (hM : MLt w.heap.size M) : TAL M w' (.slice (some ⟨b, 0, none⟩) 2 2) [x, y] := by
  have h := ht.gr (Gr.of F.bel M) (Nat.le_refl _)
  have k := hu.gr (Gr.of F.bel M) (Nat.le_refl _)
  exact ⟨[a, a2], RowsAt.own (rows := [a, a2].map Am.cs) F.new (by intro r hr; obtain ⟨u, hu, rfl⟩ := List.mem_map.1 hr; exact (mem2 (Q := fun u : Am => u.cs.size = 23) h.1.one.c.size k.1.one.c.size) u hu) rfl (Nat.le_refl _) (by decide), Xs.cons h.1 k.1, fun _ => hM.out F, by rw [← ht.2, ← hu.2]; rfl⟩
end
def sr1 : SR := runR (shT' shB1) [] 100
def sr2 : SR := runR (shT' shB2) [] 100
def sr3 : SR := runR (shT' shB3) [] 100
def sr4 : SR := runR (shT' shB4) [] 100
theorem sr1_is : sr1.ok = 1 ∧ ovN sr1.v = 3 ∧ sr1.kn = 1 := by have h := sh1.2; simp only [Bool.and_eq_true, decide_eq_true_eq] at h; exact ⟨h.1.1, h.1.2, h.2⟩
theorem sr2_is : sr2.ok = 2 ∧ sr2.tr = [7] := by have h := sh2.2; simp only [Bool.and_eq_true, decide_eq_true_eq] at h; exact h
theorem sr3_is : sr3.ok = 3 ∧ sr3.st = 1 := by have h := sh3.2; simp only [Bool.and_eq_true, decide_eq_true_eq] at h; exact h
theorem sr4_is : sr4.ok = 4 := of_decide_eq_true sh4.2
theorem OAt.n {M : List (Option Nat)} {w : World} {k n : Int} {nm : ByteArray} {kv : Value} {y : OV} (h : OAt M w (V4 k n nm kv) y) : ovN y = n := by
  cases h with
  | mk rows hr hm hk => rfl
theorem PrOk.mx {w : World} {p : Pr} (h : PrOk w p) : p.cs = Go.Proofs.YtfoolfecjjngpaaGreat.mx [p.ev, p.dv] p.body.cs [] := by
  apply Array.ext
  · rw [h.size, mx_size h.bodyOk.size]; rfl
  · intro i h1 h2
    apply Option.some.inj
    rw [← Array.getElem?_eq_getElem h1, ← Array.getElem?_eq_getElem h2]
    match i, h1 with
    | 0, _ => rw [h.c0]; exact (mx_pre rfl).symm
    | 1, _ => rw [h.c1]; exact (mx_pre rfl).symm
    | i + 2, h1 =>
      have hi : i < 21 := by have := h.size; omega
      have e : p.body.cs[i]? = p.cs[i + 2]? := by rw [← h.bodyCs, Array.getElem?_extract]; simp [hi, Nat.add_comm]; intro hh; omega
      rw [← e, Array.getElem?_eq_getElem (by rw [h.bodyOk.size]; exact hi)]
      exact (mx_in (j := i) (by simp; omega) (Array.getElem?_eq_getElem _)).symm
theorem PrOk.ones {w : World} {p : Pr} (h : PrOk w p) : p.ev.oneCell' = true ∧ p.dv.oneCell' = true := ⟨h.effsAt.ok.one, h.datsAt.ok.one⟩
theorem TI.ofOwn {w : World} {v : Value} {l : List Int} {M : List (Option Nat)} (h : Own w 3 1 v l.length (l.map (Value.int .i64))) (hb : ∀ g, v.ownBlock = some g → some g ∉ M) : TI M w v l := ⟨IntsAt.ofOwn h, IntsAt.out h hb⟩
theorem TI.take {w : World} {v : Value} {l : List Int} {n : Nat} (h : IntsAt w v l) (hn : n ≤ l.length) : IntsAt w (takeV v n) (l.take n) := rows_take h hn
theorem TO.is {M : List (Option Nat)} {w : World} {k n k' n' : Int} {nm nm' : ByteArray} {kv : Value} {l : List OV} (h : TO M w k n nm kv (.mk k' n' nm' l)) :
    k = k' ∧ n = n' ∧ nm = nm' ∧ ∃ rows : List (List Value × OV), RowsAt w kv 4 (rows.map fun p => p.1.toArray) ∧ rows.map Prod.snd = l ∧ ∀ p ∈ rows, ∃ k2 n2 nm2 kv2, p.1 = V4 k2 n2 nm2 kv2 ∧ TO M w k2 n2 nm2 kv2 p.2 := by
  cases h with
  | mk rows hr hm hk => exact ⟨rfl, rfl, rfl, rows, hr, rfl, fun p hp => by
      have h2 := hk p hp
      obtain ⟨cs, y⟩ := p
      cases h2 with
      | mk rows' hr' hm' hk' => exact ⟨_, _, _, _, rfl, .mk rows' hr' hm' hk'⟩⟩
theorem en14 : entB Tryz.prog 14 = true := by kernel_rfl
theorem en21 : entB Tryz.prog 21 = true := by kernel_rfl
theorem en28 : entB Tryz.prog 28 = true := by kernel_rfl
theorem read_any {M : List (Option Nat)} {nc : Nat} {m : Int} (l : List UInt8) (w : World) (hMl : MLt w.heap.size M) (hll : l.length ≤ 1000) (hm : w.cell? ⟨0, 0, none⟩ = some (.int .i64 m)) (hps : (parseR l).1.isSome = true) :
  Calls Tryz.prog 21 ([.string (bs l)] : List Value).toArray w fun r w' => ∃ v1 v2 t, r = .returned (.agg (mx [v1, v2] t.cs [])) ∧ v1.oneCell' = true ∧ v2.oneCell' = true ∧ TT M w' t (shT' l) ∧ Below w.heap.size w w' := by
 have hG := Gr.refl [] w
 refine At.enter (N := 14) Tryz.func21 rfl rfl (by simp) [(0, .string (bs l))] (by simp) ?_
 refine .seq (.region ?_)
 refine At.alloc ze38 rfl (fun b1 w1 F1 => ?_)
 have gb1 := Nat.le_trans hG.size (Nat.le_of_eq F1.eq.symm)
 have hb1 : w1.heap[b1]? = some (.cells #[zN, zN, zI, zI, zS, zS, zI, zN, zN, zI, zS, zI, zN, zN, zI, zN, zI, zI, zS, zI, zN, zN, zI] 38) := F1.new
 replace hG := hG.below F1.bel
 refine .ops0 (.thenN (.seq (.region (.move rfl rfl ?_))))
 refine At.toBytes (l := l) rfl st9 el74 ik5 (by omega) rfl (fun b2 cap1 w2 hgbb1 hbl1 hby1 => ?_)
 replace hb1 := Below.old hbl1 hb1
 replace hG := hG.below hbl1
 have hml := (MLt.blk hb1 (fun q hq => Nat.lt_of_lt_of_le (hMl q hq) hG.size))
 refine At.call en28 rfl rfl (parse_any (.slice (some ⟨b2, 0, none⟩) l.length cap1) l m _ hby1 (cell_keep hm hG.base) (parseR_good hps)) (fun e w3 hR => ?_)
 obtain ⟨p, rfl, hbl2, hp, hsh, _, hpb⟩ := hR; refine ⟨_, rfl, ?_⟩
 replace hb1 := Below.old hbl2 hb1
 replace hG := hG.below hbl2
 have hT : TT (some b1 :: M) w3 p.body (shT' l) := ⟨fun u hu => by cases List.mem_singleton.1 hu; exact ⟨hp.bodyOk, fun b hb hm => absurd (hml b hm) (Nat.not_lt.2 (hpb b (.inr (.inr (.inr (.inr hb))))))⟩, by show shT p.body = _; unfold shT'; rw [← hsh]; rfl⟩; have h12 := hp.ones
 refine .set (d := 9) (u := .tuple #[.agg (mx [p.ev, p.dv] p.body.cs []), .int .i64 ((parseR l).2.1), .int .i64 ((parseR l).2.2)]) rfl (by rw [hp.mx]) (.move rfl rfl (.extract rfl rfl rfl (.extract rfl rfl rfl (.extract rfl rfl rfl ?_))))
 refine At.alloc ze38 rfl (fun b3 w4 F2 => ?_)
 have n_b1_b3 : b1 ≠ b3 := Nat.ne_of_lt (F2.lt hb1)
 replace hb1 := F2.old hb1
 have hb3 : w4.heap[b3]? = some (.cells #[zN, zN, zI, zI, zS, zS, zI, zN, zN, zI, zS, zI, zN, zN, zI, zN, zI, zI, zS, zI, zN, zN, zI] 38) := F2.new
 refine At.storeAll rfl rfl hb3 (sz38.trans (congrArg some (mx_size (pre := [p.ev, p.dv]) (post := []) hT.1.one.size).symm)) (mx_size (pre := [p.ev, p.dv]) (post := []) hT.1.one.size).symm (mx_all (by simp only [List.all_cons, List.all_nil, h12.1, h12.2, Bool.and_true] <;> rfl) hT.1.one.one rfl) (fun w5 S1 => ?_)
 replace hb1 := S1.other hb1 n_b1_b3
 replace hb3 : w5.heap[b3]? = some (.cells (mx [p.ev, p.dv] p.body.cs []) 38) := S1.new
 replace hG := hG.below (F2.bel2 S1)
 replace hT := hT.gr (Gr.of (F2.bel2 S1) _) (Nat.le_refl _)
 refine .assign rfl rfl (.assign rfl rfl (.ops0 (.thenN (.seq (.region (.load rfl (Ld.own ag38 (sz38.trans (congrArg some (mx_size (pre := [p.ev, p.dv]) (post := []) hT.1.one.size).symm)) hb3) rfl ?_))))))
 refine At.storeAll rfl rfl hb1 (sz38.trans (congrArg some (mx_size (pre := [p.ev, p.dv]) (post := []) hT.1.one.size).symm)) (mx_size (pre := [p.ev, p.dv]) (post := []) hT.1.one.size).symm (mx_all (by simp only [List.all_cons, List.all_nil, h12.1, h12.2, Bool.and_true] <;> rfl) hT.1.one.one rfl) (fun w6 S2 => ?_)
 replace hb1 : w6.heap[b1]? = some (.cells (mx [p.ev, p.dv] p.body.cs []) 38) := S2.new
 replace hG := hG.set S2 (.inr gb1)
 replace hT := hT.gr ((Gr.refl _ _).set S2 (.inl (by simp))) (Nat.le_refl _)
 refine .ops0 (.thenN (.retc (.doneR (ResV.cell rfl (Ld.own ag38 (sz38.trans (congrArg some (mx_size (pre := [p.ev, p.dv]) (post := []) hT.1.one.size).symm)) hb1) ResV.nil) ?_)))
 exact ⟨p.ev, p.dv, p.body, rfl, h12.1, h12.2, hT.weak (fun q hq => by simp [hq]), hG.base⟩
theorem shown_any {m : Int} (w : World)  (hm : w.cell? ⟨0, 0, none⟩ = some (.int .i64 m)) :
  Calls Tryz.prog 11 ([] : List Value).toArray w fun r w' => r = .returned (.bool true) ∧ Below w.heap.size w w' := by
 have hG := Gr.refl [] w
 refine At.enter (N := 65) Tryz.func11 rfl rfl (by simp) [] (by simp) ?_
 refine .seq (.region (.assign rfl rfl (.ops0 (.thenN (.seq (.region ?_))))))
 refine At.call en21 rfl rfl (read_any (M := []) (nc := 0) shB1 _ (MLt.nil _) (by decide) (cell_keep hm hG.base) (by kernel_rfl)) (fun e w1 hR => ?_)
 obtain ⟨va1, vb1, tm1, rfl, oa1, ob1, hT1, hbl1⟩ := hR; refine ⟨_, rfl, ?_⟩
 replace hG := hG.below hbl1
 refine At.call en14 rfl rfl (run_any (E := []) (l := []) 100 _ oa1 ob1 hT1.1 (MLt.nil _) (RowsAt.nil _ 1) (by decide) (by decide) (by rw [hT1.2]; exact sh1.1)) (fun e w2 hR => ?_)
 obtain ⟨cs, rfl, hra, hbl2⟩ := hR; refine ⟨_, rfl, ?_⟩; rw [hT1.2] at hra; replace hra : RAt [] w2 cs sr1 := hra
 replace hG := hG.below hbl2
 obtain ⟨rk1, rn1, rm1, rv1, rt1, rfl, ho1, hi1, hz1⟩ := hra; replace ho1 : TO [] w2 rk1 rn1 rm1 rv1 sr1.v := ho1; replace hi1 : TI [] w2 rt1 sr1.tr := ⟨hi1, hz1⟩
 have hn1 : rn1 = 3 := by have h := OAt.n ho1; rw [sr1_is.2.1] at h; exact h.symm
 refine At.alloc ze49 rfl (fun b1 w3 F1 => ?_)
 have hb1 : w3.heap[b1]? = some (.cells #[zI, zI, zI, zS, zN, zN, zI, zI] 49) := F1.new
 refine At.storeAll rfl rfl hb1 sz49 rfl (by first | (simp [Value.oneCell', (OAt.one ho1), hi1.1.ok.one]; done) | (simp only [List.all_toArray, List.all_cons, List.all_nil, (OAt.one ho1), hi1.1.ok.one, Bool.and_true, Bool.true_and] <;> rfl)) (fun w4 S1 => ?_)
 replace hb1 : w4.heap[b1]? = some (.cells #[.int .i64 sr1.ok, .int .i64 rk1, .int .i64 rn1, .string rm1, rv1, rt1, .int .i64 sr1.st, .int .i64 sr1.kn] 49) := S1.new
 replace hG := hG.below (F1.bel2 S1)
 refine .ops0 (.thenN (.seq (.region ?_)))
 refine At.call en21 rfl rfl (read_any (M := []) (nc := 0) shB2 _ (MLt.nil _) (by decide) (cell_keep hm hG.base) (by kernel_rfl)) (fun e w5 hR => ?_)
 obtain ⟨va2, vb2, tm2, rfl, oa2, ob2, hT2, hbl3⟩ := hR; refine ⟨_, rfl, ?_⟩
 replace hb1 := Below.old hbl3 hb1
 replace hG := hG.below hbl3
 refine At.call en14 rfl rfl (run_any (E := []) (l := []) 100 _ oa2 ob2 hT2.1 (MLt.nil _) (RowsAt.nil _ 1) (by decide) (by decide) (by rw [hT2.2]; exact sh2.1)) (fun e w6 hR => ?_)
 obtain ⟨cs, rfl, hra, hbl4⟩ := hR; refine ⟨_, rfl, ?_⟩; rw [hT2.2] at hra; replace hra : RAt [] w6 cs sr2 := hra
 replace hb1 := Below.old hbl4 hb1
 replace hG := hG.below hbl4
 obtain ⟨rk2, rn2, rm2, rv2, rt2, rfl, ho2, hi2, hz2⟩ := hra; replace ho2 : TO [] w6 rk2 rn2 rm2 rv2 sr2.v := ho2; replace hi2 : TI [] w6 rt2 sr2.tr := ⟨hi2, hz2⟩
 rw [sr2_is.2] at hi2
 refine At.alloc ze49 rfl (fun b2 w7 F2 => ?_)
 have n_b1_b2 : b1 ≠ b2 := Nat.ne_of_lt (F2.lt hb1)
 replace hb1 := F2.old hb1
 have hb2 : w7.heap[b2]? = some (.cells #[zI, zI, zI, zS, zN, zN, zI, zI] 49) := F2.new
 refine At.storeAll rfl rfl hb2 sz49 rfl (by first | (simp [Value.oneCell', (OAt.one ho2), hi2.1.ok.one]; done) | (simp only [List.all_toArray, List.all_cons, List.all_nil, (OAt.one ho2), hi2.1.ok.one, Bool.and_true, Bool.true_and] <;> rfl)) (fun w8 S2 => ?_)
 replace hb1 := S2.other hb1 n_b1_b2
 replace hb2 : w8.heap[b2]? = some (.cells #[.int .i64 sr2.ok, .int .i64 rk2, .int .i64 rn2, .string rm2, rv2, rt2, .int .i64 sr2.st, .int .i64 sr2.kn] 49) := S2.new
 replace hG := hG.below (F2.bel2 S2)
 replace hi2 := hi2.gr (Gr.of (F2.bel2 S2) _) (Nat.le_refl _)
 refine .ops0 (.thenN (.seq (.region ?_)))
 refine At.call en21 rfl rfl (read_any (M := []) (nc := 0) shB3 _ (MLt.nil _) (by decide) (cell_keep hm hG.base) (by kernel_rfl)) (fun e w9 hR => ?_)
 obtain ⟨va3, vb3, tm3, rfl, oa3, ob3, hT3, hbl5⟩ := hR; refine ⟨_, rfl, ?_⟩
 replace hb1 := Below.old hbl5 hb1
 replace hb2 := Below.old hbl5 hb2
 replace hG := hG.below hbl5
 replace hi2 := hi2.gr (Gr.of hbl5 _) (Nat.le_refl _)
 refine At.call en14 rfl rfl (run_any (E := []) (l := []) 100 _ oa3 ob3 hT3.1 (MLt.nil _) (RowsAt.nil _ 1) (by decide) (by decide) (by rw [hT3.2]; exact sh3.1)) (fun e w10 hR => ?_)
 obtain ⟨cs, rfl, hra, hbl6⟩ := hR; refine ⟨_, rfl, ?_⟩; rw [hT3.2] at hra; replace hra : RAt [] w10 cs sr3 := hra
 replace hb1 := Below.old hbl6 hb1
 replace hb2 := Below.old hbl6 hb2
 replace hG := hG.below hbl6
 replace hi2 := hi2.gr (Gr.of hbl6 _) (Nat.le_refl _)
 obtain ⟨rk3, rn3, rm3, rv3, rt3, rfl, ho3, hi3, hz3⟩ := hra; replace ho3 : TO [] w10 rk3 rn3 rm3 rv3 sr3.v := ho3; replace hi3 : TI [] w10 rt3 sr3.tr := ⟨hi3, hz3⟩
 refine At.alloc ze49 rfl (fun b3 w11 F3 => ?_)
 have n_b1_b3 : b1 ≠ b3 := Nat.ne_of_lt (F3.lt hb1)
 have n_b2_b3 : b2 ≠ b3 := Nat.ne_of_lt (F3.lt hb2)
 replace hb1 := F3.old hb1
 replace hb2 := F3.old hb2
 have hb3 : w11.heap[b3]? = some (.cells #[zI, zI, zI, zS, zN, zN, zI, zI] 49) := F3.new
 refine At.storeAll rfl rfl hb3 sz49 rfl (by first | (simp [Value.oneCell', (OAt.one ho3), hi3.1.ok.one]; done) | (simp only [List.all_toArray, List.all_cons, List.all_nil, (OAt.one ho3), hi3.1.ok.one, Bool.and_true, Bool.true_and] <;> rfl)) (fun w12 S3 => ?_)
 replace hb1 := S3.other hb1 n_b1_b3
 replace hb2 := S3.other hb2 n_b2_b3
 replace hb3 : w12.heap[b3]? = some (.cells #[.int .i64 sr3.ok, .int .i64 rk3, .int .i64 rn3, .string rm3, rv3, rt3, .int .i64 sr3.st, .int .i64 sr3.kn] 49) := S3.new
 replace hG := hG.below (F3.bel2 S3)
 replace hi2 := hi2.gr (Gr.of (F3.bel2 S3) _) (Nat.le_refl _)
 refine .ops0 (.thenN (.seq (.region ?_)))
 refine At.call en21 rfl rfl (read_any (M := []) (nc := 0) shB4 _ (MLt.nil _) (by decide) (cell_keep hm hG.base) (by kernel_rfl)) (fun e w13 hR => ?_)
 obtain ⟨va4, vb4, tm4, rfl, oa4, ob4, hT4, hbl7⟩ := hR; refine ⟨_, rfl, ?_⟩
 replace hb1 := Below.old hbl7 hb1
 replace hb2 := Below.old hbl7 hb2
 replace hb3 := Below.old hbl7 hb3
 replace hG := hG.below hbl7
 replace hi2 := hi2.gr (Gr.of hbl7 _) (Nat.le_refl _)
 refine At.call en14 rfl rfl (run_any (E := []) (l := []) 100 _ oa4 ob4 hT4.1 (MLt.nil _) (RowsAt.nil _ 1) (by decide) (by decide) (by rw [hT4.2]; exact sh4.1)) (fun e w14 hR => ?_)
 obtain ⟨cs, rfl, hra, hbl8⟩ := hR; refine ⟨_, rfl, ?_⟩; rw [hT4.2] at hra; replace hra : RAt [] w14 cs sr4 := hra
 replace hb1 := Below.old hbl8 hb1
 replace hb2 := Below.old hbl8 hb2
 replace hb3 := Below.old hbl8 hb3
 replace hG := hG.below hbl8
 replace hi2 := hi2.gr (Gr.of hbl8 _) (Nat.le_refl _)
 obtain ⟨rk4, rn4, rm4, rv4, rt4, rfl, ho4, hi4, hz4⟩ := hra; replace ho4 : TO [] w14 rk4 rn4 rm4 rv4 sr4.v := ho4; replace hi4 : TI [] w14 rt4 sr4.tr := ⟨hi4, hz4⟩
 refine At.alloc ze49 rfl (fun b4 w15 F4 => ?_)
 have n_b1_b4 : b1 ≠ b4 := Nat.ne_of_lt (F4.lt hb1)
 have n_b2_b4 : b2 ≠ b4 := Nat.ne_of_lt (F4.lt hb2)
 have n_b3_b4 : b3 ≠ b4 := Nat.ne_of_lt (F4.lt hb3)
 replace hb1 := F4.old hb1
 replace hb2 := F4.old hb2
 replace hb3 := F4.old hb3
 have hb4 : w15.heap[b4]? = some (.cells #[zI, zI, zI, zS, zN, zN, zI, zI] 49) := F4.new
 refine At.storeAll rfl rfl hb4 sz49 rfl (by first | (simp [Value.oneCell', (OAt.one ho4), hi4.1.ok.one]; done) | (simp only [List.all_toArray, List.all_cons, List.all_nil, (OAt.one ho4), hi4.1.ok.one, Bool.and_true, Bool.true_and] <;> rfl)) (fun w16 S4 => ?_)
 replace hb1 := S4.other hb1 n_b1_b4
 replace hb2 := S4.other hb2 n_b2_b4
 replace hb3 := S4.other hb3 n_b3_b4
 replace hb4 : w16.heap[b4]? = some (.cells #[.int .i64 sr4.ok, .int .i64 rk4, .int .i64 rn4, .string rm4, rv4, rt4, .int .i64 sr4.st, .int .i64 sr4.kn] 49) := S4.new
 replace hG := hG.below (F4.bel2 S4)
 replace hi2 := hi2.gr (Gr.of (F4.bel2 S4) _) (Nat.le_refl _)
 refine .ops0 (.thenN (.seq (.region ?_)))
 refine At.join [(0, .bool (decide ((([7] : List Int).length : Int) = 1)))] (fun w' => w16 = w') ?_ (fun w17 hS => ?_)
 ·skip
  refine .fieldAddr rfl fo49_0 rfl (.fieldAddr rfl fo47_0 rfl (.load rfl (Ld.ownCell ag3 hb1 rfl) rfl (.eqI rfl rfl rfl (.set (d := 16) (u := .bool true) rfl (congrArg Value.bool (decide_eq_true sr1_is.1)) (.move rfl rfl (.yes rfl rfl rfl rfl (.fieldAddr rfl fo49_0 rfl (.yes rfl rfl rfl rfl (.fieldAddr rfl fo47_1 rfl (.yes rfl rfl rfl rfl (.fieldAddr rfl fo45_1 rfl (.yes rfl rfl rfl rfl (.load rfl (Ld.ownCell ag3 hb1 rfl) rfl (.yes rfl rfl rfl rfl (.eqI rfl rfl rfl (.set (d := 22) (u := .bool true) rfl (congrArg Value.bool (decide_eq_true hn1)) (.pickT rfl rfl rfl (.move rfl rfl (.yes rfl rfl rfl rfl (.fieldAddr rfl fo49_3 rfl (.yes rfl rfl rfl rfl (.load rfl (Ld.ownCell ag3 hb1 rfl) rfl (.yes rfl rfl rfl rfl (.eqI rfl rfl rfl (.set (d := 27) (u := .bool true) rfl (congrArg Value.bool (decide_eq_true sr1_is.2.2)) (.pickT rfl rfl rfl (.move rfl rfl (.yes rfl rfl rfl rfl (.fieldAddr rfl fo49_0 rfl (.yes rfl rfl rfl rfl (.fieldAddr rfl fo47_0 rfl (.yes rfl rfl rfl rfl (.load rfl (Ld.ownCell ag3 hb2 rfl) rfl (.yes rfl rfl rfl rfl (.eqI rfl rfl rfl (.set (d := 33) (u := .bool true) rfl (congrArg Value.bool (decide_eq_true sr2_is.1)) (.pickT rfl rfl rfl (.move rfl rfl (.yes rfl rfl rfl rfl ?_)))))))))))))))))))))))))))))))))))))))
  refine .fieldAddr rfl fo49_1 rfl (.yes rfl rfl rfl rfl (.load rfl (Ld.ownCell ag32 hb2 rfl) rfl (.yes rfl rfl rfl rfl (.lenSl rfl hi2.1.ok el32 rfl (.yes rfl rfl rfl rfl (.eqI rfl rfl rfl (.pickT rfl rfl rfl (.move rfl rfl ?_))))))))
  refine At.cases (decide ((([7] : List Int).length : Int) = 1)) (fun hg1 => ?_) (fun hg1 => ?_)
  ·skip
   refine .set (d := 41) (u := .bool true) rfl (congrArg Value.bool hg1) ?_
   have hg1' := of_decide_eq_true hg1
   refine .yes rfl rfl rfl rfl (.fieldAddr rfl fo49_1 rfl (.yes rfl rfl rfl rfl (.load rfl (Ld.ownCell ag32 hb2 rfl) rfl (.yes rfl rfl rfl rfl (.indexAddr (i := 0) rfl rfl hi2.1.ok (lt_of_some (rfl : ([7] : List Int)[0]? = some 7)) el32 sz3 rfl (.yes rfl rfl rfl rfl (.load rfl (Ld.cell ag3 (cell_keep ((hi2.1).get (rfl : ([7] : List Int)[0]? = some 7)) (Below.refl _ _))) rfl (.yes rfl rfl rfl rfl (.eqI rfl rfl rfl (.set (d := 46) (u := .bool true) rfl (congrArg Value.bool (decide_eq_true rfl)) (.pickT rfl rfl rfl (.move rfl rfl (.yes rfl rfl rfl rfl (.fieldAddr rfl fo49_0 rfl (.yes rfl rfl rfl rfl (.fieldAddr rfl fo47_0 rfl (.yes rfl rfl rfl rfl (.load rfl (Ld.ownCell ag3 hb3 rfl) rfl (.yes rfl rfl rfl rfl (.eqI rfl rfl rfl (.set (d := 52) (u := .bool true) rfl (congrArg Value.bool (decide_eq_true sr3_is.1)) (.pickT rfl rfl rfl (.move rfl rfl (.yes rfl rfl rfl rfl (.fieldAddr rfl fo49_2 rfl (.yes rfl rfl rfl rfl (.load rfl (Ld.ownCell ag3 hb3 rfl) rfl (.yes rfl rfl rfl rfl (.eqI rfl rfl rfl (.set (d := 57) (u := .bool true) rfl (congrArg Value.bool (decide_eq_true sr3_is.2)) (.pickT rfl rfl rfl (.move rfl rfl (.yes rfl rfl rfl rfl (.fieldAddr rfl fo49_0 rfl (.yes rfl rfl rfl rfl (.fieldAddr rfl fo47_0 rfl (.yes rfl rfl rfl rfl (.load rfl (Ld.ownCell ag3 hb4 rfl) rfl (.yes rfl rfl rfl rfl ?_)))))))))))))))))))))))))))))))))))))))
   refine .eqI rfl rfl rfl (.set (d := 63) (u := .bool true) rfl (congrArg Value.bool (decide_eq_true sr4_is)) (.pickT rfl rfl rfl (.assign rfl rfl ?_)))
   exact At.joined (Sub.cons (by show some (Value.bool true) = some (Value.bool (decide ((([7] : List Int).length : Int) = 1))); rw [hg1] <;> rfl) Sub.nil) rfl
  refine .set (d := 41) (u := .bool false) rfl (congrArg Value.bool hg1) ?_
  have hg1' := of_decide_eq_false hg1
  refine .no rfl rfl rfl rfl rfl rfl rfl (.no rfl rfl rfl rfl rfl rfl rfl (.no rfl rfl rfl rfl rfl rfl rfl (.no rfl rfl rfl rfl rfl rfl rfl (.no rfl rfl rfl rfl rfl rfl rfl (.pickF rfl rfl rfl (.move rfl rfl (.no rfl rfl rfl rfl rfl rfl rfl (.no rfl rfl rfl rfl rfl rfl rfl (.no rfl rfl rfl rfl rfl rfl rfl (.no rfl rfl rfl rfl rfl rfl rfl (.pickF rfl rfl rfl (.move rfl rfl (.no rfl rfl rfl rfl rfl rfl rfl (.no rfl rfl rfl rfl rfl rfl rfl (.no rfl rfl rfl rfl rfl rfl rfl (.pickF rfl rfl rfl (.move rfl rfl (.no rfl rfl rfl rfl rfl rfl rfl (.no rfl rfl rfl rfl rfl rfl rfl (.no rfl rfl rfl rfl rfl rfl rfl (.no rfl rfl rfl rfl rfl rfl rfl (.pickF rfl rfl rfl (.assign rfl rfl ?_)))))))))))))))))))))))
  exact At.joined (Sub.cons (by show some (Value.bool false) = some (Value.bool (decide ((([7] : List Int).length : Int) = 1))); rw [hg1] <;> rfl) Sub.nil) rfl
 subst hS
 refine .thenN (.retc (.doneR (ResV.tmp rfl ResV.nil) ?_))
 exact ⟨rfl, hG.base⟩
abbrev nmX : ByteArray := ⟨#[120]⟩
theorem findX_hd {nm : ByteArray} {v e : X} : findX nm (.e nm v e) = some v := by simp [findX]
theorem ask_acc (nm : ByteArray) : ∀ (fr : X) (acc : List X), askF nm fr acc = (askF nm fr []).map fun q => (acc ++ q.1, q.2)
  | .s f r, acc => by
    have ih := ask_acc nm r
    have h : ∀ y : X, (∀ arms e, y ≠ .hnd arms e) → askF nm (.s y r) acc = (askF nm (.s y r) []).map fun q => (acc ++ q.1, q.2) := fun y hy => by
      rw [ask_o hy, ask_o hy, ih, ih ([] ++ [y])]
      cases askF nm r [] <;> simp
    cases f with
    | hnd arms e =>
      cases hc : clF nm arms with
      | none =>
        rw [ask_n hc, ask_n hc, ih, ih ([] ++ [X.hnd arms e])]
        cases askF nm r [] <;> simp
      | some a => rw [ask_y hc, ask_y hc]; simp
    | _ => exact h _ nofun
  | .v .., _ | .nil, _ | .c .., _ | .e .., _ | .arg .., _ | .fn .., _ | .bnd .., _ | .frk .., _ | .gat .., _ | .way .., _ | .ask .., _ | .hnd .., _ => rfl
theorem ask_push {nm : ByteArray} {y fr e r : X} {l : List X} {a : SA} (hy : ∀ arms e, y ≠ .hnd arms e) (h : askF nm fr [] = some (l, a, e, r)) : askF nm (.s y fr) [] = some (y :: l, a, e, r) := by
  rw [ask_o hy, ask_acc, h]; rfl
abbrev nmK : ByteArray := ⟨#[107]⟩
abbrev nmG : ByteArray := ⟨#[103, 101, 116]⟩
abbrev nmR : ByteArray := ⟨#[114, 101, 116, 117, 114, 110]⟩
abbrev nmE : ByteArray := ⟨#[69]⟩
def suT : List Int → ST
  | [] => tI 0
  | x :: r => tOp nmAdd [suT r, tDo nmG (tI x)]
def plT' (more : Int) : ST := tOp nmAdd [tVar nmX, tI more]
def bodyA (more : Int) (stops : Bool) : ST := bif stops then plT' more else tApp (tVar nmK) (plT' more)
def armA (more : Int) (stops : Bool) : SA := .mk nmG [nmX, nmK] (bodyA more stops)
def armsA (more : Int) (stops : Bool) : List SA := [.mk nmR [nmX] (tVar nmX), armA more stops]
def totA (more : Int) : List Int → Int
  | [] => 0
  | x :: r => IntKind.i64.wrap (totA more r + IntKind.i64.wrap (x + more))
def AO (a : SA) (fr : X) : Prop := ∃ l, askF nmG fr [] = some (l, a, .nil, .nil) ∧ stk l .nil = fr
theorem AO.gat {a : SA} {fr e : X} {t : ST} {d : List X} (h : AO a fr) : AO a (.s (.gat t d e) fr) := by
  obtain ⟨l, h1, h2⟩ := h
  exact ⟨_, ask_push nofun h1, by rw [stk, h2]⟩
theorem AO.top {a : SA} {fr : X} (h : AO a fr) : ∃ t r, fr = .s t r := by
  obtain ⟨l, h1, _⟩ := h
  cases fr with
  | s t r => exact ⟨_, _, rfl⟩
  | _ => cases h1
theorem appX_nil {fr : X} {l : List X} (h : stk l .nil = fr) : appX fr .nil = fr := by rw [← h, appX_stk]
theorem wrap_small {n : Nat} (h : n ≤ 1000) : IntKind.i64.wrap ((n : Int) + 1) = ((n + 1 : Nat) : Int) := by rw [wrap64_id _ (by omega)]; omega
section
variable {P : SR → Prop}
theorem an_run (more : Int) (l : List Int) : ∀ (e fr : X) (kn k : Nat), AO (armA more false) fr → lenX fr + l.length ≤ 1000 → kn + l.length ≤ 1000 → QV P k (vI (totA more l)) fr ⟨[], [], [], ((kn + l.length : Nat) : Int)⟩ → QT P (15 * l.length + 1 + k) (suT l) e fr ⟨[], [], [], kn⟩ := by
  induction l with
  | nil => intro e fr kn k ha h1 h2 hk; rw [show 15 * ([] : List Int).length + 1 + k = k + 1 by simp; omega]; exact .int (.of (by simp) (by simp) (by simp at h1; omega)) hk
  | cons x l ih =>
    intro e fr kn k ha h1 h2 hk
    rw [List.length_cons] at h1 h2 hk
    have hb : ∀ {y : X} {kn : Int}, lenX y ≤ 1100 → Bd y ⟨[], [], [], kn⟩ := fun h => .of (by simp) (by simp) (by omega)
    rw [show 15 * (x :: l).length + 1 + k = (15 * l.length + 1 + (k + 1 + 1 + 1 + 1 + 1 + 1 + 1 + 1 + 1 + 1 + 1 + 1 + 1 + 1)) + 1 by rw [List.length_cons]; omega]
    refine .op2 (hb (by omega)) (ih e _ kn _ ha.gat (by simp only [lenX]; omega) (by omega) ?_)
    obtain ⟨lf, g1, g2⟩ := (ha.gat (t := suT (x :: l)) (d := [vI (totA more l)]) (e := e))
    refine .next (hb (by simp only [lenX]; omega)) (.do_ (hb (by simp only [lenX]; omega)) (.int (hb (by simp only [lenX]; omega)) (.ask g1 (hb (by simp only [lenX]; omega)) ?_)))
    rw [g2, wrap_small (by omega)]
    refine .app (hb (by simp [lenX])) (.var findX_hd (hb (by simp [lenX])) (.arg (hb (by simp [lenX])) (.op2 (hb (by simp [lenX])) (.var (show findX nmX (.e nmK _ (.e nmX (vI x) .nil)) = some (vI x) by rfl) (hb (by simp [lenX])) (.next (hb (by simp [lenX])) (.int (hb (by simp [lenX])) (.add (hb (by simp [lenX])) (.fnK (hb (by simp [lenX])) (by simp only [lenX]; omega) ?_))))))))
    rw [appX_nil g2]
    exact .add (hb (by simp only [lenX]; omega)) (by rw [show kn + l.length + 1 = kn + (l.length + 1) by omega]; exact hk)
theorem st_run (more : Int) (l : List Int) : ∀ (e fr : X) (k : Nat) (x : Int), (x :: l) ≠ [] → AO (armA more true) fr → lenX fr + l.length ≤ 1000 → (∀ K, QT P k (plT' more) (.e nmK K (.e nmX (vI ((x :: l).getLastD 0)) .nil)) .nil ⟨[], [], [], 1⟩) → QT P (l.length + 6 + k) (suT (x :: l)) e fr ⟨[], [], [], 0⟩ := by
  induction l with
  | nil =>
    intro e fr k x _ ha h1 hk
    have hb : ∀ {y : X} {kn : Int}, lenX y ≤ 1100 → Bd y ⟨[], [], [], kn⟩ := fun h => .of (by simp) (by simp) (by omega)
    simp only [List.length_nil] at h1
    obtain ⟨lf, g1, g2⟩ := (ha.gat (t := suT [x]) (d := [vI 0]) (e := e))
    rw [show ([] : List Int).length + 6 + k = (((((k + 1) + 1) + 1) + 1) + 1) + 1 by simp; omega]
    refine .op2 (hb (by omega)) (.int (hb (by simp only [lenX]; omega)) (.next (hb (by simp only [lenX]; omega)) (.do_ (hb (by simp only [lenX]; omega)) (.int (hb (by simp only [lenX]; omega)) (.ask g1 (hb (by simp only [lenX]; omega)) ?_)))))
    exact hk _
  | cons y l ih =>
    intro e fr k x _ ha h1 hk
    rw [List.length_cons] at h1
    rw [show (y :: l).length + 6 + k = (l.length + 6 + k) + 1 by rw [List.length_cons]; omega]
    exact .op2 (.of (by simp) (by simp) (by omega)) (ih e _ k y (by simp) ha.gat (by simp only [lenX]; omega) hk)
end
def anP (want konts : Int) (r : SR) : Prop := r.ok = 1 ∧ r.v = .mk 1 want eB [] ∧ r.kn = konts ∧ r.tr = []
def anT (more : Int) (stops : Bool) (l : List Int) : ST := tHan nmE (suT l) (armsA more stops)
theorem shw_vI (j : Int) : shwX (vI j) = .mk 1 j eB [] := rfl
theorem an_end {want konts j : Int} (h : j = want) (k : Nat) : QV (anP want konts) k (vI j) .nil ⟨[], [], [], konts⟩ := by
  subst h; exact .end_ (.of (by simp) (by simp) (by simp [lenX])) fun c => ⟨rfl, shw_vI _, rfl, rfl⟩
theorem ao_hnd (more : Int) (stops : Bool) : AO (armA more stops) (.s (.hnd (armsA more stops) .nil) .nil) := ⟨[.hnd (armsA more stops) .nil], by kernel_rfl, rfl⟩
theorem ans_run (more : Int) (stops : Bool) (l : List Int) (hl : l.length ≤ 9) : (∀ i, i ≤ (1500 : Int).toNat → Sm (runF i (startF (anT more stops l) []))) ∧
    anP (bif stops && decide (0 < l.length) then IntKind.i64.wrap (l.getLastD 0 + more) else totA more l) (bif stops then ((min l.length 1 : Nat) : Int) else (l.length : Int)) (runR (anT more stops l) [] 1500) := by
  have hb : ∀ {y : X} {kn : Int}, lenX y ≤ 1100 → Bd y ⟨[], [], [], kn⟩ := fun h => .of (by simp) (by simp) (by omega)
  have fin : ∀ (want konts : Int) (k : Nat), QV (anP want konts) (k + 1 + 1) (vI want) (.s (.hnd (armsA more stops) .nil) .nil) ⟨[], [], [], konts⟩ := fun want konts k =>
    .hnd (hb (by simp [lenX])) (.var findX_hd (hb (by simp [lenX])) (an_end rfl k))
  cases stops with
  | false =>
    refine QT.start (N := (15 * l.length + 1 + ((1496 - 15 * l.length) + 1 + 1)) + 1) (.han (hb (by simp [lenX])) (an_run more l .nil _ 0 _ (ao_hnd more false) (by simp [lenX]; omega) (by omega) ?_)) (by show 1500 = _; omega)
    rw [Nat.zero_add]; exact fin _ _ _
  | true =>
    cases l with
    | nil => exact QT.start (N := ((1496 + 1 + 1) + 1) + 1) (.han (hb (by simp [lenX])) (.int (hb (by simp [lenX])) (fin _ _ _))) rfl
    | cons x l =>
      rw [List.length_cons] at hl
      refine QT.start (N := (l.length + 6 + ((1488 - l.length) + 1 + 1 + 1 + 1 + 1)) + 1) (.han (hb (by simp [lenX])) (st_run more l .nil _ _ x (by simp) (ao_hnd more true) (by simp [lenX]; omega) fun K => ?_)) (by show 1500 = _; omega)
      refine .op2 (hb (by simp [lenX])) (.var (show findX nmX (.e nmK _ (.e nmX _ .nil)) = some _ by rfl) (hb (by simp [lenX])) (.next (hb (by simp [lenX])) (.int (hb (by simp [lenX])) (.add (hb (by simp [lenX])) ?_))))
      have e1 : ((min (x :: l).length 1 : Nat) : Int) = 1 := by rw [List.length_cons]; omega
      simp only [Bool.true_and, e1, cond_true]
      exact an_end (by simp) _
section
variable {P : SR → Prop}
end
def reA (l : List Int) : Nat → List Int
  | 0 => []
  | i + 1 => l.getD i 0 :: reA l i
theorem reA_len (l : List Int) (n : Nat) : (reA l n).length = n := by
  induction n with
  | zero => rfl
  | succ n ih => rw [reA, List.length_cons, ih]
theorem reA_last (l : List Int) (n : Nat) (d : Int) : (reA l (n + 1)).getLastD d = l.getD 0 0 := by
  induction n generalizing d with
  | zero => rfl
  | succ n ih => rw [reA, List.getLastD_cons]; exact ih _
theorem tot_step (w x m : Int) : IntKind.i64.wrap (IntKind.i64.wrap (w + x) + m) = IntKind.i64.wrap (w + IntKind.i64.wrap (x + m)) := by simp only [IntKind.wrap_i64]; omega
theorem ans_law (more : Int) (stops : Bool) (l : List Int) {n : Nat} (hn : n ≤ 9) : (∀ i, i ≤ (1500 : Int).toNat → Sm (runF i (startF (anT more stops (reA l n)) []))) ∧
    anP (bif stops && decide (0 < n) then IntKind.i64.wrap (l.getD 0 0 + more) else totA more (reA l n)) (bif stops then ((min n 1 : Nat) : Int) else (n : Int)) (runR (anT more stops (reA l n)) [] 1500) := by
  have h := ans_run more stops (reA l n) (by rw [reA_len]; exact hn)
  rw [reA_len] at h
  refine ⟨h.1, ?_⟩
  cases n with
  | zero => simpa using h.2
  | succ n =>
    have h2 := h.2
    rw [reA_last] at h2
    exact h2
theorem en11 : entB Tryz.prog 11 = true := by kernel_rfl
theorem sd38 : sizedB Tryz.prog 38 = true := by kernel_rfl
theorem getD_at {α : Type} {l : List α} {i : Nat} {d : α} (h : i < l.length) : l[i]? = some (l.getD i d) := by rw [List.getD_eq_getElem?_getD, List.getElem?_eq_getElem h]; rfl
set_option maxHeartbeats 4000000 in
theorem sourceAnswers_any {m : Int} {v1 : Value} {l1 : List Int} (m0 : Int) (s0 : Bool) (w : World)  (hv1 : IntsAt w v1 l1) (hm : w.cell? ⟨0, 0, none⟩ = some (.int .i64 m)) :
  Calls Tryz.prog 4 ([v1, .int .i64 m0, .bool s0] : List Value).toArray w fun r w' => r = .returned (.bool true) ∧ Below w.heap.size w w' := by
 have hlv := hv1.lenL
 have hG := Gr.refl [] w
 refine At.enter (N := 117) Tryz.func4 rfl rfl (by simp) [(0, v1), (1, .int .i64 m0), (2, .bool s0)] (by simp) ?_
 refine .seq (.region (.assign rfl rfl (.ops0 (.thenN (.seq (.region ?_))))))
 refine At.call en11 rfl rfl (shown_any _ (cell_keep hm hG.base)) (fun e w1 hR => ?_)
 obtain ⟨rfl, hbl1⟩ := hR
 refine ⟨_, rfl, ?_⟩
 replace hG := hG.below hbl1
 refine .assign rfl rfl (.ops0 (.thenN (.seq (.region (.build (C := #[.int .i64 2, zI, zS, zS, zI, zN, zN, zI, zS, zI, zN, zN, zI, zN, zI, zI, zS, zI, zN, zN, zI]) sd31 ze31 rfl (Bld.cons fo31_0 rfl (by first | decide | exact Nat.le_of_ble_eq_true rfl) (Bld.nil _)) rfl ?_)))))
 obtain ⟨q1, et1, hT1⟩ := TT.made (M := []) (w := w1) 2 0 eB eB 0 TL.nil TAL.nil
 refine .set (d := 20) (u := .agg q1.cs) rfl (congrArg Value.agg et1) ?_
 refine At.alloc ze31 rfl (fun b1 w2 F1 => ?_)
 have gb1 := Nat.le_trans hG.size (Nat.le_of_eq F1.eq.symm)
 have hb1 : w2.heap[b1]? = some (.cells #[zI, zI, zS, zS, zI, zN, zN, zI, zS, zI, zN, zN, zI, zN, zI, zI, zS, zI, zN, zN, zI] 31) := F1.new
 replace hG := hG.below F1.bel
 replace hT1 := hT1.gr (Gr.add F1) (Nat.le_refl _)
 refine At.storeAll rfl rfl hb1 (sz31.trans (congrArg some hT1.1.one.size.symm)) hT1.1.one.size.symm hT1.1.one.one (fun w3 S1 => ?_)
 replace hb1 : w3.heap[b1]? = some (.cells q1.cs 31) := S1.new
 replace hG := hG.set S1 (.inr gb1)
 replace hT1 := hT1.gr ((Gr.refl _ _).set S1 (.inl (by simp))) (Nat.le_refl _)
 refine .ops0 (.thenN (.seq (.region (.assign rfl rfl (.ops0 (.thenN (.seq (.region (.move rfl rfl (.lenSl rfl hv1.ok el32 rfl (.minI rfl rfl rfl (.set (d := 23) (u := .int .i64 (((min l1.length 9) : Nat) : Int)) rfl (congrArg (Value.int .i64) (by split <;> omega)) (.assign rfl rfl (.ops0 (.thenN (.seq (.seq (.region (.assign rfl rfl (.ops0 (.thenN (.block ?_))))))))))))))))))))))
 refine At.loop (Nat × Tm) (fun (i, t) => [(0, v1), (1, .int .i64 m0), (2, .bool s0), (7, .bool true), (8, .pointer (some ⟨b1, 0, none⟩)), (9, .int .i64 (totA m0 (reA l1 i))), (10, .int .i64 (((min l1.length 9) : Nat) : Int)), (11, .int .i64 (i : Int))]) (fun (i, t) w4 => Gr [] w [] w4 ∧ w4.heap[b1]? = some (.cells t.cs 31) ∧ TT (some b1 :: []) w4 t (suT (reA l1 i)) ∧ (i ≤ (min l1.length 9))) (fun (i, t) => (min l1.length 9) - i) (0, q1) (Sub.cons rfl (Sub.cons rfl (Sub.cons rfl (Sub.cons rfl (Sub.cons rfl (Sub.cons rfl (Sub.cons rfl (Sub.cons rfl Sub.nil)))))))) ⟨hG, hb1, (hT1), (Nat.zero_le _)⟩ (fun gh w4 hI => ?_)
 obtain ⟨i, t⟩ := gh
 obtain ⟨hG, hb1, hT, hiq⟩ := hI
 show At _ _ [(0, v1), (1, .int .i64 m0), (2, .bool s0), (7, .bool true), (8, .pointer (some ⟨b1, 0, none⟩)), (9, .int .i64 (totA m0 (reA l1 i))), (10, .int .i64 (((min l1.length 9) : Nat) : Int)), (11, .int .i64 (i : Int))] _ _
 refine .seq (.seq (.region (.move rfl rfl (.move rfl rfl (.lss rfl rfl rfl (.ops0 (.thenN ?_)))))))
 refine At.cond (b := decide ((i : Int) < (((min l1.length 9) : Nat) : Int))) rfl (fun hc1 => ?_) (fun hc1 => ?_)
 ·skip
  have hc1' := of_decide_eq_true hc1
  refine .skip (.thenN (.seq (.block (.seq (.region (.move rfl rfl (.move rfl rfl ?_)))))))
  have hu8 : l1[i]? = some (l1.getD i 0) := getD_at (by have := of_decide_eq_true hc1; omega)
  refine .indexAddr (i := i) rfl rfl hv1.ok (lt_of_some hu8) el32 sz3 rfl (.load rfl (Ld.cell ag3 (cell_keep (((IntsAt.keep hv1 hG.base)).get hu8) (Below.refl _ _))) rfl (.build (C := #[.int .i64 2, zI, zS, zS, .int .i64 (l1.getD i 0), zN, zN, zI, zS, zI, zN, zN, zI, zN, zI, zI, zS, zI, zN, zN, zI]) sd31 ze31 rfl (Bld.cons fo31_0 rfl (by first | decide | exact Nat.le_of_ble_eq_true rfl) (Bld.cons fo31_4 rfl (by first | decide | exact Nat.le_of_ble_eq_true rfl) (Bld.nil _))) rfl ?_))
  obtain ⟨q2, et2, hT2⟩ := TT.made (M := (some b1 :: [])) (w := w4) 2 0 eB eB (l1.getD i 0) TL.nil TAL.nil
  refine .set (d := 33) (u := .agg q2.cs) rfl (congrArg Value.agg et2) ?_
  refine At.buildSlice (xs := [.tmp 33]) rfl rfl el22 sz31 ze31 (by intro v hv; simp only [List.mem_cons, List.not_mem_nil, or_false] at hv; rcases hv with rfl <;> first | exact hT2.1.one.size) rfl (by decide) rfl (fun b2 w5 F2 => ?_)
  have hL2 := TL.one hT2 F2 (MLt.blk hb1 (MLt.nil _))
  replace hb1 := F2.old hb1
  replace hG := hG.below F2.bel
  replace hT := hT.gr (Gr.of F2.bel _) (Nat.le_refl _)
  refine .build (C := #[.int .i64 13, zI, .string (⟨#[103, 101, 116]⟩ : ByteArray), zS, zI, .slice (some ⟨b2, 0, none⟩) 1 1, zN, zI, zS, zI, zN, zN, zI, zN, zI, zI, zS, zI, zN, zN, zI]) sd31 ze31 rfl (Bld.cons fo31_0 rfl (by first | decide | exact Nat.le_of_ble_eq_true rfl) (Bld.cons fo31_2 rfl (by first | decide | exact Nat.le_of_ble_eq_true rfl) (Bld.cons fo31_5 rfl (by first | decide | exact Nat.le_of_ble_eq_true rfl) (Bld.nil _)))) rfl ?_
  obtain ⟨q3, et3, hT3⟩ := TT.made (M := (some b1 :: [])) (w := w5) 13 0 (⟨#[103, 101, 116]⟩ : ByteArray) eB 0 hL2 TAL.nil
  refine .set (d := 35) (u := .agg q3.cs) rfl (congrArg Value.agg et3) ?_
  refine At.alloc ze31 rfl (fun b3 w6 F3 => ?_)
  have n_b1_b3 : b1 ≠ b3 := Nat.ne_of_lt (F3.lt hb1)
  replace hb1 := F3.old hb1
  have hb3 : w6.heap[b3]? = some (.cells #[zI, zI, zS, zS, zI, zN, zN, zI, zS, zI, zN, zN, zI, zN, zI, zI, zS, zI, zN, zN, zI] 31) := F3.new
  refine At.storeAll rfl rfl hb3 (sz31.trans (congrArg some hT3.1.one.size.symm)) hT3.1.one.size.symm hT3.1.one.one (fun w7 S2 => ?_)
  replace hb1 := S2.other hb1 n_b1_b3
  replace hb3 : w7.heap[b3]? = some (.cells q3.cs 31) := S2.new
  replace hG := hG.below (F3.bel2 S2)
  replace hT := hT.gr (Gr.of (F3.bel2 S2) _) (Nat.le_refl _)
  replace hT3 := hT3.gr (Gr.of (F3.bel2 S2) _) (Nat.le_refl _)
  refine .ops0 (.thenN (.seq (.region (.load rfl (Ld.own ag31 (sz31.trans (congrArg some hT.1.one.size.symm)) hb1) rfl (.load rfl (Ld.own ag31 (sz31.trans (congrArg some hT3.1.one.size.symm)) hb3) rfl ?_)))))
  refine At.buildSlice (xs := [.tmp 36, .tmp 37]) rfl rfl el22 sz31 ze31 (by intro v hv; simp only [List.mem_cons, List.not_mem_nil, or_false] at hv; rcases hv with rfl | rfl <;> first | exact hT.1.one.size | exact hT3.1.one.size) rfl (by decide) rfl (fun b4 w8 F4 => ?_)
  have hL4 := TL.two hT hT3 F4 (MLt.blk hb1 (MLt.nil _))
  replace hb1 := F4.old hb1
  replace hG := hG.below F4.bel
  replace hT := hT.gr (Gr.of F4.bel _) (Nat.le_refl _)
  refine .build (C := #[.int .i64 10, zI, .string (⟨#[43]⟩ : ByteArray), zS, zI, .slice (some ⟨b4, 0, none⟩) 2 2, zN, zI, zS, zI, zN, zN, zI, zN, zI, zI, zS, zI, zN, zN, zI]) sd31 ze31 rfl (Bld.cons fo31_0 rfl (by first | decide | exact Nat.le_of_ble_eq_true rfl) (Bld.cons fo31_2 rfl (by first | decide | exact Nat.le_of_ble_eq_true rfl) (Bld.cons fo31_5 rfl (by first | decide | exact Nat.le_of_ble_eq_true rfl) (Bld.nil _)))) rfl ?_
  obtain ⟨q4, et4, hT4⟩ := TT.made (M := (some b1 :: [])) (w := w8) 10 0 (⟨#[43]⟩ : ByteArray) eB 0 hL4 TAL.nil
  refine .set (d := 39) (u := .agg q4.cs) rfl (congrArg Value.agg et4) ?_
  refine At.storeAll rfl rfl hb1 (sz31.trans (congrArg some hT4.1.one.size.symm)) (hT.1.one.size.trans hT4.1.one.size.symm) hT4.1.one.one (fun w9 S3 => ?_)
  replace hb1 : w9.heap[b1]? = some (.cells q4.cs 31) := S3.new
  replace hG := hG.set S3 (.inr gb1)
  replace hT4 := hT4.gr ((Gr.refl _ _).set S3 (.inl (by simp))) (Nat.le_refl _)
  refine .ops0 (.thenN (.region (.move rfl rfl (.move rfl rfl (.move rfl rfl (.indexAddr (i := i) rfl rfl hv1.ok (lt_of_some hu8) el32 sz3 rfl (.load rfl (Ld.cell ag3 (cell_keep (((IntsAt.keep hv1 hG.base)).get hu8) (Below.refl _ _))) rfl (.add rfl rfl rfl (.move rfl rfl (.add rfl rfl rfl (.assign rfl rfl (.ops0 (.inN (.thenN (.region (.move rfl rfl (.addI rfl rfl rfl (by omega) (.assign rfl rfl (.ops0 (.thenN ?_))))))))))))))))))))
  exact fun act_ hact_ => ⟨((i + 1), q4), hact_.sub (Sub.cons rfl (Sub.cons rfl (Sub.cons rfl (Sub.cons rfl (Sub.cons rfl (Sub.cons (congrArg some (congrArg (Value.int .i64) (tot_step _ _ _))) (Sub.cons rfl (Sub.cons rfl Sub.nil)))))))), ⟨hG, hb1, hT4, (by omega)⟩, by first | omega | (dsimp only; omega)⟩
 have hc1' := of_decide_eq_false hc1
 refine .exit (.thenE (.thenE (.inE (.thenN (.seq ?_)))))
 have hie : i = (min l1.length 9) := by have := of_decide_eq_false hc1; omega
 rw [hie] at hT
 refine .set (d := 9) (u := .int .i64 (totA m0 (reA l1 (min l1.length 9)))) rfl (by rw [hie]) (.region (.build (C := #[.int .i64 1, zI, .string (⟨#[120]⟩ : ByteArray), zS, zI, zN, zN, zI, zS, zI, zN, zN, zI, zN, zI, zI, zS, zI, zN, zN, zI]) sd31 ze31 rfl (Bld.cons fo31_0 rfl (by first | decide | exact Nat.le_of_ble_eq_true rfl) (Bld.cons fo31_2 rfl (by first | decide | exact Nat.le_of_ble_eq_true rfl) (Bld.nil _))) rfl ?_))
 obtain ⟨q5, et5, hT5⟩ := TT.made (M := (some b1 :: [])) (w := w4) 1 0 (⟨#[120]⟩ : ByteArray) eB 0 TL.nil TAL.nil
 refine .set (d := 48) (u := .agg q5.cs) rfl (congrArg Value.agg et5) ?_
 refine At.alloc ze31 rfl (fun b5 w10 F5 => ?_)
 have n_b1_b5 : b1 ≠ b5 := Nat.ne_of_lt (F5.lt hb1)
 replace hb1 := F5.old hb1
 have hb5 : w10.heap[b5]? = some (.cells #[zI, zI, zS, zS, zI, zN, zN, zI, zS, zI, zN, zN, zI, zN, zI, zI, zS, zI, zN, zN, zI] 31) := F5.new
 refine At.storeAll rfl rfl hb5 (sz31.trans (congrArg some hT5.1.one.size.symm)) hT5.1.one.size.symm hT5.1.one.one (fun w11 S4 => ?_)
 replace hb1 := S4.other hb1 n_b1_b5
 replace hb5 : w11.heap[b5]? = some (.cells q5.cs 31) := S4.new
 replace hG := hG.below (F5.bel2 S4)
 replace hT := hT.gr (Gr.of (F5.bel2 S4) _) (Nat.le_refl _)
 replace hT5 := hT5.gr (Gr.of (F5.bel2 S4) _) (Nat.le_refl _)
 refine .ops0 (.thenN (.seq (.region (.load rfl (Ld.own ag31 (sz31.trans (congrArg some hT5.1.one.size.symm)) hb5) rfl (.move rfl rfl (.build (C := #[.int .i64 2, zI, zS, zS, .int .i64 m0, zN, zN, zI, zS, zI, zN, zN, zI, zN, zI, zI, zS, zI, zN, zN, zI]) sd31 ze31 rfl (Bld.cons fo31_0 rfl (by first | decide | exact Nat.le_of_ble_eq_true rfl) (Bld.cons fo31_4 rfl (by first | decide | exact Nat.le_of_ble_eq_true rfl) (Bld.nil _))) rfl ?_))))))
 obtain ⟨q6, et6, hT6⟩ := TT.made (M := (some b1 :: [])) (w := w11) 2 0 eB eB m0 TL.nil TAL.nil
 refine .set (d := 51) (u := .agg q6.cs) rfl (congrArg Value.agg et6) ?_
 refine At.buildSlice (xs := [.tmp 49, .tmp 51]) rfl rfl el22 sz31 ze31 (by intro v hv; simp only [List.mem_cons, List.not_mem_nil, or_false] at hv; rcases hv with rfl | rfl <;> first | exact hT5.1.one.size | exact hT6.1.one.size) rfl (by decide) rfl (fun b6 w12 F6 => ?_)
 have hL6 := TL.two hT5 hT6 F6 (MLt.blk hb1 (MLt.nil _))
 replace hb1 := F6.old hb1
 replace hb5 := F6.old hb5
 replace hG := hG.below F6.bel
 replace hT := hT.gr (Gr.of F6.bel _) (Nat.le_refl _)
 replace hT5 := hT5.gr (Gr.of F6.bel _) (Nat.le_refl _)
 refine .build (C := #[.int .i64 10, zI, .string (⟨#[43]⟩ : ByteArray), zS, zI, .slice (some ⟨b6, 0, none⟩) 2 2, zN, zI, zS, zI, zN, zN, zI, zN, zI, zI, zS, zI, zN, zN, zI]) sd31 ze31 rfl (Bld.cons fo31_0 rfl (by first | decide | exact Nat.le_of_ble_eq_true rfl) (Bld.cons fo31_2 rfl (by first | decide | exact Nat.le_of_ble_eq_true rfl) (Bld.cons fo31_5 rfl (by first | decide | exact Nat.le_of_ble_eq_true rfl) (Bld.nil _)))) rfl ?_
 obtain ⟨q7, et7, hT7⟩ := TT.made (M := (some b1 :: [])) (w := w12) 10 0 (⟨#[43]⟩ : ByteArray) eB 0 hL6 TAL.nil
 refine .set (d := 53) (u := .agg q7.cs) rfl (congrArg Value.agg et7) ?_
 refine At.alloc ze31 rfl (fun b7 w13 F7 => ?_)
 have n_b1_b7 : b1 ≠ b7 := Nat.ne_of_lt (F7.lt hb1)
 have n_b5_b7 : b5 ≠ b7 := Nat.ne_of_lt (F7.lt hb5)
 replace hb1 := F7.old hb1
 replace hb5 := F7.old hb5
 have hb7 : w13.heap[b7]? = some (.cells #[zI, zI, zS, zS, zI, zN, zN, zI, zS, zI, zN, zN, zI, zN, zI, zI, zS, zI, zN, zN, zI] 31) := F7.new
 refine At.storeAll rfl rfl hb7 (sz31.trans (congrArg some hT7.1.one.size.symm)) hT7.1.one.size.symm hT7.1.one.one (fun w14 S5 => ?_)
 replace hb1 := S5.other hb1 n_b1_b7
 replace hb5 := S5.other hb5 n_b5_b7
 replace hb7 : w14.heap[b7]? = some (.cells q7.cs 31) := S5.new
 replace hG := hG.below (F7.bel2 S5)
 replace hT := hT.gr (Gr.of (F7.bel2 S5) _) (Nat.le_refl _)
 replace hT5 := hT5.gr (Gr.of (F7.bel2 S5) _) (Nat.le_refl _)
 replace hT7 := hT7.gr (Gr.of (F7.bel2 S5) _) (Nat.le_refl _)
 refine .ops0 (.thenN (.seq (.region (.build (C := #[.int .i64 1, zI, .string (⟨#[107]⟩ : ByteArray), zS, zI, zN, zN, zI, zS, zI, zN, zN, zI, zN, zI, zI, zS, zI, zN, zN, zI]) sd31 ze31 rfl (Bld.cons fo31_0 rfl (by first | decide | exact Nat.le_of_ble_eq_true rfl) (Bld.cons fo31_2 rfl (by first | decide | exact Nat.le_of_ble_eq_true rfl) (Bld.nil _))) rfl (.load rfl (Ld.own ag31 (sz31.trans (congrArg some hT7.1.one.size.symm)) hb7) rfl ?_)))))
 obtain ⟨q8, et8, hT8⟩ := TT.made (M := (some b1 :: [])) (w := w14) 1 0 (⟨#[107]⟩ : ByteArray) eB 0 TL.nil TAL.nil
 refine .set (d := 54) (u := .agg q8.cs) rfl (congrArg Value.agg et8) ?_
 refine At.buildSlice (xs := [.tmp 54, .tmp 55]) rfl rfl el22 sz31 ze31 (by intro v hv; simp only [List.mem_cons, List.not_mem_nil, or_false] at hv; rcases hv with rfl | rfl <;> first | exact hT8.1.one.size | exact hT7.1.one.size) rfl (by decide) rfl (fun b8 w15 F8 => ?_)
 have hL8 := TL.two hT8 hT7 F8 (MLt.blk hb1 (MLt.nil _))
 replace hb1 := F8.old hb1
 replace hb5 := F8.old hb5
 replace hb7 := F8.old hb7
 replace hG := hG.below F8.bel
 replace hT := hT.gr (Gr.of F8.bel _) (Nat.le_refl _)
 replace hT5 := hT5.gr (Gr.of F8.bel _) (Nat.le_refl _)
 replace hT7 := hT7.gr (Gr.of F8.bel _) (Nat.le_refl _)
 refine .build (C := #[.int .i64 6, zI, zS, zS, zI, .slice (some ⟨b8, 0, none⟩) 2 2, zN, zI, zS, zI, zN, zN, zI, zN, zI, zI, zS, zI, zN, zN, zI]) sd31 ze31 rfl (Bld.cons fo31_0 rfl (by first | decide | exact Nat.le_of_ble_eq_true rfl) (Bld.cons fo31_5 rfl (by first | decide | exact Nat.le_of_ble_eq_true rfl) (Bld.nil _))) rfl ?_
 obtain ⟨q9, et9, hT9⟩ := TT.made (M := (some b1 :: [])) (w := w15) 6 0 eB eB 0 hL8 TAL.nil
 refine .set (d := 57) (u := .agg q9.cs) rfl (congrArg Value.agg et9) ?_
 refine At.alloc ze31 rfl (fun b9 w16 F9 => ?_)
 have n_b1_b9 : b1 ≠ b9 := Nat.ne_of_lt (F9.lt hb1)
 have n_b5_b9 : b5 ≠ b9 := Nat.ne_of_lt (F9.lt hb5)
 have n_b7_b9 : b7 ≠ b9 := Nat.ne_of_lt (F9.lt hb7)
 have gb9 := Nat.le_trans hG.size (Nat.le_of_eq F9.eq.symm)
 replace hb1 := F9.old hb1
 replace hb5 := F9.old hb5
 replace hb7 := F9.old hb7
 have hb9 : w16.heap[b9]? = some (.cells #[zI, zI, zS, zS, zI, zN, zN, zI, zS, zI, zN, zN, zI, zN, zI, zI, zS, zI, zN, zN, zI] 31) := F9.new
 replace hG := hG.below F9.bel
 replace hT := hT.gr (Gr.add F9) (Nat.le_refl _)
 replace hT5 := hT5.gr (Gr.add F9) (Nat.le_refl _)
 replace hT7 := hT7.gr (Gr.add F9) (Nat.le_refl _)
 replace hT9 := hT9.gr (Gr.add F9) (Nat.le_refl _)
 refine At.storeAll rfl rfl hb9 (sz31.trans (congrArg some hT9.1.one.size.symm)) hT9.1.one.size.symm hT9.1.one.one (fun w17 S6 => ?_)
 replace hb1 := S6.other hb1 n_b1_b9
 replace hb5 := S6.other hb5 n_b5_b9
 replace hb7 := S6.other hb7 n_b7_b9
 replace hb9 : w17.heap[b9]? = some (.cells q9.cs 31) := S6.new
 replace hG := hG.set S6 (.inr gb9)
 replace hT := hT.gr ((Gr.refl _ _).set S6 (.inl (by simp))) (Nat.le_refl _)
 replace hT5 := hT5.gr ((Gr.refl _ _).set S6 (.inl (by simp))) (Nat.le_refl _)
 replace hT7 := hT7.gr ((Gr.refl _ _).set S6 (.inl (by simp))) (Nat.le_refl _)
 replace hT9 := hT9.gr ((Gr.refl _ _).set S6 (.inl (by simp))) (Nat.le_refl _)
 refine .ops0 (.thenN (.seq (.region (.move rfl rfl (.assign rfl rfl (.ops0 (.thenN (.seq (.seq (.region (.move rfl rfl (.ops0 (.thenN ?_)))))))))))))
 refine At.joinG (ι := Tm) (fun qB => [(7, .bool true), (8, .pointer (some ⟨b1, 0, none⟩)), (9, .int .i64 (bif s0 && decide (0 < (min l1.length 9)) then IntKind.i64.wrap (l1.getD 0 0 + m0) else totA m0 (reA l1 (min l1.length 9)))), (13, .pointer (some ⟨b5, 0, none⟩)), (15, .pointer (some ⟨b9, 0, none⟩)), (16, .int .i64 (bif s0 then ((min (min l1.length 9) 1 : Nat) : Int) else (((min l1.length 9) : Nat) : Int)))]) (fun qB w18 => (Gr [] w [] w18) ∧ (w18.heap[b1]? = some (.cells t.cs 31)) ∧ (w18.heap[b5]? = some (.cells q5.cs 31)) ∧ (w18.heap[b7]? = some (.cells q7.cs 31)) ∧ (w18.heap[b9]? = some (.cells qB.cs 31)) ∧ (TT (some b9 :: (some b1 :: [])) w18 t (suT (reA l1 (min l1.length 9)))) ∧ (TT (some b9 :: (some b1 :: [])) w18 q5 (.mk 1 0 (⟨#[120]⟩ : ByteArray) eB 0 [] [])) ∧ (TT (some b9 :: (some b1 :: [])) w18 q7 (.mk 10 0 (⟨#[43]⟩ : ByteArray) eB 0 [(.mk 1 0 (⟨#[120]⟩ : ByteArray) eB 0 [] []), (.mk 2 0 eB eB m0 [] [])] [])) ∧ (TT (some b9 :: (some b1 :: [])) w18 qB (bodyA m0 s0))) ?_ (fun qB w18 hS => ?_)
 ·skip
  refine At.cond (b := s0) rfl (fun hc2 => ?_) (fun hc2 => ?_)
  ·skip
   refine .seq (.region (.load rfl (Ld.own ag31 (sz31.trans (congrArg some hT7.1.one.size.symm)) hb7) rfl ?_))
   refine At.storeAll rfl rfl hb9 (sz31.trans (congrArg some hT7.1.one.size.symm)) (hT9.1.one.size.trans hT7.1.one.size.symm) hT7.1.one.one (fun w19 S7 => ?_)
   replace hb1 := S7.other hb1 n_b1_b9
   replace hb5 := S7.other hb5 n_b5_b9
   replace hb7 := S7.other hb7 n_b7_b9
   replace hb9 : w19.heap[b9]? = some (.cells q7.cs 31) := S7.new
   replace hG := hG.set S7 (.inr gb9)
   replace hT := hT.gr ((Gr.refl _ _).set S7 (.inl (by simp))) (Nat.le_refl _)
   replace hT5 := hT5.gr ((Gr.refl _ _).set S7 (.inl (by simp))) (Nat.le_refl _)
   replace hT7 := hT7.gr ((Gr.refl _ _).set S7 (.inl (by simp))) (Nat.le_refl _)
   refine .ops0 (.thenN (.seq (.region (.move rfl rfl (.minI rfl rfl rfl (.set (d := 62) (u := .int .i64 (((min (min l1.length 9) 1) : Nat) : Int)) rfl (congrArg (Value.int .i64) (by split <;> omega)) (.assign rfl rfl (.ops0 (.thenN (.seq (.region (.move rfl rfl (.gtr rfl rfl rfl (.ops0 (.thenN ?_)))))))))))))))
   refine At.cond (b := decide (0 < (((min l1.length 9) : Nat) : Int))) rfl (fun hc3 => ?_) (fun hc3 => ?_)
   ·skip
    have hc3' := of_decide_eq_true hc3
    refine .region (.move rfl rfl ?_)
    have hu0 : l1[0]? = some (l1.getD 0 0) := getD_at (by have := of_decide_eq_true hc3; omega)
    refine .indexAddr (i := 0) rfl rfl hv1.ok (lt_of_some hu0) el32 sz3 rfl (.load rfl (Ld.cell ag3 (cell_keep (((IntsAt.keep hv1 hG.base)).get hu0) (Below.refl _ _))) rfl (.move rfl rfl (.add rfl rfl rfl (.assign rfl rfl (.ops0 ?_)))))
    exact At.joinedG q7 (Sub.cons rfl (Sub.cons rfl (Sub.cons (by show some (Value.int .i64 (IntKind.i64.wrap ((l1.getD 0 0) + m0))) = some (Value.int .i64 (bif s0 && decide (0 < (min l1.length 9)) then IntKind.i64.wrap (l1.getD 0 0 + m0) else totA m0 (reA l1 (min l1.length 9)))); rw [hc2, show decide (0 < (min l1.length 9)) = true from by have h1 := hc3; simp at h1 ⊢; omega]; try rfl) (Sub.cons rfl (Sub.cons rfl (Sub.cons (by show some (Value.int .i64 (((min (min l1.length 9) 1) : Nat) : Int)) = some (Value.int .i64 (bif s0 then ((min (min l1.length 9) 1 : Nat) : Int) else (((min l1.length 9) : Nat) : Int))); rw [hc2]; try rfl) Sub.nil)))))) ⟨hG, hb1, hb5, hb7, hb9, hT, hT5, hT7, (by show TT _ _ _ (bodyA m0 s0); rw [hc2]; exact hT7)⟩
   have hc3' := of_decide_eq_false hc3
   refine .skip ?_
   exact At.joinedG q7 (Sub.cons rfl (Sub.cons rfl (Sub.cons (by show some (Value.int .i64 (totA m0 (reA l1 (min l1.length 9)))) = some (Value.int .i64 (bif s0 && decide (0 < (min l1.length 9)) then IntKind.i64.wrap (l1.getD 0 0 + m0) else totA m0 (reA l1 (min l1.length 9)))); rw [hc2, show decide (0 < (min l1.length 9)) = false from by have h1 := hc3; simp at h1 ⊢; omega]; try rfl) (Sub.cons rfl (Sub.cons rfl (Sub.cons (by show some (Value.int .i64 (((min (min l1.length 9) 1) : Nat) : Int)) = some (Value.int .i64 (bif s0 then ((min (min l1.length 9) 1 : Nat) : Int) else (((min l1.length 9) : Nat) : Int))); rw [hc2]; try rfl) Sub.nil)))))) ⟨hG, hb1, hb5, hb7, hb9, hT, hT5, hT7, (by show TT _ _ _ (bodyA m0 s0); rw [hc2]; exact hT7)⟩
  refine .skip ?_
  exact At.joinedG q9 (Sub.cons rfl (Sub.cons rfl (Sub.cons (by show some (Value.int .i64 (totA m0 (reA l1 (min l1.length 9)))) = some (Value.int .i64 (bif s0 && decide (0 < (min l1.length 9)) then IntKind.i64.wrap (l1.getD 0 0 + m0) else totA m0 (reA l1 (min l1.length 9)))); rw [hc2]; try rfl) (Sub.cons rfl (Sub.cons rfl (Sub.cons (by show some (Value.int .i64 (((min l1.length 9) : Nat) : Int)) = some (Value.int .i64 (bif s0 then ((min (min l1.length 9) 1 : Nat) : Int) else (((min l1.length 9) : Nat) : Int))); rw [hc2]; try rfl) Sub.nil)))))) ⟨hG, hb1, hb5, hb7, hb9, hT, hT5, hT7, (by show TT _ _ _ (bodyA m0 s0); rw [hc2]; exact hT9)⟩
 clear hG hb1 hb5 hb7 hb9
 obtain ⟨hG, hb1, hb5, hb7, hb9, hT, hT5, hT7, hTB⟩ := hS
 show At _ _ [(7, .bool true), (8, .pointer (some ⟨b1, 0, none⟩)), (9, .int .i64 (bif s0 && decide (0 < (min l1.length 9)) then IntKind.i64.wrap (l1.getD 0 0 + m0) else totA m0 (reA l1 (min l1.length 9)))), (13, .pointer (some ⟨b5, 0, none⟩)), (15, .pointer (some ⟨b9, 0, none⟩)), (16, .int .i64 (bif s0 then ((min (min l1.length 9) 1 : Nat) : Int) else (((min l1.length 9) : Nat) : Int)))] _ _
 refine .thenN (.seq (.region ?_))
 refine At.buildSlice (xs := [.const (.string (⟨#[120]⟩ : ByteArray))]) rfl rfl el25 sz9 ze9 (by intro v hv; simp only [List.mem_cons, List.not_mem_nil, or_false] at hv; rcases hv with rfl <;> rfl) rfl (by decide) rfl (fun b10 w20 F10 => ?_)
 have hL10 : TS (some b9 :: (some b1 :: [])) w20 (.slice (some ⟨b10, 0, none⟩) 1 1) [(⟨#[120]⟩ : ByteArray)] := ⟨StrsAt.own F10.new rfl (Nat.le_refl _), fun _ => ((MLt.blk hb9 (MLt.blk hb1 (MLt.nil _)))).out F10⟩
 replace hb1 := F10.old hb1
 replace hb5 := F10.old hb5
 replace hb9 := F10.old hb9
 replace hG := hG.below F10.bel
 replace hT := hT.gr (Gr.of F10.bel _) (Nat.le_refl _)
 replace hT5 := hT5.gr (Gr.of F10.bel _) (Nat.le_refl _)
 replace hTB := hTB.gr (Gr.of F10.bel _) (Nat.le_refl _)
 refine .load rfl (Ld.own ag31 (sz31.trans (congrArg some hT5.1.one.size.symm)) hb5) rfl (.build (C := (mx [.string (⟨#[114, 101, 116, 117, 114, 110]⟩ : ByteArray), .slice (some ⟨b10, 0, none⟩) 1 1] q5.cs [])) sd40 ze40 rfl (Bld.cons fo40_0 rfl (by first | decide | exact Nat.le_of_ble_eq_true rfl) (Bld.cons fo40_1 rfl (by first | decide | exact Nat.le_of_ble_eq_true rfl) (Bld.mxT (pre := [.string (⟨#[114, 101, 116, 117, 114, 110]⟩ : ByteArray), .slice (some ⟨b10, 0, none⟩) 1 1]) (post := []) fo40_2 hT5.1.one.size (Nat.le_of_ble_eq_true rfl) rfl rfl (Bld.nil _)))) rfl ?_)
 refine At.buildSlice (xs := [.const (.string (⟨#[120]⟩ : ByteArray)), .const (.string (⟨#[107]⟩ : ByteArray))]) rfl rfl el25 sz9 ze9 (by intro v hv; simp only [List.mem_cons, List.not_mem_nil, or_false] at hv; rcases hv with rfl | rfl <;> rfl) rfl (by decide) rfl (fun b11 w21 F11 => ?_)
 have hL11 : TS (some b9 :: (some b1 :: [])) w21 (.slice (some ⟨b11, 0, none⟩) 2 2) [(⟨#[120]⟩ : ByteArray), (⟨#[107]⟩ : ByteArray)] := ⟨StrsAt.own F11.new rfl (Nat.le_refl _), fun _ => ((MLt.blk hb9 (MLt.blk hb1 (MLt.nil _)))).out F11⟩
 replace hb1 := F11.old hb1
 replace hb9 := F11.old hb9
 replace hG := hG.below F11.bel
 replace hT := hT.gr (Gr.of F11.bel _) (Nat.le_refl _)
 replace hT5 := hT5.gr (Gr.of F11.bel _) (Nat.le_refl _)
 replace hTB := hTB.gr (Gr.of F11.bel _) (Nat.le_refl _)
 replace hL10 := hL10.gr (Gr.of F11.bel _) (Nat.le_refl _)
 refine .load rfl (Ld.own ag31 (sz31.trans (congrArg some hTB.1.one.size.symm)) hb9) rfl (.build (C := (mx [.string (⟨#[103, 101, 116]⟩ : ByteArray), .slice (some ⟨b11, 0, none⟩) 2 2] qB.cs [])) sd40 ze40 rfl (Bld.cons fo40_0 rfl (by first | decide | exact Nat.le_of_ble_eq_true rfl) (Bld.cons fo40_1 rfl (by first | decide | exact Nat.le_of_ble_eq_true rfl) (Bld.mxT (pre := [.string (⟨#[103, 101, 116]⟩ : ByteArray), .slice (some ⟨b11, 0, none⟩) 2 2]) (post := []) fo40_2 hTB.1.one.size (Nat.le_of_ble_eq_true rfl) rfl rfl (Bld.nil _)))) rfl ?_)
 obtain ⟨r1, er1, hA1⟩ := TA.made (⟨#[114, 101, 116, 117, 114, 110]⟩ : ByteArray) hT5 hL10
 refine .set (d := 72) (u := .agg r1.cs) rfl (congrArg Value.agg er1) ?_
 obtain ⟨r2, er2, hA2⟩ := TA.made (⟨#[103, 101, 116]⟩ : ByteArray) hTB hL11
 refine .set (d := 75) (u := .agg r2.cs) rfl (congrArg Value.agg er2) ?_
 refine At.buildSlice (xs := [.tmp 72, .tmp 75]) rfl rfl el23 sz40 ze40 (by intro v hv; simp only [List.mem_cons, List.not_mem_nil, or_false] at hv; rcases hv with rfl | rfl <;> first | exact hA1.1.one.c.size | exact hA2.1.one.c.size) rfl (by decide) rfl (fun b12 w22 F12 => ?_)
 have hL12 := TAL.two hA1 hA2 F12 (MLt.blk hb9 (MLt.blk hb1 (MLt.nil _)))
 replace hb1 := F12.old hb1
 replace hb9 := F12.old hb9
 replace hG := hG.below F12.bel
 replace hT := hT.gr (Gr.of F12.bel _) (Nat.le_refl _)
 refine .assign rfl rfl (.ops0 (.thenN (.seq (.region (.load rfl (Ld.own ag31 (sz31.trans (congrArg some hT.1.one.size.symm)) hb1) rfl ?_)))))
 refine At.buildSlice (xs := [.tmp 77]) rfl rfl el22 sz31 ze31 (by intro v hv; simp only [List.mem_cons, List.not_mem_nil, or_false] at hv; rcases hv with rfl <;> first | exact hT.1.one.size) rfl (by decide) rfl (fun b13 w23 F13 => ?_)
 have hL13 := TL.one hT F13 (MLt.blk hb9 (MLt.blk hb1 (MLt.nil _)))
 replace hb1 := F13.old hb1
 replace hb9 := F13.old hb9
 replace hG := hG.below F13.bel
 replace hL12 := hL12.gr (Gr.of F13.bel _) (Nat.le_refl _)
 refine .move rfl rfl (.build (C := #[.int .i64 14, zI, .string (⟨#[69]⟩ : ByteArray), zS, zI, .slice (some ⟨b13, 0, none⟩) 1 1, .slice (some ⟨b12, 0, none⟩) 2 2, zI, zS, zI, zN, zN, zI, zN, zI, zI, zS, zI, zN, zN, zI]) sd31 ze31 rfl (Bld.cons fo31_0 rfl (by first | decide | exact Nat.le_of_ble_eq_true rfl) (Bld.cons fo31_2 rfl (by first | decide | exact Nat.le_of_ble_eq_true rfl) (Bld.cons fo31_5 rfl (by first | decide | exact Nat.le_of_ble_eq_true rfl) (Bld.cons fo31_6 rfl (by first | decide | exact Nat.le_of_ble_eq_true rfl) (Bld.nil _))))) rfl ?_)
 obtain ⟨q10, et10, hT10⟩ := TT.made (M := (some b9 :: (some b1 :: []))) (w := w23) 14 0 (⟨#[69]⟩ : ByteArray) eB 0 hL13 hL12
 refine .set (d := 80) (u := .agg q10.cs) rfl (congrArg Value.agg et10) (.build (C := (mx [zN, zN] q10.cs [])) sd38 ze38 rfl (Bld.mxT (pre := [zN, zN]) (post := []) fo38_2 hT10.1.one.size (Nat.le_of_ble_eq_true rfl) rfl rfl (Bld.nil _)) rfl ?_)
 obtain ⟨R, hRR⟩ : ∃ R, runR (anT m0 s0 (reA l1 (min l1.length 9))) [] 1500 = R := ⟨_, rfl⟩; have hrd := (ans_law m0 s0 l1 (n := (min l1.length 9)) (by omega)).2; rw [hRR] at hrd; obtain ⟨hr1, hr2, hr3, hr4⟩ := hrd
 replace hT10 : TT (some b9 :: (some b1 :: [])) w23 q10 (anT m0 s0 (reA l1 (min l1.length 9))) := hT10
 refine At.call en14 rfl rfl (run_any (E := (some b9 :: (some b1 :: []))) (l := []) 1500 _ ((SlOk.nil)).one ((SlOk.nil)).one hT10.1 (MLt.blk hb9 (MLt.blk hb1 (MLt.nil _))) (RowsAt.nil _ 1) (by decide) (by decide) (by rw [hT10.2]; exact (ans_law m0 s0 l1 (n := (min l1.length 9)) (by omega)).1)) (fun e w24 hR => ?_)
 obtain ⟨cs, rfl, hra, hbl2⟩ := hR; refine ⟨_, rfl, ?_⟩; rw [hT10.2] at hra; rw [hRR] at hra
 replace hG := hG.below hbl2
 obtain ⟨rk1, rn1, rm1, rv1, rt1, rfl, ho1, hi1, hz1⟩ := hra; replace ho1 : TO (some b9 :: (some b1 :: [])) w24 rk1 rn1 rm1 rv1 R.v := ho1; replace hi1 : TI (some b9 :: (some b1 :: [])) w24 rt1 R.tr := ⟨hi1, hz1⟩
 rw [hr2] at ho1; rw [hr4] at hi1
 refine At.alloc ze49 rfl (fun b14 w25 F14 => ?_)
 have hb14 : w25.heap[b14]? = some (.cells #[zI, zI, zI, zS, zN, zN, zI, zI] 49) := F14.new
 refine At.storeAll rfl rfl hb14 sz49 rfl (by first | (simp [Value.oneCell', (OAt.one ho1), hi1.1.ok.one]; done) | (simp only [List.all_toArray, List.all_cons, List.all_nil, (OAt.one ho1), hi1.1.ok.one, Bool.and_true, Bool.true_and] <;> rfl)) (fun w26 S8 => ?_)
 replace hb14 : w26.heap[b14]? = some (.cells #[.int .i64 R.ok, .int .i64 rk1, .int .i64 rn1, .string rm1, rv1, rt1, .int .i64 R.st, .int .i64 R.kn] 49) := S8.new
 replace hG := hG.below (F14.bel2 S8)
 replace ho1 := ho1.gr (Gr.of (F14.bel2 S8) _) (Nat.le_refl _)
 replace hi1 := hi1.gr (Gr.of (F14.bel2 S8) _) (Nat.le_refl _)
 refine .ops0 (.thenN (.seq (.region ?_)))
 refine At.join [(6, .bool true)] (fun w' => w26 = w') ?_ (fun w27 hS => ?_)
 ·skip
  refine .move rfl rfl (.move rfl rfl (.yes rfl rfl rfl rfl (.fieldAddr rfl fo49_0 rfl (.yes rfl rfl rfl rfl (.fieldAddr rfl fo47_0 rfl (.yes rfl rfl rfl rfl (.load rfl (Ld.ownCell ag3 hb14 rfl) rfl (.yes rfl rfl rfl rfl (.eqI rfl rfl rfl (.set (d := 88) (u := .bool true) rfl (congrArg Value.bool (decide_eq_true hr1)) (.pickT rfl rfl rfl (.move rfl rfl (.yes rfl rfl rfl rfl (.fieldAddr rfl fo49_0 rfl (.yes rfl rfl rfl rfl (.fieldAddr rfl fo47_1 rfl (.yes rfl rfl rfl rfl (.fieldAddr rfl fo45_0 rfl (.yes rfl rfl rfl rfl (.load rfl (Ld.ownCell ag3 hb14 rfl) rfl (.yes rfl rfl rfl rfl ?_)))))))))))))))))))))
  obtain ⟨hk9, hn9, _⟩ := TO.is (show TO _ _ rk1 rn1 rm1 rv1 (.mk 1 _ eB []) from ho1)
  refine .eqI rfl rfl rfl (.set (d := 95) (u := .bool true) rfl (congrArg Value.bool (decide_eq_true hk9)) (.pickT rfl rfl rfl (.move rfl rfl (.yes rfl rfl rfl rfl (.fieldAddr rfl fo49_0 rfl (.yes rfl rfl rfl rfl (.fieldAddr rfl fo47_1 rfl (.yes rfl rfl rfl rfl (.fieldAddr rfl fo45_1 rfl (.yes rfl rfl rfl rfl (.load rfl (Ld.ownCell ag3 hb14 rfl) rfl (.yes rfl rfl rfl rfl (.move rfl rfl (.yes rfl rfl rfl rfl (.eqI rfl rfl rfl (.set (d := 103) (u := .bool true) rfl (congrArg Value.bool (decide_eq_true hn9)) (.pickT rfl rfl rfl (.move rfl rfl (.yes rfl rfl rfl rfl (.fieldAddr rfl fo49_3 rfl (.yes rfl rfl rfl rfl (.load rfl (Ld.ownCell ag3 hb14 rfl) rfl (.yes rfl rfl rfl rfl (.move rfl rfl (.yes rfl rfl rfl rfl (.eqI rfl rfl rfl (.set (d := 109) (u := .bool true) rfl (congrArg Value.bool (decide_eq_true hr3)) (.pickT rfl rfl rfl (.move rfl rfl (.yes rfl rfl rfl rfl (.fieldAddr rfl fo49_1 rfl (.yes rfl rfl rfl rfl (.load rfl (Ld.ownCell ag32 hb14 rfl) rfl (.yes rfl rfl rfl rfl (.lenSl rfl hi1.1.ok el32 rfl (.yes rfl rfl rfl rfl (.eqI rfl rfl rfl (.set (d := 115) (u := .bool true) rfl (congrArg Value.bool (decide_eq_true rfl)) (.pickT rfl rfl rfl ?_)))))))))))))))))))))))))))))))))))))))
  refine .assign rfl rfl ?_
  exact At.joined (Sub.cons rfl Sub.nil) rfl
 subst hS
 refine .thenN (.retc (.doneR (ResV.tmp rfl ResV.nil) ?_))
 exact ⟨rfl, hG.base⟩
section
variable {H : Type} (enc : TypeId × Value → H) (P : Program) (w : World)
def Rd (n : Nat) (t : TypeId) (cs : List Value) : Prop := ∃ x, DataW.trod enc P w 0 (fun _ => true) true n t cs = some x
end
def kindB (P : Program) (t : TypeId) : Nat :=
  match P.underlying t with
  | some (.int .i64) => 1
  | some .string => 2
  | some .bool => 3
  | _ => 0
def fieldT (P : Program) (t : TypeId) (i : Nat) : Option (Nat × TypeId) :=
  match P.underlying t with
  | some (.struct fs) => (fs[i]?).map fun f => (f.offset, f.type)
  | _ => none
def closB (P : Program) (ts : List TypeId) : Bool :=
  ts.all fun t => match P.underlying t with
    | some (.struct fs) => (fs.toList.all fun f => ts.contains f.type) && (List.range (P.cellsOf t)).all fun j => fs.toList.any fun f => Nat.ble f.offset j && Nat.blt j (f.offset + P.cellsOf f.type)
    | some (.int _) | some .string | some .bool | some (.slice _) => true
    | _ => false
section
variable {H : Type} {enc : TypeId × Value → H} {P : Program} {w : World} {n : Nat} {t e : TypeId} {cs : List Value}
theorem Rd.int (ht : kindB P t = 1) (h : Rd enc P w n t cs) : ∃ m, cs = [.int .i64 m] := by
  obtain ⟨x, h⟩ := h
  have hu : P.underlying t = some (.int .i64) := by
    unfold kindB at ht
    split at ht <;> first | assumption | cases ht
  obtain ⟨m, h1, _⟩ := DataW.trod_int hu h
  exact ⟨m, h1⟩
theorem Rd.field {i o : Nat} {u : TypeId} (ht : fieldT P t i = some (o, u)) (h : Rd enc P w n t cs) : ∃ m, m < n ∧ Rd enc P w m u ((cs.drop o).take (P.cellsOf u)) := by
  obtain ⟨x, h⟩ := h
  unfold fieldT at ht
  split at ht
  · rename_i fs hu
    obtain ⟨xs, m, rfl, _, _, hl, hf⟩ := DataW.trod_struct hu h
    cases hi : fs[i]? with
    | none => rw [hi] at ht; cases ht
    | some f =>
      rw [hi] at ht
      simp only [Option.map_some, Option.some.injEq, Prod.mk.injEq] at ht
      obtain ⟨rfl, rfl⟩ := ht
      have h1 := hf i f hi
      have : i < xs.length := by rw [hl]; exact (Array.getElem?_eq_some_iff.1 hi).1
      exact ⟨m, Nat.lt_succ_self m, xs[i], by rw [h1, List.getElem?_eq_getElem this]⟩
  · cases ht
theorem Rd.len {i o : Nat} {u : TypeId} (ht : fieldT P t i = some (o, u)) (h : Rd enc P w n t cs) : cs.length = P.cellsOf t := by
  obtain ⟨x, h⟩ := h
  unfold fieldT at ht
  split at ht
  · rename_i fs hu
    obtain ⟨xs, m, rfl, _, hc, _⟩ := DataW.trod_struct hu h
    exact hc
  · cases ht
theorem cells_at {a : Addr} {k : Nat} {row : List Value} (h : w.cells? 0 a k = some row) : row.length = k ∧ (0 < k → a.spot = none) ∧ CellsAt w a.block a.off row.toArray := by
  unfold World.cells? at h
  rw [if_pos (Nat.zero_le _)] at h
  have key : ∀ (k : Nat) (s : Nat) (row : List Value), (List.range' s k).mapM (fun i => w.cell? (a.add i)) = some row → row.length = k ∧ ∀ j : Nat, ∀ v, row[j]? = some v → w.cell? (a.add (s + j)) = some v := by
    intro k
    induction k with
    | zero => intro s row h; simp at h; subst h; exact ⟨rfl, fun j v hv => by simp at hv⟩
    | succ k ih =>
      intro s row h
      rw [List.range'_succ, List.mapM_cons] at h
      cases hc : w.cell? (a.add s) with
      | none => simp [hc] at h
      | some c =>
        cases hr : (List.range' (s + 1) k).mapM (fun i => w.cell? (a.add i)) with
        | none => simp [hc, hr] at h
        | some r =>
          simp [hc, hr] at h
          subst h
          obtain ⟨h1, h2⟩ := ih (s + 1) r hr
          refine ⟨by simp [h1], fun j v hv => ?_⟩
          cases j with
          | zero => simp at hv; subst hv; exact hc
          | succ j =>
            have := h2 j v (by simpa using hv)
            rw [← this]; congr 2; omega
  rw [List.range_eq_range'] at h
  obtain ⟨h1, h2⟩ := key k 0 row h
  have hsp : 0 < k → a.spot = none := by
    intro hk
    have hl : 0 < row.length := by omega
    have := h2 0 row[0] (List.getElem?_eq_getElem hl)
    rw [show a.add (0 + 0) = a by simp [Addr.add]] at this
    unfold World.cell? at this
    split at this
    · split at this
      · cases this
      · rename_i hs; cases hq : a.spot with
        | none => rfl
        | some q => rw [hq] at hs; exact absurd rfl hs
    · cases this
  refine ⟨h1, hsp, fun j v hv => ?_⟩
  have hj : j < row.length := by simpa using (Array.getElem?_eq_some_iff.1 hv).1
  have h3 := h2 j v (by simpa using hv)
  have hs := hsp (by omega)
  obtain ⟨b, o, sp⟩ := a
  simp only at hs
  subst hs
  rw [Nat.zero_add, add_at] at h3
  exact h3
theorem Rd.slice {sz : Nat} (ht : elemB P t = some e) (hc : P.cellsOf e = sz) (hz : 0 < sz) (h : Rd enc P w n t cs) :
    ∃ v len, cs = [v] ∧ SlOk v len ∧ len ≤ 9223372036854775807 ∧ ∃ m, m < n ∧ ∀ i, i < len → ∃ row : List Value, row.length = sz ∧ CellsAt w (vBlock v) (vOff v + i * sz) row.toArray ∧ Rd enc P w m e row := by
  obtain ⟨x, h⟩ := h
  have hn : 0 < n := by cases n with | zero => simp [DataW.trod] at h | succ n => omega
  rcases DataW.trod_slice (underlying_elem ht) h with ⟨rfl, _⟩ | ⟨a, len, cap, elems, rest, m, rfl, rfl, _, _, hl, hm, hel, hget, _⟩
  · exact ⟨_, 0, rfl, .inl ⟨rfl, rfl⟩, by omega, 0, hn, fun i hi => by omega⟩
  · rw [hc] at hget
    have each : ∀ i, i < len → ∃ row : List Value, w.cells? 0 (a.add (i * sz)) sz = some row ∧ Rd enc P w m e row := by
      intro i hi
      have h1 := hget i hi
      have hlt : i < elems.length := by omega
      rw [List.getElem?_eq_getElem hlt, Option.bind_eq_some_iff] at h1
      obtain ⟨row, h2, h3⟩ := h1
      exact ⟨row, h2, _, h3⟩
    have hsp : 0 < len → a.spot = none := by
      intro h0
      obtain ⟨row, h2, _⟩ := each 0 h0
      have := (cells_at h2).2.1 hz
      simpa [Addr.add] using this
    refine ⟨_, len, rfl, .inr ⟨a, cap, rfl, hl, hsp⟩, by have : maxLen = 9223372036854775807 := rfl; omega, m, Nat.lt_succ_self m, fun i hi => ?_⟩
    obtain ⟨row, h2, h3⟩ := each i hi
    obtain ⟨h4, _, h5⟩ := cells_at h2
    refine ⟨row, h4, ?_, h3⟩
    have ha := hsp (by omega)
    obtain ⟨b, o, sp⟩ := a
    simp only at ha
    subst ha
    rw [add_at] at h5
    exact h5
theorem list_of {β : Type} {Q : Nat → β → Prop} : ∀ (len : Nat), (∀ i, i < len → ∃ b, Q i b) → ∃ l : List β, l.length = len ∧ ∀ i b, l[i]? = some b → Q i b := by
  intro len
  induction len with
  | zero => intro _; exact ⟨[], rfl, fun i b h => by simp at h⟩
  | succ len ih =>
    intro h
    obtain ⟨l, h1, h2⟩ := ih fun i hi => h i (by omega)
    obtain ⟨b, hb⟩ := h len (by omega)
    refine ⟨l ++ [b], by simp [h1], fun i c hc => ?_⟩
    by_cases hi : i < l.length
    · exact h2 i c (by rwa [List.getElem?_append_left hi] at hc)
    · rw [List.getElem?_append_right (by omega)] at hc
      have : i - l.length = 0 := by
        have := (List.getElem?_eq_some_iff.1 hc).1
        simp at this; omega
      rw [this] at hc
      simp at hc
      subst hc
      have : i = len := by omega
      rw [this]; exact hb
theorem Rd.rows {β : Type} {sz : Nat} {f : β → Array Value} {Ok : β → Prop} (ht : elemB P t = some e) (hc : P.cellsOf e = sz) (hz : 0 < sz) (h : Rd enc P w n t cs)
    (each : ∀ m, m < n → ∀ row : List Value, row.length = sz → Rd enc P w m e row → ∃ b, f b = row.toArray ∧ Ok b) : ∃ (v : Value) (l : List β), cs = [v] ∧ RowsAt w v sz (l.map f) ∧ ∀ b ∈ l, Ok b := by
  obtain ⟨v, len, h1, h2, h3, m, hm, h4⟩ := Rd.slice ht hc hz h
  obtain ⟨l, hl, hq⟩ := list_of (Q := fun i b => (f b).size = sz ∧ CellsAt w (vBlock v) (vOff v + i * sz) (f b) ∧ Ok b) len fun i hi => by
    obtain ⟨row, r1, r2, r3⟩ := h4 i hi
    obtain ⟨b, b1, b2⟩ := each m hm row r1 r3
    exact ⟨b, by rw [b1]; simpa using r1, by rw [b1]; exact r2, b2⟩
  refine ⟨v, l, h1, ⟨by simpa [hl] using h2, fun i cs hi => ?_, fun i cs hi => ?_, by simpa [hl] using h3⟩, fun b hb => ?_⟩
  · simp only [List.getElem?_map, Option.map_eq_some_iff] at hi
    obtain ⟨b, hb, rfl⟩ := hi; exact (hq i b hb).1
  · simp only [List.getElem?_map, Option.map_eq_some_iff] at hi
    obtain ⟨b, hb, rfl⟩ := hi; exact (hq i b hb).2.1
  · obtain ⟨i, hi⟩ := List.getElem?_of_mem hb
    exact (hq i b hi).2.2
theorem Rd.one {ts : List TypeId} (hc : closB P ts = true) : ∀ (n : Nat) (t : TypeId) (cs : List Value), t ∈ ts → Rd enc P w n t cs → ∀ v ∈ cs, v.oneCell' = true := by
  intro n
  induction n with
  | zero => intro t cs _ h; obtain ⟨x, h⟩ := h; simp [DataW.trod] at h
  | succ n ih =>
    intro t cs ht h
    have hct := List.all_eq_true.1 hc t ht
    obtain ⟨x, h⟩ := h
    cases hu : P.underlying t with
    | none => unfold DataW.trod at h; rw [hu] at h; simp at h
    | some d =>
      cases d with
      | struct fs =>
        obtain ⟨xs, m, hm, _, hcl, hl, hf⟩ := DataW.trod_struct hu h
        obtain rfl : n = m := by omega
        rw [hu] at hct
        simp only [Bool.and_eq_true] at hct
        intro v hv
        obtain ⟨j, hj⟩ := List.getElem?_of_mem hv
        have hjl : j < P.cellsOf t := by rw [← hcl]; exact (List.getElem?_eq_some_iff.1 hj).1
        have h2 := List.all_eq_true.1 hct.2 j (by simpa using hjl)
        obtain ⟨f, hf1, hf2⟩ := List.any_eq_true.1 h2
        simp only [Bool.and_eq_true, Nat.ble_eq, Nat.blt_eq] at hf2
        have hf3 := List.all_eq_true.1 hct.1 f hf1
        obtain ⟨i, hi⟩ := List.getElem?_of_mem hf1
        have hi' : fs[i]? = some f := by simpa using hi
        have h4 := hf i f hi'
        have hil : i < xs.length := by rw [hl]; exact (Array.getElem?_eq_some_iff.1 hi').1
        rw [List.getElem?_eq_getElem hil] at h4
        refine ih f.type _ (List.contains_iff_mem.1 hf3) ⟨_, h4⟩ v ?_
        refine List.mem_of_getElem? (i := j - f.offset) ?_
        rw [List.getElem?_take_of_lt (by omega), List.getElem?_drop]
        rw [show f.offset + (j - f.offset) = j by omega]; exact hj
      | int k => obtain ⟨m, rfl, _⟩ := DataW.trod_int hu h; intro v hv; simp at hv; subst hv; rfl
      | string => obtain ⟨m, rfl, _⟩ := DataW.trod_string hu h; intro v hv; simp at hv; subst hv; rfl
      | bool => obtain ⟨m, rfl, _⟩ := DataW.trod_bool hu h; intro v hv; simp at hv; subst hv; rfl
      | slice e =>
        rcases DataW.trod_slice hu h with ⟨rfl, _⟩ | ⟨a, len, cap, elems, rest, m, _, rfl, _⟩
        · intro v hv; simp at hv; subst hv; rfl
        · intro v hv; simp at hv; subst hv; rfl
      | _ => rw [hu] at hct; cases hct
end
section
variable {H : Type} {enc : TypeId × Value → H}
theorem e32 : elemB Tryz.prog 32 = some 3 := by kernel_rfl
theorem c3 : Tryz.prog.cellsOf 3 = 1 := by kernel_rfl
theorem k3 : kindB Tryz.prog 3 = 1 := by kernel_rfl
theorem ints_arg {w : World} {a : Option Addr} {m c : Nat} {d : DataW H} {ps : List MemPlace} (h : DataW.Trod enc Tryz.prog w 0 (fun _ => true) true 32 (.slice a m c) d ps) : ∃ l : List Int, IntsAt w (.slice a m c) l := by
  obtain ⟨n, h⟩ := h
  obtain ⟨v, l, h1, h2, _⟩ := Rd.rows (f := fun s : Int => #[Value.int .i64 s]) (Ok := fun _ => True) e32 c3 (by omega) (⟨_, h⟩ : Rd enc Tryz.prog w n 32 _) fun m hm row hr hd => by
    obtain ⟨x, hx⟩ := Rd.int k3 hd
    exact ⟨x, by rw [hx], trivial⟩
  have : v = .slice a m c := by simpa [Value.cells] using h1.symm
  rw [this] at h2
  exact ⟨l, h2⟩
theorem max_cell {w : World} (h : w.ShapedOpen Tryz.prog) : ∃ m, w.cell? ⟨0, 0, none⟩ = some (.int .i64 m) :=
  cell_of_shapedOpen_int (zero := #[.int .i64 0]) (t := 3) h (of_decide_eq_true (by kernel_rfl)) (by kernel_rfl) rfl (by kernel_rfl) (by kernel_rfl) Tryz.underlying3
end
end Go.Proofs.YtfoolfecjjngpaaGreat
namespace Go.Proofs.YtfoolfecjjngpaaGreat
open Go.ChangeShapes Go.WideShapes Go.ChangeAt Go.RowKit
theorem own_knob : ownKnob Tryz.prog.godebug = none := by kernel_rfl
theorem laid_out : laidOutB Tryz.prog = true := by kernel_rfl
set_option maxRecDepth 100000 in
theorem sourceAnswers_lifted (os : Os) (started : os.Started) (H : Type) (enc : TypeId × Value → H) :
    ReturnsInHanded {} Tryz.checked os 4 .any (Rows.sourceAnswersSpec.pre6 enc Tryz.prog Tryz.f4 Rows.sourceAnswersRow.domain false) (Rows.sourceAnswersSpec.post enc Tryz.prog Tryz.f4 false true false false) := by
  refine returnsInHanded_of_change_shaped (C := Tryz.checked) own_knob started (by kernel_rfl) Tryz.func4
    (ChangeSpec.witness6 (enc := enc) (C := Tryz.checked) false ⟨#[], #[.slice none 0 0, .int .i64 0, .bool false], []⟩ 8 (by kernel_rfl) (by kernel_rfl) (by kernel_rfl) (by kernel_rfl)) ?_
  intro W base args ds gs before hval0 hW hcnd _ hsh _
  obtain ⟨m, hm⟩ := max_cell hsh
  have hval : ∀ (j : Nat) t v, Tryz.f4.params[j]? = some t → args[j]? = some v → Value.okWide Tryz.prog W .any base t v := hval0
  have hW' := hW
  obtain ⟨p, q, hA0, hV, rfl, hfz, hnd⟩ := hW
  have hA : DataW.TrodAll enc Tryz.prog W 0 (fun _ => true) true Tryz.f4.params.toList args.toList ds p := hA0
  rw [Tryz.params4] at hA hval
  obtain ⟨v0, v1, v2, d0, d1, d2, p0, p1, p2, rfl, rfl, rfl, h0, h1, h2⟩ := trodAll_three hA
  obtain ⟨rfl, rfl⟩ := trodVars_none hV
  obtain ⟨s0, n0, c0, rfl⟩ := okWide_slice (show Tryz.prog.underlying 32 = some (.slice 3) by kernel_rfl) (hval 0 32 v0 rfl rfl)
  obtain ⟨l0, hl0⟩ := ints_arg h0
  obtain ⟨a1, rfl⟩ := okWide_int (show Tryz.prog.underlying 3 = some (.int .i64) by kernel_rfl) (hval 1 3 v1 rfl rfl)
  obtain ⟨a2, rfl⟩ := okWide_bool (show Tryz.prog.underlying 4 = some .bool by kernel_rfl) (hval 2 4 v2 rfl rfl)
  clear hA0 hval0
  simp only [List.append_nil] at hW'
  have hlt : ∀ x ∈ p0 ++ p1 ++ p2, x.block < W.heap.size := fun x hx => by simpa using hW'.lt x hx
  refine (sourceAnswers_any a1 a2 W hl0 hm).mono fun e W' ⟨he, hbelow⟩ => ?_
  subst he
  have harg0 : DataW.Trod enc Tryz.prog W' 0 (fun b => decide (b < W.heap.size)) true 32 (.slice s0 n0 c0) d0 p0 :=
    Below.trod laid_out (by kernel_rfl) (of_decide_eq_true (by kernel_rfl)) h0 hbelow (fun x hx => hlt x (by simp [hx]))
  have harg1 : DataW.Trod enc Tryz.prog W' 0 (fun b => decide (b < W.heap.size)) true 3 (.int .i64 a1) d1 p1 :=
    Below.trod laid_out (by kernel_rfl) (of_decide_eq_true (by kernel_rfl)) h1 hbelow (fun x hx => hlt x (by simp [hx]))
  have harg2 : DataW.Trod enc Tryz.prog W' 0 (fun b => decide (b < W.heap.size)) true 4 (.bool a2) d2 p2 :=
    Below.trod laid_out (by kernel_rfl) (of_decide_eq_true (by kernel_rfl)) h2 hbelow (fun x hx => hlt x (by simp [hx]))
  exact ⟨_, rfl, _, _, _, [], _, [], hW', trodAll_mk1 (shut_bool (by kernel_rfl) _), (by have q := trodAll_mk3 harg0 harg1 harg2; rw [← List.append_assoc] at q; exact q), rfl, hbelow.frame _, fun h => by cases h⟩
theorem sourceAnswers_holds : Rows.SourceAnswersSaid :=
  OpenClaim.holds_of_wide 4 Tryz.f4 rfl rfl rfl rfl rfl rfl rfl ⟨rfl, rfl, rfl, rfl, rfl⟩ rfl rfl rfl rfl rfl (by kernel_rfl) Tryz.func4 (by kernel_rfl)
    (of_decide_eq_true (by kernel_rfl)) (by unfold Func.isWrapper; rw [if_neg (by decide +kernel)]; exact ⟨rfl, rfl⟩)
    (fun os started H enc _ => sourceAnswers_lifted os started H enc)
end Go.Proofs.YtfoolfecjjngpaaGreat
