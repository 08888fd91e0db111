/- A case among the arguments, opened. -/
import Derived.Test.YticoljmflljghaaGreatDoorMTz
import Derived.Lib.SmallJoins
import Derived.Test.YticoljmflljghaaGreatDoorMAwk
import Derived.Test.YticoljmflljghaaGreatDoorMChgS
import Derived.Test.YticoljmflljghaaGreatDoorRows
import Derived.Test.YticoljmflljghaaGreatDoorCards
import Derived.Test.YticoljmflljghaaGreatDoorTie
import Derived.Test.YticoljmflljghaaGreatDoorMCkC
import Derived.ProofKit
import Derived.LaidMore
import Derived.SizedLaws
import Derived.SevenTiedAt
namespace Wt
open Go Go.ChangeShapes Go.WideShapes Go.ChangeAt Go.RowKit Go.Deep Go.Proofs Fm
section
variable {H : Type} {enc : TypeId × Value → H} {w : World}
set_option maxRecDepth 100000 in
/-- A case, as an argument. -/
theorem open_cs {t : Nat} {v : Value} {d : DataW H} {p : List MemPlace} {r : Reach} {b0 : Nat} (ht : t = 43) (hval : Value.okWide Tryz.prog w r b0 t v) (h : DataW.Trod enc Tryz.prog w 0 (fun _ => true) true t v d p) (hz : ∀ n ∈ d.weights Tryz.prog t, n ≤ reachBytes) :
    ∃ (x a : Int) (fa : Option Addr) (f : List Nd) (fc : Nat) (oa : Option Addr) (l : List (List Nd)) (oc : Nat), v = .agg #[.int .i64 x, .int .i64 a, .slice fa f.length fc, .slice oa l.length oc] ∧ RN w fa f ∧ RNN w oa l := by
  subst ht
  have hc0 : Tryz.prog.cellsOf 3 = 1 := by kernel_rfl
  have hc1 : Tryz.prog.cellsOf 26 = 1 := by kernel_rfl
  have hc2 : Tryz.prog.cellsOf 37 = 1 := by kernel_rfl
  have hc3 : Tryz.prog.cellsOf 43 = 4 := by kernel_rfl
  obtain ⟨cs, rfl, hcs⟩ := okWide_struct Tryz.underlying43 hval
  obtain ⟨fuel, h⟩ := h
  obtain ⟨y0, y1, y2, y3, n, hx, hl, u0, u1, u2, u3⟩ := Joins.trod_struct4 Tryz.underlying43 h
  simp only [Prod.mk.injEq] at hx
  obtain ⟨rfl, rfl⟩ := hx
  rw [hc3] at hl
  simp only [hc0, hc1, hc2] at u0 u1 u2 u3
  obtain ⟨i, hi, _, _⟩ := DataW.trod_int Tryz.underlying3 u0
  obtain ⟨j, hj, _, _⟩ := DataW.trod_int Tryz.underlying3 u1
  have hzs : ∀ n ∈ DataW.weightsEach Tryz.prog [3, 3, 26, 37] [y0.1, y1.1, y2.1, y3.1], n ≤ reachBytes := by
    intro n hn
    refine hz n ?_
    simp only [DataW.weights, Tryz.underlying43]
    exact hn
  obtain ⟨fa, f, fc, hv, hF⟩ := open_rn u2 (fun n hn => hzs n (DataW.weights_mem_each (j := 2) rfl rfl n hn))
  obtain ⟨oa, l, oc, hr, hL⟩ := open_rnn u3 (fun n hn => hzs n (DataW.weights_mem_each (j := 3) rfl rfl n hn))
  refine ⟨i, j, fa, f, fc, oa, l, oc, ?_, hF, hL⟩
  have hcl : (Value.agg cs).cells.toList = [.int .i64 i, .int .i64 j, .slice fa f.length fc, .slice oa l.length oc] := by
    generalize (Value.agg cs).cells.toList = L at hl hi hj hv hr
    match L, hl with
    | [a, b, c, d], _ =>
      simp at hi hj hv hr
      rw [hi, hj, hv, hr]
  have e2 : cs.toList = [.int .i64 i, .int .i64 j, .slice fa f.length fc, .slice oa l.length oc] := hcl
  have e3 : cs = #[.int .i64 i, .int .i64 j, .slice fa f.length fc, .slice oa l.length oc] := by
    apply Array.ext'
    rw [e2]
  rw [e3]
end
end Wt

/- The walk of AnnounceChanges. -/
namespace Wt
open Go Go.RowKit Go.Maps Go.Proofs Fm

/-- Four cells hold a case. -/
structure CsAt (w : World) (b : Nat) (x a : Int) (f l : Value) : Prop where
  c0 : w.cell? ⟨b, 0, none⟩ = some (.int .i64 x)
  c1 : w.cell? ⟨b, 1, none⟩ = some (.int .i64 a)
  c2 : w.cell? ⟨b, 2, none⟩ = some f
  c3 : w.cell? ⟨b, 3, none⟩ = some l
theorem CsAt.new (w : World) (x a : Int) (f l : Value) (T : Nat) : CsAt (w.alloc (.cells #[.int .i64 x, .int .i64 a, f, l] T)) w.heap.size x a f l := ⟨by simp, by simp, by simp, by simp⟩
theorem CsAt.ext {w w' : World} {b : Nat} {x a : Int} {f l : Value} (h : CsAt w b x a f l) (e : Ext w w') : CsAt w' b x a f l := ⟨e.cell h.c0, e.cell h.c1, e.cell h.c2, e.cell h.c3⟩
set_option maxRecDepth 20000 in
set_option maxHeartbeats 8000000 in
theorem announceChanges_any (M : Mo) (va ra : Option Addr) (vc rc : Nat) (x ag : Int) (fa : Option Addr) (fc : Nat) (f : List Nd) (oa : Option Addr) (oc : Nat) (l : List (List Nd)) (w : World) (hm : RM w va ra M) (hf : RN w fa f) (hl : RNN w oa l) (hT : Tab w) :
    Calls Tryz.prog 5 #[.agg #[.int .i64 M.worlds, .slice va M.val.length vc, .slice ra M.rel.length rc], .agg #[.int .i64 x, .int .i64 ag, .slice fa f.length fc, .slice oa l.length oc]] w fun e w' => e = .returned (.bool true) ∧ Ext w w' := by
  have hE0 : Ext w ((w.alloc (.cells #[.int .i64 M.worlds, .slice va M.val.length vc, .slice ra M.rel.length rc] 25)).alloc (.cells #[.int .i64 x, .int .i64 ag, .slice fa f.length fc, .slice oa l.length oc] 43)) := ((Ext.refl w).alloc _).alloc _
  have HBX := Lib.hid ((MoBox.new w M.worlds M.val M.rel va vc ra rc 25).ext ((Ext.refl _).alloc (.cells #[.int .i64 x, .int .i64 ag, .slice fa f.length fc, .slice oa l.length oc] 43)))
  have hcs := CsAt.new (w.alloc (.cells #[.int .i64 M.worlds, .slice va M.val.length vc, .slice ra M.rel.length rc] 25)) x ag (.slice fa f.length fc) (.slice oa l.length oc) 43
  rw [show (w.alloc (.cells #[.int .i64 M.worlds, .slice va M.val.length vc, .slice ra M.rel.length rc] 25)).heap.size = w.heap.size + 1 by simp] at hcs
  have HCS := Lib.hid hcs
  have HL := Lib.hid (hl.ext hE0)
  have HF := Lib.hid (hf.ext hE0)
  have HT := Lib.hid (hT.ext hE0)
  have HM := Lib.hid (hm.ext hE0)
  have HE := Lib.hid hE0
  have hll := hl.len
  have hfl := hf.len
  clear hm hl hf hT hE0 hcs
  go_enter Tryz.func5, Tryz.ntmps5
  go_wp2_with fail
  generalize (w.alloc (.cells #[.int .i64 M.worlds, .slice va M.val.length vc, .slice ra M.rel.length rc] 25)).alloc (.cells #[.int .i64 x, .int .i64 ag, .slice fa f.length fc, .slice oa l.length oc] 43) = W0 at *
  refine (awake25_any _ HT.out).mono ?_
  rintro _ w1 ⟨rfl, hX1⟩
  dsimp only
  obtain ⟨m0, m1, m2⟩ := HBX.out.ext hX1
  obtain ⟨s0, s1, s2, s3⟩ := HCS.out.ext hX1
  dsimp only at m0 m1 m2
  have hbs := World.block_lt_of_cell? w1 _ s0
  have hbm := World.block_lt_of_cell? w1 _ m0
  go_wp2_with fail
  refine (few25_any M va ra vc rc _ 1 [f] _ (HM.out.ext (hX1.alloc _)) (RNN.one _ fa fc f 26 (HF.out.ext hX1))).mono ?_
  rintro _ w2 ⟨b, rfl, hE2, hsm⟩
  dsimp only
  have hX2 := (hX1.alloc (.cells #[.slice fa f.length fc] 26)).trans hE2
  cases b
  · clear m0 m1 m2 s0 s1 s2 s3 hbs hbm
    go_wp2_with fail
    refine (awake25_any _ (HT.out.ext hX2)).mono ?_
    rintro _ w3 ⟨rfl, hE3⟩
    dsimp only
    go_wp2_with fail
    go_ret
    exact ⟨rfl, HE.out.trans (hX2.trans hE3)⟩
  clear hsm m0 m1 m2 s0 s1 s2 s3 hbs hbm
  obtain ⟨s0, s1, s2, s3⟩ := HCS.out.ext hX2
  go_wp2_with fail
  refine (r25Few_any oa oc l _ (HL.out.ext hX2)).mono ?_
  rintro _ w3 ⟨b, rfl, hE3, hsm⟩
  dsimp only
  have hX3 := hX2.trans hE3
  clear s0 s1 s2 s3
  cases b
  · go_wp2_with fail
    refine (awake25_any _ (HT.out.ext hX3)).mono ?_
    rintro _ w4 ⟨rfl, hE4⟩
    dsimp only
    go_wp2_with fail
    go_ret
    exact ⟨rfl, HE.out.trans (hX3.trans hE4)⟩
  have h10 : l.length ≤ 1000000 := Nat.le_trans (hsm rfl).1 (by decide)
  clear hsm
  obtain ⟨m0, m1, m2⟩ := HBX.out.ext hX3
  dsimp only at m0 m1 m2
  obtain ⟨s0, s1, s2, s3⟩ := HCS.out.ext hX3
  go_wp2_with fail
  refine (successful_any M va ra vc rc x fa fc f _ (HM.out.ext hX3) (HF.out.ext hX3) (HT.out.ext hX3)).mono ?_
  rintro _ w4 ⟨rfl, hE4⟩
  dsimp only
  have hX4 := hX3.trans hE4
  clear m0 m1 m2 s0 s1 s2 s3
  obtain ⟨m0, m1, m2⟩ := HBX.out.ext hX4
  dsimp only at m0 m1 m2
  obtain ⟨s0, s1, s2, s3⟩ := HCS.out.ext hX4
  go_wp2_with fail
  refine (r25Successful_any M va ra vc rc x fa fc f _ (HM.out.ext hX4) (HF.out.ext hX4)).mono ?_
  rintro _ w5 ⟨rfl, hE5⟩
  dsimp only
  have hX5 := hX4.trans hE5
  clear m0 m1 m2 s0 s1 s2 s3
  obtain ⟨m0, m1, m2⟩ := HBX.out.ext hX5
  dsimp only at m0 m1 m2
  obtain ⟨s0, s1, s2, s3⟩ := HCS.out.ext hX5
  go_wp2_with fail
  refine (change_any M va ra vc rc x fa fc f ag oa oc l _ (HM.out.ext hX5) (HF.out.ext hX5) (HL.out.ext hX5) h10 (HT.out.ext hX5)).mono ?_
  rintro _ w6 ⟨pa, pb, pc, pd, rfl, hp1, hp2, hE6⟩
  dsimp only
  have hX6 := hX5.trans hE6
  clear m0 m1 m2 s0 s1 s2 s3
  obtain ⟨m0, m1, m2⟩ := HBX.out.ext hX6
  dsimp only at m0 m1 m2
  obtain ⟨s0, s1, s2, s3⟩ := HCS.out.ext hX6
  go_wp2_with fail
  refine (r25Change_any M va ra vc rc x fa fc f ag oa oc l _ (HM.out.ext hX6) (HF.out.ext hX6) (HL.out.ext hX6) h10).mono ?_
  rintro _ w7 ⟨qa, qb, qc, qd, rfl, hq1, hq2, hE7⟩
  dsimp only
  have hX7 := hX6.trans hE7
  have hn1 : (sucOf M x f == sucOf M x f) = true := by simp
  have hn2 : (afErr M x f == afErr M x f) = true := by simp
  have hn3 : ((chgOf M x f ag l).2.2 == (chgOf M x f ag l).2.2) = true := by simp
  have hs1 := same25_any (natI (chgOf M x f ag l).1) pa qa pc qc w7 (hp1.ext hE7) hq1
  have hs2 := fun w8 (e : Ext w7 w8) => same25_any (natI (chgOf M x f ag l).2.1) pb qb pd qd w8 (hp2.ext (hE7.trans e)) (hq2.ext e)
  simp only [natI_len] at hs1 hs2
  have HS1 := Lib.hid hs1
  have HS2 := Lib.hid hs2
  clear m0 m1 m2 s0 s1 s2 s3 hs1 hs2 hp1 hp2 hq1 hq2
  go_wp2_with fail
  refine HS1.out.mono ?_
  rintro _ w8 ⟨rfl, hE8⟩
  dsimp only
  go_wp2_with fail
  refine (HS2.out _ hE8).mono ?_
  rintro _ w9 ⟨rfl, hE9⟩
  dsimp only
  go_wp2_with fail
  go_ret
  exact ⟨rfl, HE.out.trans (hX7.trans (hE8.trans hE9))⟩
end Wt

/- The law AnnounceChanges returns true at every input, and its arguments read behind the call as they did before; the library's table of TrailingZeros64 lies as the program's text lays it: the tied card. No other condition. -/
namespace Go.Proofs.YticoljmflljghaaGreatDoor
open Go.ChangeShapes Go.WideShapes Go.ChangeAt Go.WideMaps Go.WideElems Go.RowKit

theorem own : ownKnob Tryz.prog.godebug = none := by kernel_rfl
theorem laidOut : laidOutB Tryz.prog = true := by kernel_rfl
theorem door_met (os : Os) (args : Array Value) : laidMetH Tryz.prog [("math/bits.deBruijn64tab", Rows.laid_math_bits_deBruijn64tab)] ((World.doorLaid Tryz.prog 400 os).forCall (fun _ _ => 0) ⟨#[], args, []⟩).memory := by
  rw [MakeChecks.laidMetH_plain _ _ _ (by kernel_rfl)]
  exact laidMet_of_run' 8 (by kernel_rfl) (by kernel_rfl)
set_option maxRecDepth 100000 in
set_option maxHeartbeats 1000000 in
theorem law_lifted (os : Os) (started : os.Started) (H : Type) (enc : TypeId × Value → H) :
    ReturnsInHanded {} Tryz.checked os 5 .any (fun w args => (Rows.announceChangesSpec.pre enc Tryz.prog Tryz.f5 Rows.announceChangesRow.domain false w args ∧ laidMetH Tryz.prog [("math/bits.deBruijn64tab", Rows.laid_math_bits_deBruijn64tab)] w) ∧ sizedMet enc Tryz.prog Tryz.f5 (OpenSpec.ofChange Rows.announceChangesSpec) false w args)
      (Rows.announceChangesSpec.post enc Tryz.prog Tryz.f5 false true false false) := by
  refine returnsInHanded_of_change_and (C := Tryz.checked) (X := fun w _ => laidMetH Tryz.prog [("math/bits.deBruijn64tab", Rows.laid_math_bits_deBruijn64tab)] w) (fun _ _ _ hh h => h.of_heap hh) own started (by kernel_rfl) Tryz.func5
    (ChangeSpec.witness_shaped (enc := enc) (C := Tryz.checked) (os := os) (X := fun w _ => laidMetH Tryz.prog [("math/bits.deBruijn64tab", Rows.laid_math_bits_deBruijn64tab)] w) false (World.doorLaid Tryz.prog 400 os) #[.agg #[.int .i64 0, .slice none 0 0, .slice none 0 0], .agg #[.int .i64 0, .int .i64 0, .slice none 0 0, .slice none 0 0]] 8 rfl (World.shaped_of_RefB (by kernel_rfl) (by kernel_rfl)) (by kernel_rfl) (by kernel_rfl) (by kernel_rfl) (door_met os _)) ?_
  intro W base args ds gs before hval0 hW _ hsz0 hL _
  have hT := of_laid hL
  have hval : ∀ (j : Nat) t v, Tryz.f5.params[j]? = some t → args[j]? = some v → Value.okWide Tryz.prog W .any base t v := hval0
  have hsz : (DataW.weightsEach Tryz.prog (Tryz.f5.params.toList ++ Rows.announceChangesSpec.plain.varTypes Tryz.prog) (ds ++ gs)).all (· ≤ reachBytes) = true := hsz0
  have hW' := hW
  obtain ⟨p, q, hA0, hV, rfl, hfz, hnd⟩ := hW
  have hA : DataW.TrodAll enc Tryz.prog W 0 (fun _ => true) true Tryz.f5.params.toList args.toList ds p := hA0
  rw [Tryz.params5] at hA hval hsz
  obtain ⟨v0, v1, d0, d1, p0, p1, rfl, rfl, rfl, h0, h1⟩ := trodAll_two hA
  obtain ⟨rfl, rfl⟩ := trodVars_none hV
  have hv0 : Rows.announceChangesSpec.plain.varTypes Tryz.prog = [] := rfl
  rw [hv0] at hsz
  have hz : ∀ n ∈ DataW.weightsEach Tryz.prog [25, 43] [d0, d1], n ≤ reachBytes := fun n hn => by
    have := List.all_eq_true.1 hsz n (by simpa using hn)
    simpa using this
  have k0 := h0
  have k1 := h1
  obtain ⟨M, va, ra, vc, rc, rfl, hm⟩ := Wt.open_mo rfl (hval 0 25 v0 rfl rfl) h0 (fun n hn => hz n (DataW.weights_mem_each (j := 0) rfl rfl n hn))
  obtain ⟨x, ag, fa, f, fc, oa, l, oc, rfl, hff, hll⟩ := Wt.open_cs rfl (hval 1 43 v1 rfl rfl) h1 (fun n hn => hz n (DataW.weights_mem_each (j := 1) rfl rfl n hn))
  have hl0 : ∀ y ∈ p0, y.block < W.heap.size := fun y hy => by simpa using hW'.lt y (by simp [hy])
  have hl1 : ∀ y ∈ p1, y.block < W.heap.size := fun y hy => by simpa using hW'.lt y (by simp [hy])
  refine (Wt.announceChanges_any M va ra vc rc x ag fa fc f oa oc l W hm hff hll hT).mono fun e W' he => ?_
  obtain ⟨rfl, hE⟩ := he
  have bel : Below W.heap.size W W' := hE
  refine ⟨_, rfl, ⟨_, _, _, [], p0 ++ p1, [], hW', trodAll_mk1 (shut_bool Tryz.underlying4 true), trodAll_mk2 (Below.trod laidOut (by kernel_rfl) (of_decide_eq_true (by kernel_rfl)) k0 bel hl0) (Below.trod laidOut (by kernel_rfl) (of_decide_eq_true (by kernel_rfl)) k1 bel hl1), rfl, bel.frame _, fun h => by cases h⟩⟩
theorem announceChanges_holds : Rows.AnnounceChangesSaid :=
  OpenClaim.holds_of_wide 5 Tryz.f5 rfl rfl rfl rfl rfl rfl rfl ⟨rfl, rfl, rfl, rfl, rfl⟩ rfl rfl rfl rfl rfl (by kernel_rfl) Tryz.func5 (by kernel_rfl)
    (of_decide_eq_true (by kernel_rfl)) (by unfold Func.isWrapper; first | (rw [if_pos (by decide +kernel)]; kernel_rfl) | (rw [if_neg (by decide +kernel)]; exact ⟨rfl, rfl⟩))
    (fun os started H enc _ => law_lifted os started H enc)
theorem announceChanges_card_holds : Rows.AnnounceChangesCardSaid :=
  Claim7.holds_tied_plain_at .later [] [.data] true (true, "1c4e3cbb28375c243f6a9416d12932460cef2151406b3da433218e692a49cb41") false
    announceChanges_holds (fun _ h => by cases h) (by kernel_rfl) (fun _ h => by cases h) announceChanges_row_tie rfl ⟨rfl, rfl⟩ (by kernel_rfl) rfl
    (fun f fn hf hfn => by
      obtain rfl : f = 5 := Option.some.inj ((show Tryz.prog.funcNamed "witting/wittinglaw25.AnnounceChanges" = some 5 by kernel_rfl).symm.trans hf) |>.symm
      obtain rfl : fn = Tryz.f5 := (Option.some.inj (Tryz.func5.symm.trans hfn)).symm
      exact ⟨by kernel_rfl, fun j t ht => by
        rw [Tryz.params5] at ht
        have hm : t ∈ [25, 43] := by simpa using Array.mem_of_getElem? ht
        have hall : ([25, 43].all fun u => !Tryz.prog.wantsStandIn u) = true := by kernel_rfl
        exact (show Tryz.prog.wantsStandIn t = false by simpa using List.all_eq_true.1 hall t hm)⟩)
    (by kernel_rfl)
#print axioms announceChanges_card_holds
end Go.Proofs.YticoljmflljghaaGreatDoor
