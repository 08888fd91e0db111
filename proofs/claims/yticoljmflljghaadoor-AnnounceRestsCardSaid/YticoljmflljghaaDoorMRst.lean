/- The walk of AnnounceRests. -/
import Derived.Test.YticoljmflljghaaDoorMAwk
import Derived.Test.YticoljmflljghaaDoorMSam
import Derived.Test.YticoljmflljghaaDoorRows
import Derived.Test.YticoljmflljghaaDoorCards
import Derived.Test.YticoljmflljghaaDoorTie
import Derived.Test.YticoljmflljghaaDoorMCkC
import Derived.Test.YticoljmflljghaaDoorMTz
import Derived.ProofKit
import Derived.LaidMore
import Derived.SizedLaws
import Derived.SevenTiedAt
namespace Wt
open Go Go.RowKit Go.Maps Go.Proofs Fm

theorem sn_info : (Tryd.prog.info? 26).map (fun i => (i.zero, i.size, i.bytes)) = some (some (.slice none 0 0), 1, 24) := by kernel_rfl
/-- A list of one formula, again and again. -/
theorem RNN_of_rep {wr : World} {B n : Nat} {v : Value} {fa : Option Addr} {fc : Nat} {f : List Nd} (h : wr.ownsRow B 26 1 v n (List.replicate n (.slice fa f.length fc))) (hf : RN wr fa f) (hn : n ≤ 140737488355328) : ∃ a c, v = .slice a n c ∧ RNN wr a (List.replicate n f) := by
  rcases h.2 with ⟨rfl, h0⟩ | ⟨g, cap, cur, rfl, hb, hg, hnc, hcm, hcs, htake⟩
  · subst h0
    exact ⟨none, 0, rfl, RNN.nil _ _⟩
  · refine ⟨some ⟨g, 0, none⟩, cap, rfl, by simpa using hn, fun k hk => ?_⟩
    have hk : k < n := by simpa using hk
    have e : nth (List.replicate n f) k = f := by rw [nth_eq _ _ (by simpa using hk)]; simp
    rw [e]
    refine ⟨g, 0, fa, fc, rfl, (Array.getElem?_eq_some_iff.1 hg).1, ?_, hf⟩
    rw [cell_of_row wr g _ cur _ (0, 0) hg, Nat.zero_add]
    have h1 : (List.replicate n (Value.slice fa f.length fc))[k]? = some (.slice fa f.length fc) := by simp [hk]
    rw [← htake, List.getElem?_take, if_pos (by omega)] at h1
    simpa using h1
/-- The rounds that gather the formula. -/
structure SeqG (w0 : World) (x : Value) (k : Nat) (v : Value) (wr : World) : Prop where
  e : Ext w0 wr
  own : wr.ownsRow w0.heap.size 26 1 v k (List.replicate k x)
theorem SeqG.ext' {w0 wr w' : World} {x v : Value} {k : Nat} (h : SeqG w0 x k v wr) (e : Ext wr w') : SeqG w0 x k v w' :=
  ⟨h.e.trans e, h.own.kept (row := none) ⟨e.os, e.tape, e.output, e.size, fun j hj _ => e.block j hj⟩ (by cases v.ownBlock <;> simp)⟩
theorem SeqG.push {w0 wr W1 : World} {x v v' : Value} {k : Nat} (h : SeqG w0 x k v wr) (ho : W1.ownsRow w0.heap.size 26 1 v' (k + 1) (List.replicate k x ++ [x])) (g : wr.grownBy W1 v.ownBlock) : SeqG w0 x (k + 1) v' W1 := by
  refine ⟨ext_of_grown h.e g (fun b hb => (h.own.lt b hb).1), ?_⟩
  rw [List.replicate_succ']; exact ho
theorem repQ_law {M : Mo} {f : List Nd} (h : reqErr M f = 0) : ∃ N A' ws' n', MoOk M N ∧ repQ M f = (A', ws', n', 0) ∧ MoOk A' ws'.length ∧ reqErr A' f = 0 ∧ (holdsOf A' f = 0#64 ∨ holdsOf A' f = allW ws'.length) ∧ n' + ws'.length ≤ N ∧ seqOf M (List.replicate n' f) = (A', ws', n', 0) := by
  have hM := (reqErr_ok h).1
  obtain ⟨N, ok⟩ := moCheck_ok hM
  have hNt : M.worlds.toNat = N := by rw [ok.worlds]; exact Int.toNat_natCast N
  obtain ⟨A', ws', n', g1, g2, g3, g4, g5, g6⟩ := rep_law (f := f) N 0 M (List.range N) (by simpa using ok) h (by simp)
  rw [Nat.zero_add] at g1
  refine ⟨N, A', ws', n', ok, ?_, g2, g3, g4, by simpa using g5, ?_⟩
  · unfold repQ; rw [if_neg (by simp [h]), hNt, g1]
  · unfold seqOf; rw [if_neg (by simp [hM]), hNt, g6]; simp
set_option maxRecDepth 20000 in
set_option maxHeartbeats 8000000 in
theorem announceRests_any (M : Mo) (va ra : Option Addr) (vc rc : Nat) (fa : Option Addr) (fc : Nat) (f : List Nd) (w : World) (hm : RM w va ra M) (hf : RN w fa f) (hT : Tab w) :
    Calls Tryd.prog 5 #[.agg #[.int .i64 M.worlds, .slice va M.val.length vc, .slice ra M.rel.length rc], .slice fa f.length fc] w fun e w' => e = .returned (.bool true) ∧ Ext w w' := by
  have hE0 := (Ext.refl w).alloc (.cells #[.int .i64 M.worlds, .slice va M.val.length vc, .slice ra M.rel.length rc] 25)
  have HBX := Lib.hid (MoBox.new w M.worlds M.val M.rel va vc ra rc 25)
  have HF := Lib.hid (hf.ext hE0)
  have HT := Lib.hid (hT.ext hE0)
  have HM := Lib.hid (hm.ext hE0)
  have HE := Lib.hid hE0
  have hrl := hm.rel.len
  have hfl := hf.len
  clear hm hT hE0 hf
  go_enter Tryd.func5, Tryd.ntmps5
  go_wp2_with fail
  generalize w.alloc (.cells #[.int .i64 M.worlds, .slice va M.val.length vc, .slice ra M.rel.length rc] 25) = W0 at *
  refine (awake25_any _ HT.out).mono ?_
  rintro _ w1 ⟨rfl, hX1⟩
  dsimp only
  obtain ⟨m0, m1, m2⟩ := HBX.out.ext hX1
  dsimp only at m0 m1 m2
  go_wp2_with fail
  refine (few25_any M va ra vc rc _ 1 [f] _ (HM.out.ext (hX1.alloc _)) (RNN.one _ fa fc f 26 (HF.out.ext hX1))).mono ?_
  rintro _ w2 ⟨b, rfl, hE2, hsm⟩
  have hX2 := (hX1.alloc (.cells #[.slice fa f.length fc] 26)).trans hE2
  dsimp only
  clear m0 m1 m2
  cases b
  · go_wp2_with fail
    refine (awake25_any _ (HT.out.ext hX2)).mono ?_
    rintro _ w3 ⟨rfl, hE3⟩
    dsimp only
    go_wp2_with fail
    go_ret
    exact ⟨rfl, HE.out.trans (hX2.trans hE3)⟩
  obtain ⟨m0, m1, m2⟩ := HBX.out.ext hX2
  dsimp only at m0 m1 m2
  go_wp2_with fail
  refine (r13Check_any M va ra vc rc _ (HM.out.ext hX2)).mono ?_
  rintro _ w3 ⟨rfl, hE3⟩
  dsimp only
  have hX3 := hX2.trans hE3
  clear m0 m1 m2
  by_cases hM : moCheck M = 0
  rotate_left
  · have hq : (moCheck M != 0) = true := by simpa using hM
    go_wp2_with fail
    refine (awake25_any _ (HT.out.ext hX3)).mono ?_
    rintro _ w4 ⟨rfl, hE4⟩
    dsimp only
    go_wp2_with fail
    go_ret
    exact ⟨rfl, HE.out.trans (hX3.trans hE4)⟩
  have hq : (moCheck M != 0) = false := by simp [hM]
  obtain ⟨m0, m1, m2⟩ := HBX.out.ext hX3
  dsimp only at m0 m1 m2
  go_wp2_with fail
  have hrp := repeat_any M va ra vc rc fa fc f _ (HM.out.ext hX3) (HF.out.ext hX3) (HT.out.ext hX3)
  by_cases hr : reqErr M f = 0
  rotate_left
  · have hq1 : (reqErr M f != 0) = true := by simpa using hr
    rw [show repQ M f = (⟨0, [], []⟩, [], 0, reqErr M f) from if_pos hr] at hrp
    refine hrp.mono ?_
    rintro _ w4 ⟨va4, ra4, la4, vc4, rc4, lc4, rfl, hm4, hE4⟩
    dsimp only
    have hEnd := HE.out.trans ((hX3.trans hE4).alloc (.cells #[.int .i64 0, .slice va4 0 vc4, .slice ra4 0 rc4] 25))
    clear m0 m1 m2 hm4
    go_wp2_with fail
    go_ret
    exact ⟨by first | rfl | simp, hEnd⟩
  obtain ⟨N, A, ws, tn, ok, hrq, ok2, hq2, hst, hle, hsq⟩ := repQ_law hr
  rw [hrq] at hrp
  have HSQ := Lib.hid hsq
  have h1N := ok2.one
  have hN64 := ok.most
  have HQ2 := Lib.hid hq2
  have HMW := Lib.hid ok.worlds
  have HAW := Lib.hid ok2.worlds
  have HST := Lib.hid hst
  clear hr hrq hq2 hsq ok ok2 hst
  refine hrp.mono ?_
  rintro _ w4 ⟨va4, ra4, la4, vc4, rc4, lc4, rfl, hm4, hE4⟩
  dsimp only
  have hr4 := hm4 w4 (fun _ _ _ => rfl)
  have hX4 := hX3.trans hE4
  clear m0 m1 m2 hm4 hrp
  have hA4 : Ext w4 (w4.alloc (.cells #[.int .i64 (A).worlds, .slice va4 (A).val.length vc4, .slice ra4 (A).rel.length rc4] 25)) := (Ext.refl _).alloc _
  have hbx4 := MoBox.new w4 (A).worlds (A).val (A).rel va4 vc4 ra4 rc4 25
  obtain ⟨n0, n1, n2⟩ := hbx4
  dsimp only at n0 n1 n2
  go_wp2_with fail
  generalize w4.alloc (.cells #[.int .i64 (A).worlds, .slice va4 (A).val.length vc4, .slice ra4 (A).rel.length rc4] 25) = w5 at *
  have hX5 := hX4.trans hA4
  have hho := holds_any A va4 ra4 vc4 rc4 fa fc f _ (hr4.1.ext2 hA4) (HF.out.ext hX5)
  rw [HQ2.out] at hho
  refine hho.mono ?_
  rintro _ w6 ⟨rfl, hE6⟩
  dsimp only
  have hX6 := hX5.trans hE6
  have p0 := hE6.cell n0
  have p1 := hE6.cell n1
  have p2 := hE6.cell n2
  have HNB := Lib.hid (And.intro p0 (And.intro p1 p2))
  clear n0 n1 n2 hho
  obtain ⟨m0, m1, m2⟩ := HBX.out.ext hX6
  dsimp only at m0 m1 m2
  have c1 : decide (A.worlds < 1) = false := decide_eq_false (by rw [HAW.out]; omega)
  have c2 : decide (A.worlds > M.worlds) = false := decide_eq_false (by rw [HAW.out, HMW.out]; omega)
  have c2b : decide (M.worlds < A.worlds) = false := decide_eq_false (by rw [HAW.out, HMW.out]; omega)
  have hsub : IntKind.i64.wrap (M.worlds - A.worlds) = ((N - ws.length : Nat) : Int) := by rw [HAW.out, HMW.out, IntWalk.i64_in _ (by omega)]; omega
  have c5 : decide ((tn : Int) > ((N - ws.length : Nat) : Int)) = false := decide_eq_false (by omega)
  have c5b : decide (((N - ws.length : Nat) : Int) < (tn : Int)) = false := decide_eq_false (by omega)
  have c6 : decide ((tn : Int) < 0) = false := decide_eq_false (by omega)
  have c7 : ((ws.length : Int) != A.worlds) = false := by rw [HAW.out]; simp
  have HAL : Hid (∀ w, Calls Tryd.prog 23 #[.int .i64 A.worlds] w fun e w' => e = .returned (.int .u64 (un (allW ws.length))) ∧ w = w') := by rw [HAW.out]; exact Lib.hid fun w => r13All_any ws.length w
  have c5c : decide (N - ws.length < tn) = false := decide_eq_false (by omega)
  obtain ⟨i2, hj1, hy0, hy1, hy2⟩ := info_parts sn_info
  have hlu := natI_len ws
  generalize holdsOf A f = S at *
  have hss : ((S != 0#64) = false) ∨ ((S != 0#64) = true ∧ (S != allW ws.length) = false) := by
    rcases HST.out with e | e
    · left; simp [e]
    · right
      refine ⟨?_, by simp [e]⟩
      rw [e]
      have := allW_ne h1N
      simpa using this
  rcases hss with hs0 | ⟨hs0, hs1⟩
  all_goals
    go_wp2_with (go_at_call 23; refine (HAL.out _).mono ?_; rintro _ _ ⟨rfl, rfl⟩)
    clear m0 m1 m2 p0 p1 p2
    go_loopw [11, 100] (fun v i wr => ∃ k : Nat, k ≤ tn ∧ i = .int .i64 (k : Int) ∧ SeqG w6 (.slice fa f.length fc) k v wr) (fun _ i _ => tn - (intOf i).toNat)
    case atStart => exact ⟨0, Nat.zero_le _, rfl, Ext.refl _, World.ownsRow_nil _ _ _ _⟩
    case round =>
      obtain ⟨k, hk, rfl, hG⟩ := hrel
      have HG := Lib.hid hG
      have hsz1 := hG.e.size
      by_cases hkl : k < tn
      · have HO : Hid (∀ o, (wr.alloc o).ownsRow w6.heap.size 26 1 u11 k (List.replicate k (.slice fa f.length fc))) := fun o => (HG.out.ext' ((Ext.refl wr).alloc o)).own
        have HPA : Hid (∀ o, SeqG w6 (.slice fa f.length fc) k u11 (wr.alloc o)) := fun o => HG.out.ext' ((Ext.refl wr).alloc o)
        have HONE : Hid (∀ y ∈ [Value.slice fa f.length fc], y.oneCell' = true) := fun y hy => by
          rcases List.mem_singleton.1 hy with rfl
          rfl
        clear hG
        go_wp2_with (at_builtin; refine wpList_append_lies _ rfl _ _ 45 rfl w6.heap.size 26 i2 _ 1 24 Tryd.underlying45 hj1 hy0 hy1 hy2 rfl (by decide) u11 k _ rfl (HO.out _) ⟨wr.heap.size, 0, none⟩ 1 1 [.slice fa f.length fc] rfl rfl (cell_one_new _ _ _) HONE.out (by decide) (by unfold maxLen; omega) (by omega) (Nat.le_trans hsz1 (by simp)) (wr.heap.size + 1) (by simp) ?_; intro gx cap W5 hown hgrow hat hlt2; have hpush := (HPA.out _).push hown hgrow; have HPU := Lib.hid hpush; clear hpush hown hgrow hat)
        go_roundw
        case rel => exact ⟨k + 1, hkl, by go_num, HPU.out⟩
        case measure => simp [intOf]; omega
      · obtain rfl : k = tn := by omega
        have hX7 := hX6.trans hG.e
        obtain ⟨qa, qc, rfl, hrn⟩ := RNN_of_rep hG.own (HF.out.ext hX7) (by omega)
        have hE67 := hG.e
        have hsq2 := sequence_any M va ra vc rc qa qc (List.replicate k f) wr (HM.out.ext hX7) hrn (HT.out.ext hX7)
        rw [HSQ.out, List.length_replicate] at hsq2
        clear hG hrn
        obtain ⟨m0, m1, m2⟩ := HBX.out.ext hX7
        dsimp only at m0 m1 m2
        obtain ⟨p0, p1, p2⟩ := And.intro (hE67.cell HNB.out.1) (And.intro (hE67.cell HNB.out.2.1) (hE67.cell HNB.out.2.2))
        go_wp2_with fail
        refine hsq2.mono ?_
        rintro _ w9 ⟨va9, ra9, la9, vc9, rc9, lc9, rfl, hm9, hE9⟩
        dsimp only
        have hr9 := hm9 w9 (fun _ _ _ => rfl)
        clear hm9 m0 m1 m2 hsq2
        have hA9 : Ext w9 (w9.alloc (.cells #[.int .i64 (A).worlds, .slice va9 (A).val.length vc9, .slice ra9 (A).rel.length rc9] 25)) := (Ext.refl _).alloc _
        have hbx9 := MoBox.new w9 (A).worlds (A).val (A).rel va9 vc9 ra9 rc9 25
        have q0 := hE9.cell p0
        have q1 := hE9.cell p1
        have q2 := hE9.cell p2
        have hbq := World.block_lt_of_cell? w9 _ q0
        clear p0 p1 p2
        go_wp2_with fail
        generalize w9.alloc (.cells #[.int .i64 (A).worlds, .slice va9 (A).val.length vc9, .slice ra9 (A).rel.length rc9] 25) = w10 at *
        have hchain := hA4.trans (hE6.trans (hE67.trans hE9))
        refine (sameM_any A va9 ra9 va4 ra4 vc9 rc9 vc4 rc4 _ (hr9.1.ext2 hA9) (hr4.1.ext2 (hchain.trans hA9))).mono ?_
        rintro _ w11 ⟨rfl, hE11⟩
        dsimp only
        go_wp2_with fail
        have hs := same25_any (natI ws) la9 la4 lc9 lc4 w11 (hr9.2.ext (hA9.trans hE11)) (hr4.2.ext ((hchain.trans hA9).trans hE11))
        rw [hlu] at hs
        refine hs.mono ?_
        rintro _ w12 ⟨rfl, hE12⟩
        dsimp only
        go_wp2_with fail
        go_ret
        exact ⟨rfl, HE.out.trans (hX7.trans (hE9.trans (hA9.trans (hE11.trans hE12))))⟩
end Wt

/- The law AnnounceRests returns true at every input, and its arguments read behind the call as they did before; the library's table of TrailingZeros64 lies as the program's text lays it: the tied card. No other condition. -/
namespace Go.Proofs.YticoljmflljghaaDoor
open Go.ChangeShapes Go.WideShapes Go.ChangeAt Go.WideMaps Go.WideElems Go.RowKit

theorem own : ownKnob Tryd.prog.godebug = none := by kernel_rfl
theorem laidOut : laidOutB Tryd.prog = true := by kernel_rfl
theorem door_met (os : Os) (args : Array Value) : laidMetH Tryd.prog [("math/bits.deBruijn64tab", Rows.laid_math_bits_deBruijn64tab)] ((World.doorLaid Tryd.prog 400 os).forCall (fun _ _ => 0) ⟨#[], args, []⟩).memory := by
  rw [MakeChecks.laidMetH_plain _ _ _ (by kernel_rfl)]
  exact laidMet_of_run' 8 (by kernel_rfl) (by kernel_rfl)
set_option maxRecDepth 100000 in
set_option maxHeartbeats 1000000 in
theorem law_lifted (os : Os) (started : os.Started) (H : Type) (enc : TypeId × Value → H) :
    ReturnsInHanded {} Tryd.checked os 5 .any (fun w args => (Rows.announceRestsSpec.pre enc Tryd.prog Tryd.f5 Rows.announceRestsRow.domain false w args ∧ laidMetH Tryd.prog [("math/bits.deBruijn64tab", Rows.laid_math_bits_deBruijn64tab)] w) ∧ sizedMet enc Tryd.prog Tryd.f5 (OpenSpec.ofChange Rows.announceRestsSpec) false w args)
      (Rows.announceRestsSpec.post enc Tryd.prog Tryd.f5 false true false false) := by
  refine returnsInHanded_of_change_and (C := Tryd.checked) (X := fun w _ => laidMetH Tryd.prog [("math/bits.deBruijn64tab", Rows.laid_math_bits_deBruijn64tab)] w) (fun _ _ _ hh h => h.of_heap hh) own started (by kernel_rfl) Tryd.func5
    (ChangeSpec.witness_shaped (enc := enc) (C := Tryd.checked) (os := os) (X := fun w _ => laidMetH Tryd.prog [("math/bits.deBruijn64tab", Rows.laid_math_bits_deBruijn64tab)] w) false (World.doorLaid Tryd.prog 400 os) #[.agg #[.int .i64 0, .slice none 0 0, .slice none 0 0], .slice none 0 0] 8 rfl (World.shaped_of_RefB (by kernel_rfl) (by kernel_rfl)) (by kernel_rfl) (by kernel_rfl) (by kernel_rfl) (door_met os _)) ?_
  intro W base args ds gs before hval0 hW _ hsz0 hL _
  have hT := of_laid hL
  have hval : ∀ (j : Nat) t v, Tryd.f5.params[j]? = some t → args[j]? = some v → Value.okWide Tryd.prog W .any base t v := hval0
  have hsz : (DataW.weightsEach Tryd.prog (Tryd.f5.params.toList ++ Rows.announceRestsSpec.plain.varTypes Tryd.prog) (ds ++ gs)).all (· ≤ reachBytes) = true := hsz0
  have hW' := hW
  obtain ⟨p, q, hA0, hV, rfl, hfz, hnd⟩ := hW
  have hA : DataW.TrodAll enc Tryd.prog W 0 (fun _ => true) true Tryd.f5.params.toList args.toList ds p := hA0
  rw [Tryd.params5] at hA hval hsz
  obtain ⟨v0, v1, d0, d1, p0, p1, rfl, rfl, rfl, h0, h1⟩ := trodAll_two hA
  obtain ⟨rfl, rfl⟩ := trodVars_none hV
  have hv0 : Rows.announceRestsSpec.plain.varTypes Tryd.prog = [] := rfl
  rw [hv0] at hsz
  have hz : ∀ n ∈ DataW.weightsEach Tryd.prog [25, 26] [d0, d1], n ≤ reachBytes := fun n hn => by
    have := List.all_eq_true.1 hsz n (by simpa using hn)
    simpa using this
  have k0 := h0
  have k1 := h1
  obtain ⟨M, va, ra, vc, rc, rfl, hm⟩ := Wt.open_mo rfl (hval 0 25 v0 rfl rfl) h0 (fun n hn => hz n (DataW.weights_mem_each (j := 0) rfl rfl n hn))
  obtain ⟨oa, ol, oc, rfl⟩ := okWide_slice Tryd.underlying26 (hval 1 26 v1 rfl rfl)
  obtain ⟨fu, h1'⟩ := h1
  obtain ⟨oa', l, oc', he1, hff⟩ := Wt.open_rn h1' (fun n hn => hz n (DataW.weights_mem_each (j := 1) rfl rfl n hn))
  simp [Value.cells] at he1
  obtain ⟨rfl, rfl, rfl⟩ := he1
  have hl0 : ∀ y ∈ p0, y.block < W.heap.size := fun y hy => by simpa using hW'.lt y (by simp [hy])
  have hl1 : ∀ y ∈ p1, y.block < W.heap.size := fun y hy => by simpa using hW'.lt y (by simp [hy])
  refine (Wt.announceRests_any M va ra vc rc oa oc l W hm hff hT).mono fun e W' he => ?_
  obtain ⟨rfl, hE⟩ := he
  have bel : Below W.heap.size W W' := hE
  refine ⟨_, rfl, ⟨_, _, _, [], p0 ++ p1, [], hW', trodAll_mk1 (shut_bool Tryd.underlying4 true), trodAll_mk2 (Below.trod laidOut (by kernel_rfl) (of_decide_eq_true (by kernel_rfl)) k0 bel hl0) (Below.trod laidOut (by kernel_rfl) (of_decide_eq_true (by kernel_rfl)) k1 bel hl1), rfl, bel.frame _, fun h => by cases h⟩⟩
theorem announceRests_holds : Rows.AnnounceRestsSaid :=
  OpenClaim.holds_of_wide 5 Tryd.f5 rfl rfl rfl rfl rfl rfl rfl ⟨rfl, rfl, rfl, rfl, rfl⟩ rfl rfl rfl rfl rfl (by kernel_rfl) Tryd.func5 (by kernel_rfl)
    (of_decide_eq_true (by kernel_rfl)) (by unfold Func.isWrapper; first | (rw [if_pos (by decide +kernel)]; kernel_rfl) | (rw [if_neg (by decide +kernel)]; exact ⟨rfl, rfl⟩))
    (fun os started H enc _ => law_lifted os started H enc)
theorem announceRests_card_holds : Rows.AnnounceRestsCardSaid :=
  Claim7.holds_tied_plain_at .later [] [.data] true (true, "bfc9cf39f4916f8cdba97181050ae874bab3cc17f0a05f25e3554b4a33c5c255") false
    announceRests_holds (fun _ h => by cases h) (by kernel_rfl) (fun _ h => by cases h) announceRests_row_tie rfl ⟨rfl, rfl⟩ (by kernel_rfl) rfl
    (fun f fn hf hfn => by
      obtain rfl : f = 5 := Option.some.inj ((show Tryd.prog.funcNamed "witting/wittinglaw25.AnnounceRests" = some 5 by kernel_rfl).symm.trans hf) |>.symm
      obtain rfl : fn = Tryd.f5 := (Option.some.inj (Tryd.func5.symm.trans hfn)).symm
      exact ⟨by kernel_rfl, fun j t ht => by
        rw [Tryd.params5] at ht
        have hm : t ∈ [25, 26] := by simpa using Array.mem_of_getElem? ht
        have hall : ([25, 26].all fun u => !Tryd.prog.wantsStandIn u) = true := by kernel_rfl
        exact (show Tryd.prog.wantsStandIn t = false by simpa using List.all_eq_true.1 hall t hm)⟩)
    (by kernel_rfl)
#print axioms announceRests_card_holds
end Go.Proofs.YticoljmflljghaaDoor
