/- Walk: announce.Change. -/
import Derived.Test.YticoljmflljghaaDoorMAft
import Derived.OwnWalk
namespace Wt
open Go Go.RowKit Go.Maps Go.Proofs Fm

/-- Two lists of numbers and an error. -/
def RetC (R : List Nat × List Nat × Int) (e : Ending) (w w' : World) : Prop := ∃ la lb lc ld, e = .returned (.tuple #[.slice la R.1.length lc, .slice lb R.2.1.length ld, .int .i64 R.2.2]) ∧ RI w' la (natI R.1) ∧ RI w' lb (natI R.2.1) ∧ Ext w w'
theorem RetC.zero {w w' : World} (c : Int) (h : Ext w w') : RetC ([], [], c) (.returned (.tuple #[.slice none 0 0, .slice none 0 0, .int .i64 c])) w w' := ⟨none, none, 0, 0, rfl, RI.nil _ _, RI.nil _ _, h⟩
/-- Two lists that the call has made by appending, in memory apart. -/
structure GL2 (w0 : World) (le lo : List Nat) (v u : Value) (wr : World) : Prop where
  e : Ext w0 wr
  o1 : wr.ownsRow w0.heap.size 3 1 v le.length ((natI le).map iv)
  o2 : wr.ownsRow w0.heap.size 3 1 u lo.length ((natI lo).map iv)
  ap : ∀ g, v.ownBlock = some g → u.ownBlock = some g → False
section
variable {w0 wr W1 : World} {le lo : List Nat} {v u : Value}
theorem GL2.swap (h : GL2 w0 le lo v u wr) : GL2 w0 lo le u v wr := ⟨h.e, h.o2, h.o1, fun g h1 h2 => h.ap g h2 h1⟩
theorem GL2.ext' {w' : World} (h : GL2 w0 le lo v u wr) (e : Ext wr w') : GL2 w0 le lo v u w' :=
  have hk : ∀ {T sz n : Nat} {x : Value} {xs : List Value}, wr.ownsRow w0.heap.size T sz x n xs → w'.ownsRow w0.heap.size T sz x n xs := fun {_ _ _ x _} ho => ho.kept (row := none) ⟨e.os, e.tape, e.output, e.size, fun k hk _ => e.block k hk⟩ (by cases x.ownBlock <;> simp)
  ⟨h.e.trans e, hk h.o1, hk h.o2, h.ap⟩
theorem GL2.push (h : GL2 w0 le lo v u wr) {x g n cap H : Nat} (ho : W1.ownsRow w0.heap.size 3 1 (.slice (some ⟨g, 0, none⟩) n cap) (le.length + 1) ((natI le).map iv ++ [iv (x : Int)])) (hg : wr.grownBy W1 v.ownBlock) (hat : v.ownBlock = some g ∨ g = H) (hH : wr.heap.size ≤ H) :
    GL2 w0 (le ++ [x]) lo (.slice (some ⟨g, 0, none⟩) n cap) u W1 := by
  refine ⟨ext_of_grown h.e hg (fun b hb => (h.o1.lt b hb).1), ?_, h.o2.kept hg ?_, fun g' h1 h2 => ?_⟩
  · have e1 : (natI (le ++ [x])).map iv = (natI le).map iv ++ [iv (x : Int)] := by simp [natI]
    rw [e1, List.length_append]; exact ho
  · cases hu : u.ownBlock with
    | none => exact .inl rfl
    | some b => exact .inr fun e => h.ap b e.symm hu
  · simp only [Value.ownBlock, Option.some.injEq] at h1
    subst h1
    rcases hat with h3 | h3
    · exact h.ap _ h3 h2
    · have := (h.o2.lt _ h2).2; omega
theorem GL2.ri (h : GL2 w0 le lo v u wr) (hl : le.length ≤ 140737488355328) : ∃ a c, v = .slice a le.length c ∧ RI wr a (natI le) := by
  have hn := natI_len le
  obtain ⟨a, c, hv, hr⟩ := RI_of_own (l := natI le) (v := v) (B := w0.heap.size) (by rw [hn]; exact h.o1) (by rw [hn]; exact hl)
  exact ⟨a, c, by rw [hv, hn], hr⟩
end
theorem chgR_bad {M B : Mo} {x p a i : Nat} {g : List Nd} {l : List (List Nd)} {le lo : List Nat} (h : reqErr M g ≠ 0) : chgR M B x p a (g :: l) i le lo = ([], [], reqErr M g) := if_pos h
theorem chgR_ok {M B : Mo} {x p a i : Nat} {g : List Nd} {l : List (List Nd)} {le lo : List Nat} (h : reqErr M g = 0) : chgR M B x p a (g :: l) i le lo = chgR M B x p a l (i + 1) (if knw B p a g && !knw M x a g then le ++ [i] else le) (if knw M x a g && !knw B p a g then lo ++ [i] else lo) := if_neg (by simp [h])
/-- The rounds of Change. -/
def ChgI (w0 : World) (M B : Mo) (x p a : Nat) (R : List Nat × List Nat × Int) (l : List (List Nd)) (k : Nat) (v u : Value) (wr : World) : Prop :=
  ∃ le lo, GL2 w0 le lo v u wr ∧ le.length ≤ k ∧ lo.length ≤ k ∧ chgR M B x p a (l.drop k) k le lo = R
set_option maxRecDepth 20000 in
set_option maxHeartbeats 8000000 in
theorem change_any (M : Mo) (va ra : Option Addr) (vc rc : Nat) (x : Int) (fa : Option Addr) (fc : Nat) (f : List Nd) (ag : Int) (oa : Option Addr) (oc : Nat) (l : List (List Nd)) (w : World) (hm : RM w va ra M) (hf : RN w fa f) (hl : RNN w oa l) (h10 : l.length ≤ 1000000) (hT : Tab w) :
    Calls Tryd.prog 33 #[.agg #[.int .i64 M.worlds, .slice va M.val.length vc, .slice ra M.rel.length rc], .int .i64 x, .slice fa f.length fc, .int .i64 ag, .slice oa l.length oc] w fun e w' => RetC (chgOf M x f ag l) e w w' := by
  have hE0 := (Ext.refl w).alloc (.cells #[.int .i64 M.worlds, .slice va M.val.length vc, .slice ra M.rel.length rc] 25)
  have H := Lib.hid (after_any M va ra vc rc x fa fc f _ (hm.ext hE0) (hf.ext hE0) (hT.ext hE0))
  have HL := Lib.hid (hl.ext hE0)
  have HM := Lib.hid (hm.ext hE0)
  have hrl := hm.rel.len
  obtain ⟨m0, m1, m2⟩ := MoBox.new w M.worlds M.val M.rel va vc ra rc 25
  dsimp only at m0 m1 m2
  have HE := Lib.hid hE0
  clear hE0 hm hf hT hl
  by_cases h : afErr M x f = 0
  rotate_left
  · have hq : (afErr M x f != 0) = true := by simpa using h
    have hn : chgOf M x f ag l = ([], [], afErr M x f) := if_pos h
    rw [hn]
    clear h hn
    go_enter Tryd.func33, Tryd.ntmps33
    go_wp2_with fail
    refine H.out.mono ?_
    rintro _ w1 ⟨va2, ra2, vc2, rc2, rfl, hm2, hE1⟩
    dsimp only
    go_wp2_with fail
    have hEx := HE.out.trans (hE1.alloc (.cells #[.int .i64 (afM M x f).worlds, .slice va2 (afM M x f).val.length vc2, .slice ra2 (afM M x f).rel.length rc2] 25))
    go_ret3
    exact RetC.zero _ hEx
  have e1 : afM M x f = upM M f := if_neg (by simp [h])
  have e2 : afP M x f = posI (upL M f) x := if_neg (by simp [h])
  rw [h, e1, e2] at H
  obtain ⟨hu, k0, p0, rfl, hbk, hp, hpl, hnp⟩ := afErr_ok h
  rw [hp] at H
  obtain ⟨N, ok, ok2, e3, -, -, -, hrq⟩ := up_ok hu
  have hk0 : k0 < N := by have := holds_in ok f k0 (bt_lt64 hbk) hbk; rw [bt_allW] at this; simp at this; exact this.2
  have hrl2 : (upM M f).rel.length = M.rel.length := by rw [e3]; simp [arrM]
  by_cases ha : ag < 0 ∨ (M.rel.length : Int) ≤ ag
  · have hn : chgOf M k0 f ag l = ([], [], 2) := by unfold chgOf; rw [if_neg (by simp [h]), if_pos ha]
    rw [hn]
    clear h e1 e2 hn hu hbk hp hpl hnp ok ok2 e3 hrq hk0 hrl2
    generalize upM M f = A at *
    go_enter Tryd.func33, Tryd.ntmps33
    go_wp2_with fail
    refine H.out.mono ?_
    rintro _ w1 ⟨va2, ra2, vc2, rc2, rfl, hm2, hE1⟩
    dsimp only
    have q0 := hE1.cell m0
    have q1 := hE1.cell m1
    have q2 := hE1.cell m2
    have hbq := World.block_lt_of_cell? w1 _ q0
    have hEx := HE.out.trans (hE1.alloc (.cells #[.int .i64 A.worlds, .slice va2 A.val.length vc2, .slice ra2 A.rel.length rc2] 25))
    by_cases ha1 : ag < 0
    · clear ha
      go_wp2_with fail
      go_ret3
      exact RetC.zero _ hEx
    · have ha2 : (M.rel.length : Int) ≤ ag := by omega
      clear ha
      go_wp2_with fail
      go_ret3
      exact RetC.zero _ hEx
  · obtain ⟨a, rfl⟩ := Int.eq_ofNat_of_zero_le (show 0 ≤ ag by omega)
    have hal : a < M.rel.length := by omega
    have hR : chgR M (upM M f) k0 p0 a (l.drop 0) 0 [] [] = chgOf M k0 f a l := by
      unfold chgOf; rw [if_neg (by simp [h]), if_neg ha, hp]; rfl
    have hkm : k0 < (nth M.rel a).length := by rw [(row_in ok hal).1]; exact hk0
    have hkn : p0 < (nth (upM M f).rel a).length := by rw [(row_in ok2 (by rw [hrl2]; exact hal)).1]; exact hpl
    have hal2 : a < (upM M f).rel.length := by rw [hrl2]; exact hal
    have HRR := Lib.hid hR
    have hr4 := ok.rel
    have hd0 : decide ((a : Int) < 0) = false := by simp
    generalize chgOf M k0 f a l = R at *
    clear h e1 e2 hu hbk hp hpl hnp ok ok2 e3 hrq hk0 ha hR hrl2
    generalize upM M f = A at *
    go_enter Tryd.func33, Tryd.ntmps33
    go_wp2_with fail
    refine H.out.mono ?_
    rintro _ w1 ⟨va2, ra2, vc2, rc2, rfl, hm2, hE1⟩
    dsimp only
    have hE2 : Ext w1 (w1.alloc (.cells #[.int .i64 A.worlds, .slice va2 A.val.length vc2, .slice ra2 A.rel.length rc2] 25)) := (Ext.refl _).alloc _
    have HM2 := Lib.hid (hm2 _ (Agree.ofExt hE2))
    have hX := hE1.trans hE2
    obtain ⟨n0, n1, n2⟩ := MoBox.new w1 A.worlds A.val A.rel va2 vc2 ra2 rc2 25
    dsimp only at n0 n1 n2
    have q0 := hE1.cell m0
    have q1 := hE1.cell m1
    have q2 := hE1.cell m2
    have hbq := World.block_lt_of_cell? w1 _ q0
    have HQ : Hid ((w1.alloc (.cells #[.int .i64 A.worlds, .slice va2 A.val.length vc2, .slice ra2 A.rel.length rc2] 25)).cell? ⟨w.heap.size, 0, none⟩ = some (.int .i64 M.worlds) ∧ (w1.alloc (.cells #[.int .i64 A.worlds, .slice va2 A.val.length vc2, .slice ra2 A.rel.length rc2] 25)).cell? ⟨w.heap.size, 1, none⟩ = some (.slice va M.val.length vc) ∧ (w1.alloc (.cells #[.int .i64 A.worlds, .slice va2 A.val.length vc2, .slice ra2 A.rel.length rc2] 25)).cell? ⟨w.heap.size, 2, none⟩ = some (.slice ra M.rel.length rc)) := Lib.hid ⟨hX.cell m0, hX.cell m1, hX.cell m2⟩
    clear hm2 m0 m1 m2
    go_wp2_with fail
    generalize w1.alloc (.cells #[.int .i64 A.worlds, .slice va2 A.val.length vc2, .slice ra2 A.rel.length rc2] 25) = W2 at *
    have HN := Lib.hid (And.intro n0 (And.intro n1 n2))
    have HX := Lib.hid hX
    clear n0 n1 n2 q0 q1 q2 hE2 hX
    obtain ⟨i0, hi1, hz0, hz1, hz2⟩ := info_parts int_info
    go_loopw [16, 17, 46] (fun v u i wr => ∃ k : Nat, k ≤ l.length ∧ i = .int .i64 (k : Int) ∧ ChgI W2 M A k0 p0 a R l k v u wr) (fun _ _ i _ => l.length - (intOf i).toNat)
    case atStart => exact ⟨0, Nat.zero_le _, rfl, [], [], ⟨Ext.refl _, World.ownsRow_nil _ _ _ _, World.ownsRow_nil _ _ _ _, fun g hg => by cases hg⟩, Nat.le_refl _, Nat.le_refl _, HRR.out⟩
    case round =>
      obtain ⟨k, hk, rfl, le, lo, hG, hle, hlo, hR⟩ := hrel
      generalize u16 = v at *
      generalize u17 = u at *
      have m0 := hG.e.cell HQ.out.1
      have m1 := hG.e.cell HQ.out.2.1
      have m2 := hG.e.cell HQ.out.2.2
      have n0 := hG.e.cell HN.out.1
      have n1 := hG.e.cell HN.out.2.1
      have n2 := hG.e.cell HN.out.2.2
      have HG := Lib.hid hG
      have hX := HX.out.trans hG.e
      by_cases hkl : k < l.length
      · obtain ⟨bl, ol, ga, gc, rfl, hbl, hcl, hgn⟩ := (HL.out.ext hX).get k hkl
        have HGN := Lib.hid hgn
        have HMr := Lib.hid (HM.out.ext hX)
        have HNr := Lib.hid (HM2.out.ext hG.e)
        have hgl := hgn.len
        have hho := holds_any M va ra vc rc ga gc (nth l k) wr (HM.out.ext hX) hgn
        rw [drop_nth hkl] at hR
        generalize nth l k = g at *
        have HOne : Hid True := Lib.hid trivial
        clear hG hgn hX
        by_cases hg0 : reqErr M g = 0
        · rw [chgR_ok hg0] at hR
          rw [hg0] at hho
          clear hg0
          go_wp2_with fail
          refine hho.mono ?_
          rintro _ wh ⟨rfl, hEh⟩
          dsimp only
          have p0' := hEh.cell m0
          have p1' := hEh.cell m1
          have p2' := hEh.cell m2
          have r0' := hEh.cell n0
          have r1' := hEh.cell n1
          have r2' := hEh.cell n2
          clear m0 m1 m2 n0 n1 n2
          have HMw : Hid (∀ w', Ext wh w' → RM w' va ra M) := Lib.hid fun w' e => HMr.out.ext (hEh.trans e)
          have HNw : Hid (∀ w', Ext wh w' → RM w' va2 ra2 A) := Lib.hid fun w' e => HNr.out.ext (hEh.trans e)
          have HGw : Hid (∀ w', Ext wh w' → RN w' ga g) := Lib.hid fun w' e => HGN.out.ext (hEh.trans e)
          have HG2 := Lib.hid (HG.out.ext' hEh)
          have HONE : Hid (∀ y ∈ [Value.int .i64 (k : Int)], y.oneCell' = true) := fun y hy => by
            rcases List.mem_singleton.1 hy with rfl
            rfl
          have HK6 : Hid (∀ w', Ext wh w' → w'.cell? ⟨w.heap.size, 0, none⟩ = some (.int .i64 M.worlds) ∧ w'.cell? ⟨w.heap.size, 1, none⟩ = some (.slice va M.val.length vc) ∧ w'.cell? ⟨w.heap.size, 2, none⟩ = some (.slice ra M.rel.length rc) ∧ w'.cell? ⟨w1.heap.size, 0, none⟩ = some (.int .i64 A.worlds) ∧ w'.cell? ⟨w1.heap.size, 1, none⟩ = some (.slice va2 A.val.length vc2) ∧ w'.cell? ⟨w1.heap.size, 2, none⟩ = some (.slice ra2 A.rel.length rc2)) := Lib.hid fun w' e => ⟨e.cell p0', e.cell p1', e.cell p2', e.cell r0', e.cell r1', e.cell r2'⟩
          clear hEh
          cases hbm : knw M k0 a g <;> cases hbn : knw A p0 a g
          · have HBM := Lib.hid hbm
            have HBN := Lib.hid hbn
            have hR2 : chgR M A k0 p0 a (l.drop (k + 1)) (k + 1) le lo = R := by rw [hbm, hbn] at hR; exact hR
            have HR2 := Lib.hid hR2
            clear hbm hbn hR hR2
            go_wp2_with fail
            go_region_law (first | (refine step_go (by rfl) ?_; go_simp; refine (knows_any _ _ _ _ _ _ _ _ _ _ _ (by first | exact HMw.out _ hk1d | exact HNw.out _ hk1d) (HGw.out _ hk1d) (by first | exact hal | exact hal2) (by first | exact hkm | exact hkn)).mono ?_; rintro _ wk2 ⟨rfl, hk2⟩; (first | rw [HBM.out] | rw [HBN.out]); dsimp only) | (refine step_go (by rfl) ?_; go_simp; refine (knows_any _ _ _ _ _ _ _ _ _ _ _ (by first | exact HMw.out _ (Ext.refl _).drew | exact HNw.out _ (Ext.refl _).drew) (HGw.out _ (Ext.refl _).drew) (by first | exact hal | exact hal2) (by first | exact hkm | exact hkn)).mono ?_; rintro _ wk1 ⟨rfl, hk1⟩; (first | rw [HBM.out] | rw [HBN.out]); have s0 := hk1.cell p0'; have s1 := hk1.cell p1'; have s2 := hk1.cell p2'; have t0 := hk1.cell r0'; have t1 := hk1.cell r1'; have t2 := hk1.cell r2'; have hk1d := (Ext.refl wh).drew.trans hk1; dsimp only))
            all_goals
              have hg3 := HG2.out.ext' (hk1d.trans hk2)
              have HG3 := Lib.hid hg3
              clear hg3
              go_wp2
              go_roundw
              case rel => exact ⟨k + 1, hkl, by go_num, _, _, HG3.out, by omega, by omega, HR2.out⟩
              case measure => simp [intOf]; omega
          · have HBM := Lib.hid hbm
            have HBN := Lib.hid hbn
            have hR2 : chgR M A k0 p0 a (l.drop (k + 1)) (k + 1) (le ++ [k]) lo = R := by rw [hbm, hbn] at hR; exact hR
            have HR2 := Lib.hid hR2
            clear hbm hbn hR hR2
            go_wp2_with fail
            go_region_law (first | (refine step_go (by rfl) ?_; go_simp; refine (knows_any _ _ _ _ _ _ _ _ _ _ _ (by first | exact HMw.out _ hk1d | exact HNw.out _ hk1d) (HGw.out _ hk1d) (by first | exact hal | exact hal2) (by first | exact hkm | exact hkn)).mono ?_; rintro _ wk2 ⟨rfl, hk2⟩; (first | rw [HBM.out] | rw [HBN.out]); dsimp only) | (refine step_go (by rfl) ?_; go_simp; refine (knows_any _ _ _ _ _ _ _ _ _ _ _ (by first | exact HMw.out _ (Ext.refl _).drew | exact HNw.out _ (Ext.refl _).drew) (HGw.out _ (Ext.refl _).drew) (by first | exact hal | exact hal2) (by first | exact hkm | exact hkn)).mono ?_; rintro _ wk1 ⟨rfl, hk1⟩; (first | rw [HBM.out] | rw [HBN.out]); have s0 := hk1.cell p0'; have s1 := hk1.cell p1'; have s2 := hk1.cell p2'; have t0 := hk1.cell r0'; have t1 := hk1.cell r1'; have t2 := hk1.cell r2'; have hk1d := (Ext.refl wh).drew.trans hk1; dsimp only))
            all_goals
              have hg3 := HG2.out.ext' (hk1d.trans hk2)
              have HPA : Hid (∀ w', Ext wk2 w' → GL2 W2 le lo v u w') := Lib.hid fun w' e => hg3.ext' e
              have hsz1 : W2.heap.size ≤ wk2.heap.size := hg3.e.size
              clear hg3
              go_wp2_with (at_builtin; refine wpList_append_lies _ rfl _ _ 37 rfl W2.heap.size 3 i0 _ 1 8 Tryd.underlying37 hi1 hz0 hz1 hz2 rfl (by decide) v le.length _ rfl (HPA.out _ ((Ext.refl _).alloc _)).o1 ⟨wk2.heap.size, 0, none⟩ 1 1 [.int .i64 (k : Int)] rfl rfl (cell_one_new _ _ _) HONE.out (by decide) (by unfold maxLen; omega) (by omega) (Nat.le_trans hsz1 (by simp)) (wk2.heap.size + 1) (by simp) ?_; intro gx cap W5 hown hgrow hat hlt2; have hpush := (HPA.out _ ((Ext.refl _).alloc _)).push (x := k) hown hgrow hat (by simp); have HPU := Lib.hid hpush; clear hpush hown hgrow hat)
              go_roundw
              case rel => exact ⟨k + 1, hkl, by go_num, _, _, HPU.out, by simp; omega, by omega, HR2.out⟩
              case measure => simp [intOf]; omega
          · have HBM := Lib.hid hbm
            have HBN := Lib.hid hbn
            have hR2 : chgR M A k0 p0 a (l.drop (k + 1)) (k + 1) le (lo ++ [k]) = R := by rw [hbm, hbn] at hR; exact hR
            have HR2 := Lib.hid hR2
            clear hbm hbn hR hR2
            go_wp2_with fail
            go_region_law (first | (refine step_go (by rfl) ?_; go_simp; refine (knows_any _ _ _ _ _ _ _ _ _ _ _ (by first | exact HMw.out _ hk1d | exact HNw.out _ hk1d) (HGw.out _ hk1d) (by first | exact hal | exact hal2) (by first | exact hkm | exact hkn)).mono ?_; rintro _ wk2 ⟨rfl, hk2⟩; (first | rw [HBM.out] | rw [HBN.out]); dsimp only) | (refine step_go (by rfl) ?_; go_simp; refine (knows_any _ _ _ _ _ _ _ _ _ _ _ (by first | exact HMw.out _ (Ext.refl _).drew | exact HNw.out _ (Ext.refl _).drew) (HGw.out _ (Ext.refl _).drew) (by first | exact hal | exact hal2) (by first | exact hkm | exact hkn)).mono ?_; rintro _ wk1 ⟨rfl, hk1⟩; (first | rw [HBM.out] | rw [HBN.out]); have s0 := hk1.cell p0'; have s1 := hk1.cell p1'; have s2 := hk1.cell p2'; have t0 := hk1.cell r0'; have t1 := hk1.cell r1'; have t2 := hk1.cell r2'; have hk1d := (Ext.refl wh).drew.trans hk1; dsimp only))
            all_goals
              have hg3 := HG2.out.ext' (hk1d.trans hk2)
              have HPA : Hid (∀ w', Ext wk2 w' → GL2 W2 lo le u v w') := Lib.hid fun w' e => (hg3.ext' e).swap
              have hsz1 : W2.heap.size ≤ wk2.heap.size := hg3.e.size
              clear hg3
              go_wp2_with (at_builtin; refine wpList_append_lies _ rfl _ _ 37 rfl W2.heap.size 3 i0 _ 1 8 Tryd.underlying37 hi1 hz0 hz1 hz2 rfl (by decide) u lo.length _ rfl (HPA.out _ ((Ext.refl _).alloc _)).o1 ⟨wk2.heap.size, 0, none⟩ 1 1 [.int .i64 (k : Int)] rfl rfl (cell_one_new _ _ _) HONE.out (by decide) (by unfold maxLen; omega) (by omega) (Nat.le_trans hsz1 (by simp)) (wk2.heap.size + 1) (by simp) ?_; intro gx cap W5 hown hgrow hat hlt2; have hpush := (HPA.out _ ((Ext.refl _).alloc _)).push (x := k) hown hgrow hat (by simp); have HPU := Lib.hid hpush; clear hpush hown hgrow hat)
              go_roundw
              case rel => exact ⟨k + 1, hkl, by go_num, _, _, HPU.out.swap, by omega, by simp; omega, HR2.out⟩
              case measure => simp [intOf]; omega
          · have HBM := Lib.hid hbm
            have HBN := Lib.hid hbn
            have hR2 : chgR M A k0 p0 a (l.drop (k + 1)) (k + 1) le lo = R := by rw [hbm, hbn] at hR; exact hR
            have HR2 := Lib.hid hR2
            clear hbm hbn hR hR2
            go_wp2_with fail
            go_region_law (first | (refine step_go (by rfl) ?_; go_simp; refine (knows_any _ _ _ _ _ _ _ _ _ _ _ (by first | exact HMw.out _ hk1d | exact HNw.out _ hk1d) (HGw.out _ hk1d) (by first | exact hal | exact hal2) (by first | exact hkm | exact hkn)).mono ?_; rintro _ wk2 ⟨rfl, hk2⟩; (first | rw [HBM.out] | rw [HBN.out]); dsimp only) | (refine step_go (by rfl) ?_; go_simp; refine (knows_any _ _ _ _ _ _ _ _ _ _ _ (by first | exact HMw.out _ (Ext.refl _).drew | exact HNw.out _ (Ext.refl _).drew) (HGw.out _ (Ext.refl _).drew) (by first | exact hal | exact hal2) (by first | exact hkm | exact hkn)).mono ?_; rintro _ wk1 ⟨rfl, hk1⟩; (first | rw [HBM.out] | rw [HBN.out]); have s0 := hk1.cell p0'; have s1 := hk1.cell p1'; have s2 := hk1.cell p2'; have t0 := hk1.cell r0'; have t1 := hk1.cell r1'; have t2 := hk1.cell r2'; have hk1d := (Ext.refl wh).drew.trans hk1; dsimp only))
            all_goals
              have hg3 := HG2.out.ext' (hk1d.trans hk2)
              have HG3 := Lib.hid hg3
              clear hg3
              go_wp2
              go_roundw
              case rel => exact ⟨k + 1, hkl, by go_num, _, _, HG3.out, by omega, by omega, HR2.out⟩
              case measure => simp [intOf]; omega
        · rw [chgR_bad hg0] at hR
          have hq1 : (reqErr M g != 0) = true := by simpa using hg0
          have HR2 := Lib.hid hR
          clear hg0 hR
          go_wp2_with fail
          refine hho.mono ?_
          rintro _ wh ⟨rfl, hEh⟩
          dsimp only
          have hEx := HE.out.trans (HX.out.trans (HG.out.e.trans hEh))
          go_wp2_with fail
          rw [← HR2.out]
          go_ret3
          exact RetC.zero _ hEx
      · obtain rfl : k = l.length := by omega
        rw [List.drop_length] at hR
        have HR2 := Lib.hid (show (le, lo, (0 : Int)) = R from hR)
        obtain ⟨a5, c5, rfl, h5⟩ := hG.ri (by omega)
        obtain ⟨a6, c6, rfl, h6⟩ := hG.swap.ri (by omega)
        have H5 := Lib.hid h5
        have H6 := Lib.hid h6
        clear hG hR h5 h6
        have hEx := HE.out.trans (HX.out.trans HG.out.e)
        go_wp2_with fail
        rw [← HR2.out]
        go_ret3
        exact ⟨a5, a6, c5, c6, rfl, H5.out, H6.out, hEx⟩
end Wt
