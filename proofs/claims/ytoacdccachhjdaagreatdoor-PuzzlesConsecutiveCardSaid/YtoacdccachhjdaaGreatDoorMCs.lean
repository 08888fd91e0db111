/- Walk: wittinglaw32.left. -/
import Derived.Test.YtoacdccachhjdaaGreatDoorMACg
import Derived.Test.YtoacdccachhjdaaGreatDoorMAAw
import Derived.Test.YtoacdccachhjdaaGreatDoorMACd
import Derived.Test.YtoacdccachhjdaaGreatDoorMACh
import Derived.Test.YtoacdccachhjdaaGreatDoorRows
import Derived.Test.YtoacdccachhjdaaGreatDoorCards
import Derived.Test.YtoacdccachhjdaaGreatDoorTie
import Derived.Test.YtoacdccachhjdaaGreatDoorMAAx
import Derived.ProofKit
import Derived.LaidMore
import Derived.SizedLaws
import Derived.SevenTiedAt
namespace Wt
open Go Go.RowKit Go.Maps Go.Proofs Fm

/-- A list of worlds as a set. -/
def orL (l : List Nat) : BitVec 64 := l.foldl (fun s k => s ||| 1#64 <<< k) 0#64
theorem un_zero_iff {x : BitVec 64} : un x = 0 ↔ x = 0#64 := by
  constructor
  · intro h
    exact un_inj.1 (h.trans rfl)
  · intro h; rw [h]; rfl
theorem made64 (w : World) (B : Nat) (hB : B ≤ w.heap.size) : (w.alloc (.cells (Array.replicate 64 (.int .i64 0)) 3)).ownsRow B 3 1 (.slice (some ⟨w.heap.size, 0, none⟩) 0 64) 0 [] :=
  ⟨rfl, .inr ⟨w.heap.size, 64, Array.replicate 64 (.int .i64 0), rfl, hB, by show (w.heap.push _)[w.heap.size]? = _; simp, by decide, by decide, by simp, by simp⟩⟩
theorem orL_snoc (l : List Nat) (x : Nat) : orL (l ++ [x]) = orL l ||| 1#64 <<< x := by simp [orL]
/-- The worlds that are left after so many announcements, and whether the last one was possible. -/
def leftR (f : List Nd) : Nat → Mo → List Nat → BitVec 64 → BitVec 64 × Bool
  | 0, _, _, s => (s, true)
  | t + 1, A, ws, _ =>
    if reqErr A f ≠ 0 then (0#64, false)
    else if resErr A (holdsOf A f) ≠ 0 then (0#64, holdsOf A f == 0#64)
    else leftR f t (arrM A (memL (holdsOf A f))) ((memL (holdsOf A f)).map (nth ws)) (orL ((memL (holdsOf A f)).map (nth ws)))
theorem res_zeroZ {M : Mo} {N : Nat} (ok : MoOk M N) {s : BitVec 64} (h : resErr M s = 0) : (∀ i, i < (memL s).length → nth (memL s) i < N) ∧ resM M s = arrM M (memL s) ∧ resL M s = natI (memL s) ∧ MoOk (arrM M (memL s)) (memL s).length := by
  have h0 : s ≠ 0#64 := by
    intro e
    unfold resErr at h
    rw [if_neg (by simp [ok.check])] at h
    by_cases h1 : s &&& ~~~ allW M.worlds.toNat ≠ 0#64
    · rw [if_pos h1] at h; cases h
    · rw [if_neg h1, if_pos e] at h; cases h
  have hs : Sub s (allW N) := by
    unfold resErr at h
    rw [if_neg (by simp [ok.check])] at h
    by_cases h1 : s &&& ~~~ allW M.worlds.toNat = 0#64
    · rw [ok.worlds, Int.toNat_natCast] at h1
      exact andNot_zero.1 h1
    · rw [if_pos h1] at h; cases h
  have h1 : 1 ≤ (memL s).length := memL_pos h0
  exact ⟨fun i hi => memL_lt hs hi, if_pos h, if_pos h, arr_ok' ok h1 (memL_len s)⟩
/-- The state of the loop: the model now, its worlds' numbers, the set. -/
def LfI (w : World) (f : List Nd) (T : Nat) (R : BitVec 64 × Bool) (k : Nat) (s v : Value) (wr : World) : Prop :=
  ∃ (A : Mo) (N : Nat) (ws : List Nat) (sb : BitVec 64) (va ra wa : Option Addr) (vc rc wc : Nat), s = .int .u64 (un sb) ∧ v = .slice wa ws.length wc ∧ NowT w.heap.size A va ra vc rc (.slice none 0 0) wr ∧ MoOk A N ∧ ws.length = N ∧ (∀ i, i < ws.length → nth ws i < 64) ∧ (∀ w'' : World, (∀ k, k ≠ w.heap.size → k < wr.heap.size → w''.heap[k]? = wr.heap[k]?) → RI w'' wa (natI ws)) ∧ leftR f (T - k) A ws sb = R ∧ Ext w wr
theorem orL_take {L : List Nat} {k : Nat} (h : k < L.length) : orL (L.take (k + 1)) = orL (L.take k) ||| 1#64 <<< nth L k := by
  rw [take_nthZ h, orL_snoc]
set_option maxRecDepth 20000 in
set_option maxHeartbeats 16000000 in
theorem left_any (M : Mo) (N : Nat) (va ra : Option Addr) (vc rc : Nat) (fa : Option Addr) (fc : Nat) (f : List Nd) (T : Nat) (w : World) (hm : RM w va ra M) (hok : MoOk M N) (hf : RN w fa f) (hT : T ≤ 1000) :
    Calls Tryz.prog 34 #[.agg #[.int .i64 M.worlds, .slice va M.val.length vc, .slice ra M.rel.length rc], .slice fa f.length fc, .int .i64 (T : Int)] w fun e w' => e = .returned (.tuple #[.int .u64 (un (leftR f T M (List.range N) (allW N)).1), .bool (leftR f T M (List.range N) (allW N)).2]) ∧ Ext w w' := by
  have hE0 : Ext w (w.alloc (.cells #[.int .i64 M.worlds, .slice va M.val.length vc, .slice ra M.rel.length rc] 28)) := (Ext.refl w).alloc _
  have HOM := Lib.hid (OutAt.new w (.int .i64 M.worlds) (.slice va M.val.length vc) (.slice ra M.rel.length rc) 28)
  have HE := Lib.hid hE0
  have HN0 : Hid (NowT w.heap.size M va ra vc rc (.slice none 0 0) (w.alloc (.cells #[.int .i64 M.worlds, .slice va M.val.length vc, .slice ra M.rel.length rc] 28))) := Lib.hid ⟨HOM.out, fun g hg => by simp [Value.ownBlock] at hg, fun w'' ha => by
    have hk : ∀ k, k < w.heap.size → w''.heap[k]? = w.heap[k]? := fun k hk => (ha k (by omega) (by simp [Value.ownBlock]) (by simp; omega)).trans (hE0.block k hk)
    exact RM.keepZ hm hk⟩
  have HFW := Lib.hid hf
  have HOK := Lib.hid hok
  have hW := hok.worlds
  have hN64 := hok.most
  rw [hW] at HN0 HE HOM ⊢
  have hsz : (w.alloc (.cells #[.int .i64 (N : Int), .slice va M.val.length vc, .slice ra M.rel.length rc] 28)).heap.size = w.heap.size + 1 := by simp
  have HSZ := Lib.hid hsz
  obtain ⟨R, hR⟩ : ∃ R, R = leftR f T M (List.range N) (allW N) := ⟨_, rfl⟩
  rw [← hR]
  have HR := Lib.hid hR
  obtain ⟨i0, hi1, hz0, hz1, hz2⟩ := info_parts int_info
  have hmk : ∀ w, (Instr.makeSlice 22 (.int .i64 0) (.int .i64 64)).run Tryz.prog w = .ok (.slice (some ⟨w.heap.size, 0, none⟩) 0 64) (w.alloc (.cells (Array.replicate 64 (.int .i64 0)) 3)) := fun _ => by kernel_rfl
  clear hE0 hm hf hok hW hR hsz
  obtain ⟨m0, m1, m2, -⟩ := HOM.out
  have ml := World.block_lt_of_cell? _ _ m0
  dsimp only at ml
  go_enter Tryz.func34, Tryz.ntmps34
  go_wp2_with fail
  generalize w.alloc (.cells #[.int .i64 (N : Int), .slice va M.val.length vc, .slice ra M.rel.length rc] 28) = w0 at *
  refine (r2AllZ_any N w0).mono ?_
  rintro _ _ ⟨rfl, rfl⟩
  dsimp only
  go_wp2_with fail
  have hA1 : Ext w0 (w0.alloc (.cells (Array.replicate 64 (.int .i64 0)) 3)) := (Ext.refl w0).alloc _
  have HGL : Hid (GL w0 3 iv ([] : List Int) (.slice (some ⟨w0.heap.size, 0, none⟩) 0 64) (w0.alloc (.cells (Array.replicate 64 (.int .i64 0)) 3))) := Lib.hid ⟨hA1, made64 _ _ (Nat.le_refl _)⟩
  clear m0 m1 m2 ml
  have HOM1 := Lib.hid (HOM.out.ext hA1)
  have HN1 := Lib.hid (HN0.out.ext hA1)
  generalize w0.alloc (.cells (Array.replicate 64 (.int .i64 0)) 3) = w1 at *
  go_loopw [9, 10] (fun v i wr => ∃ k : Nat, k ≤ N ∧ i = .int .i64 (k : Int) ∧ Hid (GL w0 3 iv (natI (List.range k)) v wr)) (fun _ i _ => N - (RowKit.intOf i).toNat)
  case atStart => exact ⟨0, Nat.zero_le _, rfl, HGL⟩
  case round =>
    obtain ⟨k, hk, rfl, HG⟩ := hrel
    have hXr := HG.out.e
    obtain ⟨m0, m1, m2, -⟩ := HOM.out.ext hXr
    have ml := World.block_lt_of_cell? _ _ m0
    dsimp only at ml
    by_cases hkN : k < N
    · have hnl : (natI (List.range k)).length = k := by simp [natI]
      have HTK : Hid (natI (List.range (k + 1)) = natI (List.range k) ++ [(k : Int)]) := Lib.hid (by rw [List.range_succ]; simp [natI])
      have HO : Hid (∀ o, (wr.alloc o).ownsRow w0.heap.size 3 1 u9 (natI (List.range k)).length ((natI (List.range k)).map iv)) := Lib.hid fun o => (HG.out.ext' ((Ext.refl wr).alloc o)).own
      have HPA : Hid (∀ o, GL w0 3 iv (natI (List.range k)) u9 (wr.alloc o)) := Lib.hid fun o => HG.out.ext' ((Ext.refl wr).alloc o)
      have HONE : Hid (∀ u ∈ [Value.int .i64 (k : Int)], u.oneCell' = true) := Lib.hid (by simp [Value.oneCell'])
      have hsz1 : w0.heap.size ≤ wr.heap.size := hXr.size
      have hk64 : k < 64 := by omega
      generalize natI (List.range k) = F at *
      clear hXr
      go_wp2_with (at_builtin; refine wpList_append_lies _ rfl _ _ 22 rfl w0.heap.size 3 i0 _ 1 8 Tryz.underlying22 hi1 hz0 hz1 hz2 rfl (by decide) u9 F.length _ rfl (HO.out _) ⟨wr.heap.size, 0, none⟩ 1 1 [.int .i64 (k : Int)] rfl rfl (cell_one_new _ _ _) HONE.out (by decide) (by unfold maxLen; omega) (by omega) (Nat.le_trans hsz1 (by simp)) (wr.heap.size + 1) (by simp) ?_; intro gx cap W1 hown hgrow hat hlt2; have hpush := (HPA.out _).push (x := (k : Int)) hown hgrow; have HPU := Lib.hid hpush; clear hpush hown hgrow hat)
      go_roundw
      case rel => exact ⟨k + 1, hkN, by go_num, Lib.hid (by have h := HPU.out; rw [hnl] at h; rw [HTK.out]; exact h)⟩
      case measure => simp [RowKit.intOf]; omega
    · obtain rfl : k = N := by omega
      have hk64 : ¬ k < k := by omega
      obtain ⟨wa0, wc0, hv0, hu0⟩ := RetI_of HG.out (by simp [natI]; omega)
      have hnl : (natI (List.range k)).length = (List.range k).length := by simp [natI]
      rw [hnl] at hv0
      have HU0 := Lib.hid hu0
      subst hv0
      have HL0 : Hid (LfI w f T R 0 (.int .u64 (un (allW k))) (.slice wa0 (List.range k).length wc0) wr) := Lib.hid ⟨M, k, List.range k, allW k, va, ra, wa0, vc, rc, wc0, rfl, rfl, HN0.out.ext hXr, HOK.out, by simp, fun i hi => by rw [nth_range (by simpa using hi)]; simp at hi; omega, fun w'' h => HU0.out w'' fun j hj hl => h j (by have := HSZ.out; omega) hl, HR.out.symm, HE.out.trans hXr⟩
      clear hXr hu0 HU0 hnl
      go_wp2_with fail
      clear m0 m1 m2 ml
      go_loopw [8, 9, 11] (fun s v i wr => ∃ k : Nat, k ≤ T ∧ i = .int .i64 (k : Int) ∧ Hid (LfI w f T R k s v wr)) (fun _ _ i _ => T - (RowKit.intOf i).toNat)
      case atStart => exact ⟨0, Nat.zero_le _, rfl, HL0⟩
      case round =>
        obtain ⟨k, hk, rfl, HL⟩ := hrel
        obtain ⟨A, N2, ws, sb, va2, ra2, wa, vc2, rc2, wc, rfl, rfl, hN, hok2, hlen, h64, hkeep, hR2, hX⟩ := HL.out
        obtain ⟨m0, m1, m2, -⟩ := hN.out
        have ml := World.block_lt_of_cell? _ _ m0
        dsimp only at ml
        have HNT := Lib.hid hN
        have HOK2 := Lib.hid hok2
        have HKP := Lib.hid hkeep
        have HXW := Lib.hid hX
        have H64 := Lib.hid h64
        have HLEN := Lib.hid hlen
        clear hlen
        clear HL hN hok2 hkeep hX h64
        by_cases hkT : k < T
        · have hstep : T - k = (T - (k + 1)) + 1 := by omega
          rw [hstep] at hR2
          have HR2 : Hid ((if reqErr A f ≠ 0 then ((0#64 : BitVec 64), false) else if resErr A (holdsOf A f) ≠ 0 then (0#64, holdsOf A f == 0#64) else leftR f (T - (k + 1)) (arrM A (memL (holdsOf A f))) ((memL (holdsOf A f)).map (nth ws)) (orL ((memL (holdsOf A f)).map (nth ws)))) = R) := Lib.hid hR2
          have HHO : Hid (∀ W, Ext wr W → Calls Tryz.prog 48 #[.agg #[.int .i64 A.worlds, .slice va2 A.val.length vc2, .slice ra2 A.rel.length rc2], .slice fa f.length fc] W fun e w' => RetP (.int .u64 (un (holdsOf A f))) (reqErr A f) e W w') := Lib.hid fun W h => holds_any A va2 ra2 vc2 rc2 fa fc f W (HNT.out.ext h).rm (HFW.out.ext (HXW.out.trans h))
          have HRS : Hid (∀ W, Ext wr W → Calls Tryz.prog 77 #[.agg #[.int .i64 A.worlds, .slice va2 A.val.length vc2, .slice ra2 A.rel.length rc2], .int .u64 (un (holdsOf A f))] W fun e w' => RetRO (resM A (holdsOf A f)) (resL A (holdsOf A f)) (resErr A (holdsOf A f)) e W w') := Lib.hid fun W h => r13Restrict_any A va2 ra2 vc2 rc2 (holdsOf A f) W (HNT.out.ext h).rm
          clear hR2 hstep
          by_cases hq : reqErr A f = 0
          rotate_left
          · have HRn : Hid (R = (0#64, false)) := Lib.hid (by rw [← HR2.out, if_pos hq])
            have hq1 : (reqErr A f != 0) = true := by simpa using hq
            clear hq HR2
            generalize reqErr A f = er at *
            go_wp2_with fail
            refine (HHO.out _ (Ext.refl _)).mono ?_
            rintro _ w2 ⟨rfl, hE2⟩
            dsimp only
            go_wp2_with fail
            go_ret2
            exact ⟨by rw [HRn.out]; rfl, HXW.out.trans hE2⟩
          by_cases hz : resErr A (holdsOf A f) = 0
          rotate_left
          · have HRn : Hid (R = (0#64, holdsOf A f == 0#64)) := Lib.hid (by rw [← HR2.out, if_neg (by simp [hq]), if_pos hz])
            have hz1 : (resErr A (holdsOf A f) != 0) = true := by simpa using hz
            have hho := HHO.out
            rw [hq] at hho
            have HHO := Lib.hid hho
            clear hq hz HR2 hho
            generalize resErr A (holdsOf A f) = er at *
            generalize resM A (holdsOf A f) = A2 at *
            generalize resL A (holdsOf A f) = l2 at *
            obtain ⟨z, hzz⟩ : ∃ z, z = (holdsOf A f == 0#64) := ⟨_, rfl⟩
            have hx0 : (un (holdsOf A f) == 0) = z := by
              rw [hzz, Bool.eq_iff_iff]
              simp only [beq_iff_eq]
              exact un_zero_iff
            rw [← hzz] at HRn
            clear hzz
            generalize holdsOf A f = X at *
            go_wp2_with fail
            refine (HHO.out _ (Ext.refl _)).mono ?_
            rintro _ w2 ⟨rfl, hE2⟩
            clear m0 m1 m2 ml
            obtain ⟨m0, m1, m2, -⟩ := HNT.out.out.ext hE2
            have ml := World.block_lt_of_cell? _ _ m0
            dsimp only at ml ⊢
            go_wp2_with fail
            refine (HRS.out _ hE2).mono ?_
            rintro _ w3 ⟨va4, ra4, la4, vc4, rc4, lc4, svs4, rfl, hm4, hu4, hE4⟩
            dsimp only
            go_wp2_with fail
            go_ret2
            exact ⟨by rw [HRn.out]; rfl, (HXW.out.trans (hE2.trans hE4)).alloc _⟩
          obtain ⟨hlt, hM, hL, hok3⟩ := res_zeroZ HOK2.out hz
          have hho := HHO.out
          have hrs := HRS.out
          rw [hq] at hho
          rw [hz, hL] at hrs
          have HR3 : Hid (leftR f (T - (k + 1)) (resM A (holdsOf A f)) ((memL (holdsOf A f)).map (nth ws)) (orL ((memL (holdsOf A f)).map (nth ws))) = R) := Lib.hid (by rw [← HR2.out, if_neg (by simp [hq]), if_neg (by simp [hz]), hM])
          rw [← hM] at hok3
          have HHO := Lib.hid hho
          have HRS := Lib.hid hrs
          have HOK3 := Lib.hid hok3
          have HLT := Lib.hid hlt
          have hln := natI_len (memL (holdsOf A f))
          have hl64 := memL_len (holdsOf A f)
          clear hq hz hho hrs hM hL hok3 hlt HR2
          generalize resM A (holdsOf A f) = A2 at *
          generalize memL (holdsOf A f) = ls at *
          generalize holdsOf A f = X at *
          have HLN := Lib.hid hln
          clear hln
          go_wp2_with fail
          refine (HHO.out _ (Ext.refl _)).mono ?_
          rintro _ w2 ⟨rfl, hE2⟩
          clear m0 m1 m2 ml
          obtain ⟨m0, m1, m2, -⟩ := HNT.out.out.ext hE2
          have ml := World.block_lt_of_cell? _ _ m0
          have HNT2 := Lib.hid (HNT.out.ext hE2)
          have HE2 := Lib.hid hE2
          dsimp only at ml ⊢
          clear hE2
          go_wp2_with fail
          refine (HRS.out _ HE2.out).mono ?_
          rintro _ w3 ⟨va4, ra4, la4, vc4, rc4, lc4, svs4, rfl, hm4, hu4, hE4⟩
          rw [HLN.out]
          dsimp only
          have hnx := OutAt.new w3 (.int .i64 A2.worlds) (.slice va4 A2.val.length vc4) (.slice ra4 A2.rel.length rc4) 28
          have hE6 : Ext w3 (w3.alloc (.cells #[.int .i64 A2.worlds, .slice va4 A2.val.length vc4, .slice ra4 A2.rel.length rc4] 28)) := (Ext.refl _).alloc _
          have HX6 := Lib.hid (HE2.out.trans (hE4.trans hE6))
          have HE4 := Lib.hid hE4
          have HE6 := Lib.hid hE6
          have HM4 := Lib.hid hm4
          have HNX := Lib.hid hnx
          have HLS := Lib.hid (hu4 _ (fun j _ hj => hE6.block j hj))
          clear m0 m1 m2 ml hE4 hm4 hu4 hnx hE6
          go_wp2_with fail
          have hb0 : w.heap.size < w3.heap.size := Nat.lt_of_lt_of_le HNT2.out.out.lt HE4.out.size
          generalize w3.alloc (.cells #[.int .i64 A2.worlds, .slice va4 A2.val.length vc4, .slice ra4 A2.rel.length rc4] 28) = w5 at *
          have HWS : Hid (∀ W, Ext w5 W → RI W wa (natI ws)) := Lib.hid fun W h => HKP.out W fun j _ hj => (HX6.out.trans h).block j hj
          obtain ⟨LW, hLW⟩ : ∃ LW, LW = ls.map (nth ws) := ⟨_, rfl⟩
          rw [← hLW] at HR3
          have HLl : Hid (LW.length = ls.length) := Lib.hid (by rw [hLW]; simp)
          have HLA : Hid (∀ j, j < ls.length → nth LW j = nth ws (nth ls j)) := Lib.hid fun j hj => by rw [hLW, nth_mapN _ _ hj]
          clear hLW
          go_loopw [8, 16, 17] (fun s v i wz => ∃ j : Nat, j ≤ ls.length ∧ i = .int .i64 (j : Int) ∧ Hid (s = .int .u64 (un (orL (LW.take j))) ∧ GL w5 3 iv (natI (LW.take j)) v wz)) (fun _ _ i _ => ls.length - (RowKit.intOf i).toNat)
          case atStart => exact ⟨0, Nat.zero_le _, rfl, Lib.hid ⟨rfl, Ext.refl _, World.ownsRow_nil _ _ _ _⟩⟩
          case round =>
            rename World => wz
            obtain ⟨j, hj, rfl, HG⟩ := hrel
            obtain ⟨rfl, hgl⟩ := HG.out
            have HGL := Lib.hid hgl
            clear HG hgl
            by_cases hjl : j < ls.length
            · have hLj : j < LW.length := by rw [HLl.out]; exact hjl
              obtain ⟨b1, o1, rfl, hb1, hc1⟩ := (HLS.out.ext HGL.out.e).get (k := j) (by rw [natI_len]; exact hjl)
              rw [nth_natI hjl] at hc1
              have HC1 : Hid (∀ W, Ext w5 W → W.cell? ⟨b1, o1 + j, none⟩ = some (.int .i64 ((nth ls j : Nat) : Int))) := Lib.hid fun W h => by
                obtain ⟨b, o, e, hb, hc⟩ := (HLS.out.ext h).get (k := j) (by rw [natI_len]; exact hjl)
                rw [nth_natI hjl] at hc
                cases e
                exact hc
              have hxw : nth ls j < ws.length := by rw [HLEN.out]; exact HLT.out j hjl
              have HAJ := Lib.hid (HLA.out j hjl)
              have HTS := Lib.hid (orL_take hLj)
              have HTN : Hid (natI (LW.take (j + 1)) = natI (LW.take j) ++ [((nth LW j : Nat) : Int)]) := Lib.hid (by rw [take_nthZ hLj]; simp [natI])
              rw [HAJ.out] at HTS HTN
              generalize nth ls j = x at *
              have hy64 : nth ws x < 64 := H64.out x hxw
              obtain ⟨b2, o2, rfl, hb2, hc2⟩ := (HWS.out _ HGL.out.e).get (k := x) (by rw [natI_len]; exact hxw)
              rw [nth_natI hxw] at hc2
              have HC2 : Hid (∀ W, Ext w5 W → W.cell? ⟨b2, o2 + x, none⟩ = some (.int .i64 ((nth ws x : Nat) : Int))) := Lib.hid fun W h => by
                obtain ⟨b, o, e, hb, hc⟩ := (HWS.out _ h).get (k := x) (by rw [natI_len]; exact hxw)
                rw [nth_natI hxw] at hc
                cases e
                exact hc
              clear HAJ
              generalize nth ws x = y at *
              have hnl : (natI (LW.take j)).length = j := by rw [natI_len, List.length_take, HLl.out]; omega
              have HO : Hid (∀ o, (wz.alloc o).ownsRow w5.heap.size 3 1 u16 (natI (LW.take j)).length ((natI (LW.take j)).map iv)) := Lib.hid fun o => (HGL.out.ext' ((Ext.refl wz).alloc o)).own
              have HPA : Hid (∀ o, GL w5 3 iv (natI (LW.take j)) u16 (wz.alloc o)) := Lib.hid fun o => HGL.out.ext' ((Ext.refl wz).alloc o)
              have HONE : Hid (∀ u ∈ [Value.int .i64 (y : Int)], u.oneCell' = true) := Lib.hid (by simp [Value.oneCell'])
              have hsz1 : w5.heap.size ≤ wz.heap.size := HGL.out.e.size
              have HNL := Lib.hid hnl
              have hF64 : (natI (LW.take j)).length ≤ 64 := by rw [hnl]; omega
              generalize natI (LW.take j) = F at *
              generalize orL (LW.take j) = S at *
              clear hnl hLj
              go_wp2_with (at_builtin; refine wpList_append_lies _ rfl _ _ 22 rfl w5.heap.size 3 i0 _ 1 8 Tryz.underlying22 hi1 hz0 hz1 hz2 rfl (by decide) u16 F.length _ rfl (HO.out _) ⟨wz.heap.size, 0, none⟩ 1 1 [.int .i64 (y : Int)] rfl rfl (cell_one_new _ _ _) HONE.out (by decide) (by unfold maxLen; omega) (by omega) (Nat.le_trans hsz1 (by simp)) (wz.heap.size + 1) (by simp) ?_; intro gx cap W1 hown hgrow hat hlt2; have hpush := (HPA.out _).push (x := (y : Int)) hown hgrow; have HPU := Lib.hid hpush; have c1 := HC1.out _ hpush.e; have c2 := HC2.out _ hpush.e; have l1 := World.block_lt_of_cell? _ _ c1; have l2 := World.block_lt_of_cell? _ _ c2; dsimp only at l1 l2; clear hpush hown hgrow hat hc1 hc2 hb1 hb2)
              go_roundw
              case rel => exact ⟨j + 1, hjl, by go_num, Lib.hid ⟨by rw [HTS.out], by rw [HTN.out]; exact HPU.out⟩⟩
              case measure => simp [RowKit.intOf]; omega
            · obtain rfl : j = ls.length := by omega
              have htk : LW.take ls.length = LW := List.take_of_length_le (by rw [HLl.out]; exact Nat.le_refl _)
              have hgl := HGL.out
              rw [htk] at hgl ⊢
              obtain ⟨wa9, wc9, hv9, hu9⟩ := RetI_of hgl (by rw [natI_len, HLl.out]; omega)
              rw [natI_len] at hv9
              subst hv9
              have HU9 := Lib.hid hu9
              have HE9 := Lib.hid hgl.e
              clear hgl hu9 HGL htk
              obtain ⟨n0, n1, n2, -⟩ := HNX.out.ext HE9.out
              have nl := World.block_lt_of_cell? _ _ n0
              obtain ⟨m0, m1, m2, mfz⟩ := HNT2.out.out.ext (HE4.out.trans (HE6.out.trans HE9.out))
              have f0 := mfz 0
              have f1 := mfz 1
              have f2 := mfz 2
              have ml := World.block_lt_of_cell? _ _ m0
              have hb9 : w3.heap.size ≠ w.heap.size := by omega
              have hs5 := HE6.out.size
              dsimp only at nl ml
              clear mfz
              go_wp2_with fail
              go_roundw
              case rel => exact ⟨k + 1, hkT, by go_num, Lib.hid ⟨A2, ls.length, LW, orL LW, va4, ra4, wa9, vc4, rc4, wc9, rfl, rfl, HNT2.out.next HE4.out HM4.out (HE6.out.trans HE9.out), HOK3.out, HLl.out, fun i hi => by
                have hi : i < ls.length := by rw [← HLl.out]; exact hi
                rw [HLA.out i (by omega)]
                exact H64.out _ (by rw [HLEN.out]; exact HLT.out i (by omega)), fun w'' h => HU9.out w'' fun j hj hl => by
                  have hne : j ≠ w.heap.size := by omega
                  rw [h j hne (by simp only [World.setCell, Array.size_modify]; omega), heap_setCell_other _ _ _ _ (by simpa using hne), heap_setCell_other _ _ _ _ (by simpa using hne), heap_setCell_other _ _ _ _ (by simpa using hne)], HR3.out, ext_set3z (HXW.out.trans (HX6.out.trans HE9.out)) (Nat.le_refl _) _ _ _⟩⟩
              case measure => simp [RowKit.intOf]; omega
        · obtain rfl : k = T := by omega
          go_wp2_with fail
          go_ret2
          have h9 : R = (sb, true) := by rw [← hR2, Nat.sub_self]; rfl
          exact ⟨by rw [h9]; rfl, HXW.out⟩
end Wt

/- Plain: what is left of the pairs of consecutive numbers (by the kernel). -/
namespace Wt
open Go Go.RowKit Go.Maps Go.Proofs Fm

/-- Neither agent knows the other's number. -/
def cnF : List Nd := ccAnd (ccNot (allTo (leaL 0 3 3) (leaL 0 3 3).length)) (ccNot (allTo (leaL 1 0 3) (leaL 1 0 3).length))
def cnG : List Nd := [⟨3, 3, 0, 0, 0, 0⟩, ⟨9, 0, 0, 0, 0, 0⟩, ⟨4, 0, 0, 0, 0, 0⟩, ⟨9, 0, 0, 0, 2, 0⟩, ⟨6, 0, 0, 0, 1, 3⟩, ⟨3, 4, 0, 0, 0, 0⟩, ⟨9, 0, 0, 0, 5, 0⟩, ⟨4, 0, 0, 0, 5, 0⟩, ⟨9, 0, 0, 0, 7, 0⟩, ⟨6, 0, 0, 0, 6, 8⟩, ⟨5, 0, 0, 0, 4, 9⟩, ⟨3, 5, 0, 0, 0, 0⟩, ⟨9, 0, 0, 0, 11, 0⟩, ⟨4, 0, 0, 0, 11, 0⟩, ⟨9, 0, 0, 0, 13, 0⟩, ⟨6, 0, 0, 0, 12, 14⟩, ⟨5, 0, 0, 0, 10, 15⟩, ⟨4, 0, 0, 0, 16, 0⟩, ⟨3, 0, 0, 0, 0, 0⟩, ⟨9, 1, 0, 0, 18, 0⟩, ⟨4, 0, 0, 0, 18, 0⟩, ⟨9, 1, 0, 0, 20, 0⟩, ⟨6, 0, 0, 0, 19, 21⟩, ⟨3, 1, 0, 0, 0, 0⟩, ⟨9, 1, 0, 0, 23, 0⟩, ⟨4, 0, 0, 0, 23, 0⟩, ⟨9, 1, 0, 0, 25, 0⟩, ⟨6, 0, 0, 0, 24, 26⟩, ⟨5, 0, 0, 0, 22, 27⟩, ⟨3, 2, 0, 0, 0, 0⟩, ⟨9, 1, 0, 0, 29, 0⟩, ⟨4, 0, 0, 0, 29, 0⟩, ⟨9, 1, 0, 0, 31, 0⟩, ⟨6, 0, 0, 0, 30, 32⟩, ⟨5, 0, 0, 0, 28, 33⟩, ⟨4, 0, 0, 0, 34, 0⟩, ⟨5, 0, 0, 0, 17, 35⟩]
set_option maxHeartbeats 4000000
theorem cnF_eq : cnF = cnG := by decide +kernel
def ConT (F : List Nd) (M : Mo) (L : List (Nat × Nat)) (n k : Nat) : Prop :=
  (leftR F k M (List.range (2 * n)) (allW (2 * n))).2 = true ∧ ∀ w, w < 2 * n → bt (leftR F k M (List.range (2 * n)) (allW (2 * n))).1 w = (decide (k ≤ min (nth L w).1 (nth L w).2) && decide (max (nth L w).1 (nth L w).2 + k ≤ n))
instance (F : List Nd) (M : Mo) (L : List (Nat × Nat)) (n k : Nat) : Decidable (ConT F M L n k) := inferInstanceAs (Decidable (_ ∧ _))
theorem con_tab : ∀ n : _root_.Fin 7, ∀ k : _root_.Fin 6, ConT cnG (numM (n.val + 1)) (numL (n.val + 1)) (n.val + 1) k.val := by decide +kernel
theorem con_len : ∀ n : _root_.Fin 7, (numL (n.val + 1)).length = 2 * (n.val + 1) ∧ (numM (n.val + 1)).worlds = ((2 * (n.val + 1) : Nat) : Int) ∧ moCheck (numM (n.val + 1)) = 0 := by decide +kernel
theorem con_law {r k : Nat} (hr : r < 7) (hk : k < 6) : MoOk (numM (r + 1)) (2 * (r + 1)) ∧ (numL (r + 1)).length = 2 * (r + 1) ∧ (leftR cnF k (numM (r + 1)) (List.range (2 * (r + 1))) (allW (2 * (r + 1)))).2 = true ∧ ∀ w, w < 2 * (r + 1) → bt (leftR cnF k (numM (r + 1)) (List.range (2 * (r + 1))) (allW (2 * (r + 1)))).1 w = (decide (k ≤ min (nth (numL (r + 1)) w).1 (nth (numL (r + 1)) w).2) && decide (max (nth (numL (r + 1)) w).1 (nth (numL (r + 1)) w).2 + k ≤ r + 1)) := by
  rw [cnF_eq]
  obtain ⟨h1, h2, h3⟩ := con_len ⟨r, hr⟩
  obtain ⟨h4, h5⟩ := con_tab ⟨r, hr⟩ ⟨k, hk⟩
  obtain ⟨N, ok⟩ := moCheck_ok h3
  have hN : N = 2 * (r + 1) := by
    have h6 := ok.worlds
    have h7 : (numM (r + 1)).worlds = ((2 * (r + 1) : Nat) : Int) := h2
    rw [h7] at h6
    omega
  subst hN
  exact ⟨ok, h1, h4, h5⟩
end Wt

/- The walk of PuzzlesConsecutive. -/
namespace Wt
open Go Go.RowKit Go.Maps Go.Proofs Fm

theorem numL_ne : ∀ m : _root_.Fin 8, ∀ p ∈ numL m.val, p.1 ≠ p.2 := by decide +kernel
set_option maxRecDepth 20000 in
set_option maxHeartbeats 8000000 in
theorem puzzlesConsecutive_any (s v : Nat) (hs : s ≤ 255) (hv : v ≤ 255) (w : World) (hT : Tab w) :
    Calls Tryz.prog 6 #[.int .u8 (s : Int), .int .u8 (v : Int)] w fun e w' => e = .returned (.bool true) ∧ Ext w w' := by
  have hm1 : (s : Int).tmod 7 = ((s % 7 : Nat) : Int) := (Int.ofNat_tmod s 7).symm
  have hm2 : (v : Int).tmod 6 = ((v % 6 : Nat) : Int) := (Int.ofNat_tmod v 6).symm
  obtain ⟨r, hr⟩ : ∃ r, r = s % 7 := ⟨_, rfl⟩
  obtain ⟨k, hk⟩ : ∃ k, k = v % 6 := ⟨_, rfl⟩
  have hr7 : r < 7 := by omega
  have hk6 : k < 6 := by omega
  rw [← hr] at hm1
  rw [← hk] at hm2
  clear hr hk
  obtain ⟨hok, hlen, hl2, hl1⟩ := con_law hr7 hk6
  have HL8 : Hid (∀ x, x < 2 * (r + 1) → (nth (numL (r + 1)) x).1 < 8 ∧ (nth (numL (r + 1)) x).2 < 8 ∧ (nth (numL (r + 1)) x).1 ≠ (nth (numL (r + 1)) x).2) := Lib.hid fun x hx => ⟨(numL_at (show r + 1 ≤ 7 by omega) (by rw [hlen]; exact hx)).1, (numL_at (show r + 1 ≤ 7 by omega) (by rw [hlen]; exact hx)).2, numL_ne ⟨r + 1, by omega⟩ _ (nth_mem (by rw [hlen]; exact hx))⟩
  have HOK := Lib.hid hok
  have HLEN := Lib.hid hlen
  have HL2 := Lib.hid hl2
  have HL1 := Lib.hid hl1
  have HT := Lib.hid hT
  have XN : Hid (∀ W, Calls Tryz.prog 15 #[.int .i64 (1 + (r : Int))] W fun e w' => RetNm (numM (r + 1)) (numL (r + 1)) 0 e W w') := Lib.hid fun W => by
    have h := numbers_any (r + 1) (by omega) (by omega) W
    rw [show ((r + 1 : Nat) : Int) = 1 + (r : Int) by omega] at h
    exact h
  have XA : Hid (∀ W, Calls Tryz.prog 33 #[.int .i64 0, .int .i64 3, .int .i64 3] W fun e w' => RetNzZ (allTo (leaL 0 3 3) (leaL 0 3 3).length) e W w') := Lib.hid fun W => learned_any 0 3 3 (by decide) (by decide) (by decide) W
  have XB : Hid (∀ W, Calls Tryz.prog 33 #[.int .i64 1, .int .i64 0, .int .i64 3] W fun e w' => RetNzZ (allTo (leaL 1 0 3) (leaL 1 0 3).length) e W w') := Lib.hid fun W => learned_any 1 0 3 (by decide) (by decide) (by decide) W
  clear hok hlen hl2 hl1 hT
  unfold cnF at HL1 HL2
  generalize allTo (leaL 0 3 3) (leaL 0 3 3).length = fA at *
  generalize allTo (leaL 1 0 3) (leaL 1 0 3).length = fB2 at *
  generalize numM (r + 1) = M at *
  generalize numL (r + 1) = L at *
  obtain ⟨q, hq⟩ : ∃ q, q = 2 * (r + 1) := ⟨_, rfl⟩
  rw [← hq] at HOK HLEN HL1 HL2 HL8
  have hq1 : ((q : Int) != 2 * (1 + (r : Int))) = false := by simp; omega
  have hq14 : q ≤ 14 := by omega
  have HMW : Hid (M.worlds = (q : Int)) := Lib.hid HOK.out.worlds
  obtain ⟨X, hX⟩ : ∃ X, X = leftR (ccAnd (ccNot fA) (ccNot fB2)) k M (List.range q) (allW q) := ⟨_, rfl⟩
  have HLF : Hid (∀ W va ra vc rc fa fc, RM W va ra M → RN W fa (ccAnd (ccNot fA) (ccNot fB2)) → Calls Tryz.prog 34 #[.agg #[.int .i64 (q : Int), .slice va M.val.length vc, .slice ra M.rel.length rc], .slice fa (ccAnd (ccNot fA) (ccNot fB2)).length fc, .int .i64 (k : Int)] W fun e w' => e = .returned (.tuple #[.int .u64 (un X.1), .bool true]) ∧ Ext W w') := Lib.hid fun W va ra vc rc fa fc hm hf => by
    have h := left_any M q va ra vc rc fa fc (ccAnd (ccNot fA) (ccNot fB2)) k W hm HOK.out hf (by omega)
    rw [HL2.out, ← hX, HMW.out] at h
    exact h
  rw [← hX] at HL1
  have HNA : Hid (∀ W a c, RN W a fA → Calls Tryz.prog 32 #[.slice a fA.length c] W fun e w' => RetN (ccNot fA) e W w') := Lib.hid fun W a c h => (cNot_freshZ a c fA W h).mono fun _ _ h => h.n
  have HNB : Hid (∀ W a c, RN W a fB2 → Calls Tryz.prog 32 #[.slice a fB2.length c] W fun e w' => RetN (ccNot fB2) e W w') := Lib.hid fun W a c h => (cNot_freshZ a c fB2 W h).mono fun _ _ h => h.n
  have HAN : Hid (∀ W a c b d, RN W a (ccNot fA) → RN W b (ccNot fB2) → Calls Tryz.prog 35 #[.slice a (ccNot fA).length c, .slice b (ccNot fB2).length d] W fun e w' => RetN (ccAnd (ccNot fA) (ccNot fB2)) e W w') := Lib.hid fun W a c b d h1 h2 => (cAnd_freshZ a c _ b d _ W h1 h2).mono fun _ _ h => h.n
  clear hX hq HL2
  generalize ccAnd (ccNot fA) (ccNot fB2) = F at *
  generalize ccNot fA = nA at *
  generalize ccNot fB2 = nB at *
  go_enter Tryz.func6, Tryz.ntmps6
  go_wp2_with fail
  refine (XN.out _).mono ?_
  rintro _ w1 ⟨va, ra, la, vc, rc, lc, rfl, hm1', hl1', hE1⟩
  rw [HMW.out, HLEN.out]
  have hA1 : Ext w1 (w1.alloc (.cells #[.int .i64 (q : Int), .slice va M.val.length vc, .slice ra M.rel.length rc] 28)) := (Ext.refl w1).alloc _
  have HO1 := Lib.hid (OutAt.new w1 (.int .i64 (q : Int)) (.slice va M.val.length vc) (.slice ra M.rel.length rc) 28)
  have HM1 := Lib.hid (RM.ext hA1 hm1')
  have HP1 := Lib.hid (RPe.ext hA1 hl1')
  have HE1 := Lib.hid (hE1.trans hA1)
  clear hm1' hl1' hE1 hA1
  dsimp only
  go_wp2_with fail
  generalize w1.alloc (.cells #[.int .i64 (q : Int), .slice va M.val.length vc, .slice ra M.rel.length rc] 28) = w2 at *
  refine (XA.out _).mono ?_
  rintro _ w3 ⟨aa, ac, rfl, ha, hE3⟩
  have HA := Lib.hid ha
  have HE3 := Lib.hid hE3
  clear ha hE3
  dsimp only
  go_wp2_with fail
  refine (XB.out _).mono ?_
  rintro _ w4 ⟨ba, bc, rfl, hb, hE4⟩
  have HB := Lib.hid hb
  have HA4 := Lib.hid (HA.out.ext hE4)
  have HE4 := Lib.hid (HE3.out.trans hE4)
  clear hb hE4 HA HE3
  obtain ⟨o0, o1, o2, -⟩ := HO1.out.ext HE4.out
  have ol := World.block_lt_of_cell? _ _ o0
  dsimp only at ol ⊢
  go_upto_region 7 with fail
  have HSS : Hid (∀ W, Ext w4 W → W.cell? ⟨w1.heap.size, 0, none⟩ = some (.int .i64 (q : Int)) ∧ W.cell? ⟨w1.heap.size, 1, none⟩ = some (.slice va M.val.length vc) ∧ W.cell? ⟨w1.heap.size, 2, none⟩ = some (.slice ra M.rel.length rc)) := Lib.hid fun W h => by
    obtain ⟨x0, x1, x2, -⟩ := HO1.out.ext (HE4.out.trans h)
    exact ⟨x0, x1, x2⟩
  clear o0 o1 o2 ol
  refine wp_region_E 13 (fun W => W.cell? ⟨w1.heap.size, 0, none⟩ = some (.int .i64 (q : Int)) ∧ W.cell? ⟨w1.heap.size, 1, none⟩ = some (.slice va M.val.length vc) ∧ W.cell? ⟨w1.heap.size, 2, none⟩ = some (.slice ra M.rel.length rc)) (by kernel_rfl) ?_
  refine wpAnyE_take (i := 0) (v := ?_) (.here) (by kernel_rfl) (fun _ _ _ h => h) (HSS.out _ (Ext.refl _).drew) (by rfl) ?_ ?_
  rotate_left
  focus (intro w hSw; (try dsimp only at hSw); go_simp; try with_reducible rfl)
  try simp only [Act.put, List.setIfInBounds_toArray, List.set_cons_zero, List.set_cons_succ]
  refine wpAnyE_take (i := 1) (v := ?_) (.next (.here)) (by kernel_rfl) (fun _ _ _ h => h) (HSS.out _ (Ext.refl _).drew) (by rfl) ?_ ?_
  rotate_left
  focus (intro w hSw; (try dsimp only at hSw); go_simp; try with_reducible rfl)
  try simp only [Act.put, List.setIfInBounds_toArray, List.set_cons_zero, List.set_cons_succ]
  refine wpAnyE_take (i := 3) (v := ?_) (.next (.next (.next (.here)))) (by kernel_rfl) (fun _ _ _ h => h) (HSS.out _ (Ext.refl _).drew) (by rfl) ?_ ?_
  rotate_left
  focus (intro w hSw; (try dsimp only at hSw); go_simp; try with_reducible rfl)
  try simp only [Act.put, List.setIfInBounds_toArray, List.set_cons_zero, List.set_cons_succ]
  refine wpAnyE_take (i := 6) (v := ?_) (.next (.next (.next (.next (.next (.next (.here))))))) (by kernel_rfl) (fun _ _ _ h => h) (HSS.out _ (Ext.refl _).drew) (by rfl) ?_ ?_
  rotate_left
  focus (intro w hSw; (try dsimp only at hSw); go_simp; try with_reducible rfl)
  try simp only [Act.put, List.setIfInBounds_toArray, List.set_cons_zero, List.set_cons_succ]
  refine wpAnyE_one (k := 2) (.next (.next (.here))) (by kernel_rfl) (fun K hK => ?_)
  go_simp
  refine (HNA.out _ _ _ (HA4.out.ext (Ext.refl _).drew)).mono ?_; rintro _ w5 ⟨na, nc, rfl, hn5, hE5⟩; dsimp only
  refine hK.out _ _ (fun _ => HSS.out _ ((Ext.refl _).drew.trans hE5)) ?_
  clear hK
  try simp only [Act.put, List.setIfInBounds_toArray, List.set_cons_zero, List.set_cons_succ]
  have HE5 : Hid (Ext w4 w5) := Lib.hid ((Ext.refl _).drew.trans hE5)
  refine wpAnyE_one (k := 4) (.next (.next (.next (.next (.here))))) (by kernel_rfl) (fun K hK => ?_)
  go_simp
  refine (HNB.out _ _ _ (HB.out.ext HE5.out)).mono ?_; rintro _ w6 ⟨nb, nd, rfl, hn6, hE6⟩; dsimp only
  refine hK.out _ _ (fun _ => HSS.out _ (HE5.out.trans hE6)) ?_
  clear hK
  try simp only [Act.put, List.setIfInBounds_toArray, List.set_cons_zero, List.set_cons_succ]
  have HE6 := Lib.hid (HE5.out.trans hE6)
  refine wpAnyE_one (k := 5) (.next (.next (.next (.next (.next (.here)))))) (by kernel_rfl) (fun K hK => ?_)
  go_simp
  refine (HAN.out _ _ _ _ _ (hn5.ext hE6) hn6).mono ?_; rintro _ w7 ⟨oa, oc, rfl, hn7, hE7⟩; dsimp only
  refine hK.out _ _ (fun _ => HSS.out _ (HE6.out.trans hE7)) ?_
  clear hK
  try simp only [Act.put, List.setIfInBounds_toArray, List.set_cons_zero, List.set_cons_succ]
  have HE7 := Lib.hid (HE6.out.trans hE7)
  refine wpAnyE_one (k := 7) (.next (.next (.next (.next (.next (.next (.next (.here)))))))) (by kernel_rfl) (fun K hK => ?_)
  go_simp
  refine (HLF.out _ _ _ _ _ _ _ (HM1.out.ext (HE4.out.trans HE7.out)) hn7).mono ?_; rintro _ w8 ⟨rfl, hE8⟩; dsimp only
  refine hK.out _ _ (fun _ => HSS.out _ (HE7.out.trans hE8)) ?_
  clear hK
  try simp only [Act.put, List.setIfInBounds_toArray, List.set_cons_zero, List.set_cons_succ]
  have HE8 := Lib.hid (HE7.out.trans hE8)
  refine wpAnyE_take (i := 8) (v := ?_) (.next (.next (.next (.next (.next (.next (.next (.next (.here))))))))) (by kernel_rfl) (fun _ _ _ h => h) (HSS.out _ HE8.out) (by rfl) ?_ ?_
  rotate_left
  focus (intro w hSw; (try dsimp only at hSw); go_simp; try with_reducible rfl)
  try simp only [Act.put, List.setIfInBounds_toArray, List.set_cons_zero, List.set_cons_succ]
  refine wpAnyE_take (i := 9) (v := ?_) (.next (.next (.next (.next (.next (.next (.next (.next (.next (.here)))))))))) (by kernel_rfl) (fun _ _ _ h => h) (HSS.out _ HE8.out) (by rfl) ?_ ?_
  rotate_left
  focus (intro w hSw; (try dsimp only at hSw); go_simp; try with_reducible rfl)
  try simp only [Act.put, List.setIfInBounds_toArray, List.set_cons_zero, List.set_cons_succ]
  refine wpAnyE_take (i := 10) (v := ?_) (.next (.next (.next (.next (.next (.next (.next (.next (.next (.next (.here))))))))))) (by kernel_rfl) (fun _ _ _ h => h) (HSS.out _ HE8.out) (by rfl) ?_ ?_
  rotate_left
  focus (intro w hSw; (try dsimp only at hSw); go_simp; try with_reducible rfl)
  try simp only [Act.put, List.setIfInBounds_toArray, List.set_cons_zero, List.set_cons_succ]
  refine wpAnyE_one (k := 11) (.next (.next (.next (.next (.next (.next (.next (.next (.next (.next (.next (.here)))))))))))) (by kernel_rfl) (fun K hK => ?_)
  go_simp
  refine hK.out _ _ (fun _ => HSS.out _ HE8.out) ?_
  clear hK
  try simp only [Act.put, List.setIfInBounds_toArray, List.set_cons_zero, List.set_cons_succ]
  refine wpAnyE_one (k := 12) (.next (.next (.next (.next (.next (.next (.next (.next (.next (.next (.next (.next (.here))))))))))))) (by kernel_rfl) (fun K hK => ?_)
  go_simp
  refine hK.out _ _ (fun _ => HSS.out _ HE8.out) ?_
  clear hK
  try simp only [Act.put, List.setIfInBounds_toArray, List.set_cons_zero, List.set_cons_succ]
  refine wpAnyE_seq [] (.nil) (by kernel_rfl) (by kernel_rfl) ?_
  go_wp2_with fail
  go_loopw [16] (fun i wr => ∃ x : Nat, x ≤ q ∧ i = .int .i64 (x : Int) ∧ Hid (Ext w8 wr)) (fun i _ => q - (RowKit.intOf i).toNat)
  case atStart => exact ⟨0, Nat.zero_le _, rfl, Lib.hid (Ext.refl _)⟩
  case round =>
    obtain ⟨x, hx, rfl, HX⟩ := hrel
    by_cases hxq : x < q
    · obtain ⟨b1, o1, rfl, hb1, hc1, hd1⟩ := (RPe.ext (HE4.out.trans (HE8.out.trans HX.out)) HP1.out).get (k := x) (by rw [HLEN.out]; exact hxq)
      have HB := Lib.hid (HL1.out x hxq)
      have hp8 : (nth L x).1 < 8 ∧ (nth L x).2 < 8 ∧ (nth L x).1 ≠ (nth L x).2 := HL8.out x hxq
      generalize nth L x = p at *
      obtain ⟨p, y⟩ := p
      dsimp only at hc1 hd1 HB hp8
      have hx64 : x < 64 := by omega
      go_wp2_with fail
      go_quiet (fail)
      have hmn : min p y = if y < p then y else p := by split <;> omega
      have hmx : max p y = if y < p then p else y := by split <;> omega
      rw [hmn, hmx] at HB
      clear hmn hmx
      rcases (show (¬ y < p ∧ ¬ k ≤ p ∧ ¬ y + k ≤ r + 1) ∨ (¬ y < p ∧ ¬ k ≤ p ∧ y + k ≤ r + 1) ∨ (¬ y < p ∧ k ≤ p ∧ ¬ y + k ≤ r + 1) ∨ (¬ y < p ∧ k ≤ p ∧ y + k ≤ r + 1) ∨ (y < p ∧ ¬ k ≤ y ∧ ¬ p + k ≤ r + 1) ∨ (y < p ∧ ¬ k ≤ y ∧ p + k ≤ r + 1) ∨ (y < p ∧ k ≤ y ∧ ¬ p + k ≤ r + 1) ∨ (y < p ∧ k ≤ y ∧ p + k ≤ r + 1) by omega) with ⟨h1, h2, h3⟩ | ⟨h1, h2, h3⟩ | ⟨h1, h2, h3⟩ | ⟨h1, h2, h3⟩ | ⟨h1, h2, h3⟩ | ⟨h1, h2, h3⟩ | ⟨h1, h2, h3⟩ | ⟨h1, h2, h3⟩
      · have e1 : decide ((y : Int) < (p : Int)) = false := decide_eq_false (by omega)
        have e2 : decide (y < p) = false := decide_eq_false (by omega)
        have e3 : p < y := by omega
        have f1 : decide ((k : Int) ≤ (p : Int)) = false := decide_eq_false (by omega)
        have f2 : decide (k ≤ p) = false := decide_eq_false (by omega)
        have g1 : decide ((y : Int) ≤ 1 + (r : Int) - (k : Int)) = false := decide_eq_false (by omega)
        have g2 : ¬ (y : Int) ≤ 1 + (r : Int) - (k : Int) := by omega
        have g3 : 1 + (r : Int) - (k : Int) < (y : Int) := by omega
        have hbt : bt X.1 x = false := by rw [HB.out, if_neg h1, if_neg h1]; simp only [Bool.and_eq_false_iff, decide_eq_false_iff_not]; omega
        clear HB h3
        go_wp2_with fail
        go_roundw
        case rel => exact ⟨x + 1, hxq, by go_num, Lib.hid (by first | exact HX.out | exact HX.out.drew | exact HX.out.drewN _)⟩
        case measure => simp [RowKit.intOf]; omega
      · have e1 : decide ((y : Int) < (p : Int)) = false := decide_eq_false (by omega)
        have e2 : decide (y < p) = false := decide_eq_false (by omega)
        have e3 : p < y := by omega
        have f1 : decide ((k : Int) ≤ (p : Int)) = false := decide_eq_false (by omega)
        have f2 : decide (k ≤ p) = false := decide_eq_false (by omega)
        have g1 : decide ((y : Int) ≤ 1 + (r : Int) - (k : Int)) = true := decide_eq_true (by omega)
        have g2 : (y : Int) ≤ 1 + (r : Int) - (k : Int) := by omega
        have g3 : ¬ 1 + (r : Int) - (k : Int) < (y : Int) := by omega
        have hbt : bt X.1 x = false := by rw [HB.out, if_neg h1, if_neg h1]; simp only [Bool.and_eq_false_iff, decide_eq_false_iff_not]; omega
        clear HB h3
        go_wp2_with fail
        go_roundw
        case rel => exact ⟨x + 1, hxq, by go_num, Lib.hid (by first | exact HX.out | exact HX.out.drew | exact HX.out.drewN _)⟩
        case measure => simp [RowKit.intOf]; omega
      · have e1 : decide ((y : Int) < (p : Int)) = false := decide_eq_false (by omega)
        have e2 : decide (y < p) = false := decide_eq_false (by omega)
        have e3 : p < y := by omega
        have f1 : decide ((k : Int) ≤ (p : Int)) = true := decide_eq_true (by omega)
        have f2 : decide (k ≤ p) = true := decide_eq_true (by omega)
        have g1 : decide ((y : Int) ≤ 1 + (r : Int) - (k : Int)) = false := decide_eq_false (by omega)
        have g2 : ¬ (y : Int) ≤ 1 + (r : Int) - (k : Int) := by omega
        have g3 : 1 + (r : Int) - (k : Int) < (y : Int) := by omega
        have hbt : bt X.1 x = false := by rw [HB.out, if_neg h1, if_neg h1]; simp only [Bool.and_eq_false_iff, decide_eq_false_iff_not]; omega
        clear HB h3
        go_wp2_with fail
        go_roundw
        case rel => exact ⟨x + 1, hxq, by go_num, Lib.hid (by first | exact HX.out | exact HX.out.drew | exact HX.out.drewN _)⟩
        case measure => simp [RowKit.intOf]; omega
      · have e1 : decide ((y : Int) < (p : Int)) = false := decide_eq_false (by omega)
        have e2 : decide (y < p) = false := decide_eq_false (by omega)
        have e3 : p < y := by omega
        have f1 : decide ((k : Int) ≤ (p : Int)) = true := decide_eq_true (by omega)
        have f2 : decide (k ≤ p) = true := decide_eq_true (by omega)
        have g1 : decide ((y : Int) ≤ 1 + (r : Int) - (k : Int)) = true := decide_eq_true (by omega)
        have g2 : (y : Int) ≤ 1 + (r : Int) - (k : Int) := by omega
        have g3 : ¬ 1 + (r : Int) - (k : Int) < (y : Int) := by omega
        have hbt : bt X.1 x = true := by rw [HB.out, if_neg h1, if_neg h1]; simp only [Bool.and_eq_true, decide_eq_true_eq]; omega
        clear HB h3
        go_wp2_with fail
        go_roundw
        case rel => exact ⟨x + 1, hxq, by go_num, Lib.hid (by first | exact HX.out | exact HX.out.drew | exact HX.out.drewN _)⟩
        case measure => simp [RowKit.intOf]; omega
      · have e1 : decide ((y : Int) < (p : Int)) = true := decide_eq_true (by omega)
        have e2 : decide (y < p) = true := decide_eq_true (by omega)
        have e3 : ¬ p < y := by omega
        have f1 : decide ((k : Int) ≤ (y : Int)) = false := decide_eq_false (by omega)
        have f2 : decide (k ≤ y) = false := decide_eq_false (by omega)
        have g1 : decide ((p : Int) ≤ 1 + (r : Int) - (k : Int)) = false := decide_eq_false (by omega)
        have g2 : ¬ (p : Int) ≤ 1 + (r : Int) - (k : Int) := by omega
        have g3 : 1 + (r : Int) - (k : Int) < (p : Int) := by omega
        have hbt : bt X.1 x = false := by rw [HB.out, if_pos h1, if_pos h1]; simp only [Bool.and_eq_false_iff, decide_eq_false_iff_not]; omega
        clear HB h3
        go_wp2_with fail
        go_roundw
        case rel => exact ⟨x + 1, hxq, by go_num, Lib.hid (by first | exact HX.out | exact HX.out.drew | exact HX.out.drewN _)⟩
        case measure => simp [RowKit.intOf]; omega
      · have e1 : decide ((y : Int) < (p : Int)) = true := decide_eq_true (by omega)
        have e2 : decide (y < p) = true := decide_eq_true (by omega)
        have e3 : ¬ p < y := by omega
        have f1 : decide ((k : Int) ≤ (y : Int)) = false := decide_eq_false (by omega)
        have f2 : decide (k ≤ y) = false := decide_eq_false (by omega)
        have g1 : decide ((p : Int) ≤ 1 + (r : Int) - (k : Int)) = true := decide_eq_true (by omega)
        have g2 : (p : Int) ≤ 1 + (r : Int) - (k : Int) := by omega
        have g3 : ¬ 1 + (r : Int) - (k : Int) < (p : Int) := by omega
        have hbt : bt X.1 x = false := by rw [HB.out, if_pos h1, if_pos h1]; simp only [Bool.and_eq_false_iff, decide_eq_false_iff_not]; omega
        clear HB h3
        go_wp2_with fail
        go_roundw
        case rel => exact ⟨x + 1, hxq, by go_num, Lib.hid (by first | exact HX.out | exact HX.out.drew | exact HX.out.drewN _)⟩
        case measure => simp [RowKit.intOf]; omega
      · have e1 : decide ((y : Int) < (p : Int)) = true := decide_eq_true (by omega)
        have e2 : decide (y < p) = true := decide_eq_true (by omega)
        have e3 : ¬ p < y := by omega
        have f1 : decide ((k : Int) ≤ (y : Int)) = true := decide_eq_true (by omega)
        have f2 : decide (k ≤ y) = true := decide_eq_true (by omega)
        have g1 : decide ((p : Int) ≤ 1 + (r : Int) - (k : Int)) = false := decide_eq_false (by omega)
        have g2 : ¬ (p : Int) ≤ 1 + (r : Int) - (k : Int) := by omega
        have g3 : 1 + (r : Int) - (k : Int) < (p : Int) := by omega
        have hbt : bt X.1 x = false := by rw [HB.out, if_pos h1, if_pos h1]; simp only [Bool.and_eq_false_iff, decide_eq_false_iff_not]; omega
        clear HB h3
        go_wp2_with fail
        go_roundw
        case rel => exact ⟨x + 1, hxq, by go_num, Lib.hid (by first | exact HX.out | exact HX.out.drew | exact HX.out.drewN _)⟩
        case measure => simp [RowKit.intOf]; omega
      · have e1 : decide ((y : Int) < (p : Int)) = true := decide_eq_true (by omega)
        have e2 : decide (y < p) = true := decide_eq_true (by omega)
        have e3 : ¬ p < y := by omega
        have f1 : decide ((k : Int) ≤ (y : Int)) = true := decide_eq_true (by omega)
        have f2 : decide (k ≤ y) = true := decide_eq_true (by omega)
        have g1 : decide ((p : Int) ≤ 1 + (r : Int) - (k : Int)) = true := decide_eq_true (by omega)
        have g2 : (p : Int) ≤ 1 + (r : Int) - (k : Int) := by omega
        have g3 : ¬ 1 + (r : Int) - (k : Int) < (p : Int) := by omega
        have hbt : bt X.1 x = true := by rw [HB.out, if_pos h1, if_pos h1]; simp only [Bool.and_eq_true, decide_eq_true_eq]; omega
        clear HB h3
        go_wp2_with fail
        go_roundw
        case rel => exact ⟨x + 1, hxq, by go_num, Lib.hid (by first | exact HX.out | exact HX.out.drew | exact HX.out.drewN _)⟩
        case measure => simp [RowKit.intOf]; omega
    · obtain rfl : x = q := by omega
      go_wp2_with fail
      refine (awake32_any _ (HT.out.ext (HE1.out.trans (HE4.out.trans (HE8.out.trans HX.out))))).mono ?_
      rintro _ w9 ⟨rfl, hE9⟩
      dsimp only
      go_wp2_with fail
      go_ret
      exact ⟨rfl, (HE1.out.trans (HE4.out.trans (HE8.out.trans HX.out))).trans hE9⟩
theorem puzzlesConsecutive_int (s v : Int) (bs : 0 ≤ s ∧ s ≤ 255) (bv : 0 ≤ v ∧ v ≤ 255) (w : World) (hT : Tab w) :
    Calls Tryz.prog 6 #[.int .u8 s, .int .u8 v] w fun e w' => e = .returned (.bool true) ∧ Ext w w' := by
  obtain ⟨s, rfl⟩ := Int.eq_ofNat_of_zero_le bs.1
  obtain ⟨v, rfl⟩ := Int.eq_ofNat_of_zero_le bv.1
  exact puzzlesConsecutive_any s v (by omega) (by omega) w hT
end Wt

/- The law PuzzlesConsecutive returns true at every input, and its arguments read behind the call as they did before. the tied card: the library's table of TrailingZeros64 lies as the program's text lays it. -/
namespace Go.Proofs.YtoacdccachhjdaaGreatDoor
open Go.ChangeShapes Go.WideShapes Go.ChangeAt Go.WideMaps Go.WideElems Go.RowKit

theorem own : ownKnob Tryz.prog.godebug = none := by kernel_rfl
theorem laidOut : laidOutB Tryz.prog = true := by kernel_rfl
theorem door_met (os : Os) (args : Array Value) : laidMetH Tryz.prog [("math/bits.deBruijn64tab", Rows.laid_math_bits_deBruijn64tab)] ((World.doorLaid Tryz.prog 400 os).forCall (fun _ _ => 0) ⟨#[], args, []⟩).memory := by
  rw [MakeChecks.laidMetH_plain _ _ _ (by kernel_rfl)]
  exact laidMet_of_run' 8 (by kernel_rfl) (by kernel_rfl)
set_option maxRecDepth 100000 in
set_option maxHeartbeats 1000000 in
theorem law_lifted (os : Os) (started : os.Started) (H : Type) (enc : TypeId × Value → H) :
    ReturnsInHanded {} Tryz.checked os 6 .any (fun w args => (Rows.puzzlesConsecutiveSpec.pre enc Tryz.prog Tryz.f6 Rows.puzzlesConsecutiveRow.domain false w args ∧ laidMetH Tryz.prog [("math/bits.deBruijn64tab", Rows.laid_math_bits_deBruijn64tab)] w) ∧ sizedMet enc Tryz.prog Tryz.f6 (OpenSpec.ofChange Rows.puzzlesConsecutiveSpec) false w args)
      (Rows.puzzlesConsecutiveSpec.post enc Tryz.prog Tryz.f6 false true false false) := by
  refine returnsInHanded_of_change_and (C := Tryz.checked) (X := fun w _ => laidMetH Tryz.prog [("math/bits.deBruijn64tab", Rows.laid_math_bits_deBruijn64tab)] w) (fun _ _ _ hh h => h.of_heap hh) own started (by kernel_rfl) Tryz.func6
    (ChangeSpec.witness_shaped (enc := enc) (C := Tryz.checked) (os := os) (X := fun w _ => laidMetH Tryz.prog [("math/bits.deBruijn64tab", Rows.laid_math_bits_deBruijn64tab)] w) false (World.doorLaid Tryz.prog 400 os) #[.int .u8 0, .int .u8 0] 8 rfl (World.shaped_of_RefB (by kernel_rfl) (by kernel_rfl)) (by kernel_rfl) (by kernel_rfl) (by kernel_rfl) (door_met os _)) ?_
  intro W base args ds gs before hval0 hW _ hsz0 hL _
  have hT := of_laid hL
  have hval : ∀ (j : Nat) t v, Tryz.f6.params[j]? = some t → args[j]? = some v → Value.okWide Tryz.prog W .any base t v := hval0
  have hsz : (DataW.weightsEach Tryz.prog (Tryz.f6.params.toList ++ Rows.puzzlesConsecutiveSpec.plain.varTypes Tryz.prog) (ds ++ gs)).all (· ≤ reachBytes) = true := hsz0
  have hW' := hW
  obtain ⟨p, q, hA0, hV, rfl, hfz, hnd⟩ := hW
  have hA : DataW.TrodAll enc Tryz.prog W 0 (fun _ => true) true Tryz.f6.params.toList args.toList ds p := hA0
  rw [Tryz.params6] at hA hval hsz
  obtain ⟨v0, v1, d0, d1, p0, p1, rfl, rfl, rfl, h0, h1⟩ := trodAll_two hA
  obtain ⟨rfl, rfl⟩ := trodVars_none hV
  have hv0 : Rows.puzzlesConsecutiveSpec.plain.varTypes Tryz.prog = [] := rfl
  rw [hv0] at hsz
  have hz : ∀ n ∈ DataW.weightsEach Tryz.prog [5, 5] [d0, d1], n ≤ reachBytes := fun n hn => by
    have := List.all_eq_true.1 hsz n (by simpa using hn)
    simpa using this
  have k0 := h0
  have k1 := h1
  obtain ⟨s, rfl, rfl, rfl, ws⟩ := open_int Tryz.underlying5 (hval 0 5 v0 rfl rfl) h0
  have bs := ws
  simp [Lit.wf, IntKind.min, IntKind.max, IntKind.signed, IntKind.bits] at bs
  obtain ⟨v, rfl, rfl, rfl, wv⟩ := open_int Tryz.underlying5 (hval 1 5 v1 rfl rfl) h1
  have bv := wv
  simp [Lit.wf, IntKind.min, IntKind.max, IntKind.signed, IntKind.bits] at bv
  refine (Wt.puzzlesConsecutive_int s v bs bv W hT).mono fun e W' he => ?_
  obtain ⟨rfl, hE⟩ := he
  have bel : Below W.heap.size W W' := hE
  refine ⟨_, rfl, ⟨_, _, _, [], [] ++ ([]), [], hW', trodAll_mk1 (shut_bool Tryz.underlying4 true), trodAll_mk2 (shut_int Tryz.underlying5 ws) (shut_int Tryz.underlying5 wv), rfl, bel.frame _, fun h => by cases h⟩⟩
theorem puzzlesConsecutive_holds : Rows.PuzzlesConsecutiveSaid :=
  OpenClaim.holds_of_wide 6 Tryz.f6 rfl rfl rfl rfl rfl rfl rfl ⟨rfl, rfl, rfl, rfl, rfl⟩ rfl rfl rfl rfl rfl (by kernel_rfl) Tryz.func6 (by kernel_rfl)
    (of_decide_eq_true (by kernel_rfl)) (by unfold Func.isWrapper; first | (rw [if_pos (by decide +kernel)]; kernel_rfl) | (rw [if_neg (by decide +kernel)]; exact ⟨rfl, rfl⟩))
    (fun os started H enc _ => law_lifted os started H enc)
theorem puzzlesConsecutive_card_holds : Rows.PuzzlesConsecutiveCardSaid :=
  Claim7.holds_tied_plain_at .later [] [.data] true Rows.puzzlesConsecutiveCard.stood.harness false
    puzzlesConsecutive_holds (fun _ h => by cases h) (by kernel_rfl) (fun _ h => by cases h) puzzlesConsecutive_row_tie rfl ⟨rfl, rfl⟩ (by kernel_rfl) rfl
    (fun f fn hf hfn => by
      obtain rfl : f = 6 := Option.some.inj ((show Tryz.prog.funcNamed "witting/wittinglaw32.PuzzlesConsecutive" = some 6 by kernel_rfl).symm.trans hf) |>.symm
      obtain rfl : fn = Tryz.f6 := (Option.some.inj (Tryz.func6.symm.trans hfn)).symm
      exact ⟨by kernel_rfl, fun j t ht => by
        rw [Tryz.params6] at ht
        have hm : t ∈ [5, 5] := by simpa using Array.mem_of_getElem? ht
        have hall : ([5, 5].all fun u => !Tryz.prog.wantsStandIn u) = true := by kernel_rfl
        exact (show Tryz.prog.wantsStandIn t = false by simpa using List.all_eq_true.1 hall t hm)⟩)
    (by kernel_rfl)
#print axioms puzzlesConsecutive_card_holds
end Go.Proofs.YtoacdccachhjdaaGreatDoor
