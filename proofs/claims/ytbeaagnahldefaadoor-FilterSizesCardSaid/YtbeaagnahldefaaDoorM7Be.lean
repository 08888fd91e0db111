/- Plain: a filtration keeps the subformulas, told as the law looks for it. -/
import Derived.Test.YtbeaagnahldefaaDoorM7Bb
import Derived.Test.YtbeaagnahldefaaDoorM7Av
import Derived.Test.YtbeaagnahldefaaDoorM7Ao
import Derived.Test.YtbeaagnahldefaaDoorM7Bd
namespace Wt
open Go Go.RowKit Go.Maps Go.Proofs Fm

structure KpOk (M Q : Mo) (f : List Nd) (N K : Nat) (cls : List Nat) : Prop where
  n64 : N ≤ 64
  k64 : K ≤ 64
  wm : M.worlds = (N : Int)
  wq : Q.worlds = (K : Int)
  cl : cls.length = N
  rm : reqErr M (fCompact f) = 0
  rq : reqErr Q (fCompact f) = 0
  lm : (setsOf M (fCompact f)).length = (fCompact f).length
  lq : (setsOf Q (fCompact f)).length = (fCompact f).length
  c200 : (fCompact f).length ≤ 200
  ok : ∀ i w, i < (fCompact f).length → w < N → nth cls w < K ∧ bt (nth (setsOf M (fCompact f)) i) w = bt (nth (setsOf Q (fCompact f)) i) (nth cls w)
theorem look_fil {M Q : Mo} {f : List Nd} (hl : lookErr M f = 0) (h : moCheck Q = 0) (h1 : Q.rel.length = M.rel.length) (h2 : Q.val.length = M.val.length) : lookErr Q f = 0 := by
  obtain ⟨a1, a2, a3, -⟩ := lookErr_ok hl
  unfold lookErr at hl ⊢
  rw [if_neg (by simp [a1]), if_neg (by simp [a2]), if_neg (by omega)] at hl
  rw [if_neg (by simp [h]), if_neg (by simp [a2]), if_neg (by omega), h1, h2]
  exact hl
theorem req_of {M : Mo} {f : List Nd} (hl : lookErr M f = 0) : reqErr M (fCompact f) = 0 := by
  obtain ⟨a1, a2, a3, -⟩ := lookErr_ok hl
  rw [← look_req a1 a2 a3]; exact hl
theorem kp_ok {M : Mo} {f : List Nd} {N : Nat} {R : Nat → Nat → Nat → Bool} (hl : lookErr M f = 0) (vk : Vok M f N) (h : FilR M (rt f) N R) :
    KpOk M (filM M (fFacts f) (repL (subL M (rt f)) N) R) f N (repL (subL M (rt f)) N).length (filN M f) := by
  obtain ⟨a1, a2, a3, -⟩ := lookErr_ok hl
  have hK : (repL (subL M (rt f)) N).length ≤ 64 := Nat.le_trans (repL_len _ _) vk.vw.ok.most
  have ok := filM_ok (facts := fFacts f) (R := R) vk.vw.ok (repL_pos (subL M (rt f)) vk.vw.ok.one) hK
  have hl2 := look_fil hl (MoOk.check ok) (by simp [filM, filR]) (by simp [filM, filV])
  obtain ⟨s1, s2, s3, -⟩ := look_sets hl
  obtain ⟨t1, t2, t3, -⟩ := look_sets hl2
  have hN : filN M f = (List.range N).map (clsOf (subL M (rt f)) N) := by unfold filN; rw [if_pos hl, vk.nn]
  refine ⟨vk.vw.ok.most, hK, vk.vw.ok.worlds, rfl, by rw [hN]; simp, req_of hl, req_of hl2, by rw [s1, subL_len, s2], by rw [t1, subL_len, t2], s3, fun i w hi hw => ?_⟩
  rw [s2] at hi
  have hk := keeps_law a2 vk.vw h hi hw
  rw [s1, t1, hN, nth_mapX _ hw]
  exact ⟨hk.2, hk.1⟩
end Wt

/- Walk: wittinglaw23.keeps where it holds. -/
namespace Wt
open Go Go.RowKit Go.Maps Go.Proofs Fm

theorem word_raw (X : BitVec 64) {k : Nat} (h : k < 64) : bits .and .u64 (un X / 2 ^ min (IntKind.u64.wrap (k : Int)).toNat 64) 1 = un (X >>> k &&& 1#64) := by
  have e : IntKind.u64.wrap (k : Int) = (k : Int) := by
    have hb : IntKind.u64.bits = 64 := rfl
    simp [IntKind.wrap, hb]
    omega
  rw [e, Int.toNat_natCast, Nat.min_eq_left (by omega)]
  have e2 : un X / 2 ^ k = un (X >>> k) := by
    unfold un
    rw [BitVec.toNat_ushiftRight, Nat.shiftRight_eq_div_pow]
    simp
  rw [e2, bv_and1]
set_option maxRecDepth 20000 in
set_option maxHeartbeats 8000000 in
theorem keeps_any (M Q : Mo) (f : List Nd) (N K : Nat) (cls : List Nat) (va ra vb rb la fa : Option Addr) (vc rc vd rd lc fc : Nat) (w : World) (kp : KpOk M Q f N K cls) (hf0 : fCheck f = 0) (hm : RM w va ra M) (hn : RM w vb rb Q) (hl : RI w la (natI cls)) (hf : RN w fa f) :
    Calls Tryd.prog 12 #[.agg #[.int .i64 M.worlds, .slice va M.val.length vc, .slice ra M.rel.length rc], .agg #[.int .i64 Q.worlds, .slice vb Q.val.length vd, .slice rb Q.rel.length rd], .slice la N lc, .slice fa f.length fc] w fun e w' => e = .returned (.bool true) ∧ Ext w w' := by
  have hE0 : Ext w ((w.alloc (.cells #[.int .i64 M.worlds, .slice va M.val.length vc, .slice ra M.rel.length rc] 25)).alloc (.cells #[.int .i64 Q.worlds, .slice vb Q.val.length vd, .slice rb Q.rel.length rd] 25)) := ((Ext.refl w).alloc _).alloc _
  have hb1 := (OutAt.new w (.int .i64 M.worlds) (.slice va M.val.length vc) (.slice ra M.rel.length rc) 25).ext ((Ext.refl _).alloc (.cells #[.int .i64 Q.worlds, .slice vb Q.val.length vd, .slice rb Q.rel.length rd] 25))
  have hb2 := OutAt.new1 w (.cells #[.int .i64 M.worlds, .slice va M.val.length vc, .slice ra M.rel.length rc] 25) (.int .i64 Q.worlds) (.slice vb Q.val.length vd) (.slice rb Q.rel.length rd) 25
  have HE := Lib.hid hE0
  have HM := Lib.hid (hm.ext hE0)
  have HN := Lib.hid (hn.ext hE0)
  have HL := Lib.hid (hl.ext hE0)
  have HF := Lib.hid (hf.ext hE0)
  have HB1 := Lib.hid hb1
  have HB2 := Lib.hid hb2
  have HWM := Lib.hid kp.wm
  have HWQ := Lib.hid kp.wq
  have HCL := Lib.hid kp.cl
  have HOK := Lib.hid kp.ok
  have h64 := kp.n64
  have hK64 := kp.k64
  have h200 := kp.c200
  have HCO : Hid (∀ W, RN W fa f → Calls Tryd.prog 36 #[.slice fa f.length fc] W fun e w' => RetN (fCompact f) e W w') := Lib.hid fun W h => (compactF_fresh fa fc f W h hf0).mono fun _ _ h => h.n
  have HSM : Hid (∀ W a c, RM W va ra M → RN W a (fCompact f) → Calls Tryd.prog 37 #[.agg #[.int .i64 M.worlds, .slice va M.val.length vc, .slice ra M.rel.length rc], .slice a (fCompact f).length c] W fun e w' => RetS M (fCompact f) e W w') := Lib.hid fun W a c h1 h2 => sets_any M va ra vc rc a c (fCompact f) W h1 h2
  have HSQ : Hid (∀ W a c, RM W vb rb Q → RN W a (fCompact f) → Calls Tryd.prog 37 #[.agg #[.int .i64 Q.worlds, .slice vb Q.val.length vd, .slice rb Q.rel.length rd], .slice a (fCompact f).length c] W fun e w' => RetS Q (fCompact f) e W w') := Lib.hid fun W a c h1 h2 => sets_any Q vb rb vd rd a c (fCompact f) W h1 h2
  have HRM := Lib.hid kp.rm
  have HRQ := Lib.hid kp.rq
  have HLM := Lib.hid kp.lm
  have HLQ := Lib.hid kp.lq
  clear hE0 hm hn hl hf hb1 hb2 kp hf0
  generalize fCompact f = C at *
  generalize hsm : setsOf M C = LA at *
  generalize hsq : setsOf Q C = LB at *
  have HSA := Lib.hid hsm
  have HSB := Lib.hid hsq
  clear hsm hsq
  have hq1 : ((C.length : Int) != (C.length : Int)) = false := by simp
  have hq2 : ((N : Int) != (N : Int)) = false := by simp
  go_enter Tryd.func12, Tryd.ntmps12
  go_wp2_with fail
  generalize (w.alloc (.cells #[.int .i64 M.worlds, .slice va M.val.length vc, .slice ra M.rel.length rc] 25)).alloc (.cells #[.int .i64 Q.worlds, .slice vb Q.val.length vd, .slice rb Q.rel.length rd] 25) = w0 at *
  refine (HCO.out _ HF.out).mono ?_
  rintro _ w1 ⟨ca, cc, rfl, hcn, hE1⟩
  have HCN := Lib.hid hcn
  have HE1 := Lib.hid hE1
  obtain ⟨m0, m1, m2, -⟩ := HB1.out.ext hE1
  have ml := World.block_lt_of_cell? _ _ m0
  clear hcn hE1
  dsimp only at ml ⊢
  go_wp2_with fail
  refine (HSM.out _ ca cc (HM.out.ext HE1.out) HCN.out).mono ?_
  rintro _ w2 ⟨sa, sc, rfl, hsu, hE2⟩
  rw [HSA.out] at hsu
  rw [HSA.out, HRM.out, HLM.out]
  have HSU := Lib.hid hsu
  have HE2 := Lib.hid (HE1.out.trans hE2)
  have HCN2 := Lib.hid (HCN.out.ext hE2)
  clear m0 m1 m2 ml hsu hE2
  obtain ⟨n0, n1, n2, -⟩ := HB2.out.ext HE2.out
  have nl := World.block_lt_of_cell? _ _ n0
  dsimp only at nl ⊢
  go_wp2_with fail
  refine (HSQ.out _ ca cc (HN.out.ext HE2.out) HCN2.out).mono ?_
  rintro _ w3 ⟨sb, sd, rfl, hsv, hE3⟩
  rw [HSB.out] at hsv
  rw [HSB.out, HRQ.out, HLQ.out]
  have HSV := Lib.hid hsv
  have HE3 := Lib.hid (HE2.out.trans hE3)
  have HSU3 := Lib.hid (HSU.out.ext hE3)
  have HL3 := Lib.hid (HL.out.ext HE3.out)
  clear n0 n1 n2 nl hsv hE3
  obtain ⟨m0, m1, m2, -⟩ := HB1.out.ext HE3.out
  rw [HWM.out] at m0
  have ml := World.block_lt_of_cell? _ _ m0
  dsimp only at ml ⊢
  go_wp2_with fail
  clear m0 m1 m2 ml
  go_loopw [14] (fun i wr => ∃ k : Nat, k ≤ C.length ∧ i = .int .i64 (k : Int) ∧ Hid (Ext w3 wr)) (fun i _ => C.length - (RowKit.intOf i).toNat)
  case atStart => exact ⟨0, Nat.zero_le _, rfl, Lib.hid (Ext.refl _)⟩
  case round =>
    obtain ⟨k, hk, rfl, HX⟩ := hrel
    by_cases hkl : k < C.length
    · go_wp2_with fail
      go_loopw [15] (fun i wz => ∃ j : Nat, j ≤ N ∧ i = .int .i64 (j : Int) ∧ Hid (Ext wr wz)) (fun i _ => N - (RowKit.intOf i).toNat)
      case atStart => exact ⟨0, Nat.zero_le _, rfl, Lib.hid (Ext.refl _)⟩
      case round =>
        rename World => wz
        obtain ⟨j, hj, rfl, HZ⟩ := hrel
        have HXZ := Lib.hid (HX.out.trans HZ.out)
        obtain ⟨m0, m1, m2, -⟩ := HB1.out.ext (HE3.out.trans HXZ.out)
        obtain ⟨n0, n1, n2, -⟩ := HB2.out.ext (HE3.out.trans HXZ.out)
        rw [HWM.out] at m0
        rw [HWQ.out] at n0
        have ml := World.block_lt_of_cell? _ _ m0
        have nl := World.block_lt_of_cell? _ _ n0
        dsimp only at ml nl
        by_cases hjN : j < N
        · obtain ⟨b1, o1, h1, hb1, hc1⟩ := (HL3.out.ext HXZ.out).get (k := j) (by rw [natI_ln, HCL.out]; exact hjN)
          obtain ⟨b2, o2, h2, hb2, hc2⟩ := (HSU3.out.ext HXZ.out).get (k := k) (by rw [HLM.out]; exact hkl)
          obtain ⟨b3, o3, h3, hb3, hc3⟩ := (HSV.out.ext HXZ.out).get (k := k) (by rw [HLQ.out]; exact hkl)
          rw [nth_natI (by rw [HCL.out]; exact hjN)] at hc1
          obtain ⟨hcK, hbit⟩ := HOK.out k j hkl hjN
          have hu1 := bit_un (nth LA k) j
          have hu2 := bit_un (nth LB k) (nth cls j)
          rw [← hbit] at hu2
          have hd1 : decide (((nth cls j : Nat) : Int) < 0) = false := decide_eq_false (by omega)
          have hd2 : decide ((K : Int) ≤ ((nth cls j : Nat) : Int)) = false := decide_eq_false (by omega)
          have hj64 : j < 64 := by omega
          have hc64 : nth cls j < 64 := by omega
          subst h1
          subst h2
          subst h3
          generalize nth LA k = X at *
          generalize nth LB k = Y at *
          generalize nth cls j = p at *
          cases hbb : bt X j
          all_goals
            rw [hbb] at hu1 hu2
            simp only [b01I, if_true, if_false, Bool.false_eq_true] at hu1 hu2
            clear hbb hbit
            go_wp2_with fail
            go_quiet (fail)
            have hle : (K ≤ p) = False := eq_false (by omega)
            simp only [word_raw X hj64, word_raw Y hc64, hu1, hu2, hle]
            go_wp2_with fail
            go_roundw
            case rel => exact ⟨j + 1, hjN, by go_num, Lib.hid (HZ.out.drewN _)⟩
            case measure => simp [RowKit.intOf]; omega
        · go_wp2_with fail
          go_roundw
          case rel => exact ⟨k + 1, hkl, by go_num, HXZ⟩
          case measure => simp [RowKit.intOf]; omega
    · go_wp2_with fail
      go_ret
      exact ⟨rfl, (HE.out.trans HE3.out).trans HX.out⟩
end Wt

/- Plain: properties of relations that filtrations keep (printed by gen_law23d.py). -/
namespace Wt
open Go Go.RowKit Go.Maps Go.Proofs Fm

structure FrOk (M : Mo) (f : List Nd) (K n : Nat) (V : List (BitVec 64)) (RA RB : List (List (BitVec 64))) : Prop where
  sm : filSm M f = ⟨K, V, RA⟩
  la : filLa M f false = ⟨K, V, RB⟩
  r4 : n ≤ 4
  ml : M.rel.length = n
  la1 : RA.length = n
  lb1 : RB.length = n
  kp : ∀ i p, i < n → (p = 1 ∨ p = 2) → hasB (nth M.rel i) p = true → hasB (nth RA i) p = true ∧ hasB (nth RB i) p = true
  sy : ∀ i, i < n → hasB (nth M.rel i) 3 = true → hasB (nth RA i) 3 = true
theorem fr_ok {M : Mo} {f : List Nd} (hl : lookErr M f = 0) : ∃ K n V RA RB, FrOk M f K n V RA RB := by
  obtain ⟨N, vk⟩ := vok_of hl
  have v := vk.vw
  have hK : (repL (subL M (rt f)) N).length ≤ 64 := Nat.le_trans (repL_len _ _) v.ok.most
  have hok : ∀ R, MoOk (filM M (fFacts f) (repL (subL M (rt f)) N) R) (repL (subL M (rt f)) N).length := fun R => filM_ok v.ok (repL_pos (subL M (rt f)) v.ok.one) hK
  have hck : ∀ R i, i < M.rel.length → relCheck (nth (filM M (fFacts f) (repL (subL M (rt f)) N) R).rel i) = 0 := fun R i hi => ok_rel (hok R) (by simpa [filM, filR] using hi)
  have e2 : ∀ b, filLa M f b = filM M (fFacts f) (repL (subL M (rt f)) N) (permL (subL M (rt f)) (canon (rt f)) b) := fun b => by unfold filLa; rw [if_pos hl, vk.nn]
  refine ⟨(repL (subL M (rt f)) N).length, M.rel.length, filV M (fFacts f) (repL (subL M (rt f)) N), _, _, ⟨by unfold filSm; rw [if_pos hl, vk.nn]; rfl, by rw [e2]; rfl, v.ok.rel, rfl, by simp [filR], by simp [filR], fun i p hi hp hh => ?_, fun i hi hh => ?_⟩⟩
  · rcases hp with rfl | rfl
    · rw [has1_eq (ok_rel v.ok hi)] at hh
      exact ⟨(has1_eq (hck (relS M (subL M (rt f)) N) i hi)).trans (fil_ser v (filS v) hi (fFacts f) hh), (has1_eq (hck (permL (subL M (rt f)) (canon (rt f)) false) i hi)).trans (fil_ser v (filP v false (fun h => by cases h)) hi (fFacts f) hh)⟩
    · rw [has2_eq (ok_rel v.ok hi)] at hh
      exact ⟨(has2_eq (hck (relS M (subL M (rt f)) N) i hi)).trans (fil_ref v (filS v) hi (fFacts f) hh), (has2_eq (hck (permL (subL M (rt f)) (canon (rt f)) false) i hi)).trans (fil_ref v (filP v false (fun h => by cases h)) hi (fFacts f) hh)⟩
  · rw [has3_eq (ok_rel v.ok hi), decide_eq_true_iff] at hh
    exact (has3_eq (hck (relS M (subL M (rt f)) N) i hi)).trans (decide_eq_true (filS_sym v hi (fFacts f) hh))
theorem hasP_any (p : Nat) (h1 : 1 ≤ p) (h2 : p ≤ 3) (r : List (BitVec 64)) (a : Option Addr) (c : Nat) (W : World) (hT : Tab W) (hu : RU W a r) : Calls Tryd.prog 14 #[.slice a r.length c, .int .i64 (p : Int)] W fun e w' => e = .returned (.bool (hasB r (p : Int))) ∧ Ext W w' := by
  match p, h1, h2 with
  | 1, _, _ => exact has1_any r a c W hT hu
  | 2, _, _ => exact has2_any r a c W hT hu
  | 3, _, _ => exact has3_any r a c W hT hu
end Wt

/- Plain: the numbers of classes, told as the law looks for them (printed by gen_law23d.py). -/
namespace Wt
open Go Go.RowKit Go.Maps Go.Proofs Fm

structure SzOk (M : Mo) (f : List Nd) (K N n : Nat) (V : List (BitVec 64)) (RA : List (List (BitVec 64))) (cls low : List Nat) (nx : Nat → Nat) : Prop where
  sm : filSm M f = ⟨K, V, RA⟩
  fn : filN M f = cls
  fc : filC M f = low
  wm : M.worlds = (N : Int)
  n64 : N ≤ 64
  kn : K ≤ N
  nc : (fCompact f).length = n
  n1 : 1 ≤ n
  n200 : n ≤ 200
  pw : K ≤ 2 ^ n
  cl : cls.length = N
  ll : low.length = N
  x0 : nx 0 = 0
  xN : nx N = K
  xle : ∀ w, w ≤ N → nx w ≤ N
  le : ∀ w, w < N → nth low w ≤ w
  eq : ∀ w, w < N → nth cls (nth low w) = nth cls w
  st : ∀ w, w < N → (nth low w = w ∧ nth cls w = nx w ∧ nx (w + 1) = nx w + 1) ∨ (nth low w ≠ w ∧ nth cls w < nx w ∧ nx (w + 1) = nx w)
theorem sz_ok {M : Mo} {f : List Nd} (hl : lookErr M f = 0) : ∃ K N n V RA cls low nx, SzOk M f K N n V RA cls low nx := by
  obtain ⟨N, vk⟩ := vok_of hl
  have v := vk.vw
  obtain ⟨s1, s2, s3, -⟩ := look_sets hl
  have hn1 : 1 ≤ (fCompact f).length := by
    rw [s2, canon_length]
    exact fsize_pos _
  refine ⟨(repL (subL M (rt f)) N).length, N, (fCompact f).length, filV M (fFacts f) (repL (subL M (rt f)) N), _, (List.range N).map (clsOf (subL M (rt f)) N), lowL (subL M (rt f)) N, fun w => (repL (subL M (rt f)) w).length,
    ⟨by unfold filSm; rw [if_pos hl, vk.nn]; rfl, by unfold filN; rw [if_pos hl, vk.nn], by unfold filC; rw [if_pos hl, vk.nn], v.ok.worlds, v.ok.most, repL_len _ _, rfl, hn1, s3, ?_, by simp, lowL_len _ _, by simp [repL], rfl, fun w hw => Nat.le_trans (repL_len _ _) hw, fun w hw => ?_, fun w hw => ?_, fun w hw => ?_⟩⟩
  · have h := classes_le (subL M (rt f)) N
    rw [subL_len, ← s2] at h
    exact h
  · rw [lowL_nth _ hw]; exact lowOf_le _ _
  · have hlo := Nat.lt_of_le_of_lt (lowOf_le (subL M (rt f)) w) hw
    rw [lowL_nth _ hw, nth_mapX _ hlo, nth_mapX _ hw]
    exact (clsOf_iff hlo hw).2 (lowOf_agr _ w)
  · rw [lowL_nth _ hw, nth_mapX _ hw]
    obtain ⟨c1, c2⟩ := cls_next (L := subL M (rt f)) hw
    by_cases h : lowOf (subL M (rt f)) w = w
    · exact .inl ⟨h, c1 h, by rw [repL_succ, if_pos h, List.length_append]; rfl⟩
    · exact .inr ⟨h, c2 h, by rw [repL_succ, if_neg h, List.append_nil]⟩
end Wt
