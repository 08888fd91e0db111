/- Walk: model.Generated, at a right model and a set of its worlds: a set around it that is closed under all relations. -/
import Derived.Test.YtdnpgadkklgjeaaDoorRes
namespace Wt
open Go Go.RowKit Go.Maps Go.Proofs Fm

/-- The rounds of Generated: what was reached (O), what is still to be looked at (T). -/
structure GenO (M : Mo) (N : Nat) (F O T : BitVec 64) : Prop where
  base : Sub F O
  inN : Sub O (allW N)
  todo : Sub T O
  cl : ∀ v, v < N → bt O v = true → bt T v = false → ∀ q, q < M.rel.length → Sub (nth (nth M.rel q) v) O
/-- The rounds within: q agents were looked at, at world c; O0 and T0 were there before. -/
structure GenI (M : Mo) (N : Nat) (O0 T0 : BitVec 64) (c q : Nat) (O T : BitVec 64) : Prop where
  base : Sub O0 O
  inN : Sub O (allW N)
  todo : Sub T O
  done : ∀ v, v < 64 → (bt O v && !bt T v) = (bt O0 v && !bt T0 v)
  rows : ∀ j, j < q → Sub (nth (nth M.rel j) c) O
theorem GenI.step {M : Mo} {N : Nat} {O0 T0 O T : BitVec 64} {c q : Nat} (ok : MoOk M N) (hq : q < M.rel.length) (hc : c < N) (h : GenI M N O0 T0 c q O T) :
    GenI M N O0 T0 c (q + 1) (O ||| nth (nth M.rel q) c) (T ||| (nth (nth M.rel q) c &&& ~~~ O)) where
  base := h.base.trans (Sub.orL _ _)
  inN := h.inN.or ((row_in ok hq).2 c hc)
  todo := (h.todo.trans (Sub.orL _ _)).or ((Sub.refl _).and1.trans (Sub.orR _ _))
  done := fun v hv => by
    rw [← h.done v hv, bt_or, bt_or, bt_and, bt_not]
    have ht := h.todo v hv
    cases h1 : bt O v <;> cases h2 : bt T v <;> cases h3 : bt (nth (nth M.rel q) c) v <;> simp_all
  rows := fun j hj => by
    rcases Nat.lt_or_ge j q with h1 | h1
    · exact (h.rows j h1).trans (Sub.orL _ _)
    · obtain rfl : j = q := by omega
      exact Sub.orR _ _
theorem GenO.next {M : Mo} {N : Nat} {F O T O' T' : BitVec 64} (h : GenO M N F O T) (hT : T ≠ 0#64) (h' : GenI M N O (T &&& (T - 1#64)) (tz T) M.rel.length O' T') :
    GenO M N F O' T' ∧ pop (O &&& ~~~ T) < pop (O' &&& ~~~ T') := by
  obtain ⟨hk, h1, h2, h3⟩ := tz_spec hT
  have hd : ∀ v, v < 64 → (bt O' v && !bt T' v) = (bt O v && !(bt T v && decide (v ≠ tz T))) := fun v hv => by rw [h'.done v hv, h3]
  constructor
  · refine ⟨h.base.trans h'.base, h'.inN, h'.todo, fun v hv hO hTv q hq => ?_⟩
    have hv64 : v < 64 := bt_lt64 hO
    have e := hd v hv64
    rw [hO, hTv] at e
    by_cases hvk : v = tz T
    · subst hvk; exact h'.rows q hq
    · have hO1 : bt O v = true := by cases hc : bt O v <;> simp_all
      have hT1 : bt T v = false := by cases hc : bt T v <;> simp_all
      exact (h.cl v hv hO1 hT1 q hq).trans h'.base
  · refine pop_lt (fun v hv hb => ?_) (fun e => ?_)
    · rw [bt_and, bt_not] at hb ⊢
      have e := hd v hv
      cases hc1 : bt O v <;> cases hc2 : bt T v <;> cases hc3 : bt O' v <;> cases hc4 : bt T' v <;> simp_all
    · have e1 : bt (O &&& ~~~ T) (tz T) = bt (O' &&& ~~~ T') (tz T) := by rw [e]
      have e2 := hd _ hk
      have hO := h.todo _ hk h1
      rw [bt_and, bt_not, bt_and, bt_not, h1, hO] at e1
      simp [hk] at e1
      rw [hO] at e2
      simp at e2
      rw [e2.1, e2.2] at e1
      simp at e1
def gm (o t : Value) : Nat := 64 - pop (BitVec.ofNat 64 (bvOf o) &&& ~~~ BitVec.ofNat 64 (bvOf t))
theorem gm_un (O T : BitVec 64) : gm (.int .u64 (un O)) (.int .u64 (un T)) = 64 - pop (O &&& ~~~ T) := by
  unfold gm; rw [bvOf_un, bvOf_un]; simp
/-- A closed set around another one. -/
def RetGen (M : Mo) (N : Nat) (F : BitVec 64) (e : Ending) (w w' : World) : Prop := ∃ g, e = .returned (.tuple #[.int .u64 (un g), .int .i64 0]) ∧ Sub F g ∧ Sub g (allW N) ∧ (∀ v, v < N → bt g v = true → ∀ q, q < M.rel.length → Sub (nth (nth M.rel q) v) g) ∧ Ext w w'
set_option maxRecDepth 20000 in
set_option maxHeartbeats 4000000 in
theorem generated_any (M : Mo) (va ra : Option Addr) (vc rc : Nat) (F : BitVec 64) (N : Nat) (w : World) (hm : RM w va ra M) (ok : MoOk M N) (hF : F &&& ~~~ allW N = 0#64) (hT : Tab w) :
    Calls Tryd.prog 9 #[.agg #[.int .i64 M.worlds, .slice va M.val.length vc, .slice ra M.rel.length rc], .int .u64 (un F)] w fun e w' => RetGen M N F e w w' := by
  have hE0 : Ext w (w.alloc (.cells #[.int .i64 M.worlds, .slice va M.val.length vc, .slice ra M.rel.length rc] 25)) := (Ext.refl w).alloc _
  have hbx := MoBox.new w M.worlds M.val M.rel va vc ra rc 25
  have hm0 := hm.ext hE0
  have HM0 := Lib.hid hm0
  have HT := Lib.hid (hT.ext hE0)
  obtain ⟨m0, m1, m2⟩ := hbx
  dsimp only at m0 m1 m2
  have HE := Lib.hid hE0
  have hck : moCheck M = 0 := ok.check
  have HCK := Lib.hid hck
  have HALL : Hid (∀ w, Calls Tryd.prog 30 #[.int .i64 M.worlds] w fun e w' => e = .returned (.int .u64 (un (allW N))) ∧ w = w') := by rw [ok.worlds]; exact Lib.hid fun w => all_any N w
  have HF := Lib.hid hF
  have hq2 : (F &&& ~~~ allW N != 0#64) = false := by simp [hF]
  have HO := Lib.hid ok
  have hN64 := ok.most
  have hr4 := ok.rel
  clear hm hE0 hT hF ok hck
  go_enter Tryd.func9, Tryd.ntmps9
  go_wp2_with (first | (go_at_call 28; refine (modelCheck_any M va ra vc rc _ hm0).mono ?_; rintro e w1 ⟨rfl, hE1⟩; rw [HCK.out]; have q0 := hE1.cell m0; have q1 := hE1.cell m1; have q2 := hE1.cell m2; have HX := Lib.hid (HE.out.trans hE1); have HM1 := Lib.hid (HM0.out.ext hE1); have HT1 := Lib.hid (HT.out.ext hE1)) | (go_at_call 30; refine (HALL.out _).mono ?_; rintro _ _ ⟨rfl, rfl⟩))
  have hst : GenO M N F F F := ⟨Sub.refl _, andNot_zero.1 HF.out, Sub.refl _, fun v _ h1 h2 => by rw [h1] at h2; cases h2⟩
  go_loop [7, 8] (fun o t => ∃ O T, o = .int .u64 (un O) ∧ t = .int .u64 (un T) ∧ Hid (GenO M N F O T)) (fun o t => gm o t)
  case atStart => exact ⟨F, F, rfl, rfl, hst⟩
  case round =>
    obtain ⟨O, T, rfl, rfl, hG⟩ := hrel
    by_cases hT0 : T = 0#64
    · have hq3 : (T != 0#64) = false := by simp [hT0]
      have HT0 := Lib.hid hT0
      clear hT0
      go_wp2
      go_ret2
      refine ⟨O, rfl, hG.out.base, hG.out.inN, fun v hv hb q hq => hG.out.cl v hv hb (by rw [HT0.out, bt_zero]) q hq, HX.out⟩
    · have hq3 : (T != 0#64) = true := by simp [hT0]
      have hcN : tz T < N := by
        obtain ⟨hk, h1, _⟩ := tz_spec hT0
        have := hG.out.inN _ hk (hG.out.todo _ hk h1)
        rw [bt_allW] at this; simp at this; exact this.2
      have HT0 := Lib.hid hT0
      clear hT0
      go_wp2_with (go_at_call 31; refine (tz_any T HT0.out _ HT1.out).mono ?_; rintro _ _ ⟨rfl, rfl⟩)
      generalize hc : tz T = c at *
      have HC := Lib.hid hc
      clear hc
      generalize hT1' : T &&& (T - 1#64) = T1 at *
      have HT1E := Lib.hid hT1'
      clear hT1'
      have hI0 : GenI M N O T1 c 0 O T1 := ⟨Sub.refl _, hG.out.inN, by
        rw [← HT1E.out]; exact (Sub.refl T).and1.trans hG.out.todo, fun v _ => rfl, fun j hj => absurd hj (Nat.not_lt_zero _)⟩
      go_loop [7, 8, 36] (fun o t i => ∃ q O' T', q ≤ M.rel.length ∧ i = .int .i64 (q : Int) ∧ o = .int .u64 (un O') ∧ t = .int .u64 (un T') ∧ Hid (GenI M N O T1 c q O' T')) (fun _ _ i => M.rel.length - (intOf i).toNat)
      case atStart => exact ⟨0, O, T1, Nat.zero_le _, rfl, rfl, rfl, hI0⟩
      case round =>
        obtain ⟨q, O', T', hq, rfl, rfl, rfl, hI⟩ := hrel
        by_cases hql : q < M.rel.length
        · obtain ⟨b, off, a', c', rfl, hb, hc2, hu⟩ := HM1.out.rel.get hql
          have hrl : (nth M.rel q).length = N := (row_in HO.out hql).1
          obtain ⟨b2, off2, rfl, hb2, hc3⟩ := hu.get (k := c) (by omega)
          have hin1 : (0 : Int) ≤ (c : Int) := by omega
          have hin2 : (c : Int) < ((nth M.rel q).length : Int) := by omega
          have HNX := Lib.hid (hI.out.step HO.out hql hcN)
          clear hu
          go_wp2
          go_round
          case rel => exact ⟨q + 1, _, _, hql, by go_num, rfl, rfl, HNX.out⟩
          case measure => simp [intOf]; omega
        · obtain rfl : q = M.rel.length := by omega
          have hn := hG.out.next HT0.out (O' := O') (T' := T') (by rw [HC.out, HT1E.out]; exact hI.out)
          have HN1 := Lib.hid hn.1
          have HN2 := Lib.hid hn.2
          clear hn
          go_wp2
          go_round
          case rel => exact ⟨O', T', rfl, rfl, HN1.out⟩
          case measure =>
            rw [gm_un, gm_un]
            have := pop_le (O' &&& ~~~ T')
            have := HN2.out
            omega
end Wt
