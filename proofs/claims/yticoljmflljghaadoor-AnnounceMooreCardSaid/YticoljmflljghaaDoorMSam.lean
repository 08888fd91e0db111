/- Walk: wittingref13.Same, of two models that read alike. -/
import Derived.Test.YticoljmflljghaaDoorMRef
import Derived.Test.YticoljmflljghaaDoorMArr
import Derived.Test.YticoljmflljghaaDoorMSeq
namespace Wt
open Go Go.RowKit Go.Maps Go.Proofs Fm

set_option maxRecDepth 20000 in
set_option maxHeartbeats 2000000 in
theorem sameM_any (M : Mo) (va ra vb rb : Option Addr) (vc rc vd rd : Nat) (w : World) (hm : RM w va ra M) (hn : RM w vb rb M) :
    Calls Tryd.prog 20 #[.agg #[.int .i64 M.worlds, .slice va M.val.length vc, .slice ra M.rel.length rc], .agg #[.int .i64 M.worlds, .slice vb M.val.length vd, .slice rb M.rel.length rd]] w fun e w' => e = .returned (.bool true) ∧ Ext w w' := by
  have hE0 : Ext w ((w.alloc (.cells #[.int .i64 M.worlds, .slice va M.val.length vc, .slice ra M.rel.length rc] 25)).alloc (.cells #[.int .i64 M.worlds, .slice vb M.val.length vd, .slice rb M.rel.length rd] 25)) := ((Ext.refl w).alloc _).alloc _
  have hb1 := (MoBox.new w M.worlds M.val M.rel va vc ra rc 25).ext ((Ext.refl _).alloc (.cells #[.int .i64 M.worlds, .slice vb M.val.length vd, .slice rb M.rel.length rd] 25))
  have hb2 := MoBox.new (w.alloc (.cells #[.int .i64 M.worlds, .slice va M.val.length vc, .slice ra M.rel.length rc] 25)) M.worlds M.val M.rel vb vd rb rd 25
  rw [show (w.alloc (.cells #[.int .i64 M.worlds, .slice va M.val.length vc, .slice ra M.rel.length rc] 25)).heap.size = w.heap.size + 1 by simp] at hb2
  have hm0 := hm.ext hE0
  have hn0 := hn.ext hE0
  have HE := Lib.hid hE0
  have hww : (M.worlds != M.worlds) = false := by simp
  have hrl := hm.rel.len
  clear hm hn hE0
  go_enter Tryd.func20, Tryd.ntmps20
  go_wp2_with fail
  generalize (w.alloc (.cells #[.int .i64 M.worlds, .slice va M.val.length vc, .slice ra M.rel.length rc] 25)).alloc (.cells #[.int .i64 M.worlds, .slice vb M.val.length vd, .slice rb M.rel.length rd] 25) = W0 at *
  obtain ⟨m0, m1, m2⟩ := hb1
  obtain ⟨n0, n1, n2⟩ := hb2
  dsimp only at m0 m1 m2 n0 n1 n2
  refine (r13Same_any va vb vc vd M.val M.val _ hm0.val hn0.val).mono ?_
  rintro _ w1 ⟨rfl, hQ⟩
  rw [decide_eq_true (rfl : M.val = M.val)]
  dsimp only
  have hX1 := hQ.ext
  have p0 := hX1.cell m0
  have p1 := hX1.cell m1
  have p2 := hX1.cell m2
  have q0 := hX1.cell n0
  have q1 := hX1.cell n1
  have q2 := hX1.cell n2
  have hm1 := Lib.hid (hm0.ext hX1)
  have hn1 := Lib.hid (hn0.ext hX1)
  have HX1 := Lib.hid hX1
  clear m0 m1 m2 n0 n1 n2 hQ hX1 hm0 hn0
  go_wp2_with fail
  go_loopw [5] (fun i wr => ∃ k : Nat, k ≤ M.rel.length ∧ i = .int .i64 (k : Int) ∧ Ext w1 wr) (fun i _ => M.rel.length - (intOf i).toNat)
  case atStart => exact ⟨0, Nat.zero_le _, rfl, Ext.refl _⟩
  case round =>
    obtain ⟨k, hk, rfl, hE⟩ := hrel
    have m0 := hE.cell p0
    have m1 := hE.cell p1
    have m2 := hE.cell p2
    have n0 := hE.cell q0
    have n1 := hE.cell q1
    have n2 := hE.cell q2
    by_cases hlt : k < M.rel.length
    · obtain ⟨b1, o1, a1, c1, rfl, hb1, hc1, hu1⟩ := (hm1.out.rel.ext hE).get hlt
      obtain ⟨b2, o2, a2, c2, rfl, hb2, hc2, hu2⟩ := (hn1.out.rel.ext hE).get hlt
      have hul := hu1.len
      have HD : Hid (∀ w', Ext wr w' → Calls Tryd.prog 25 #[.slice a1 (nth M.rel k).length c1, .slice a2 (nth M.rel k).length c2] w' fun e w'' => e = .returned (.bool true) ∧ Qu w' w'') := Lib.hid fun w' e => by
        have := r13Same_any a1 a2 c1 c2 (nth M.rel k) (nth M.rel k) w' (hu1.ext e) (hu2.ext e)
        rw [decide_eq_true (rfl : nth M.rel k = nth M.rel k)] at this
        exact this
      have HEr := Lib.hid hE
      clear hu1 hu2 hE p0 p1 p2 q0 q1 q2
      go_wp2_with fail
      go_quiet ((go_at_call 25; exact Calls.quiet_of (HD.out _ ((Ext.refl _).drewN _))))
      go_wp2
      go_roundw
      case rel => exact ⟨k + 1, hlt, by go_num, HEr.out.drewN _⟩
      case measure => simp [intOf]; omega
    · have HEr := Lib.hid hE
      clear hE p0 p1 p2 q0 q1 q2
      go_wp2
      go_ret
      exact ⟨rfl, HE.out.trans (HX1.out.trans HEr.out)⟩
end Wt

/- Plain laws of announcements: two in a row are one restriction; what repetition leaves; whether and then restriction. -/
namespace Wt
open Go Go.RowKit Go.Proofs Fm

/-! Two announcements. -/
theorem seq_two {M : Mo} {f g : List Nd} (hM : moCheck M = 0) (hu : upErr M f = 0) : seqOf M [f, g] = if upErr (upM M f) g ≠ 0 then (⟨0, [], []⟩, [], 1, upErr (upM M f) g) else (upM (upM M f) g, thr (upL M f) (upL (upM M f) g), 2, 0) := by
  obtain ⟨N, ok, -, -, -, hlt, -, -⟩ := up_ok hu
  unfold seqOf
  rw [if_neg (by simp [hM]), show M.worlds.toNat = N by rw [ok.worlds]; exact Int.toNat_natCast N, seqR_ok hu, thr_range hlt]
  rfl
/-- The worlds of the first model that the worlds of a set of the second were, as the law gathers them. -/
def gatS (s : BitVec 64) (l : List Nat) : Nat → BitVec 64
  | 0 => 0#64
  | k + 1 => gatS s l k ||| ((s >>> k &&& 1#64) <<< nth l k)
theorem bt_gatS (s : BitVec 64) (l : List Nat) (hl : ∀ i, i < l.length → nth l i < 64) : ∀ k, k ≤ l.length → ∀ i, bt (gatS s l k) i = true ↔ ∃ j, j < k ∧ bt s j = true ∧ nth l j = i
  | 0, _, i => by simp [gatS, bt_zero]
  | k + 1, hk, i => by
    have ih := bt_gatS s l hl k (by omega) i
    have hlk := hl k (by omega)
    have e : bt ((s >>> k &&& 1#64) <<< nth l k) i = (decide (i = nth l k) && bt s k) := by
      simp only [bt, BitVec.getLsbD_shiftLeft, BitVec.getLsbD_and, BitVec.getLsbD_ushiftRight, BitVec.getLsbD_one]
      by_cases h : i = nth l k
      · subst h; simp [hlk]
      · by_cases h2 : i < nth l k
        · simp [h, h2]
        · have : ¬ (i - nth l k = 0) := by omega
          simp [h, this]
    unfold gatS
    rw [bt_or, e, Bool.or_eq_true, ih]
    constructor
    · rintro (⟨j, h1, h2, h3⟩ | h)
      · exact ⟨j, by omega, h2, h3⟩
      · simp only [Bool.and_eq_true, decide_eq_true_eq] at h
        exact ⟨k, by omega, h.2, h.1.symm⟩
    · rintro ⟨j, h1, h2, h3⟩
      by_cases hj : j = k
      · subst hj; right; simp [h2, h3]
      · exact .inl ⟨j, by omega, h2, h3⟩
/-- Two announcements restrict the model to the gathered worlds. -/
theorem merge_law {M : Mo} {f g : List Nd} (hu : upErr M f = 0) (hg : reqErr (upM M f) g = 0) :
    let S := gatS (holdsOf (upM M f) g) (upL M f) (upL M f).length
    (S = 0#64 → upErr (upM M f) g = 11) ∧ (S ≠ 0#64 → upErr (upM M f) g = 0 ∧ resErr M S = 0 ∧ resM M S = upM (upM M f) g ∧ resL M S = natI (thr (upL M f) (upL (upM M f) g))) := by
  intro S
  obtain ⟨N, ok, ok2, e1, e2, hlt, hle, hrq⟩ := up_ok hu
  have h64 := ok.most
  have hl64 : ∀ i, i < (upL M f).length → nth (upL M f) i < 64 := fun i hi => by have := hlt i hi; omega
  have hS : ∀ i, bt S i = true ↔ ∃ j, j < (upL M f).length ∧ bt (holdsOf (upM M f) g) j = true ∧ nth (upL M f) j = i := bt_gatS _ _ hl64 _ (Nat.le_refl _)
  have hin := holds_in ok2 g
  refine ⟨fun h0 => ?_, fun h0 => ?_⟩
  · have hz : holdsOf (upM M f) g = 0#64 := bt_ext fun k hk => by
      rw [bt_zero]
      cases hb : bt (holdsOf (upM M f) g) k
      · rfl
      · have h2 := hin k hk hb
        rw [bt_allW] at h2; simp at h2
        have h3 := (hS (nth (upL M f) k)).2 ⟨k, h2.2, hb, rfl⟩
        rw [h0, bt_zero] at h3; cases h3
    unfold upErr; rw [if_neg (by simp [hg]), if_pos hz]
  · have hnz : holdsOf (upM M f) g ≠ 0#64 := fun e => h0 (bt_ext fun k hk => by
      rw [bt_zero]
      cases hb : bt S k
      · rfl
      · obtain ⟨j, _, hj, _⟩ := (hS k).1 hb
        rw [e, bt_zero] at hj; cases hj)
    have hu2 := upErr_mk hg hnz
    have hSN : Sub S (allW N) := fun k hk hb => by
      obtain ⟨j, hj, _, rfl⟩ := (hS k).1 hb
      have := hlt j hj
      rw [bt_allW]; simp [hk, this]
    obtain ⟨r1, r2, r3⟩ := res_ok ok hSN h0
    have hm : memL S = thr (upL M f) (upL (upM M f) g) := by
      have e4 : upL (upM M f) g = memL (holdsOf (upM M f) g) := if_pos hu2
      rw [e4, e2]
      refine memL_thr (by rw [← e2]; exact hin) fun i => ?_
      rw [hS i, e2]
    have e4 : upL (upM M f) g = memL (holdsOf (upM M f) g) := if_pos hu2
    have e5 : upM (upM M f) g = arrM (upM M f) (upL (upM M f) g) := by rw [e4]; exact if_pos hu2
    refine ⟨hu2, r1, ?_, ?_⟩
    · have key := arr_arr (M := M) (ws := upL M f) (vs := upL (upM M f) g) (Nat.le_trans hle h64) (by rw [e4]; exact memL_len _) (fun i hi => by
        rw [e4] at hi ⊢
        exact memL_lt hin hi)
      rw [r2, hm, e5, ← key, ← e1]
    · rw [r3, hm]
/-! Repetition. -/
theorem rep_law {f : List Nd} : ∀ (k n : Nat) (A : Mo) (ws : List Nat), MoOk A ws.length → reqErr A f = 0 → ws.length ≤ k →
    ∃ A' ws' n', repR f k A ws n = (A', ws', n + n') ∧ MoOk A' ws'.length ∧ reqErr A' f = 0 ∧ (holdsOf A' f = 0#64 ∨ holdsOf A' f = allW ws'.length) ∧ n' + ws'.length ≤ ws.length ∧ ∀ i, seqR A ws (List.replicate n' f) i = (A', ws', i + n', 0)
  | 0, n, A, ws, ok, _, hk => by have := ok.one; omega
  | k + 1, n, A, ws, ok, hq, hk => by
    by_cases h : holdsOf A f = 0#64 ∨ holdsOf A f = allW ws.length
    · exact ⟨A, ws, 0, repR_stop ok hk h, ok, hq, h, by omega, fun i => rfl⟩
    · have h1 : holdsOf A f ≠ 0#64 := fun e => h (.inl e)
      have h2 : holdsOf A f ≠ allW ws.length := fun e => h (.inr e)
      obtain ⟨j, hj, hgo⟩ := repR_go ok hk h1 h2 (n := n) (ws := ws)
      obtain rfl : k = j := by omega
      have hu := upErr_mk hq h1
      obtain ⟨N, ok0, ok2, -, -, -, hle, hrq⟩ := up_ok hu
      have hN : N = ws.length := by
        have e1 := ok0.worlds
        have e2 := ok.worlds
        omega
      have hne : (upL A f).length ≠ ws.length := fun e => h2 ((up_all ok hu).1 e)
      obtain ⟨A', ws', n', g1, g2, g3, g4, g5, g6⟩ := rep_law k (n + 1) (upM A f) (thr ws (upL A f)) (by rw [thr_len]; exact ok2) ((hrq f).trans hq) (by rw [thr_len]; omega)
      rw [thr_len] at g5
      refine ⟨A', ws', n' + 1, by rw [hgo, g1]; simp; omega, g2, g3, g4, by omega, fun i => ?_⟩
      rw [List.replicate_succ, seqR_ok hu, g6]
      simp; omega
/-! Whether. -/
theorem wh_law {M : Mo} {N : Nat} (ok : MoOk M N) {f : List Nd} (h : reqErr M f = 0) : arrM (whM M f) (memL (holdsOf M f)) = arrM M (memL (holdsOf M f)) := by
  have e : whM M f = ⟨M.worlds, M.val, M.rel.map (whRow (holdsOf M f))⟩ := if_neg (by simp [h])
  rw [e]
  unfold arrM
  simp only [List.map_map, Mo.mk.injEq, true_and]
  refine List.map_congr_left fun r hr => ?_
  simp only [Function.comp]
  refine nth_ext (by simp) fun k hk => ?_
  have hk : k < (memL (holdsOf M f)).length := by simpa using hk
  rw [nth_mapN _ _ hk, nth_mapN _ _ hk]
  have hlt := memL_lt (holds_in ok f) hk
  have hb := (mem_memL.1 (nth_mem hk)).2
  have hrl := ok.row r hr
  have hrow : nth (whRow (holdsOf M f) r) (nth (memL (holdsOf M f)) k) = nth r (nth (memL (holdsOf M f)) k) &&& holdsOf M f := by
    unfold whRow
    rw [nth_mapN _ _ (by simp; omega), nth_range (by omega), if_pos hb]
  rw [hrow]
  refine bt_ext fun i hi => ?_
  rw [bt_pullL _ _ (memL_len _), bt_pullL _ _ (memL_len _), bt_and]
  by_cases hil : i < (memL (holdsOf M f)).length
  · rw [(mem_memL.1 (nth_mem hil)).2]; simp
  · simp [hil]
end Wt
