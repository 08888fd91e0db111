/- Walks: the closures of product.Update: where. -/
import Derived.Test.YtbeaagnahldefaaDoorM8Ay
import Derived.Test.YtbeaagnahldefaaDoorM8Aq
import Derived.Test.YtbeaagnahldefaaDoorM8Ap
import Derived.Test.YtbeaagnahldefaaDoorM8Am
import Derived.Test.YtbeaagnahldefaaDoorM8Au
import Derived.Test.YtbeaagnahldefaaDoorM8Aj
import Derived.ProofKit
import Derived.Deep.Matrix
import Derived.Deep.Strs
import Derived.Deep.Slices
import Derived.SizedLaws
import Derived.Test.YtbeaagnahldefaaDoorRows
import Derived.LaidMore
import Derived.OpenShut
namespace Wt
open Go Go.RowKit Go.Maps Go.Proofs Fm

theorem setTo_next (p : Nat → Bool) {k : Nat} (_hk : k < 64) : setTo p (k + 1) = if p k = true then setTo p k ||| 1#64 <<< k else setTo p k := by
  refine bt_ext fun j hj => ?_
  rw [bt_setTo _ hj]
  by_cases hp : p k = true
  · rw [if_pos hp, bt_or, bt_setTo _ hj, bt_shl1]
    by_cases h1 : j = k
    · subst h1; simp [hp, hj]
    · by_cases h2 : j < k
      · simp [h1, h2, Nat.lt_succ_of_lt h2]
      · have h3 : ¬ j < k + 1 := by omega
        simp [h1, h2, h3]
  · rw [if_neg hp, bt_setTo _ hj]
    by_cases h1 : j = k
    · subst h1; simp [hp]
    · by_cases h2 : j < k
      · simp [h2, Nat.lt_succ_of_lt h2]
      · have h3 : ¬ j < k + 1 := by omega
        simp [h2, h3]
theorem RPe.get' {w : World} {a : Option Addr} {l : List (Nat × Nat)} (r : RPe w a l) {k : Nat} (hk : k < l.length) : ∃ b off, a = some ⟨b, off, none⟩ ∧ b < w.heap.size ∧ w.cell? ⟨b, off + k * 2, none⟩ = some (.int .i64 ((nth l k).1 : Int)) ∧ w.cell? ⟨b, off + k * 2 + 1, none⟩ = some (.int .i64 ((nth l k).2 : Int)) :=
  let ⟨b, off, e, c, d⟩ := r.at_ k hk; ⟨b, off, e, World.block_lt_of_cell? w _ c, c, d⟩
set_option maxRecDepth 20000 in
set_option maxHeartbeats 2000000 in
theorem where_any (F : Nat) (caps : List Value) (P : Nat × Nat → Bool) (l : List (Nat × Nat)) (la : Option Addr) (lc b : Nat) (w : World) (hr : RPe w la l) (hb : w.cell? ⟨b, 0, none⟩ = some (.slice la l.length lc)) (h64 : l.length ≤ 64)
    (hF : ∀ args W, (callFunc F args).run Tryd.prog W = .ok (.enter F args) W)
    (hp : ∀ W k, Ext w W → k < l.length → Calls Tryd.prog F (.agg #[.int .i64 ((nth l k).1 : Int), .int .i64 ((nth l k).2 : Int)] :: caps).toArray W fun e w' => e = .returned (.bool (P (nth l k))) ∧ Ext W w') :
    Calls Tryd.prog 63 #[.func (.func F) #[] caps.toArray, .pointer (some ⟨b, 0, none⟩)] w fun e w' => e = .returned (.int .u64 (un (setTo (fun i => P (nth l i)) l.length))) ∧ Ext w w' := by
  have HR := Lib.hid hr
  have HP := Lib.hid hp
  have hln := hr.len
  have hbl := World.block_lt_of_cell? _ _ hb
  dsimp only at hbl
  have HN : Hid (∀ k, k < l.length → setTo (fun i => P (nth l i)) (k + 1) = if P (nth l k) = true then setTo (fun i => P (nth l i)) k ||| 1#64 <<< k else setTo (fun i => P (nth l i)) k) := Lib.hid fun k hk => setTo_next _ (by omega)
  have HZ0 : Hid (setTo (fun i => P (nth l i)) 0 = 0#64) := Lib.hid (by
    refine bt_ext fun j hj => ?_
    rw [bt_setTo _ hj, bt_zero]; simp)
  clear hr hp
  obtain ⟨V, hV⟩ : ∃ V : Nat → BitVec 64, V = fun k => setTo (fun i => P (nth l i)) k := ⟨_, rfl⟩
  have HNV : Hid (∀ k, k < l.length → V (k + 1) = if P (nth l k) = true then V k ||| 1#64 <<< k else V k) := Lib.hid (by rw [hV]; exact HN.out)
  have HZV : Hid (V 0 = 0#64) := Lib.hid (by rw [hV]; exact HZ0.out)
  have hVe : setTo (fun i => P (nth l i)) l.length = V l.length := by rw [hV]
  rw [hVe]
  clear HN HZ0 hV hVe
  go_enter Tryd.func63, Tryd.ntmps63
  go_wp2_with fail
  clear hb hbl
  go_loopw [4, 9] (fun t i wr => ∃ k : Nat, k ≤ l.length ∧ i = .int .i64 (k : Int) ∧ t = .int .u64 (un (V k)) ∧ Hid (Ext w wr)) (fun _ i _ => l.length - (RowKit.intOf i).toNat)
  case atStart => exact ⟨0, Nat.zero_le _, rfl, by rw [HZV.out]; rfl, Lib.hid (Ext.refl _)⟩
  case round =>
    obtain ⟨k, hk, rfl, rfl, HX⟩ := hrel
    by_cases hkl : k < l.length
    · obtain ⟨b1, f1, rfl, hb1, h0, h1⟩ := (HR.out.ext HX.out).get' hkl
      have hk64 : k < 64 := by omega
      have hE1 : Ext w (wr.alloc (.cells #[.int .i64 ((nth l k).1 : Int), .int .i64 ((nth l k).2 : Int)] 99)) := HX.out.alloc _
      have HC := Lib.hid (HP.out _ k hE1 hkl)
      have HE1 := Lib.hid hE1
      have HVK := Lib.hid (HNV.out k hkl)
      clear hE1
      generalize P (nth l k) = y at *
      cases y
      · have HVN : Hid (V (k + 1) = V k) := Lib.hid (by rw [HVK.out]; rfl)
        go_wp2_with fail
        refine HC.out.mono ?_
        rintro _ w5 ⟨rfl, hE5⟩
        have HE5 := Lib.hid (HE1.out.trans hE5)
        clear hE5 h0 h1
        dsimp only
        go_wp2_with fail
        go_roundw
        case rel => exact ⟨k + 1, hkl, by go_num, by rw [HVN.out], HE5⟩
        case measure => simp [RowKit.intOf]; omega
      · have HVN : Hid (V (k + 1) = V k ||| 1#64 <<< k) := Lib.hid (by rw [HVK.out]; rfl)
        go_wp2_with fail
        refine HC.out.mono ?_
        rintro _ w5 ⟨rfl, hE5⟩
        have HE5 := Lib.hid (HE1.out.trans hE5)
        clear hE5 h0 h1
        dsimp only
        go_wp2_with fail
        go_roundw
        case rel => exact ⟨k + 1, hkl, by go_num, by rw [HVN.out], HE5⟩
        case measure => simp [RowKit.intOf]; omega
    · obtain rfl : k = l.length := by omega
      go_wp2_with fail
      go_ret
      exact ⟨rfl, HX.out⟩
end Wt

/- Walks: the closures of product.Update: the facts, the relations. -/
namespace Wt
open Go Go.RowKit Go.Maps Go.Proofs Fm

theorem cf_pu2 (args : Array Value) (W : World) : (callFunc 65 args).run Tryd.prog W = .ok (.enter 65 args) W := by
  exact enters_of Tryd.func65 (by kernel_rfl) rfl args W
theorem cf_pu3 (args : Array Value) (W : World) : (callFunc 66 args).run Tryd.prog W = .ok (.enter 66 args) W := by
  exact enters_of Tryd.func66 (by kernel_rfl) rfl args W
set_option maxRecDepth 20000 in
set_option maxHeartbeats 2000000 in
/-- value[p.Event]>>p.World&1 == 1. -/
theorem pu2_any (X : List (BitVec 64)) (xa : Option Addr) (xc b v e : Nat) (w : World) (hx : RU w xa X) (hb : w.cell? ⟨b, 0, none⟩ = some (.slice xa X.length xc)) (he : e < X.length) (_hv : v < 64) :
    Calls Tryd.prog 65 #[.agg #[.int .i64 (v : Int), .int .i64 (e : Int)], .pointer (some ⟨b, 0, none⟩)] w fun r w' => r = .returned (.bool (bt (nth X e) v)) ∧ Ext w w' := by
  have hE : Ext w (w.alloc (.cells #[.int .i64 (v : Int), .int .i64 (e : Int)] 99)) := (Ext.refl w).alloc _
  have hbl := World.block_lt_of_cell? _ _ hb
  obtain ⟨b1, f1, rfl, hb1, hc1⟩ := hx.get he
  have hb' := hE.cell hb
  have hc' := hE.cell hc1
  have hbl' := World.block_lt_of_cell? _ _ hb'
  have hb1' := World.block_lt_of_cell? _ _ hc'
  have p0 : (w.alloc (.cells #[.int .i64 (v : Int), .int .i64 (e : Int)] 99)).cell? ⟨w.heap.size, 0, none⟩ = some (.int .i64 (v : Int)) := by simp
  have p1 : (w.alloc (.cells #[.int .i64 (v : Int), .int .i64 (e : Int)] 99)).cell? ⟨w.heap.size, 1, none⟩ = some (.int .i64 (e : Int)) := by simp
  have pl := World.block_lt_of_cell? _ _ p0
  have HE := Lib.hid hE
  have hu := bit_un (nth X e) v
  dsimp only at hbl hbl' hb1' pl
  have hln := hx.len
  clear hE hx hb hc1 hb1 hbl
  generalize nth X e = S at *
  cases hbt : bt S v
  all_goals
    rw [hbt] at hu
    simp only [b01I, if_true, if_false, Bool.false_eq_true] at hu
    clear hbt
    go_enter Tryd.func65, Tryd.ntmps65
    go_wp2_with fail
    generalize w.alloc (.cells #[.int .i64 (v : Int), .int .i64 (e : Int)] 99) = w1 at *
    go_quiet (fail)
    go_wp2_with fail
    go_ret
    exact ⟨rfl, HE.out.drewN _⟩
set_option maxRecDepth 20000 in
set_option maxHeartbeats 4000000 in
/-- r[p.World]>>q.World&1 == 1 && a.Rel[i][p.Event]>>q.Event&1 == 1. -/
theorem pu3_any (R : List (BitVec 64)) (L : List (List (BitVec 64))) (ra sa : Option Addr) (rc sc b1 b2 b3 b4 i pv pe qv qe : Nat) (w : World) (hR : RU w ra R) (hL : RR w sa L)
    (h1 : w.cell? ⟨b1, 0, none⟩ = some (.slice ra R.length rc)) (h20 : w.cell? ⟨b2, 0, none⟩ = some (.int .i64 (pv : Int))) (h21 : w.cell? ⟨b2, 1, none⟩ = some (.int .i64 (pe : Int)))
    (h3 : w.cell? ⟨b3, 2, none⟩ = some (.slice sa L.length sc)) (h4 : w.cell? ⟨b4, 0, none⟩ = some (.int .i64 (i : Int))) (hpv : pv < R.length) (hi : i < L.length) (hpe : pe < (nth L i).length) (_hqv : qv < 64) (_hqe : qe < 64) :
    Calls Tryd.prog 66 #[.agg #[.int .i64 (qv : Int), .int .i64 (qe : Int)], .pointer (some ⟨b1, 0, none⟩), .pointer (some ⟨b2, 0, none⟩), .pointer (some ⟨b3, 0, none⟩), .pointer (some ⟨b4, 0, none⟩)] w fun r w' => r = .returned (.bool (bt (nth R pv) qv && bt (nth (nth L i) pe) qe)) ∧ Ext w w' := by
  have hE : Ext w (w.alloc (.cells #[.int .i64 (qv : Int), .int .i64 (qe : Int)] 99)) := (Ext.refl w).alloc _
  have p0 : (w.alloc (.cells #[.int .i64 (qv : Int), .int .i64 (qe : Int)] 99)).cell? ⟨w.heap.size, 0, none⟩ = some (.int .i64 (qv : Int)) := by simp
  have p1 : (w.alloc (.cells #[.int .i64 (qv : Int), .int .i64 (qe : Int)] 99)).cell? ⟨w.heap.size, 1, none⟩ = some (.int .i64 (qe : Int)) := by simp
  have pl := World.block_lt_of_cell? _ _ p0
  obtain ⟨g1, f1, rfl, hg1, hc1⟩ := hR.get hpv
  obtain ⟨g2, f2, a2, c2, rfl, hg2, hc2, hu2⟩ := hL.get hi
  obtain ⟨g3, f3, rfl, hg3, hc3⟩ := hu2.get hpe
  have hln := hR.len
  have hll := hL.len
  have hul := hu2.len
  have k1 := hE.cell h1
  have k20 := hE.cell h20
  have k21 := hE.cell h21
  have k3 := hE.cell h3
  have k4 := hE.cell h4
  have kc1 := hE.cell hc1
  have kc2 := hE.cell hc2
  have kc3 := hE.cell hc3
  have l1 := World.block_lt_of_cell? _ _ k1
  have l2 := World.block_lt_of_cell? _ _ k20
  have l3 := World.block_lt_of_cell? _ _ k3
  have l4 := World.block_lt_of_cell? _ _ k4
  have m1 := World.block_lt_of_cell? _ _ kc1
  have m2 := World.block_lt_of_cell? _ _ kc2
  have m3 := World.block_lt_of_cell? _ _ kc3
  have HE := Lib.hid hE
  have hv1 := bit_un (nth R pv) qv
  have hv2 := bit_un (nth (nth L i) pe) qe
  dsimp only at pl l1 l2 l3 l4 m1 m2 m3
  clear hE hR hL h1 h20 h21 h3 h4 hg1 hg2 hg3 hc1 hc2 hc3 hu2
  generalize nth R pv = S at *
  generalize nth (nth L i) pe = T at *
  generalize nth L i = U at *
  cases hb1 : bt S qv <;> cases hb2 : bt T qe
  all_goals
    rw [hb1] at hv1
    rw [hb2] at hv2
    simp only [b01I, if_true, if_false, Bool.false_eq_true] at hv1 hv2
    clear hb1 hb2
    go_enter Tryd.func66, Tryd.ntmps66
    go_wp2_with fail
    generalize w.alloc (.cells #[.int .i64 (qv : Int), .int .i64 (qe : Int)] 99) = w1 at *
    go_quiet (fail)
    go_wp2_with fail
    go_ret
    exact ⟨rfl, HE.out.drewN _⟩
end Wt

/- Walk: announce.Update (as in XUpd, without the reference). -/
namespace Wt
open Go Go.RowKit Go.Maps Go.Proofs Fm

set_option maxRecDepth 20000 in
set_option maxHeartbeats 4000000 in
theorem update_any (M : Mo) (va ra : Option Addr) (vc rc : Nat) (fa : Option Addr) (fc : Nat) (f : List Nd) (w : World) (hm : RM w va ra M) (hf : RN w fa f) (hT : Tab w) :
    Calls Tryd.prog 20 #[.agg #[.int .i64 M.worlds, .slice va M.val.length vc, .slice ra M.rel.length rc], .slice fa f.length fc] w fun e w' => RetRO (upM M f) (natI (upL M f)) (upErr M f) e w w' := by
  have hbx := MoBox.new w M.worlds M.val M.rel va vc ra rc 25
  have hE0 : Ext w ((w.alloc (.cells #[.int .i64 M.worlds, .slice va M.val.length vc, .slice ra M.rel.length rc] 25)).alloc (.cells #[.int .i64 0, .slice none 0 0, .slice none 0 0] 25)) := ((Ext.refl w).alloc _).alloc _
  have hbx0 := hbx.ext ((Ext.refl _).alloc (.cells #[.int .i64 0, .slice none 0 0, .slice none 0 0] 25))
  have hm0 := hm.ext hE0
  have hf0 := hf.ext hE0
  have HM0 := Lib.hid hm0
  have HT := Lib.hid (hT.ext hE0)
  obtain ⟨m0, m1, m2⟩ := hbx0
  dsimp only at m0 m1 m2
  have HE := Lib.hid hE0
  have HR := Lib.hid (OutAt.new1 w (.cells #[.int .i64 M.worlds, .slice va M.val.length vc, .slice ra M.rel.length rc] 25) (.int .i64 0) (.slice none 0 0) (.slice none 0 0) 25)
  clear hm hf hbx hE0 hT
  by_cases hM : reqErr M f = 0
  rotate_left
  · have hq : (reqErr M f != 0) = true := by simpa using hM
    have hn : upErr M f = reqErr M f := if_pos hM
    have hn2 : upM M f = ⟨0, [], []⟩ := if_neg (by rw [hn]; exact hM)
    have hn3 : upL M f = [] := if_neg (by rw [hn]; exact hM)
    clear hM
    have HN := Lib.hid hn
    have HN2 := Lib.hid hn2
    have HN3 := Lib.hid hn3
    clear hn hn2 hn3
    go_enter Tryd.func20, Tryd.ntmps20
    go_wp2_with ((go_at_call 53; refine (holds_any M va ra vc rc fa fc f _ hm0 hf0).mono ?_; rintro e w1 ⟨rfl, hE1⟩; obtain ⟨r0, r1, r2, rfz⟩ := HR.out.ext hE1; have f0 := rfz 0; have f1 := rfz 1; have f2 := rfz 2; have HO : Hid (OutAt w1 _ _ _ _) := Lib.hid ⟨r0, r1, r2, rfz⟩; clear rfz; have q0 := hE1.cell m0; have q1 := hE1.cell m1; have q2 := hE1.cell m2; have HE1 := Lib.hid (HE.out.trans hE1)))
    obtain ⟨d0, d1, d2, -⟩ := ((HO.out.set0 (.int .i64 0)).set1 (.slice none 0 0)).set2 (.slice none 0 0)
    have hEx : Ext w (((w1.setCell ⟨w.heap.size + 1, 0, none⟩ (.int .i64 0)).setCell ⟨w.heap.size + 1, 1, none⟩ (.slice none 0 0)).setCell ⟨w.heap.size + 1, 2, none⟩ (.slice none 0 0)) := ((HE1.out.setCell (by simp) _).setCell (by simp) _).setCell (by simp) _
    generalize (((w1.setCell ⟨w.heap.size + 1, 0, none⟩ (.int .i64 0)).setCell ⟨w.heap.size + 1, 1, none⟩ (.slice none 0 0)).setCell ⟨w.heap.size + 1, 2, none⟩ (.slice none 0 0)) = W2 at *
    refine bodyPost_ret (v := .tuple #[.agg #[(.int .i64 0), (.slice none 0 0), (.slice none 0 0)], .slice none 0 0, .int .i64 (reqErr M f)]) ?_ rfl ?_
    · rw [results_cell_two rfl]
      go_simp
    · exact ⟨none, none, none, 0, 0, 0, [], by rw [HN.out, HN2.out, HN3.out]; rfl, by rw [HN2.out]; exact FrM.zero _ _ _, fun w'' _ => by rw [HN3.out]; exact RI.nil _ _, hEx⟩
  have hq : (reqErr M f != 0) = false := by simp [hM]
  by_cases hs : holdsOf M f = 0#64
  · have hq2 : (holdsOf M f == 0#64) = true := by simp [hs]
    have hn : upErr M f = 11 := by unfold upErr; rw [if_neg (by simp [hM]), if_pos hs]
    have hn2 : upM M f = ⟨0, [], []⟩ := if_neg (by rw [hn]; decide)
    have hn3 : upL M f = [] := if_neg (by rw [hn]; decide)
    have HQ := Lib.hid hM
    clear hs hM
    have HN := Lib.hid hn
    have HN2 := Lib.hid hn2
    have HN3 := Lib.hid hn3
    clear hn hn2 hn3
    go_enter Tryd.func20, Tryd.ntmps20
    go_wp2_with ((go_at_call 53; refine (holds_any M va ra vc rc fa fc f _ hm0 hf0).mono ?_; rintro e w1 ⟨rfl, hE1⟩; obtain ⟨r0, r1, r2, rfz⟩ := HR.out.ext hE1; have f0 := rfz 0; have f1 := rfz 1; have f2 := rfz 2; have HO : Hid (OutAt w1 _ _ _ _) := Lib.hid ⟨r0, r1, r2, rfz⟩; clear rfz; have q0 := hE1.cell m0; have q1 := hE1.cell m1; have q2 := hE1.cell m2; have HE1 := Lib.hid (HE.out.trans hE1)))
    obtain ⟨d0, d1, d2, -⟩ := ((HO.out.set0 (.int .i64 0)).set1 (.slice none 0 0)).set2 (.slice none 0 0)
    have hEx : Ext w (((w1.setCell ⟨w.heap.size + 1, 0, none⟩ (.int .i64 0)).setCell ⟨w.heap.size + 1, 1, none⟩ (.slice none 0 0)).setCell ⟨w.heap.size + 1, 2, none⟩ (.slice none 0 0)) := ((HE1.out.setCell (by simp) _).setCell (by simp) _).setCell (by simp) _
    generalize (((w1.setCell ⟨w.heap.size + 1, 0, none⟩ (.int .i64 0)).setCell ⟨w.heap.size + 1, 1, none⟩ (.slice none 0 0)).setCell ⟨w.heap.size + 1, 2, none⟩ (.slice none 0 0)) = W2 at *
    refine bodyPost_ret (v := .tuple #[.agg #[(.int .i64 0), (.slice none 0 0), (.slice none 0 0)], .slice none 0 0, .int .i64 11]) ?_ rfl ?_
    · rw [results_cell_two rfl]
      go_simp
    · exact ⟨none, none, none, 0, 0, 0, [], by rw [HN.out, HN2.out, HN3.out]; rfl, by rw [HN2.out]; exact FrM.zero _ _ _, fun w'' _ => by rw [HN3.out]; exact RI.nil _ _, hEx⟩
  have hq2 : (holdsOf M f == 0#64) = false := by simpa using hs
  have hup := upErr_mk hM hs
  obtain ⟨e1, e2, e3⟩ := up_res hup
  have HRS : Hid (∀ w, RM w va ra M → Tab w → Calls Tryd.prog 54 #[.agg #[.int .i64 M.worlds, .slice va M.val.length vc, .slice ra M.rel.length rc], .int .u64 (un (holdsOf M f))] w fun e w' => RetRO (upM M f) (natI (upL M f)) 0 e w w') := Lib.hid fun w h h2 => by
    have := restrictO_any M va ra vc rc (holdsOf M f) w h h2
    rw [e1, e2, e3, hup] at this; exact this
  have HUP := Lib.hid hup
  clear hM hs e1 e2 e3 hup
  generalize upM M f = A at *
  generalize natI (upL M f) = L at *
  go_enter Tryd.func20, Tryd.ntmps20
  go_wp2_with (first | (go_at_call 53; refine (holds_any M va ra vc rc fa fc f _ hm0 hf0).mono ?_; rintro e w1 ⟨rfl, hE1⟩; obtain ⟨r0, r1, r2, rfz⟩ := HR.out.ext hE1; have f0 := rfz 0; have f1 := rfz 1; have f2 := rfz 2; have HO : Hid (OutAt w1 _ _ _ _) := Lib.hid ⟨r0, r1, r2, rfz⟩; clear rfz; have q0 := hE1.cell m0; have q1 := hE1.cell m1; have q2 := hE1.cell m2; have HE1 := Lib.hid (HE.out.trans hE1)) | (go_at_call 54; refine (HRS.out _ (HM0.out.ext hE1) (HT.out.ext hE1)).mono ?_; rintro e w3 ⟨va2, ra2, la, vc2, rc2, lc, svs, rfl, hm3, hu3, hE3⟩; obtain ⟨r0, r1, r2, rfz⟩ := HO.out.ext hE3; have f0 := rfz 0; have f1 := rfz 1; have f2 := rfz 2; have HO3 : Hid (OutAt w3 _ _ _ _) := Lib.hid ⟨r0, r1, r2, rfz⟩; clear rfz; have HM3 := Lib.hid hm3; have HU3 := Lib.hid hu3; have HB3 := Lib.hid hE3; have hw1s := hE1.size; have HE3 := Lib.hid (HE1.out.trans hE3); clear hm3 hu3))
  simp at hw1s
  have hk3 : ∀ (u : Value) (k : Nat) (W : World), Agree (w.heap.size + 2) W (W.setCell ⟨w.heap.size + 1, k, none⟩ u) := fun u k W j hj _ => heap_setCell_other W ⟨w.heap.size + 1, k, none⟩ j u (by simp; omega)
  have hag : Agree (w.heap.size + 2) w3 (((w3.setCell ⟨w.heap.size + 1, 0, none⟩ (.int .i64 A.worlds)).setCell ⟨w.heap.size + 1, 1, none⟩ (.slice va2 A.val.length vc2)).setCell ⟨w.heap.size + 1, 2, none⟩ (.slice ra2 A.rel.length rc2)) := fun j hj hl => ((hk3 _ _ _ j hj (by simpa [World.setCell] using hl)).trans (hk3 _ _ _ j hj (by simpa [World.setCell] using hl))).trans (hk3 _ _ _ j hj hl)
  have hsz : (((w3.setCell ⟨w.heap.size + 1, 0, none⟩ (.int .i64 A.worlds)).setCell ⟨w.heap.size + 1, 1, none⟩ (.slice va2 A.val.length vc2)).setCell ⟨w.heap.size + 1, 2, none⟩ (.slice ra2 A.rel.length rc2)).heap.size = w3.heap.size := by simp
  obtain ⟨d0, d1, d2, -⟩ := ((HO3.out.set0 (.int .i64 A.worlds)).set1 (.slice va2 A.val.length vc2)).set2 (.slice ra2 A.rel.length rc2)
  have hEx : Ext w (((w3.setCell ⟨w.heap.size + 1, 0, none⟩ (.int .i64 A.worlds)).setCell ⟨w.heap.size + 1, 1, none⟩ (.slice va2 A.val.length vc2)).setCell ⟨w.heap.size + 1, 2, none⟩ (.slice ra2 A.rel.length rc2)) := ((HE3.out.setCell (by simp) _).setCell (by simp) _).setCell (by simp) _
  generalize (((w3.setCell ⟨w.heap.size + 1, 0, none⟩ (.int .i64 A.worlds)).setCell ⟨w.heap.size + 1, 1, none⟩ (.slice va2 A.val.length vc2)).setCell ⟨w.heap.size + 1, 2, none⟩ (.slice ra2 A.rel.length rc2)) = W2 at *
  refine bodyPost_ret (v := .tuple #[.agg #[(.int .i64 A.worlds), (.slice va2 A.val.length vc2), (.slice ra2 A.rel.length rc2)], .slice la L.length lc, .int .i64 0]) ?_ rfl ?_
  · rw [results_cell_two rfl]
    go_simp
  · refine ⟨va2, ra2, la, vc2, rc2, lc, svs, by rw [HUP.out], (HM3.out.mono (by omega) |>.agree hag).mono (by omega), fun w'' ha => ?_, hEx⟩
    refine HU3.out w'' fun j hj hl => ?_
    exact (ha j (by omega) (by rw [hsz]; exact hl)).trans (hag j (by omega) hl)

end Wt

/- Walks: wittingref13.Few, wittinglaw17.few. -/
namespace Wt
open Go Go.RowKit Go.Maps Go.Proofs Fm

def RetB (e : Ending) (w w' : World) : Prop := ∃ b, e = .returned (.bool b) ∧ Ext w w'
set_option maxRecDepth 20000 in
set_option maxHeartbeats 2000000 in
theorem r13Few_any (M : Mo) (va ra : Option Addr) (vc rc : Nat) (n : Int) (w : World) (hm : RM w va ra M) :
    Calls Tryd.prog 17 #[.agg #[.int .i64 M.worlds, .slice va M.val.length vc, .slice ra M.rel.length rc], .int .i64 n] w fun e w' => RetB e w w' := by
  obtain ⟨W, V, R⟩ := M
  have hE0 := (Ext.refl w).alloc (.cells #[.int .i64 W, .slice va V.length vc, .slice ra R.length rc] 25)
  have hR : RR _ ra R := (hm.ext hE0).rel
  obtain ⟨m0, m1, m2⟩ := MoBox.new w W V R va vc ra rc 25
  have hvl := hm.val.len
  have hrl := hm.rel.len
  dsimp only at hvl hrl m0 m1 m2 ⊢
  have HE := Lib.hid hE0
  have HR := Lib.hid hR
  clear hE0 hm hR
  by_cases hc : (n < W ∧ W ≤ 64) ∨ 20 < V.length ∨ 10 < R.length
  · go_enter Tryd.func17, Tryd.ntmps17
    go_wp2
    all_goals first
      | (go_ret; exact ⟨_, rfl, HE.out⟩)
      | (exfalso; omega)
  · have e3 : decide ((20 : Int) < (V.length : Int)) = false := by simp; omega
    have e4 : decide ((10 : Int) < (R.length : Int)) = false := by simp; omega
    by_cases h1 : n < W
    · have e1 : decide (n < W) = true := by simpa using h1
      have e2 : decide (W ≤ 64) = false := by simp; omega
      clear hc h1
      go_enter Tryd.func17, Tryd.ntmps17
      go_wp2
      go_loop [5] (fun i => ∃ k : Nat, k ≤ R.length ∧ i = .int .i64 k) (fun i => R.length - (intOf i).toNat)
      case atStart => exact ⟨0, Nat.zero_le _, rfl⟩
      case round =>
        obtain ⟨k, hk, rfl⟩ := hrel
        by_cases hlt : k < R.length
        · obtain ⟨b, off, a', c', rfl, hb, hc', hu⟩ := HR.out.get hlt
          have hul := hu.len
          by_cases hq : 70 < (nth R k).length
          · go_wp2
            go_ret
            exact ⟨_, rfl, HE.out⟩
          · go_wp2
            go_round
            case rel => exact ⟨k + 1, hlt, by go_num⟩
            case measure => simp [intOf]; omega
        · go_wp2
          go_ret
          exact ⟨_, rfl, HE.out⟩
    · have e1 : decide (n < W) = false := by simp; omega
      clear hc h1
      go_enter Tryd.func17, Tryd.ntmps17
      go_wp2
      go_loop [5] (fun i => ∃ k : Nat, k ≤ R.length ∧ i = .int .i64 k) (fun i => R.length - (intOf i).toNat)
      case atStart => exact ⟨0, Nat.zero_le _, rfl⟩
      case round =>
        obtain ⟨k, hk, rfl⟩ := hrel
        by_cases hlt : k < R.length
        · obtain ⟨b, off, a', c', rfl, hb, hc', hu⟩ := HR.out.get hlt
          have hul := hu.len
          by_cases hq : 70 < (nth R k).length
          · go_wp2
            go_ret
            exact ⟨_, rfl, HE.out⟩
          · go_wp2
            go_round
            case rel => exact ⟨k + 1, hlt, by go_num⟩
            case measure => simp [intOf]; omega
        · go_wp2
          go_ret
          exact ⟨_, rfl, HE.out⟩
/-- Whether the formulas are small, and more. -/
def RetF (os : List (List Nd)) (e : Ending) (w w' : World) : Prop := ∃ b, e = .returned (.bool b) ∧ Ext w w' ∧ (b = true → ∀ j, j < os.length → (nth os j).length ≤ 60)
end Wt

/- The arguments of a statement, opened: a model, a formula. -/
namespace Wt
open Go Go.ChangeShapes Go.WideShapes Go.ChangeAt Go.RowKit Go.Deep Go.Proofs Fm

theorem spot_of {w : World} {a : Addr} {v : Value} (h : w.cell? a = some v) : a = ⟨a.block, a.off, none⟩ := by
  obtain ⟨b, o, s⟩ := a
  cases s with
  | none => rfl
  | some n =>
    exfalso
    simp only [World.cell?] at h
    split at h <;> simp at h
theorem add_at (b o k : Nat) : (⟨b, o, none⟩ : Addr).add k = ⟨b, o + k, none⟩ := by
  unfold Addr.add
  split
  · rename_i h; subst h; rfl
  · rfl
theorem un_ofInt {n : Int} (h : (Lit.int .u64 n).wf = true) : un (BitVec.ofInt 64 n) = n := by
  simp only [Lit.wf, Bool.and_eq_true, decide_eq_true_eq] at h
  have h1 : (0 : Int) ≤ n := h.1
  have h2 : n ≤ 18446744073709551615 := h.2
  unfold un
  rw [BitVec.toNat_ofInt]
  omega
theorem reach_le : reachBytes ≤ 140737488355328 := by decide
section
variable {H : Type} {enc : TypeId × Value → H} {w : World}
/-- A slice of sets. -/
theorem open_ru {fuel : Nat} {cs : List Value} {x : DataW H × List MemPlace} (h : DataW.trod enc Tryd.prog w 0 (fun _ => true) true fuel 22 cs = some x) (hz : ∀ n ∈ x.1.weights Tryd.prog 22, n ≤ reachBytes) :
    ∃ a l c, cs = [.slice a (l : List (BitVec 64)).length c] ∧ RU w a l := by
  rcases open_ints Tryd.underlying22 Tryd.underlying40 (by kernel_rfl) h with ⟨rfl, _⟩ | ⟨a, len, cap, zs, rfl, _, hl, hc, hzl, hx, hcell, hwf⟩
  · exact ⟨none, [], 0, rfl, RU.nil _ _⟩
  · simp only [if_true] at hzl
    rw [hx] at hz
    have hw := hz ((lits (H := H) .u64 (zs.take len)).length * Tryd.prog.bytesOf 40 + (lits (H := H) .u64 (zs.drop len)).length * Tryd.prog.bytesOf 40) (by
      simp [DataW.weights, Tryd.underlying22, Nat.add_mul])
    have hb : Tryd.prog.bytesOf 40 = 8 := by kernel_rfl
    rw [hb] at hw
    have hll : (lits (H := H) .u64 (zs.take len)).length = len := by simp [lits]; omega
    rw [hll] at hw
    have hr := reach_le
    refine ⟨some a, (zs.take len).map (BitVec.ofInt 64), cap, by simp; omega, ⟨by simp; omega, fun k hk => ?_⟩⟩
    have hk' : k < len := by simp at hk; omega
    have h0 := hcell 0 (by omega)
    have ha := spot_of (by simpa [Addr.add] using h0)
    have hck := hcell k (by omega)
    rw [ha, add_at] at hck
    refine ⟨a.block, a.off, by rw [← ha], ?_⟩
    rw [hck]
    have hzk : zs.getD k 0 = zs[k]'(by omega) := by simp [List.getD, List.getElem?_eq_getElem (show k < zs.length by omega)]
    have hn : nth ((zs.take len).map (BitVec.ofInt 64)) k = BitVec.ofInt 64 (zs[k]'(by omega)) := by
      rw [nth_eq _ _ hk]; simp
    rw [hn, hzk, un_ofInt (hwf _ (List.getElem_mem _))]
theorem mem_weightsAll {P : Program} {e : TypeId} {n : Nat} {d : DataW H} : ∀ {l : List (DataW H)}, d ∈ l → n ∈ d.weights P e → n ∈ DataW.weightsAll P e l
  | d0 :: l, hd, hn => by
    simp only [DataW.weightsAll, List.mem_append]
    rcases List.mem_cons.1 hd with rfl | hd
    · exact .inl hn
    · exact .inr (mem_weightsAll hd hn)
/-- A slice of slices of sets. -/
theorem open_rr {fuel : Nat} {cs : List Value} {x : DataW H × List MemPlace} (h : DataW.trod enc Tryd.prog w 0 (fun _ => true) true fuel 23 cs = some x) (hz : ∀ n ∈ x.1.weights Tryd.prog 23, n ≤ reachBytes) :
    ∃ a l c, cs = [.slice a (l : List (List (BitVec 64))).length c] ∧ RR w a l := by
  rcases open_int_rows Tryd.underlying23 Tryd.underlying22 Tryd.underlying40 (by kernel_rfl) (by kernel_rfl) h with ⟨rfl, _⟩ | ⟨a, len, cap, A, L, C, Z, rfl, _, hl, hc, hx, hrow⟩
  · exact ⟨none, [], 0, rfl, by simp, fun k hk => absurd hk (by simp)⟩
  · rw [hx] at hz
    have hr := reach_le
    have hb : Tryd.prog.bytesOf 22 = 24 := by kernel_rfl
    have hb2 : Tryd.prog.bytesOf 40 = 8 := by kernel_rfl
    have hlen : len ≤ 140737488355328 := by
      have := hz ((len + (cap - len)) * 24) (by simp [DataW.weights, Tryd.underlying23, hb])
      omega
    have hrl : ∀ r, r < len → A r ≠ none → L r ≤ 140737488355328 := by
      intro r hr' hA
      obtain ⟨a', ha'⟩ := Option.ne_none_iff_exists'.1 hA
      have h1 := (hrow r (by omega))
      have hzr := h1.2.2.2.1
      have := hz (((Z r).take (L r)).length * 8 + ((Z r).drop (L r)).length * 8) (by
        simp only [DataW.weights, Tryd.underlying23, List.mem_cons, List.mem_append]
        refine .inr (.inl (mem_weightsAll (d := intRow .u64 (A r) (L r) (Z r)) (List.mem_map.2 ⟨r, by simpa using hr', rfl⟩) ?_))
        rw [ha']
        simp [intRow, DataW.weights, Tryd.underlying22, hb2, lits, Nat.add_mul])
      have h2 := h1.2.1
      simp at this
      omega
    refine ⟨some a, (List.range len).map fun r => ((Z r).take (L r)).map (BitVec.ofInt 64), cap, by simp, ⟨by simpa using hlen, fun k hk => ?_⟩⟩
    have hk' : k < len := by simpa using hk
    obtain ⟨h1, h2, h3, h4, h5, h6, h7⟩ := hrow k (by omega)
    have h0 := (hrow 0 (by omega)).1
    have ha := spot_of (by simpa [Addr.add] using h0)
    rw [ha, add_at] at h1
    have hn : nth ((List.range len).map fun r => ((Z r).take (L r)).map (BitVec.ofInt 64)) k = ((Z k).take (L k)).map (BitVec.ofInt 64) := by
      rw [nth_eq _ _ hk]; simp
    have hll : (((Z k).take (L k)).map (BitVec.ofInt 64)).length = L k := by simp; omega
    refine ⟨a.block, a.off, A k, C k, by rw [← ha], by rw [h1, hn, hll], ?_⟩
    rw [hn]
    cases hA : A k with
    | none =>
      have : L k = 0 := by have := h6 hA; omega
      rw [this]; simp; exact RU.nil _ _
    | some a' =>
      have hlk := hrl k hk' (by rw [hA]; simp)
      refine ⟨by rw [hll]; exact hlk, fun q hq => ?_⟩
      rw [hll] at hq
      obtain ⟨_, hcell⟩ := h7 a' hA
      have hb' := spot_of (by simpa [Addr.add] using hcell 0 (by omega))
      have hcq := hcell q (by omega)
      rw [hb', add_at] at hcq
      refine ⟨a'.block, a'.off, by rw [← hb'], ?_⟩
      rw [hcq]
      have hzq : (Z k).getD q 0 = (Z k)[q]'(by omega) := by simp [List.getD, List.getElem?_eq_getElem (show q < (Z k).length by omega)]
      have hnq : nth (((Z k).take (L k)).map (BitVec.ofInt 64)) q = BitVec.ofInt 64 ((Z k)[q]'(by omega)) := by
        rw [nth_eq _ _ (by rw [hll]; exact hq)]; simp
      rw [hnq, hzq, un_ofInt (h5 _ (List.getElem_mem _))]
/-- A node. -/
theorem open_nd {fuel : Nat} {cs : List Value} {x : DataW H × List MemPlace} (h : DataW.trod enc Tryd.prog w 0 (fun _ => true) true fuel 105 cs = some x) : ∃ n : Nd, cs = ndCells n := by
  have hc6 : Tryd.prog.cellsOf 105 = 6 := by kernel_rfl
  have hc1 : Tryd.prog.cellsOf 3 = 1 := by kernel_rfl
  obtain ⟨xs, n, _, _, hl, hxl, hf⟩ := DataW.trod_struct Tryd.underlying105 h
  rw [hc6] at hl
  have key : ∀ i, i < 6 → ∀ f : Field, f.type = 3 → f.offset = i → DataW.trod enc Tryd.prog w 0 (fun _ => true) true n f.type ((cs.drop f.offset).take (Tryd.prog.cellsOf f.type)) = xs[i]? → i < xs.length → ∃ v : Int, cs[i]? = some (.int .i64 v) := by
    intro i hi f ft fo h hx
    rw [ft, fo, hc1] at h
    have hx2 : xs[i]? = some (xs[i]'hx) := List.getElem?_eq_getElem hx
    rw [hx2] at h
    obtain ⟨v, hv, _, _⟩ := DataW.trod_int Tryd.underlying3 h
    refine ⟨v, ?_⟩
    have := congrArg (fun l => l[0]?) hv
    simpa [List.getElem?_take] using this
  have hx6 : xs.length = 6 := hxl
  obtain ⟨v0, e0⟩ := key 0 (by omega) _ rfl rfl (hf 0 _ rfl) (by omega)
  obtain ⟨v1, e1⟩ := key 1 (by omega) _ rfl rfl (hf 1 _ rfl) (by omega)
  obtain ⟨v2, e2⟩ := key 2 (by omega) _ rfl rfl (hf 2 _ rfl) (by omega)
  obtain ⟨v3, e3⟩ := key 3 (by omega) _ rfl rfl (hf 3 _ rfl) (by omega)
  obtain ⟨v4, e4⟩ := key 4 (by omega) _ rfl rfl (hf 4 _ rfl) (by omega)
  obtain ⟨v5, e5⟩ := key 5 (by omega) _ rfl rfl (hf 5 _ rfl) (by omega)
  refine ⟨⟨v0, v1, v2, v3, v4, v5⟩, List.ext_getElem? fun i => ?_⟩
  rcases Nat.lt_or_ge i 6 with hi | hi
  · rcases (show i = 0 ∨ i = 1 ∨ i = 2 ∨ i = 3 ∨ i = 4 ∨ i = 5 by omega) with rfl | rfl | rfl | rfl | rfl | rfl
    · rw [e0]; rfl
    · rw [e1]; rfl
    · rw [e2]; rfl
    · rw [e3]; rfl
    · rw [e4]; rfl
    · rw [e5]; rfl
  · rw [List.getElem?_eq_none (by omega), List.getElem?_eq_none (by simp [ndCells]; omega)]
/-- A formula. -/
theorem open_rn {fuel : Nat} {cs : List Value} {x : DataW H × List MemPlace} (h : DataW.trod enc Tryd.prog w 0 (fun _ => true) true fuel 26 cs = some x) (hz : ∀ n ∈ x.1.weights Tryd.prog 26, n ≤ reachBytes) :
    ∃ a l c, cs = [.slice a (l : List Nd).length c] ∧ RN w a l := by
  have hc6 : Tryd.prog.cellsOf 105 = 6 := by kernel_rfl
  rcases open_slice Tryd.underlying26 h with ⟨rfl, _⟩ | ⟨a, len, cap, m, n, D, Pl, rfl, _, hl, hc, hm, hx, hel⟩
  · exact ⟨none, [], 0, rfl, RN.nil _ _⟩
  · simp only [if_true] at hm
    rw [hx] at hz
    have hr := reach_le
    have hb : Tryd.prog.bytesOf 105 = 48 := by kernel_rfl
    have hlen : len ≤ 140737488355328 := by
      have := hz ((len + (m - len)) * 48) (by simp [DataW.weights, Tryd.underlying26, hb])
      omega
    have hnd : ∀ i, i < len → ∃ nd : Nd, ∀ j, j < 6 → w.cell? (a.add (i * 6 + j)) = (ndCells nd)[j]? := by
      intro i hi
      obtain ⟨cs', h1, h2⟩ := hel i (by omega)
      rw [hc6] at h1
      obtain ⟨nd, rfl⟩ := open_nd h2
      obtain ⟨_, _, h3⟩ := World.cells?_some h1
      refine ⟨nd, fun j hj => ?_⟩
      have h4 := h3 j hj
      have ha : ∀ (p q : Nat), (a.add p).add q = a.add (p + q) := by
        intro p q
        unfold Addr.add
        by_cases hp : p = 0 <;> by_cases hq : q = 0 <;> simp [hp, hq, Nat.add_assoc]
      rw [ha] at h4
      exact h4
    obtain ⟨g, hg⟩ : ∃ g : Nat → Nd, ∀ i, i < len → ∀ j, j < 6 → w.cell? (a.add (i * 6 + j)) = (ndCells (g i))[j]? := by
      refine ⟨fun i => if h : i < len then Classical.choose (hnd i h) else default, fun i hi => ?_⟩
      simp only [hi, dif_pos]
      exact Classical.choose_spec (hnd i hi)
    refine ⟨some a, (List.range len).map g, cap, by simp, ⟨by simpa using hlen, fun k hk => ?_⟩⟩
    have hk' : k < len := by simpa using hk
    have h0 := hg 0 (by omega) 0 (by omega)
    have ha := spot_of (v := .int .i64 (g 0).op) (by simpa [Addr.add, ndCells] using h0)
    have hn : nth ((List.range len).map g) k = g k := by rw [nth_eq _ _ hk]; simp
    rw [hn]
    have hgk := hg k hk'
    rw [ha] at hgk
    simp only [add_at] at hgk
    refine ⟨a.block, a.off, by rw [← ha], ?_, ?_, ?_, ?_, ?_, ?_⟩
    · exact hgk 0 (by omega)
    · rw [Nat.add_assoc]; exact hgk 1 (by omega)
    · rw [Nat.add_assoc]; exact hgk 2 (by omega)
    · rw [Nat.add_assoc]; exact hgk 3 (by omega)
    · rw [Nat.add_assoc]; exact hgk 4 (by omega)
    · rw [Nat.add_assoc]; exact hgk 5 (by omega)
set_option maxRecDepth 100000 in
/-- A model, as an argument. -/
theorem open_mo {t : Nat} {v : Value} {d : DataW H} {p : List MemPlace} {r : Reach} {b0 : Nat} (ht : t = 25) (hval : Value.okWide Tryd.prog w r b0 t v) (h : DataW.Trod enc Tryd.prog w 0 (fun _ => true) true t v d p) (hz : ∀ n ∈ d.weights Tryd.prog t, n ≤ reachBytes) :
    ∃ M va ra vc rc, v = .agg #[.int .i64 M.worlds, .slice va M.val.length vc, .slice ra M.rel.length rc] ∧ RM w va ra M := by
  subst ht
  have hc0 : Tryd.prog.cellsOf 3 = 1 := by kernel_rfl
  have hc1 : Tryd.prog.cellsOf 22 = 1 := by kernel_rfl
  have hc2 : Tryd.prog.cellsOf 23 = 1 := by kernel_rfl
  have hc3 : Tryd.prog.cellsOf 25 = 3 := by kernel_rfl
  obtain ⟨cs, rfl, hcs⟩ := okWide_struct Tryd.underlying25 hval
  obtain ⟨fuel, h⟩ := h
  obtain ⟨y0, y1, y2, n, hx, hl, u0, u1, u2⟩ := trod_struct3 Tryd.underlying25 h
  simp only [Prod.mk.injEq] at hx
  obtain ⟨rfl, rfl⟩ := hx
  rw [hc3] at hl
  simp only [hc0, hc1, hc2] at u0 u1 u2
  obtain ⟨i, hi, _, _⟩ := DataW.trod_int Tryd.underlying3 u0
  have hzs : ∀ n ∈ DataW.weightsEach Tryd.prog [3, 22, 23] [y0.1, y1.1, y2.1], n ≤ reachBytes := by
    intro n hn
    refine hz n ?_
    simp only [DataW.weights, Tryd.underlying25]
    exact hn
  obtain ⟨va, V, vc, hv, hV⟩ := open_ru u1 (fun n hn => hzs n (DataW.weights_mem_each (j := 1) rfl rfl n hn))
  obtain ⟨ra, R, rc, hr, hR⟩ := open_rr u2 (fun n hn => hzs n (DataW.weights_mem_each (j := 2) rfl rfl n hn))
  refine ⟨⟨i, V, R⟩, va, ra, vc, rc, ?_, ⟨hV, hR⟩⟩
  have hcl : (Value.agg cs).cells.toList = [.int .i64 i, .slice va V.length vc, .slice ra R.length rc] := by
    generalize (Value.agg cs).cells.toList = L at hl hi hv hr
    match L, hl with
    | [a, b, c], _ =>
      simp at hi hv hr
      rw [hi, hv, hr]
  have e2 : cs.toList = [.int .i64 i, .slice va V.length vc, .slice ra R.length rc] := hcl
  have e3 : cs = #[.int .i64 i, .slice va V.length vc, .slice ra R.length rc] := by
    apply Array.ext'
    rw [e2]
  rw [e3]
end
end Wt

/- What the row's condition on the library's table gives the walks; a slice of numbers among the arguments, opened. -/
namespace Go.Proofs.YtbeaagnahldefaaDoor
open Go.ChangeShapes Go.WideShapes Go.ChangeAt Go.RowKit

theorem gTab : Tryd.prog.globalNamed "math/bits.deBruijn64tab" = some 0 := by kernel_rfl
theorem tTab : (Tryd.prog.globals[0]?).map (·.type) = some 142 := by kernel_rfl
theorem tabD : (Rows.laid_math_bits_deBruijn64tab : DataW Unit) = .agg (Lib.deBruijn64tab.map fun n : Nat => .lit (.int .u8 (n : Int))) := by
  unfold Rows.laid_math_bits_deBruijn64tab Lib.deBruijn64tab
  rfl
set_option maxRecDepth 100000 in
theorem tab_of {W : World} {fuel : Nat} {cs : List Value} {q : List MemPlace} {d : DataW Unit} {encU : TypeId × Value → Unit} {base : Nat} {sp : Nat → Bool} {held : Bool} (hd : d = .agg (Lib.deBruijn64tab.map fun n : Nat => .lit (.int .u8 (n : Int))))
    (h : DataW.trod encU Tryd.prog W base sp held fuel 142 cs = some (d, q)) : ∀ j, j < Lib.deBruijn64tab.length → cs[j]? = some (.int .u8 ((Lib.deBruijn64tab.getD j 0 : Nat) : Int)) := by
  intro j hj
  obtain ⟨xs, m1, rfl, hx1, hlen, hn, hel⟩ := DataW.trod_array Tryd.underlying142 h
  have c5 : Tryd.prog.cellsOf 5 = 1 := by kernel_rfl
  have hl64 : Lib.deBruijn64tab.length = 64 := by decide
  have hj64 : j < 64 := by omega
  have h0 := hel j (by omega)
  have hxj : j < xs.length := by omega
  rw [List.getElem?_eq_getElem hxj, c5, Nat.mul_one] at h0
  simp only [Prod.mk.injEq] at hx1
  obtain ⟨hx1, _⟩ := hx1
  rw [hd] at hx1
  simp only [DataW.agg.injEq] at hx1
  have e1 : (xs[j]).1 = .lit (.int .u8 ((Lib.deBruijn64tab.getD j 0 : Nat) : Int)) := by
    have e2 : (xs.map (·.1))[j]? = (Lib.deBruijn64tab.map fun n : Nat => (DataW.lit (.int .u8 (n : Int)) : DataW Unit))[j]? := by rw [hx1]
    rw [List.getElem?_map, List.getElem?_map, List.getElem?_eq_getElem hxj, List.getElem?_eq_getElem hj] at e2
    simp only [Option.map_some, Option.some.injEq] at e2
    rw [e2, List.getD_eq_getElem?_getD, List.getElem?_eq_getElem hj]
    rfl
  obtain ⟨k, k1, k2, _⟩ := DataW.trod_int Tryd.underlying5 h0
  rw [k2] at e1
  simp only [DataW.lit.injEq, Lit.int.injEq, true_and] at e1
  subst e1
  have k3 := congrArg (fun l => l[0]?) k1
  simp only [List.getElem?_take, List.getElem?_drop] at k3
  simpa using k3
theorem of_laid {W : World} (h : laidMetH Tryd.prog [("math/bits.deBruijn64tab", Rows.laid_math_bits_deBruijn64tab)] W) : Wt.Tab W := by
  rw [MakeChecks.laidMetH_plain _ _ _ (by kernel_rfl)] at h
  obtain ⟨ps, ⟨g0, t0, cs0, f0, p0, q0, hg0, ht0, hv0, hd0, _⟩, _⟩ := h
  obtain rfl := Option.some.inj (gTab.symm.trans hg0)
  obtain rfl := Option.some.inj (tTab.symm.trans ht0)
  intro j hj
  have hc := tab_of tabD hd0 j hj
  have := World.var?_cell hg0 hv0 j
  rw [← Array.getElem?_toList, hc] at this
  simpa using this
end Go.Proofs.YtbeaagnahldefaaDoor
namespace Wt
open Go Go.ChangeShapes Go.WideShapes Go.ChangeAt Go.RowKit Go.Deep Go.Proofs Fm
section
variable {H : Type} {enc : TypeId × Value → H} {w : World}
/-- A slice of numbers. -/
theorem open_ri {fuel : Nat} {cs : List Value} {x : DataW H × List MemPlace} (h : DataW.trod enc Tryd.prog w 0 (fun _ => true) true fuel 29 cs = some x) (hz : ∀ n ∈ x.1.weights Tryd.prog 29, n ≤ reachBytes) :
    ∃ a l c, cs = [.slice a (l : List Int).length c] ∧ RI w a l := by
  rcases open_ints Tryd.underlying29 Tryd.underlying3 (by kernel_rfl) h with ⟨rfl, _⟩ | ⟨a, len, cap, zs, rfl, _, hl, hc, hzl, hx, hcell, hwf⟩
  · exact ⟨none, [], 0, rfl, RI.nil _ _⟩
  · simp only [if_true] at hzl
    rw [hx] at hz
    have hw := hz ((lits (H := H) .i64 (zs.take len)).length * Tryd.prog.bytesOf 3 + (lits (H := H) .i64 (zs.drop len)).length * Tryd.prog.bytesOf 3) (by
      simp [DataW.weights, Tryd.underlying29, Nat.add_mul])
    have hb : Tryd.prog.bytesOf 3 = 8 := by kernel_rfl
    rw [hb] at hw
    have hll : (lits (H := H) .i64 (zs.take len)).length = len := by simp [lits]; omega
    rw [hll] at hw
    have hr := reach_le
    refine ⟨some a, zs.take len, cap, by simp; omega, ⟨by simp; omega, fun k hk => ?_⟩⟩
    have hk' : k < len := by simp at hk; omega
    have h0 := hcell 0 (by omega)
    have ha := spot_of (by simpa [Addr.add] using h0)
    have hck := hcell k (by omega)
    rw [ha, add_at] at hck
    refine ⟨a.block, a.off, by rw [← ha], ?_⟩
    rw [hck]
    have hzk : zs.getD k 0 = zs[k]'(by omega) := by simp [List.getD, List.getElem?_eq_getElem (show k < zs.length by omega)]
    have hn : nth (zs.take len) k = zs[k]'(by omega) := by
      rw [nth_eq _ _ hk]; simp
    rw [hn, hzk]
end
end Wt
