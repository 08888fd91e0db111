/- Walks: wittingref17.One, operators 11 to 13 (printed by gen_r17c.py). -/
import Derived.Test.YticoljmflljghaaGreatDoorMRfC
import Derived.Test.YticoljmflljghaaGreatDoorMRca
import Derived.Test.YticoljmflljghaaGreatDoorMCkA
import Derived.Test.YticoljmflljghaaGreatDoorMFmJ
import Derived.Test.YticoljmflljghaaGreatDoorMTz
namespace Wt
open Go Go.RowKit Go.Maps Go.Proofs Fm

set_option maxRecDepth 20000 in
set_option maxHeartbeats 4000000 in
theorem r17One_11 (M : Mo) (va ra : Option Addr) (vc rc : Nat) (i e g px py : Int) (x y : BitVec 64) (w : World) (hm : RM w va ra M) (N : Nat) (ok : MoOk M N) (hg : 1 ≤ g) (hfit : g < p2 M.rel.length) :
    Calls Tryz.prog 83 #[.agg #[.int .i64 M.worlds, .slice va M.val.length vc, .slice ra M.rel.length rc], .agg #[.int .i64 11, .int .i64 i, .int .i64 e, .int .i64 g, .int .i64 px, .int .i64 py], .int .u64 (un x), .int .u64 (un y)] w fun en w' => Ret1 (valN M 11 i g x y).1 en w w' := by
  have hW := ok.worlds
  have hn1 := ok.one
  have hn64 := ok.most
  have hr4 := ok.rel
  have hv8 := ok.val
  have OK := Lib.hid ok
  have hT : M.worlds.toNat = N := by omega
  have HT := Lib.hid hT
  have HM0 := Lib.hid hm
  clear ok hT hm
  obtain ⟨W, V, R⟩ := M
  dsimp only at hW hr4 hv8 hfit
  subst hW
  obtain ⟨k, rfl⟩ := Int.eq_ofNat_of_zero_le (show 0 ≤ g by omega)
  have HN : Hid ((valN ⟨N, V, R⟩ 11 i (k : Int) x y).1 = boxTo (groupOf ⟨N, V, R⟩ k) x N) := by
    have hc : ¬ (p2 R.length ≤ (k : Int)) := by omega
    show (valN _ _ _ _ _ _).1 = _; rw [boxTo_rel (group_in OK.out (by omega) hfit).1 (rel_ok (group_in OK.out (by omega) hfit).1 hn64 (group_in OK.out (by omega) hfit).2)]; unfold valN; simp [hc]
  have hE0 : Ext w ((w.alloc (.cells #[.int .i64 (N : Int), .slice va V.length vc, .slice ra R.length rc] 25)).alloc (.cells #[.int .i64 11, .int .i64 i, .int .i64 e, .int .i64 (k : Int), .int .i64 px, .int .i64 py] 76)) := ((Ext.refl w).alloc _).alloc _
  have hbx := (MoBox.new w (N : Int) V R va vc ra rc 25).ext ((Ext.refl _).alloc (.cells #[.int .i64 11, .int .i64 i, .int .i64 e, .int .i64 (k : Int), .int .i64 px, .int .i64 py] 76))
  have hnx : NdAt ((w.alloc (.cells #[.int .i64 (N : Int), .slice va V.length vc, .slice ra R.length rc] 25)).alloc (.cells #[.int .i64 11, .int .i64 i, .int .i64 e, .int .i64 (k : Int), .int .i64 px, .int .i64 py] 76)) (w.heap.size + 1) 0 ⟨11, i, e, (k : Int), px, py⟩ := by
    have h := NdAt.new (w.alloc (.cells #[.int .i64 (N : Int), .slice va V.length vc, .slice ra R.length rc] 25)) ⟨11, i, e, (k : Int), px, py⟩ 76
    have hs : (w.alloc (.cells #[.int .i64 (N : Int), .slice va V.length vc, .slice ra R.length rc] 25)).heap.size = w.heap.size + 1 := by simp
    rw [hs] at h; exact h
  go_enter Tryz.func83, Tryz.ntmps83
  go_wp2_with fail
  refine (r13All_any N _).mono ?_
  rintro _ _ ⟨rfl, rfl⟩
  dsimp only
  generalize ((w.alloc (.cells #[.int .i64 (N : Int), .slice va V.length vc, .slice ra R.length rc] 25)).alloc (.cells #[.int .i64 11, .int .i64 i, .int .i64 e, .int .i64 (k : Int), .int .i64 px, .int .i64 py] 76)) = W0 at *
  have HM := Lib.hid (HM0.out.ext hE0)
  have HE := Lib.hid hE0
  obtain ⟨m0, m1, m2⟩ := hbx
  obtain ⟨n0, n1, n2, n3, n4, n5⟩ := hnx
  simp only [Nat.zero_add] at n1 n2 n3 n4 n5
  dsimp only at m0 m1 m2 n0 n1 n2 n3 n4 n5
  have hwb : w.heap.size + 1 < W0.heap.size := World.block_lt_of_cell? _ _ n0
  have HGL : Hid (N ≤ (groupOf ⟨N, V, R⟩ k).length) := by show N ≤ _; rw [(group_in OK.out (by omega) hfit).1]; exact Nat.le_refl _
  have HG1 := Lib.hid (r13Group_any ⟨N, V, R⟩ va ra vc rc k N W0.drew (HM.out.ext ((Ext.refl _).drew)) OK.out (by omega) hfit)
  have HKP : Hid (∀ w1, Ext W0.drew w1 → w1.cell? ⟨w.heap.size, 0, none⟩ = some (.int .i64 (N : Int)) ∧ w1.cell? ⟨w.heap.size, 1, none⟩ = some (.slice va V.length vc) ∧ w1.cell? ⟨w.heap.size, 2, none⟩ = some (.slice ra R.length rc) ∧ w1.cell? ⟨w.heap.size + 1, 3, none⟩ = some (.int .i64 (k : Int))) := fun w1 e => ⟨e.cell m0, e.cell m1, e.cell m2, e.cell n3⟩
  go_wp2_with fail
  go_region_held3 (fun w' => w'.cell? ⟨w.heap.size, 0, none⟩ = some (.int .i64 (N : Int)) ∧ w'.cell? ⟨w.heap.size, 1, none⟩ = some (.slice va V.length vc) ∧ w'.cell? ⟨w.heap.size, 2, none⟩ = some (.slice ra R.length rc) ∧ w'.cell? ⟨w.heap.size + 1, 3, none⟩ = some (.int .i64 (k : Int))) (first | go_keep | exact k4)
    (first | (go_at_call 106; refine HG1.out.mono ?_; rintro en w1 ⟨a1, c1, rfl, hu1, hE1⟩; have k4 := HKP.out _ hE1) | (go_at_call 105; refine (r17Box_any a1 (groupOf ⟨N, V, R⟩ k) c1 N x _ hu1 HGL.out hn64).mono ?_; rintro _ _ ⟨rfl, rfl⟩))
  all_goals
    go_wp2
    go_ret
    exact ⟨by rw [HN.out]; rfl, HE.out.drew.trans hE1⟩
set_option maxRecDepth 20000 in
set_option maxHeartbeats 4000000 in
theorem r17One_12 (M : Mo) (va ra : Option Addr) (vc rc : Nat) (i e g px py : Int) (x y : BitVec 64) (w : World) (hm : RM w va ra M) (N : Nat) (ok : MoOk M N) (hg : 1 ≤ g) (hfit : g < p2 M.rel.length) :
    Calls Tryz.prog 83 #[.agg #[.int .i64 M.worlds, .slice va M.val.length vc, .slice ra M.rel.length rc], .agg #[.int .i64 12, .int .i64 i, .int .i64 e, .int .i64 g, .int .i64 px, .int .i64 py], .int .u64 (un x), .int .u64 (un y)] w fun en w' => Ret1 (valN M 12 i g x y).1 en w w' := by
  have hW := ok.worlds
  have hn1 := ok.one
  have hn64 := ok.most
  have hr4 := ok.rel
  have hv8 := ok.val
  have OK := Lib.hid ok
  have hT : M.worlds.toNat = N := by omega
  have HT := Lib.hid hT
  have HM0 := Lib.hid hm
  clear ok hT hm
  obtain ⟨W, V, R⟩ := M
  dsimp only at hW hr4 hv8 hfit
  subst hW
  obtain ⟨k, rfl⟩ := Int.eq_ofNat_of_zero_le (show 0 ≤ g by omega)
  have HN : Hid ((valN ⟨N, V, R⟩ 12 i (k : Int) x y).1 = boxTo (meetOf ⟨N, V, R⟩ k) x N) := by
    have hc : ¬ (p2 R.length ≤ (k : Int)) := by omega
    show (valN _ _ _ _ _ _).1 = _; rw [boxTo_rel (meet_in OK.out (by omega) hfit).1 (rel_ok (meet_in OK.out (by omega) hfit).1 hn64 (meet_in OK.out (by omega) hfit).2)]; unfold valN; simp [hc]
  have hE0 : Ext w ((w.alloc (.cells #[.int .i64 (N : Int), .slice va V.length vc, .slice ra R.length rc] 25)).alloc (.cells #[.int .i64 12, .int .i64 i, .int .i64 e, .int .i64 (k : Int), .int .i64 px, .int .i64 py] 76)) := ((Ext.refl w).alloc _).alloc _
  have hbx := (MoBox.new w (N : Int) V R va vc ra rc 25).ext ((Ext.refl _).alloc (.cells #[.int .i64 12, .int .i64 i, .int .i64 e, .int .i64 (k : Int), .int .i64 px, .int .i64 py] 76))
  have hnx : NdAt ((w.alloc (.cells #[.int .i64 (N : Int), .slice va V.length vc, .slice ra R.length rc] 25)).alloc (.cells #[.int .i64 12, .int .i64 i, .int .i64 e, .int .i64 (k : Int), .int .i64 px, .int .i64 py] 76)) (w.heap.size + 1) 0 ⟨12, i, e, (k : Int), px, py⟩ := by
    have h := NdAt.new (w.alloc (.cells #[.int .i64 (N : Int), .slice va V.length vc, .slice ra R.length rc] 25)) ⟨12, i, e, (k : Int), px, py⟩ 76
    have hs : (w.alloc (.cells #[.int .i64 (N : Int), .slice va V.length vc, .slice ra R.length rc] 25)).heap.size = w.heap.size + 1 := by simp
    rw [hs] at h; exact h
  go_enter Tryz.func83, Tryz.ntmps83
  go_wp2_with fail
  refine (r13All_any N _).mono ?_
  rintro _ _ ⟨rfl, rfl⟩
  dsimp only
  generalize ((w.alloc (.cells #[.int .i64 (N : Int), .slice va V.length vc, .slice ra R.length rc] 25)).alloc (.cells #[.int .i64 12, .int .i64 i, .int .i64 e, .int .i64 (k : Int), .int .i64 px, .int .i64 py] 76)) = W0 at *
  have HM := Lib.hid (HM0.out.ext hE0)
  have HE := Lib.hid hE0
  obtain ⟨m0, m1, m2⟩ := hbx
  obtain ⟨n0, n1, n2, n3, n4, n5⟩ := hnx
  simp only [Nat.zero_add] at n1 n2 n3 n4 n5
  dsimp only at m0 m1 m2 n0 n1 n2 n3 n4 n5
  have hwb : w.heap.size + 1 < W0.heap.size := World.block_lt_of_cell? _ _ n0
  have HGL : Hid (N ≤ (meetOf ⟨N, V, R⟩ k).length) := by show N ≤ _; rw [(meet_in OK.out (by omega) hfit).1]; exact Nat.le_refl _
  have HG1 := Lib.hid (r13Meet_any ⟨N, V, R⟩ va ra vc rc k N W0.drew (HM.out.ext ((Ext.refl _).drew)) OK.out (by omega) hfit)
  have HKP : Hid (∀ w1, Ext W0.drew w1 → w1.cell? ⟨w.heap.size, 0, none⟩ = some (.int .i64 (N : Int)) ∧ w1.cell? ⟨w.heap.size, 1, none⟩ = some (.slice va V.length vc) ∧ w1.cell? ⟨w.heap.size, 2, none⟩ = some (.slice ra R.length rc) ∧ w1.cell? ⟨w.heap.size + 1, 3, none⟩ = some (.int .i64 (k : Int))) := fun w1 e => ⟨e.cell m0, e.cell m1, e.cell m2, e.cell n3⟩
  go_wp2_with fail
  go_region_held3 (fun w' => w'.cell? ⟨w.heap.size, 0, none⟩ = some (.int .i64 (N : Int)) ∧ w'.cell? ⟨w.heap.size, 1, none⟩ = some (.slice va V.length vc) ∧ w'.cell? ⟨w.heap.size, 2, none⟩ = some (.slice ra R.length rc) ∧ w'.cell? ⟨w.heap.size + 1, 3, none⟩ = some (.int .i64 (k : Int))) (first | go_keep | exact k4)
    (first | (go_at_call 107; refine HG1.out.mono ?_; rintro en w1 ⟨a1, c1, rfl, hu1, hE1⟩; have k4 := HKP.out _ hE1) | (go_at_call 105; refine (r17Box_any a1 (meetOf ⟨N, V, R⟩ k) c1 N x _ hu1 HGL.out hn64).mono ?_; rintro _ _ ⟨rfl, rfl⟩))
  all_goals
    go_wp2
    go_ret
    exact ⟨by rw [HN.out]; rfl, HE.out.drew.trans hE1⟩
set_option maxRecDepth 20000 in
set_option maxHeartbeats 4000000 in
theorem r17One_13 (M : Mo) (va ra : Option Addr) (vc rc : Nat) (i e g px py : Int) (x y : BitVec 64) (w : World) (hm : RM w va ra M) (N : Nat) (ok : MoOk M N) (hg : 1 ≤ g) (hfit : g < p2 M.rel.length) :
    Calls Tryz.prog 83 #[.agg #[.int .i64 M.worlds, .slice va M.val.length vc, .slice ra M.rel.length rc], .agg #[.int .i64 13, .int .i64 i, .int .i64 e, .int .i64 g, .int .i64 px, .int .i64 py], .int .u64 (un x), .int .u64 (un y)] w fun en w' => Ret1 (valN M 13 i g x y).1 en w w' := by
  have hW := ok.worlds
  have hn1 := ok.one
  have hn64 := ok.most
  have hr4 := ok.rel
  have hv8 := ok.val
  have OK := Lib.hid ok
  have hT : M.worlds.toNat = N := by omega
  have HT := Lib.hid hT
  have HM0 := Lib.hid hm
  clear ok hT hm
  obtain ⟨W, V, R⟩ := M
  dsimp only at hW hr4 hv8 hfit
  subst hW
  obtain ⟨k, rfl⟩ := Int.eq_ofNat_of_zero_le (show 0 ≤ g by omega)
  have HN : Hid ((valN ⟨N, V, R⟩ 13 i (k : Int) x y).1 = comTo (groupOf ⟨N, V, R⟩ k) N x y N) := by
    have hc : ¬ (p2 R.length ≤ (k : Int)) := by omega
    show (valN _ _ _ _ _ _).1 = _; rw [comTo_cmn (group_in OK.out (by omega) hfit).1 hn64 (rel_ok (group_in OK.out (by omega) hfit).1 hn64 (group_in OK.out (by omega) hfit).2) (group_in OK.out (by omega) hfit).2]; unfold valN; simp [HT.out, hc]
  have hE0 : Ext w ((w.alloc (.cells #[.int .i64 (N : Int), .slice va V.length vc, .slice ra R.length rc] 25)).alloc (.cells #[.int .i64 13, .int .i64 i, .int .i64 e, .int .i64 (k : Int), .int .i64 px, .int .i64 py] 76)) := ((Ext.refl w).alloc _).alloc _
  have hbx := (MoBox.new w (N : Int) V R va vc ra rc 25).ext ((Ext.refl _).alloc (.cells #[.int .i64 13, .int .i64 i, .int .i64 e, .int .i64 (k : Int), .int .i64 px, .int .i64 py] 76))
  have hnx : NdAt ((w.alloc (.cells #[.int .i64 (N : Int), .slice va V.length vc, .slice ra R.length rc] 25)).alloc (.cells #[.int .i64 13, .int .i64 i, .int .i64 e, .int .i64 (k : Int), .int .i64 px, .int .i64 py] 76)) (w.heap.size + 1) 0 ⟨13, i, e, (k : Int), px, py⟩ := by
    have h := NdAt.new (w.alloc (.cells #[.int .i64 (N : Int), .slice va V.length vc, .slice ra R.length rc] 25)) ⟨13, i, e, (k : Int), px, py⟩ 76
    have hs : (w.alloc (.cells #[.int .i64 (N : Int), .slice va V.length vc, .slice ra R.length rc] 25)).heap.size = w.heap.size + 1 := by simp
    rw [hs] at h; exact h
  go_enter Tryz.func83, Tryz.ntmps83
  go_wp2_with fail
  refine (r13All_any N _).mono ?_
  rintro _ _ ⟨rfl, rfl⟩
  dsimp only
  generalize ((w.alloc (.cells #[.int .i64 (N : Int), .slice va V.length vc, .slice ra R.length rc] 25)).alloc (.cells #[.int .i64 13, .int .i64 i, .int .i64 e, .int .i64 (k : Int), .int .i64 px, .int .i64 py] 76)) = W0 at *
  have HM := Lib.hid (HM0.out.ext hE0)
  have HE := Lib.hid hE0
  obtain ⟨m0, m1, m2⟩ := hbx
  obtain ⟨n0, n1, n2, n3, n4, n5⟩ := hnx
  simp only [Nat.zero_add] at n1 n2 n3 n4 n5
  dsimp only at m0 m1 m2 n0 n1 n2 n3 n4 n5
  have hwb : w.heap.size + 1 < W0.heap.size := World.block_lt_of_cell? _ _ n0
  have HGL : Hid (N ≤ (groupOf ⟨N, V, R⟩ k).length) := by show N ≤ _; rw [(group_in OK.out (by omega) hfit).1]; exact Nat.le_refl _
  have HG1 := Lib.hid (r13Group_any ⟨N, V, R⟩ va ra vc rc k N W0.drew (HM.out.ext ((Ext.refl _).drew)) OK.out (by omega) hfit)
  have HKP : Hid (∀ w1, Ext W0.drew w1 → w1.cell? ⟨w.heap.size, 0, none⟩ = some (.int .i64 (N : Int)) ∧ w1.cell? ⟨w.heap.size, 1, none⟩ = some (.slice va V.length vc) ∧ w1.cell? ⟨w.heap.size, 2, none⟩ = some (.slice ra R.length rc) ∧ w1.cell? ⟨w.heap.size + 1, 3, none⟩ = some (.int .i64 (k : Int))) := fun w1 e => ⟨e.cell m0, e.cell m1, e.cell m2, e.cell n3⟩
  go_wp2_with fail
  go_region_held3 (fun w' => w'.cell? ⟨w.heap.size, 0, none⟩ = some (.int .i64 (N : Int)) ∧ w'.cell? ⟨w.heap.size, 1, none⟩ = some (.slice va V.length vc) ∧ w'.cell? ⟨w.heap.size, 2, none⟩ = some (.slice ra R.length rc) ∧ w'.cell? ⟨w.heap.size + 1, 3, none⟩ = some (.int .i64 (k : Int))) (first | go_keep | exact k4)
    (first | (go_at_call 106; refine HG1.out.mono ?_; rintro en w1 ⟨a1, c1, rfl, hu1, hE1⟩; have k4 := HKP.out _ hE1) | (go_at_call 108; refine (r17common_any a1 (groupOf ⟨N, V, R⟩ k) c1 N x y _ hu1 HGL.out hn64).mono ?_; rintro _ _ ⟨rfl, rfl⟩))
  all_goals
    go_wp2
    go_ret
    exact ⟨by rw [HN.out]; rfl, HE.out.drew.trans hE1⟩
end Wt

/- wittingref17.One at all operators (printed by gen_r17c.py). -/
namespace Wt
open Go Go.RowKit Go.Maps Go.Proofs Fm

/-- The set of a node of a model that it fits. -/
theorem r17One_any (M : Mo) (va ra : Option Addr) (vc rc : Nat) (n : Nd) (x y : BitVec 64) (w : World) (hm : RM w va ra M) (N : Nat) (ok : MoOk M N) (hn : NdOk n) (hfit : (valN M n.op n.i n.g x y).2 = true) :
    Calls Tryz.prog 83 #[.agg #[.int .i64 M.worlds, .slice va M.val.length vc, .slice ra M.rel.length rc], .agg #[.int .i64 n.op, .int .i64 n.i, .int .i64 n.e, .int .i64 n.g, .int .i64 n.x, .int .i64 n.y], .int .u64 (un x), .int .u64 (un y)] w fun en w' => Ret1 (valN M n.op n.i n.g x y).1 en w w' := by
  obtain ⟨o, i, e, g, px, py⟩ := n
  have h1 := hn.fact
  have h2 := hn.agent
  have h3 := hn.group
  dsimp only at hfit h1 h2 h3 ⊢
  by_cases ho : o < 1 ∨ 13 < o
  · rw [valN_no M i g x y ho] at hfit; cases hfit
  · rcases (show o = 1 ∨ o = 2 ∨ o = 3 ∨ o = 4 ∨ o = 5 ∨ o = 6 ∨ o = 7 ∨ o = 8 ∨ o = 9 ∨ o = 10 ∨ o = 11 ∨ o = 12 ∨ o = 13 by omega) with rfl | rfl | rfl | rfl | rfl | rfl | rfl | rfl | rfl | rfl | rfl | rfl | rfl
    · exact r17One_1 M va ra vc rc i e g px py x y w hm N ok
    · exact r17One_2 M va ra vc rc i e g px py x y w hm N ok
    · exact r17One_3 M va ra vc rc i e g px py x y w hm N ok (h1 rfl).1 (Int.not_le.1 fun hc => by simp [valN, hc] at hfit)
    · exact r17One_4 M va ra vc rc i e g px py x y w hm N ok
    · exact r17One_5 M va ra vc rc i e g px py x y w hm N ok
    · exact r17One_6 M va ra vc rc i e g px py x y w hm N ok
    · exact r17One_7 M va ra vc rc i e g px py x y w hm N ok
    · exact r17One_8 M va ra vc rc i e g px py x y w hm N ok
    · exact r17One_9 M va ra vc rc i e g px py x y w hm N ok (h2 rfl).1 (Int.not_le.1 fun hc => by simp [valN, hc] at hfit)
    · exact r17One_10 M va ra vc rc i e g px py x y w hm N ok (h2 rfl).1 (Int.not_le.1 fun hc => by simp [valN, hc] at hfit)
    · exact r17One_11 M va ra vc rc i e g px py x y w hm N ok (h3 rfl).1 (Int.not_le.1 fun hc => by simp [valN, hc] at hfit)
    · exact r17One_12 M va ra vc rc i e g px py x y w hm N ok (h3 rfl).1 (Int.not_le.1 fun hc => by simp [valN, hc] at hfit)
    · exact r17One_13 M va ra vc rc i e g px py x y w hm N ok (h3 rfl).1 (Int.not_le.1 fun hc => by simp [valN, hc] at hfit)
end Wt

/- Walks: wittingref05.Frag, Frags, Facts, Agents. -/
namespace Wt
open Go Go.RowKit Go.Maps Go.Proofs Fm

set_option maxHeartbeats 2000000 in
theorem r5Frag_any (op : Int) (h : (useOf op).2 = true) (w : World) :
    Calls Tryz.prog 87 #[.int .i64 op] w fun e w' => e = .returned (.int .i64 (useOf op).1.frag) ∧ w = w' := by
  rcases useOf_cases op h with rfl | rfl | rfl | rfl | rfl | rfl | rfl | rfl | rfl | rfl | rfl | rfl | rfl | rfl | rfl | rfl | rfl | rfl | rfl | rfl | rfl
  all_goals
    clear h
    go_enter Tryz.func87, Tryz.ntmps87
    go_wp2
    go_ret
    exact ⟨rfl, rfl⟩
set_option maxHeartbeats 2000000 in
theorem r5Frags_any (fa : Option Addr) (fc : Nat) (l : List Nd) (w : World) (hr : RN w fa l) :
    Calls Tryz.prog 66 #[.slice fa l.length fc] w fun e w' => e = .returned (.int .i64 (fFrags l : Int)) ∧ Ext w w' := by
  have Hok := Lib.hid (fCompact_ok l).1
  have hlen := (fCompact_ok l).2
  have HR : Hid (fFrags l = unionL fragN (fCompact l)) := rfl
  go_enter Tryz.func66, Tryz.ntmps66
  go_wp2_with (go_at_call 60; refine (r5Compact_any _ _ l _ hr).mono ?_; rintro e w1 ⟨a, c, rfl, hc, hE⟩; generalize fCompact l = L at Hok hlen hc HR ⊢)
  go_loopw [4, 5] (fun o i wr => ∃ k : Nat, k ≤ L.length ∧ i = .int .i64 k ∧ o = .int .i64 (unionL fragN (L.take k) : Int) ∧ Ext w1 wr) (fun _ i _ => L.length - (intOf i).toNat)
  case atStart => exact ⟨0, Nat.zero_le _, rfl, rfl, Ext.refl _⟩
  case round =>
    obtain ⟨k, hk, rfl, rfl, hE1⟩ := hrel
    by_cases hlt : k < L.length
    · obtain ⟨b, off, rfl, hb, n0, n1, n2, n3, n4, n5⟩ := (hc.ext hE1).get hlt
      have hmem : nth L k ∈ L := by rw [nth_eq L k hlt]; exact List.getElem_mem hlt
      have hf : (useOf (nth L k).op).1.frag = (fragN (nth L k) : Int) := by have := useOf_frag (nth L k).op; unfold fragN; omega
      have hor := or_nat (unionL fragN (L.take k)) (fragN (nth L k)) (by have := unionL_lt fragN fragN_lt (L.take k); omega) (by have := fragN_lt (nth L k); omega)
      have HS := Lib.hid (unionL_snoc fragN L k hlt)
      have HF := Lib.hid hf
      have HOP := Lib.hid (Hok.out _ hmem).op
      clear hf hmem
      go_wp2_with (go_at_call 87; refine (r5Frag_any _ HOP.out _).mono ?_; rintro _ _ ⟨rfl, rfl⟩; rw [HF.out])
      go_roundw
      case rel => exact ⟨k + 1, hlt, by go_num, by rw [HS.out], hE1⟩
      case measure => simp [intOf]; omega
    · go_wp2
      go_ret
      refine ⟨?_, hE.trans hE1⟩
      rw [HR.out, List.take_of_length_le (by omega)]
      rfl
set_option maxHeartbeats 4000000 in
theorem r5Facts_any (fa : Option Addr) (fc : Nat) (l : List Nd) (w : World) (hr : RN w fa l) :
    Calls Tryz.prog 89 #[.slice fa l.length fc] w fun e w' => e = .returned (.int .i64 (fFacts l : Int)) ∧ Ext w w' := by
  have Hok := Lib.hid (fCompact_ok l).1
  have hlen := (fCompact_ok l).2
  have HR : Hid (fFacts l = unionL factN (fCompact l)) := rfl
  go_enter Tryz.func89, Tryz.ntmps89
  go_wp2_with (go_at_call 60; refine (r5Compact_any _ _ l _ hr).mono ?_; rintro e w1 ⟨a, c, rfl, hc, hE⟩; generalize fCompact l = L at Hok hlen hc HR ⊢)
  go_loopw [4, 5] (fun o i wr => ∃ k : Nat, k ≤ L.length ∧ i = .int .i64 k ∧ o = .int .i64 (unionL factN (L.take k) : Int) ∧ Ext w1 wr) (fun _ i _ => L.length - (intOf i).toNat)
  case atStart => exact ⟨0, Nat.zero_le _, rfl, rfl, Ext.refl _⟩
  case round =>
    obtain ⟨k, hk, rfl, rfl, hE1⟩ := hrel
    by_cases hlt : k < L.length
    · obtain ⟨b, off, rfl, hb, n0, n1, n2, n3, n4, n5⟩ := (hc.ext hE1).get hlt
      have hmem : nth L k ∈ L := by rw [nth_eq L k hlt]; exact List.getElem_mem hlt
      have hN := Hok.out _ hmem
      have hsn := unionL_snoc factN L k hlt
      have hu1 := unionL_lt factN factN_lt (L.take k)
      by_cases h3 : (nth L k).op = 3
      · have hfc : (useOf (nth L k).op).1.fact = true := by rw [r5f_eq, h3]; rfl
        obtain ⟨h0, h7⟩ := hN.fact hfc
        have hf : factN (nth L k) = 2 ^ (nth L k).i.toNat := by unfold factN; rw [hfc]; simp only [if_true]; congr 1; omega
        rw [hf] at hsn
        rw [h3] at n0
        clear hf hfc hN hmem
        generalize (nth L k).i = q at *
        obtain ⟨P, PI, hP, hPI⟩ : ∃ (P : Nat) (PI : Int), 2 ^ q.toNat = P ∧ PI = (P : Int) := ⟨_, _, rfl, rfl⟩
        have hPl : P < 4294967296 := by
          rw [← hP]
          have : (2 : Nat) ^ q.toNat ≤ 2 ^ 7 := Nat.pow_le_pow_right (by omega) (by omega)
          omega
        rw [hP] at hsn
        have hor := or_nat (unionL factN (L.take k)) P (by omega) hPl
        rw [← hPI] at hor
        obtain ⟨rfl, rfl, rfl⟩ | ⟨rfl, rfl, rfl⟩ | ⟨rfl, rfl, rfl⟩ | ⟨rfl, rfl, rfl⟩ | ⟨rfl, rfl, rfl⟩ | ⟨rfl, rfl, rfl⟩ | ⟨rfl, rfl, rfl⟩ | ⟨rfl, rfl, rfl⟩ :
            (q = 0 ∧ P = 1 ∧ PI = 1) ∨ (q = 1 ∧ P = 2 ∧ PI = 2) ∨ (q = 2 ∧ P = 4 ∧ PI = 4) ∨ (q = 3 ∧ P = 8 ∧ PI = 8) ∨ (q = 4 ∧ P = 16 ∧ PI = 16) ∨ (q = 5 ∧ P = 32 ∧ PI = 32) ∨ (q = 6 ∧ P = 64 ∧ PI = 64) ∨ (q = 7 ∧ P = 128 ∧ PI = 128) := by
          rcases (show q = 0 ∨ q = 1 ∨ q = 2 ∨ q = 3 ∨ q = 4 ∨ q = 5 ∨ q = 6 ∨ q = 7 by omega) with rfl | rfl | rfl | rfl | rfl | rfl | rfl | rfl <;> simp at hP <;> omega
        all_goals
          have HS := Lib.hid hsn
          clear hsn h0 h7 hP hPI hPl
          go_wp2
          go_roundw
          case rel => exact ⟨k + 1, hlt, by go_num, by rw [HS.out], hE1⟩
          case measure => simp [intOf]; omega
      · have hf : factN (nth L k) = 0 := by unfold factN; rw [r5f_eq]; simp [h3]
        rw [hf] at hsn
        have hq : ((nth L k).op == 3) = false := by simp [h3]
        have HS := Lib.hid hsn
        clear hsn hN hmem hf h3
        go_wp2
        go_roundw
        case rel => exact ⟨k + 1, hlt, by go_num, by rw [HS.out]; simp, hE1⟩
        case measure => simp [intOf]; omega
    · go_wp2
      go_ret
      refine ⟨?_, hE.trans hE1⟩
      rw [HR.out, List.take_of_length_le (by omega)]
      rfl
end Wt

/- Walks: wittingref05.Agents, Fits. -/
namespace Wt
open Go Go.RowKit Go.Maps Go.Proofs Fm

set_option maxHeartbeats 4000000 in
theorem r5Agents_any (fa : Option Addr) (fc : Nat) (l : List Nd) (w : World) (hr : RN w fa l) :
    Calls Tryz.prog 88 #[.slice fa l.length fc] w fun e w' => e = .returned (.int .i64 (fAgents l : Int)) ∧ Ext w w' := by
  have Hok := Lib.hid (fCompact_ok l).1
  have hlen := (fCompact_ok l).2
  have HR : Hid (fAgents l = unionL agentN (fCompact l)) := rfl
  go_enter Tryz.func88, Tryz.ntmps88
  go_wp2_with (go_at_call 60; refine (r5Compact_any _ _ l _ hr).mono ?_; rintro e w1 ⟨a, c, rfl, hc, hE⟩; generalize fCompact l = L at Hok hlen hc HR ⊢)
  go_loopw [4, 5] (fun o i wr => ∃ k : Nat, k ≤ L.length ∧ i = .int .i64 k ∧ o = .int .i64 (unionL agentN (L.take k) : Int) ∧ Ext w1 wr) (fun _ i _ => L.length - (intOf i).toNat)
  case atStart => exact ⟨0, Nat.zero_le _, rfl, rfl, Ext.refl _⟩
  case round =>
    obtain ⟨k, hk, rfl, rfl, hE1⟩ := hrel
    by_cases hlt : k < L.length
    · obtain ⟨b, off, rfl, hb, n0, n1, n2, n3, n4, n5⟩ := (hc.ext hE1).get hlt
      have hmem : nth L k ∈ L := by rw [nth_eq L k hlt]; exact List.getElem_mem hlt
      have hN := Hok.out _ hmem
      have hsn := unionL_snoc agentN L k hlt
      have hu1 := unionL_lt agentN agentN_lt (L.take k)
      cases ha : (useOf (nth L k).op).1.agent
      · have hg : 0 ≤ (nth L k).g ∧ (nth L k).g ≤ 15 := by
          cases hug : (useOf (nth L k).op).1.group
          · have := hN.nogroup hug; omega
          · have := hN.group hug; omega
        have hf : ((nth L k).g : Int) = (agentN (nth L k) : Int) := by unfold agentN; rw [ha]; simp only [Bool.false_eq_true, if_false]; omega
        have hor := or_nat (unionL agentN (L.take k)) (agentN (nth L k)) (by omega) (by have := agentN_lt (nth L k); omega)
        rw [hf] at n3
        have HA := Lib.hid ha
        have HS := Lib.hid hsn
        clear hsn hN hmem hf ha hg
        go_wp2_with (go_at_call 110; refine (r5A_any _ _).mono ?_; rintro _ _ ⟨rfl, rfl⟩; rw [HA.out])
        go_roundw
        case rel => exact ⟨k + 1, hlt, by go_num, by rw [HS.out], hE1⟩
        case measure => simp [intOf]; omega
      · obtain ⟨h0, h7⟩ := hN.agent ha
        have hg := hN.nogroup (use_agent_group _ ha)
        have hf : agentN (nth L k) = 2 ^ (nth L k).i.toNat := by unfold agentN; rw [ha]; simp only [if_true]; congr 1; omega
        rw [hf] at hsn
        rw [hg] at n3
        have HA := Lib.hid ha
        clear hf ha hN hmem hg
        generalize (nth L k).i = q at *
        obtain ⟨P, PI, hP, hPI⟩ : ∃ (P : Nat) (PI : Int), 2 ^ q.toNat = P ∧ PI = (P : Int) := ⟨_, _, rfl, rfl⟩
        have hPl : P < 512 := by
          rw [← hP]
          have : (2 : Nat) ^ q.toNat ≤ 2 ^ 7 := Nat.pow_le_pow_right (by omega) (by omega)
          omega
        rw [hP] at hsn
        have hor := or_nat (unionL agentN (L.take k)) P (by omega) (by omega)
        have hlt9 : unionL agentN (L.take k) ||| P < 2 ^ 9 := Nat.or_lt_two_pow (by omega) (by omega)
        have hor2 := or_nat (unionL agentN (L.take k) ||| P) 0 (by omega) (by omega)
        rw [Nat.or_zero, Int.natCast_zero] at hor2
        rw [← hPI] at hor
        obtain ⟨rfl, rfl, rfl⟩ | ⟨rfl, rfl, rfl⟩ | ⟨rfl, rfl, rfl⟩ | ⟨rfl, rfl, rfl⟩ :
            (q = 0 ∧ P = 1 ∧ PI = 1) ∨ (q = 1 ∧ P = 2 ∧ PI = 2) ∨ (q = 2 ∧ P = 4 ∧ PI = 4) ∨ (q = 3 ∧ P = 8 ∧ PI = 8) := by
          rcases (show q = 0 ∨ q = 1 ∨ q = 2 ∨ q = 3 by omega) with rfl | rfl | rfl | rfl <;> simp at hP <;> omega
        all_goals
          have HS := Lib.hid hsn
          clear hsn h0 h7 hP hPI hPl
          go_wp2_with (go_at_call 110; refine (r5A_any _ _).mono ?_; rintro _ _ ⟨rfl, rfl⟩; rw [HA.out])
          go_roundw
          case rel => exact ⟨k + 1, hlt, by go_num, by rw [HS.out], hE1⟩
          case measure => simp [intOf]; omega
    · go_wp2
      go_ret
      refine ⟨?_, hE.trans hE1⟩
      rw [HR.out, List.take_of_length_le (by omega)]
      rfl
set_option maxHeartbeats 4000000 in
theorem r5Fits_any (fa : Option Addr) (fc : Nat) (l : List Nd) (a f : Nat) (w : World) (hr : RN w fa l) :
    Calls Tryz.prog 67 #[.slice fa l.length fc, .int .i64 (a : Int), .int .i64 (f : Int)] w fun e w' => e = .returned (.bool (fFits l a f)) ∧ Ext w w' := by
  by_cases h1 : fCheck l = 0
  · have H1 := Lib.hid h1
    have HA := Lib.hid (below_iff 4 (fAgents l) a (fAgents_lt l) (by omega))
    have HF := Lib.hid (below_iff 8 (fFacts l) f (fFacts_lt l) (by omega))
    have HV : Hid (fFits l a f = (below (fAgents l) a && below (fFacts l) f)) := by show _ = _; unfold fFits; rw [h1]; simp
    have hma := fAgents_lt l
    have hmf := fFacts_lt l
    clear h1
    go_enter Tryz.func67, Tryz.ntmps67
    go_wp2_with (go_at_call 65; refine (r5Check_any fa fc l _ hr).mono ?_; rintro e w1 ⟨rfl, hE1⟩; rw [H1.out])
    go_loopw [7] (fun i wr => ∃ k : Nat, k ≤ 4 ∧ i = .int .i64 k ∧ Ext w wr ∧ Hid (∀ j, j < k → (fAgents l).testBit j = true → j < a)) (fun i _ => 4 - (intOf i).toNat)
    case atStart => exact ⟨0, Nat.zero_le _, rfl, by assumption, fun _ h => absurd h (Nat.not_lt_zero _)⟩
    case round =>
      obtain ⟨k, hk, rfl, hE, hno⟩ := hrel
      by_cases hlt : k < 4
      · have hb := bit_of (fAgents l) k
        cases hbit : (fAgents l).testBit k
        · rw [hbit] at hb
          go_wp2_with (go_at_call 88; refine (r5Agents_any fa fc l _ (hr.ext hE)).mono ?_; rintro e w2 ⟨rfl, hE2⟩)
          go_roundw
          case rel => exact ⟨k + 1, hlt, by go_num, hE.trans hE2, fun j hj hjb => by
            rcases Nat.lt_or_ge j k with h | h
            · exact hno.out j h hjb
            · obtain rfl : j = k := by omega
              rw [hbit] at hjb; cases hjb⟩
          case measure => simp [intOf]; omega
        · rw [hbit] at hb
          by_cases hka : k < a
          · go_wp2_with (go_at_call 88; refine (r5Agents_any fa fc l _ (hr.ext hE)).mono ?_; rintro e w2 ⟨rfl, hE2⟩)
            go_roundw
            case rel => exact ⟨k + 1, hlt, by go_num, hE.trans hE2, fun j hj hjb => by
              rcases Nat.lt_or_ge j k with h | h
              · exact hno.out j h hjb
              · omega⟩
            case measure => simp [intOf]; omega
          · have hfalse : fFits l a f = false := by
              rw [HV.out]
              rcases hbl : below (fAgents l) a with _ | _
              · simp
              · exact absurd (HA.out.1 hbl k hlt hbit) hka
            have HN := Lib.hid hfalse
            clear hfalse
            go_wp2_with (go_at_call 88; refine (r5Agents_any fa fc l _ (hr.ext hE)).mono ?_; rintro e w2 ⟨rfl, hE2⟩)
            go_ret
            exact ⟨by rw [HN.out]; rfl, hE.trans hE2⟩
      · obtain rfl : k = 4 := by omega
        have hba : below (fAgents l) a = true := HA.out.2 hno.out
        have HBA := Lib.hid hba
        have hEa := hE
        clear hba hno hE
        rw [show ((4 : Nat) : Int) = 4 from rfl]
        go_wp2
        go_loopw [8] (fun i wr => ∃ k : Nat, k ≤ 8 ∧ i = .int .i64 k ∧ Ext w wr ∧ Hid (∀ j, j < k → (fFacts l).testBit j = true → j < f)) (fun i _ => 8 - (intOf i).toNat)
        case atStart => exact ⟨0, Nat.zero_le _, rfl, by assumption, fun _ h => absurd h (Nat.not_lt_zero _)⟩
        case round =>
          obtain ⟨k, hk, rfl, hE, hno⟩ := hrel
          by_cases hlt : k < 8
          · have hb := bit_of (fFacts l) k
            cases hbit : (fFacts l).testBit k
            · rw [hbit] at hb
              go_wp2_with (go_at_call 89; refine (r5Facts_any fa fc l _ (hr.ext hE)).mono ?_; rintro e w2 ⟨rfl, hE2⟩)
              go_roundw
              case rel => exact ⟨k + 1, hlt, by go_num, hE.trans hE2, fun j hj hjb => by
                rcases Nat.lt_or_ge j k with h | h
                · exact hno.out j h hjb
                · obtain rfl : j = k := by omega
                  rw [hbit] at hjb; cases hjb⟩
              case measure => simp [intOf]; omega
            · rw [hbit] at hb
              by_cases hka : k < f
              · go_wp2_with (go_at_call 89; refine (r5Facts_any fa fc l _ (hr.ext hE)).mono ?_; rintro e w2 ⟨rfl, hE2⟩)
                go_roundw
                case rel => exact ⟨k + 1, hlt, by go_num, hE.trans hE2, fun j hj hjb => by
                  rcases Nat.lt_or_ge j k with h | h
                  · exact hno.out j h hjb
                  · omega⟩
                case measure => simp [intOf]; omega
              · have hfalse : fFits l a f = false := by
                  rw [HV.out]
                  rcases hbl : below (fFacts l) f with _ | _
                  · simp
                  · exact absurd (HF.out.1 hbl k hlt hbit) hka
                have HN := Lib.hid hfalse
                clear hfalse
                go_wp2_with (go_at_call 89; refine (r5Facts_any fa fc l _ (hr.ext hE)).mono ?_; rintro e w2 ⟨rfl, hE2⟩)
                go_ret
                exact ⟨by rw [HN.out]; rfl, hE.trans hE2⟩
          · obtain rfl : k = 8 := by omega
            have hbf : below (fFacts l) f = true := HF.out.2 hno.out
            have htrue : fFits l a f = true := by rw [HV.out, HBA.out, hbf]; rfl
            have HN := Lib.hid htrue
            clear htrue hbf
            go_wp2
            go_ret
            exact ⟨by rw [HN.out]; rfl, hE⟩
  · have hn : fFits l a f = false := by unfold fFits; simp [h1]
    have HN := Lib.hid hn
    have hq2 : (fCheck l != 0) = true := by simp [h1]
    clear h1 hn
    go_enter Tryz.func67, Tryz.ntmps67
    go_wp2_with (go_at_call 65; refine (r5Check_any _ _ l _ hr).mono ?_; rintro e w1 ⟨rfl, hE⟩)
    go_ret
    exact ⟨by rw [HN.out]; rfl, hE⟩
end Wt
