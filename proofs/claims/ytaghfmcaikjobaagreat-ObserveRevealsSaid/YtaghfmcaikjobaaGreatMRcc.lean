/- Walks: wittingref17.One, operators 11 to 13 (printed by gen_r17c.py). -/
import Derived.Test.YtaghfmcaikjobaaGreatMRfC
import Derived.Test.YtaghfmcaikjobaaGreatMRca
import Derived.Test.YtaghfmcaikjobaaGreatMCkA
namespace Wt
open Go Go.RowKit Go.Maps Go.Proofs Fm

set_option maxRecDepth 20000 in
set_option maxHeartbeats 4000000 in
theorem r17One_11 (M : Mo) (va ra : Option Addr) (vc rc : Nat) (i e g px py : Int) (x y : BitVec 64) (w : World) (hm : RM w va ra M) (N : Nat) (ok : MoOk M N) (hg : 1 ≤ g) (hfit : g < p2 M.rel.length) :
    Calls Tryz.prog 58 #[.agg #[.int .i64 M.worlds, .slice va M.val.length vc, .slice ra M.rel.length rc], .agg #[.int .i64 11, .int .i64 i, .int .i64 e, .int .i64 g, .int .i64 px, .int .i64 py], .int .u64 (un x), .int .u64 (un y)] w fun en w' => Ret1 (valN M 11 i g x y).1 en w w' := by
  have hW := ok.worlds
  have hn1 := ok.one
  have hn64 := ok.most
  have hr4 := ok.rel
  have hv8 := ok.val
  have OK := Lib.hid ok
  have hT : M.worlds.toNat = N := by omega
  have HT := Lib.hid hT
  have HM0 := Lib.hid hm
  clear ok hT hm
  obtain ⟨W, V, R⟩ := M
  dsimp only at hW hr4 hv8 hfit
  subst hW
  obtain ⟨k, rfl⟩ := Int.eq_ofNat_of_zero_le (show 0 ≤ g by omega)
  have HN : Hid ((valN ⟨N, V, R⟩ 11 i (k : Int) x y).1 = boxTo (groupOf ⟨N, V, R⟩ k) x N) := by
    have hc : ¬ (p2 R.length ≤ (k : Int)) := by omega
    show (valN _ _ _ _ _ _).1 = _; rw [boxTo_rel (group_in OK.out (by omega) hfit).1 (rel_ok (group_in OK.out (by omega) hfit).1 hn64 (group_in OK.out (by omega) hfit).2)]; unfold valN; simp [hc]
  have hE0 : Ext w ((w.alloc (.cells #[.int .i64 (N : Int), .slice va V.length vc, .slice ra R.length rc] 25)).alloc (.cells #[.int .i64 11, .int .i64 i, .int .i64 e, .int .i64 (k : Int), .int .i64 px, .int .i64 py] 62)) := ((Ext.refl w).alloc _).alloc _
  have hbx := (MoBox.new w (N : Int) V R va vc ra rc 25).ext ((Ext.refl _).alloc (.cells #[.int .i64 11, .int .i64 i, .int .i64 e, .int .i64 (k : Int), .int .i64 px, .int .i64 py] 62))
  have hnx : NdAt ((w.alloc (.cells #[.int .i64 (N : Int), .slice va V.length vc, .slice ra R.length rc] 25)).alloc (.cells #[.int .i64 11, .int .i64 i, .int .i64 e, .int .i64 (k : Int), .int .i64 px, .int .i64 py] 62)) (w.heap.size + 1) 0 ⟨11, i, e, (k : Int), px, py⟩ := by
    have h := NdAt.new (w.alloc (.cells #[.int .i64 (N : Int), .slice va V.length vc, .slice ra R.length rc] 25)) ⟨11, i, e, (k : Int), px, py⟩ 62
    have hs : (w.alloc (.cells #[.int .i64 (N : Int), .slice va V.length vc, .slice ra R.length rc] 25)).heap.size = w.heap.size + 1 := by simp
    rw [hs] at h; exact h
  go_enter Tryz.func58, Tryz.ntmps58
  go_wp2_with fail
  refine (r13All_any N _).mono ?_
  rintro _ _ ⟨rfl, rfl⟩
  dsimp only
  generalize ((w.alloc (.cells #[.int .i64 (N : Int), .slice va V.length vc, .slice ra R.length rc] 25)).alloc (.cells #[.int .i64 11, .int .i64 i, .int .i64 e, .int .i64 (k : Int), .int .i64 px, .int .i64 py] 62)) = W0 at *
  have HM := Lib.hid (HM0.out.ext hE0)
  have HE := Lib.hid hE0
  obtain ⟨m0, m1, m2⟩ := hbx
  obtain ⟨n0, n1, n2, n3, n4, n5⟩ := hnx
  simp only [Nat.zero_add] at n1 n2 n3 n4 n5
  dsimp only at m0 m1 m2 n0 n1 n2 n3 n4 n5
  have hwb : w.heap.size + 1 < W0.heap.size := World.block_lt_of_cell? _ _ n0
  have HGL : Hid (N ≤ (groupOf ⟨N, V, R⟩ k).length) := by show N ≤ _; rw [(group_in OK.out (by omega) hfit).1]; exact Nat.le_refl _
  have HG1 := Lib.hid (r13Group_any ⟨N, V, R⟩ va ra vc rc k N W0.drew (HM.out.ext ((Ext.refl _).drew)) OK.out (by omega) hfit)
  have HKP : Hid (∀ w1, Ext W0.drew w1 → w1.cell? ⟨w.heap.size, 0, none⟩ = some (.int .i64 (N : Int)) ∧ w1.cell? ⟨w.heap.size, 1, none⟩ = some (.slice va V.length vc) ∧ w1.cell? ⟨w.heap.size, 2, none⟩ = some (.slice ra R.length rc) ∧ w1.cell? ⟨w.heap.size + 1, 3, none⟩ = some (.int .i64 (k : Int))) := fun w1 e => ⟨e.cell m0, e.cell m1, e.cell m2, e.cell n3⟩
  go_wp2_with fail
  go_region_held3 (fun w' => w'.cell? ⟨w.heap.size, 0, none⟩ = some (.int .i64 (N : Int)) ∧ w'.cell? ⟨w.heap.size, 1, none⟩ = some (.slice va V.length vc) ∧ w'.cell? ⟨w.heap.size, 2, none⟩ = some (.slice ra R.length rc) ∧ w'.cell? ⟨w.heap.size + 1, 3, none⟩ = some (.int .i64 (k : Int))) (first | go_keep | exact k4)
    (first | (go_at_call 84; refine HG1.out.mono ?_; rintro en w1 ⟨a1, c1, rfl, hu1, hE1⟩; have k4 := HKP.out _ hE1) | (go_at_call 83; refine (r17Box_any a1 (groupOf ⟨N, V, R⟩ k) c1 N x _ hu1 HGL.out hn64).mono ?_; rintro _ _ ⟨rfl, rfl⟩))
  all_goals
    go_wp2
    go_ret
    exact ⟨by rw [HN.out]; rfl, HE.out.drew.trans hE1⟩
set_option maxRecDepth 20000 in
set_option maxHeartbeats 4000000 in
theorem r17One_12 (M : Mo) (va ra : Option Addr) (vc rc : Nat) (i e g px py : Int) (x y : BitVec 64) (w : World) (hm : RM w va ra M) (N : Nat) (ok : MoOk M N) (hg : 1 ≤ g) (hfit : g < p2 M.rel.length) :
    Calls Tryz.prog 58 #[.agg #[.int .i64 M.worlds, .slice va M.val.length vc, .slice ra M.rel.length rc], .agg #[.int .i64 12, .int .i64 i, .int .i64 e, .int .i64 g, .int .i64 px, .int .i64 py], .int .u64 (un x), .int .u64 (un y)] w fun en w' => Ret1 (valN M 12 i g x y).1 en w w' := by
  have hW := ok.worlds
  have hn1 := ok.one
  have hn64 := ok.most
  have hr4 := ok.rel
  have hv8 := ok.val
  have OK := Lib.hid ok
  have hT : M.worlds.toNat = N := by omega
  have HT := Lib.hid hT
  have HM0 := Lib.hid hm
  clear ok hT hm
  obtain ⟨W, V, R⟩ := M
  dsimp only at hW hr4 hv8 hfit
  subst hW
  obtain ⟨k, rfl⟩ := Int.eq_ofNat_of_zero_le (show 0 ≤ g by omega)
  have HN : Hid ((valN ⟨N, V, R⟩ 12 i (k : Int) x y).1 = boxTo (meetOf ⟨N, V, R⟩ k) x N) := by
    have hc : ¬ (p2 R.length ≤ (k : Int)) := by omega
    show (valN _ _ _ _ _ _).1 = _; rw [boxTo_rel (meet_in OK.out (by omega) hfit).1 (rel_ok (meet_in OK.out (by omega) hfit).1 hn64 (meet_in OK.out (by omega) hfit).2)]; unfold valN; simp [hc]
  have hE0 : Ext w ((w.alloc (.cells #[.int .i64 (N : Int), .slice va V.length vc, .slice ra R.length rc] 25)).alloc (.cells #[.int .i64 12, .int .i64 i, .int .i64 e, .int .i64 (k : Int), .int .i64 px, .int .i64 py] 62)) := ((Ext.refl w).alloc _).alloc _
  have hbx := (MoBox.new w (N : Int) V R va vc ra rc 25).ext ((Ext.refl _).alloc (.cells #[.int .i64 12, .int .i64 i, .int .i64 e, .int .i64 (k : Int), .int .i64 px, .int .i64 py] 62))
  have hnx : NdAt ((w.alloc (.cells #[.int .i64 (N : Int), .slice va V.length vc, .slice ra R.length rc] 25)).alloc (.cells #[.int .i64 12, .int .i64 i, .int .i64 e, .int .i64 (k : Int), .int .i64 px, .int .i64 py] 62)) (w.heap.size + 1) 0 ⟨12, i, e, (k : Int), px, py⟩ := by
    have h := NdAt.new (w.alloc (.cells #[.int .i64 (N : Int), .slice va V.length vc, .slice ra R.length rc] 25)) ⟨12, i, e, (k : Int), px, py⟩ 62
    have hs : (w.alloc (.cells #[.int .i64 (N : Int), .slice va V.length vc, .slice ra R.length rc] 25)).heap.size = w.heap.size + 1 := by simp
    rw [hs] at h; exact h
  go_enter Tryz.func58, Tryz.ntmps58
  go_wp2_with fail
  refine (r13All_any N _).mono ?_
  rintro _ _ ⟨rfl, rfl⟩
  dsimp only
  generalize ((w.alloc (.cells #[.int .i64 (N : Int), .slice va V.length vc, .slice ra R.length rc] 25)).alloc (.cells #[.int .i64 12, .int .i64 i, .int .i64 e, .int .i64 (k : Int), .int .i64 px, .int .i64 py] 62)) = W0 at *
  have HM := Lib.hid (HM0.out.ext hE0)
  have HE := Lib.hid hE0
  obtain ⟨m0, m1, m2⟩ := hbx
  obtain ⟨n0, n1, n2, n3, n4, n5⟩ := hnx
  simp only [Nat.zero_add] at n1 n2 n3 n4 n5
  dsimp only at m0 m1 m2 n0 n1 n2 n3 n4 n5
  have hwb : w.heap.size + 1 < W0.heap.size := World.block_lt_of_cell? _ _ n0
  have HGL : Hid (N ≤ (meetOf ⟨N, V, R⟩ k).length) := by show N ≤ _; rw [(meet_in OK.out (by omega) hfit).1]; exact Nat.le_refl _
  have HG1 := Lib.hid (r13Meet_any ⟨N, V, R⟩ va ra vc rc k N W0.drew (HM.out.ext ((Ext.refl _).drew)) OK.out (by omega) hfit)
  have HKP : Hid (∀ w1, Ext W0.drew w1 → w1.cell? ⟨w.heap.size, 0, none⟩ = some (.int .i64 (N : Int)) ∧ w1.cell? ⟨w.heap.size, 1, none⟩ = some (.slice va V.length vc) ∧ w1.cell? ⟨w.heap.size, 2, none⟩ = some (.slice ra R.length rc) ∧ w1.cell? ⟨w.heap.size + 1, 3, none⟩ = some (.int .i64 (k : Int))) := fun w1 e => ⟨e.cell m0, e.cell m1, e.cell m2, e.cell n3⟩
  go_wp2_with fail
  go_region_held3 (fun w' => w'.cell? ⟨w.heap.size, 0, none⟩ = some (.int .i64 (N : Int)) ∧ w'.cell? ⟨w.heap.size, 1, none⟩ = some (.slice va V.length vc) ∧ w'.cell? ⟨w.heap.size, 2, none⟩ = some (.slice ra R.length rc) ∧ w'.cell? ⟨w.heap.size + 1, 3, none⟩ = some (.int .i64 (k : Int))) (first | go_keep | exact k4)
    (first | (go_at_call 85; refine HG1.out.mono ?_; rintro en w1 ⟨a1, c1, rfl, hu1, hE1⟩; have k4 := HKP.out _ hE1) | (go_at_call 83; refine (r17Box_any a1 (meetOf ⟨N, V, R⟩ k) c1 N x _ hu1 HGL.out hn64).mono ?_; rintro _ _ ⟨rfl, rfl⟩))
  all_goals
    go_wp2
    go_ret
    exact ⟨by rw [HN.out]; rfl, HE.out.drew.trans hE1⟩
set_option maxRecDepth 20000 in
set_option maxHeartbeats 4000000 in
theorem r17One_13 (M : Mo) (va ra : Option Addr) (vc rc : Nat) (i e g px py : Int) (x y : BitVec 64) (w : World) (hm : RM w va ra M) (N : Nat) (ok : MoOk M N) (hg : 1 ≤ g) (hfit : g < p2 M.rel.length) :
    Calls Tryz.prog 58 #[.agg #[.int .i64 M.worlds, .slice va M.val.length vc, .slice ra M.rel.length rc], .agg #[.int .i64 13, .int .i64 i, .int .i64 e, .int .i64 g, .int .i64 px, .int .i64 py], .int .u64 (un x), .int .u64 (un y)] w fun en w' => Ret1 (valN M 13 i g x y).1 en w w' := by
  have hW := ok.worlds
  have hn1 := ok.one
  have hn64 := ok.most
  have hr4 := ok.rel
  have hv8 := ok.val
  have OK := Lib.hid ok
  have hT : M.worlds.toNat = N := by omega
  have HT := Lib.hid hT
  have HM0 := Lib.hid hm
  clear ok hT hm
  obtain ⟨W, V, R⟩ := M
  dsimp only at hW hr4 hv8 hfit
  subst hW
  obtain ⟨k, rfl⟩ := Int.eq_ofNat_of_zero_le (show 0 ≤ g by omega)
  have HN : Hid ((valN ⟨N, V, R⟩ 13 i (k : Int) x y).1 = comTo (groupOf ⟨N, V, R⟩ k) N x y N) := by
    have hc : ¬ (p2 R.length ≤ (k : Int)) := by omega
    show (valN _ _ _ _ _ _).1 = _; rw [comTo_cmn (group_in OK.out (by omega) hfit).1 hn64 (rel_ok (group_in OK.out (by omega) hfit).1 hn64 (group_in OK.out (by omega) hfit).2) (group_in OK.out (by omega) hfit).2]; unfold valN; simp [HT.out, hc]
  have hE0 : Ext w ((w.alloc (.cells #[.int .i64 (N : Int), .slice va V.length vc, .slice ra R.length rc] 25)).alloc (.cells #[.int .i64 13, .int .i64 i, .int .i64 e, .int .i64 (k : Int), .int .i64 px, .int .i64 py] 62)) := ((Ext.refl w).alloc _).alloc _
  have hbx := (MoBox.new w (N : Int) V R va vc ra rc 25).ext ((Ext.refl _).alloc (.cells #[.int .i64 13, .int .i64 i, .int .i64 e, .int .i64 (k : Int), .int .i64 px, .int .i64 py] 62))
  have hnx : NdAt ((w.alloc (.cells #[.int .i64 (N : Int), .slice va V.length vc, .slice ra R.length rc] 25)).alloc (.cells #[.int .i64 13, .int .i64 i, .int .i64 e, .int .i64 (k : Int), .int .i64 px, .int .i64 py] 62)) (w.heap.size + 1) 0 ⟨13, i, e, (k : Int), px, py⟩ := by
    have h := NdAt.new (w.alloc (.cells #[.int .i64 (N : Int), .slice va V.length vc, .slice ra R.length rc] 25)) ⟨13, i, e, (k : Int), px, py⟩ 62
    have hs : (w.alloc (.cells #[.int .i64 (N : Int), .slice va V.length vc, .slice ra R.length rc] 25)).heap.size = w.heap.size + 1 := by simp
    rw [hs] at h; exact h
  go_enter Tryz.func58, Tryz.ntmps58
  go_wp2_with fail
  refine (r13All_any N _).mono ?_
  rintro _ _ ⟨rfl, rfl⟩
  dsimp only
  generalize ((w.alloc (.cells #[.int .i64 (N : Int), .slice va V.length vc, .slice ra R.length rc] 25)).alloc (.cells #[.int .i64 13, .int .i64 i, .int .i64 e, .int .i64 (k : Int), .int .i64 px, .int .i64 py] 62)) = W0 at *
  have HM := Lib.hid (HM0.out.ext hE0)
  have HE := Lib.hid hE0
  obtain ⟨m0, m1, m2⟩ := hbx
  obtain ⟨n0, n1, n2, n3, n4, n5⟩ := hnx
  simp only [Nat.zero_add] at n1 n2 n3 n4 n5
  dsimp only at m0 m1 m2 n0 n1 n2 n3 n4 n5
  have hwb : w.heap.size + 1 < W0.heap.size := World.block_lt_of_cell? _ _ n0
  have HGL : Hid (N ≤ (groupOf ⟨N, V, R⟩ k).length) := by show N ≤ _; rw [(group_in OK.out (by omega) hfit).1]; exact Nat.le_refl _
  have HG1 := Lib.hid (r13Group_any ⟨N, V, R⟩ va ra vc rc k N W0.drew (HM.out.ext ((Ext.refl _).drew)) OK.out (by omega) hfit)
  have HKP : Hid (∀ w1, Ext W0.drew w1 → w1.cell? ⟨w.heap.size, 0, none⟩ = some (.int .i64 (N : Int)) ∧ w1.cell? ⟨w.heap.size, 1, none⟩ = some (.slice va V.length vc) ∧ w1.cell? ⟨w.heap.size, 2, none⟩ = some (.slice ra R.length rc) ∧ w1.cell? ⟨w.heap.size + 1, 3, none⟩ = some (.int .i64 (k : Int))) := fun w1 e => ⟨e.cell m0, e.cell m1, e.cell m2, e.cell n3⟩
  go_wp2_with fail
  go_region_held3 (fun w' => w'.cell? ⟨w.heap.size, 0, none⟩ = some (.int .i64 (N : Int)) ∧ w'.cell? ⟨w.heap.size, 1, none⟩ = some (.slice va V.length vc) ∧ w'.cell? ⟨w.heap.size, 2, none⟩ = some (.slice ra R.length rc) ∧ w'.cell? ⟨w.heap.size + 1, 3, none⟩ = some (.int .i64 (k : Int))) (first | go_keep | exact k4)
    (first | (go_at_call 84; refine HG1.out.mono ?_; rintro en w1 ⟨a1, c1, rfl, hu1, hE1⟩; have k4 := HKP.out _ hE1) | (go_at_call 86; refine (r17common_any a1 (groupOf ⟨N, V, R⟩ k) c1 N x y _ hu1 HGL.out hn64).mono ?_; rintro _ _ ⟨rfl, rfl⟩))
  all_goals
    go_wp2
    go_ret
    exact ⟨by rw [HN.out]; rfl, HE.out.drew.trans hE1⟩
end Wt

/- wittingref17.One at all operators (printed by gen_r17c.py). -/
namespace Wt
open Go Go.RowKit Go.Maps Go.Proofs Fm

/-- The set of a node of a model that it fits. -/
theorem r17One_any (M : Mo) (va ra : Option Addr) (vc rc : Nat) (n : Nd) (x y : BitVec 64) (w : World) (hm : RM w va ra M) (N : Nat) (ok : MoOk M N) (hn : NdOk n) (hfit : (valN M n.op n.i n.g x y).2 = true) :
    Calls Tryz.prog 58 #[.agg #[.int .i64 M.worlds, .slice va M.val.length vc, .slice ra M.rel.length rc], .agg #[.int .i64 n.op, .int .i64 n.i, .int .i64 n.e, .int .i64 n.g, .int .i64 n.x, .int .i64 n.y], .int .u64 (un x), .int .u64 (un y)] w fun en w' => Ret1 (valN M n.op n.i n.g x y).1 en w w' := by
  obtain ⟨o, i, e, g, px, py⟩ := n
  have h1 := hn.fact
  have h2 := hn.agent
  have h3 := hn.group
  dsimp only at hfit h1 h2 h3 ⊢
  by_cases ho : o < 1 ∨ 13 < o
  · rw [valN_no M i g x y ho] at hfit; cases hfit
  · rcases (show o = 1 ∨ o = 2 ∨ o = 3 ∨ o = 4 ∨ o = 5 ∨ o = 6 ∨ o = 7 ∨ o = 8 ∨ o = 9 ∨ o = 10 ∨ o = 11 ∨ o = 12 ∨ o = 13 by omega) with rfl | rfl | rfl | rfl | rfl | rfl | rfl | rfl | rfl | rfl | rfl | rfl | rfl
    · exact r17One_1 M va ra vc rc i e g px py x y w hm N ok
    · exact r17One_2 M va ra vc rc i e g px py x y w hm N ok
    · exact r17One_3 M va ra vc rc i e g px py x y w hm N ok (h1 rfl).1 (Int.not_le.1 fun hc => by simp [valN, hc] at hfit)
    · exact r17One_4 M va ra vc rc i e g px py x y w hm N ok
    · exact r17One_5 M va ra vc rc i e g px py x y w hm N ok
    · exact r17One_6 M va ra vc rc i e g px py x y w hm N ok
    · exact r17One_7 M va ra vc rc i e g px py x y w hm N ok
    · exact r17One_8 M va ra vc rc i e g px py x y w hm N ok
    · exact r17One_9 M va ra vc rc i e g px py x y w hm N ok (h2 rfl).1 (Int.not_le.1 fun hc => by simp [valN, hc] at hfit)
    · exact r17One_10 M va ra vc rc i e g px py x y w hm N ok (h2 rfl).1 (Int.not_le.1 fun hc => by simp [valN, hc] at hfit)
    · exact r17One_11 M va ra vc rc i e g px py x y w hm N ok (h3 rfl).1 (Int.not_le.1 fun hc => by simp [valN, hc] at hfit)
    · exact r17One_12 M va ra vc rc i e g px py x y w hm N ok (h3 rfl).1 (Int.not_le.1 fun hc => by simp [valN, hc] at hfit)
    · exact r17One_13 M va ra vc rc i e g px py x y w hm N ok (h3 rfl).1 (Int.not_le.1 fun hc => by simp [valN, hc] at hfit)
end Wt
