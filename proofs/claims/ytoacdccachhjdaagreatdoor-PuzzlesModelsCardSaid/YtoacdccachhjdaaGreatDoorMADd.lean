/- Walks: the ways out by error of Numbers, Sums, Deal, Seen (printed by gen_yh.py). -/
import Derived.Test.YtoacdccachhjdaaGreatDoorMADb
import Derived.Test.YtoacdccachhjdaaGreatDoorMADc
import Derived.Test.YtoacdccachhjdaaGreatDoorMACg
namespace Wt
open Go Go.RowKit Go.Maps Go.Proofs Fm

theorem RetNk.zero {c : Int} {w W : World} (h : Ext w W) : RetNk ⟨0, [], []⟩ [] c (.returned (.tuple #[.agg #[.int .i64 0, .slice none 0 0, .slice none 0 0], .slice none 0 0, .int .i64 c])) w W := ⟨none, none, none, 0, 0, 0, rfl, fun w'' _ => (FrM.zero 0 w'' 0).rm, fun _ _ => RPe.nil _ _, h⟩
theorem RetDk2.zero {c : Int} {w W : World} (h : Ext w W) : RetDk2 ⟨0, [], []⟩ [] c (.returned (.tuple #[.agg #[.int .i64 0, .slice none 0 0, .slice none 0 0], .slice none 0 0, .int .i64 c])) w W := ⟨none, none, none, 0, 0, 0, rfl, fun w'' _ => (FrM.zero 0 w'' 0).rm, fun _ _ => ⟨by simp, fun k hk => absurd hk (by simp)⟩, h⟩
theorem RetRz.zero {c : Int} {w W : World} (h : Ext w W) : RetRz ⟨0, [], []⟩ c (.returned (.tuple #[.agg #[.int .i64 0, .slice none 0 0, .slice none 0 0], .int .i64 c])) w W := ⟨none, none, 0, 0, rfl, (FrM.zero 0 W 0).rm, h⟩
set_option maxHeartbeats 2000000 in
theorem numbers_bad (m : Int) (h : m < 1 ∨ 7 < m) (w : World) : Calls Tryz.prog 15 #[.int .i64 m] w fun e w' => RetNk ⟨0, [], []⟩ [] 2 e w w' := by
  have hE0 : Ext w ((w).alloc (.cells #[.int .i64 0, .slice none 0 0, .slice none 0 0] 28)) := (Ext.refl w).alloc _
  have HE := Lib.hid hE0
  obtain ⟨e0, e1, e2, efz⟩ := OutAt.new w (.int .i64 0) (.slice none 0 0) (.slice none 0 0) 28
  have f0 := efz 0
  have f1 := efz 1
  have f2 := efz 2
  clear hE0 efz
  by_cases hc0 : m < (1 : Int)
  · have d0_0 : decide (m < (1 : Int)) = true := decide_eq_true (by omega)
    go_enter Tryz.func15, Tryz.ntmps15
    go_wp2_with fail
    refine bodyPost_ret (v := .tuple #[.agg #[.int .i64 0, .slice none 0 0, .slice none 0 0], .slice none 0 0, .int .i64 2]) ?_ rfl ?_
    · rw [results_cell_two rfl]
      go_simp
    · exact RetNk.zero HE.out
  have d1_0 : decide (m < (1 : Int)) = false := decide_eq_false (by omega)
  have d1_1 : decide ((7 : Int) < m) = true := decide_eq_true (by omega)
  go_enter Tryz.func15, Tryz.ntmps15
  go_wp2_with fail
  refine bodyPost_ret (v := .tuple #[.agg #[.int .i64 0, .slice none 0 0, .slice none 0 0], .slice none 0 0, .int .i64 2]) ?_ rfl ?_
  · rw [results_cell_two rfl]
    go_simp
  · exact RetNk.zero HE.out
set_option maxHeartbeats 2000000 in
theorem r32numbers_bad (m : Int) (h : m < 1 ∨ 7 < m) (w : World) : Calls Tryz.prog 16 #[.int .i64 m] w fun e w' => RetNk ⟨0, [], []⟩ [] 2 e w w' := by
  have hE0 : Ext w ((w).alloc (.cells #[.int .i64 0, .slice none 0 0, .slice none 0 0] 28)) := (Ext.refl w).alloc _
  have HE := Lib.hid hE0
  obtain ⟨e0, e1, e2, efz⟩ := OutAt.new w (.int .i64 0) (.slice none 0 0) (.slice none 0 0) 28
  have f0 := efz 0
  have f1 := efz 1
  have f2 := efz 2
  clear hE0 efz
  by_cases hc0 : m < (1 : Int)
  · have d0_0 : decide (m < (1 : Int)) = true := decide_eq_true (by omega)
    go_enter Tryz.func16, Tryz.ntmps16
    go_wp2_with fail
    refine bodyPost_ret (v := .tuple #[.agg #[.int .i64 0, .slice none 0 0, .slice none 0 0], .slice none 0 0, .int .i64 2]) ?_ rfl ?_
    · rw [results_cell_two rfl]
      go_simp
    · exact RetNk.zero HE.out
  have d1_0 : decide (m < (1 : Int)) = false := decide_eq_false (by omega)
  have d1_1 : decide ((7 : Int) < m) = true := decide_eq_true (by omega)
  go_enter Tryz.func16, Tryz.ntmps16
  go_wp2_with fail
  refine bodyPost_ret (v := .tuple #[.agg #[.int .i64 0, .slice none 0 0, .slice none 0 0], .slice none 0 0, .int .i64 2]) ?_ rfl ?_
  · rw [results_cell_two rfl]
    go_simp
  · exact RetNk.zero HE.out
set_option maxHeartbeats 2000000 in
theorem sums_bad (l m : Int) (h : l < 0 ∨ 15 < l ∨ m < 0 ∨ 30 < m) (w : World) : Calls Tryz.prog 18 #[.int .i64 l, .int .i64 m] w fun e w' => RetNk ⟨0, [], []⟩ [] 2 e w w' := by
  have hE0 : Ext w ((((w).alloc (.cells #[.int .i64 l] 3)).alloc (.cells #[.int .i64 m] 3)).alloc (.cells #[.int .i64 0, .slice none 0 0, .slice none 0 0] 28)) := (((Ext.refl w).alloc _).alloc _).alloc _
  have HE := Lib.hid hE0
  obtain ⟨e0, e1, e2, efz⟩ := OutAt.new3 w (.cells #[.int .i64 l] 3) (.cells #[.int .i64 m] 3) (.int .i64 0) (.slice none 0 0) (.slice none 0 0) 28
  have f0 := efz 0
  have f1 := efz 1
  have f2 := efz 2
  clear hE0 efz
  by_cases hc0 : l < (0 : Int)
  · have d0_0 : decide (l < (0 : Int)) = true := decide_eq_true (by omega)
    go_enter Tryz.func18, Tryz.ntmps18
    go_wp2_with fail
    refine bodyPost_ret (v := .tuple #[.agg #[.int .i64 0, .slice none 0 0, .slice none 0 0], .slice none 0 0, .int .i64 2]) ?_ rfl ?_
    · rw [results_cell_two rfl]
      go_simp
    · exact RetNk.zero HE.out
  by_cases hc1 : (15 : Int) < l
  · have d1_0 : decide (l < (0 : Int)) = false := decide_eq_false (by omega)
    have d1_1 : decide ((15 : Int) < l) = true := decide_eq_true (by omega)
    go_enter Tryz.func18, Tryz.ntmps18
    go_wp2_with fail
    refine bodyPost_ret (v := .tuple #[.agg #[.int .i64 0, .slice none 0 0, .slice none 0 0], .slice none 0 0, .int .i64 2]) ?_ rfl ?_
    · rw [results_cell_two rfl]
      go_simp
    · exact RetNk.zero HE.out
  by_cases hc2 : m < (0 : Int)
  · have d2_0 : decide (l < (0 : Int)) = false := decide_eq_false (by omega)
    have d2_1 : decide ((15 : Int) < l) = false := decide_eq_false (by omega)
    have d2_2 : decide (m < (0 : Int)) = true := decide_eq_true (by omega)
    go_enter Tryz.func18, Tryz.ntmps18
    go_wp2_with fail
    refine bodyPost_ret (v := .tuple #[.agg #[.int .i64 0, .slice none 0 0, .slice none 0 0], .slice none 0 0, .int .i64 2]) ?_ rfl ?_
    · rw [results_cell_two rfl]
      go_simp
    · exact RetNk.zero HE.out
  have d3_0 : decide (l < (0 : Int)) = false := decide_eq_false (by omega)
  have d3_1 : decide ((15 : Int) < l) = false := decide_eq_false (by omega)
  have d3_2 : decide (m < (0 : Int)) = false := decide_eq_false (by omega)
  have d3_3 : decide ((30 : Int) < m) = true := decide_eq_true (by omega)
  go_enter Tryz.func18, Tryz.ntmps18
  go_wp2_with fail
  refine bodyPost_ret (v := .tuple #[.agg #[.int .i64 0, .slice none 0 0, .slice none 0 0], .slice none 0 0, .int .i64 2]) ?_ rfl ?_
  · rw [results_cell_two rfl]
    go_simp
  · exact RetNk.zero HE.out
set_option maxHeartbeats 2000000 in
theorem r32sums_bad (l m : Int) (h : l < 0 ∨ 15 < l ∨ m < 0 ∨ 30 < m) (w : World) : Calls Tryz.prog 19 #[.int .i64 l, .int .i64 m] w fun e w' => RetNk ⟨0, [], []⟩ [] 2 e w w' := by
  have hE0 : Ext w ((w).alloc (.cells #[.int .i64 0, .slice none 0 0, .slice none 0 0] 28)) := (Ext.refl w).alloc _
  have HE := Lib.hid hE0
  obtain ⟨e0, e1, e2, efz⟩ := OutAt.new w (.int .i64 0) (.slice none 0 0) (.slice none 0 0) 28
  have f0 := efz 0
  have f1 := efz 1
  have f2 := efz 2
  clear hE0 efz
  by_cases hc0 : l < (0 : Int)
  · have d0_0 : decide (l < (0 : Int)) = true := decide_eq_true (by omega)
    go_enter Tryz.func19, Tryz.ntmps19
    go_wp2_with fail
    refine bodyPost_ret (v := .tuple #[.agg #[.int .i64 0, .slice none 0 0, .slice none 0 0], .slice none 0 0, .int .i64 2]) ?_ rfl ?_
    · rw [results_cell_two rfl]
      go_simp
    · exact RetNk.zero HE.out
  by_cases hc1 : (15 : Int) < l
  · have d1_0 : decide (l < (0 : Int)) = false := decide_eq_false (by omega)
    have d1_1 : decide ((15 : Int) < l) = true := decide_eq_true (by omega)
    go_enter Tryz.func19, Tryz.ntmps19
    go_wp2_with fail
    refine bodyPost_ret (v := .tuple #[.agg #[.int .i64 0, .slice none 0 0, .slice none 0 0], .slice none 0 0, .int .i64 2]) ?_ rfl ?_
    · rw [results_cell_two rfl]
      go_simp
    · exact RetNk.zero HE.out
  by_cases hc2 : m < (0 : Int)
  · have d2_0 : decide (l < (0 : Int)) = false := decide_eq_false (by omega)
    have d2_1 : decide ((15 : Int) < l) = false := decide_eq_false (by omega)
    have d2_2 : decide (m < (0 : Int)) = true := decide_eq_true (by omega)
    go_enter Tryz.func19, Tryz.ntmps19
    go_wp2_with fail
    refine bodyPost_ret (v := .tuple #[.agg #[.int .i64 0, .slice none 0 0, .slice none 0 0], .slice none 0 0, .int .i64 2]) ?_ rfl ?_
    · rw [results_cell_two rfl]
      go_simp
    · exact RetNk.zero HE.out
  have d3_0 : decide (l < (0 : Int)) = false := decide_eq_false (by omega)
  have d3_1 : decide ((15 : Int) < l) = false := decide_eq_false (by omega)
  have d3_2 : decide (m < (0 : Int)) = false := decide_eq_false (by omega)
  have d3_3 : decide ((30 : Int) < m) = true := decide_eq_true (by omega)
  go_enter Tryz.func19, Tryz.ntmps19
  go_wp2_with fail
  refine bodyPost_ret (v := .tuple #[.agg #[.int .i64 0, .slice none 0 0, .slice none 0 0], .slice none 0 0, .int .i64 2]) ?_ rfl ?_
  · rw [results_cell_two rfl]
    go_simp
  · exact RetNk.zero HE.out
set_option maxHeartbeats 2000000 in
theorem deal_bad (p c : Int) (h : p < 1 ∨ 4 < p ∨ c < p ∨ 4 < c) (w : World) : Calls Tryz.prog 20 #[.int .i64 p, .int .i64 c] w fun e w' => RetDk2 ⟨0, [], []⟩ [] 2 e w w' := by
  have hE0 : Ext w ((w).alloc (.cells #[.int .i64 0, .slice none 0 0, .slice none 0 0] 28)) := (Ext.refl w).alloc _
  have HE := Lib.hid hE0
  obtain ⟨e0, e1, e2, efz⟩ := OutAt.new w (.int .i64 0) (.slice none 0 0) (.slice none 0 0) 28
  have f0 := efz 0
  have f1 := efz 1
  have f2 := efz 2
  clear hE0 efz
  by_cases hc0 : p < (1 : Int)
  · have d0_0 : decide (p < (1 : Int)) = true := decide_eq_true (by omega)
    go_enter Tryz.func20, Tryz.ntmps20
    go_wp2_with fail
    refine bodyPost_ret (v := .tuple #[.agg #[.int .i64 0, .slice none 0 0, .slice none 0 0], .slice none 0 0, .int .i64 2]) ?_ rfl ?_
    · rw [results_cell_two rfl]
      go_simp
    · exact RetDk2.zero HE.out
  by_cases hc1 : (4 : Int) < p
  · have d1_0 : decide (p < (1 : Int)) = false := decide_eq_false (by omega)
    have d1_1 : decide ((4 : Int) < p) = true := decide_eq_true (by omega)
    go_enter Tryz.func20, Tryz.ntmps20
    go_wp2_with fail
    refine bodyPost_ret (v := .tuple #[.agg #[.int .i64 0, .slice none 0 0, .slice none 0 0], .slice none 0 0, .int .i64 2]) ?_ rfl ?_
    · rw [results_cell_two rfl]
      go_simp
    · exact RetDk2.zero HE.out
  by_cases hc2 : c < p
  · have d2_0 : decide (p < (1 : Int)) = false := decide_eq_false (by omega)
    have d2_1 : decide ((4 : Int) < p) = false := decide_eq_false (by omega)
    have d2_2 : decide (c < p) = true := decide_eq_true (by omega)
    go_enter Tryz.func20, Tryz.ntmps20
    go_wp2_with fail
    refine bodyPost_ret (v := .tuple #[.agg #[.int .i64 0, .slice none 0 0, .slice none 0 0], .slice none 0 0, .int .i64 2]) ?_ rfl ?_
    · rw [results_cell_two rfl]
      go_simp
    · exact RetDk2.zero HE.out
  have d3_0 : decide (p < (1 : Int)) = false := decide_eq_false (by omega)
  have d3_1 : decide ((4 : Int) < p) = false := decide_eq_false (by omega)
  have d3_2 : decide (c < p) = false := decide_eq_false (by omega)
  have d3_3 : decide ((4 : Int) < c) = true := decide_eq_true (by omega)
  go_enter Tryz.func20, Tryz.ntmps20
  go_wp2_with fail
  refine bodyPost_ret (v := .tuple #[.agg #[.int .i64 0, .slice none 0 0, .slice none 0 0], .slice none 0 0, .int .i64 2]) ?_ rfl ?_
  · rw [results_cell_two rfl]
    go_simp
  · exact RetDk2.zero HE.out
set_option maxHeartbeats 2000000 in
theorem r32deal_bad (p c : Int) (h : p < 1 ∨ 4 < p ∨ c < p ∨ 4 < c) (w : World) : Calls Tryz.prog 21 #[.int .i64 p, .int .i64 c] w fun e w' => RetDk2 ⟨0, [], []⟩ [] 2 e w w' := by
  have hE0 : Ext w ((w).alloc (.cells #[.int .i64 0, .slice none 0 0, .slice none 0 0] 28)) := (Ext.refl w).alloc _
  have HE := Lib.hid hE0
  obtain ⟨e0, e1, e2, efz⟩ := OutAt.new w (.int .i64 0) (.slice none 0 0) (.slice none 0 0) 28
  have f0 := efz 0
  have f1 := efz 1
  have f2 := efz 2
  clear hE0 efz
  by_cases hc0 : p < (1 : Int)
  · have d0_0 : decide (p < (1 : Int)) = true := decide_eq_true (by omega)
    go_enter Tryz.func21, Tryz.ntmps21
    go_wp2_with fail
    refine bodyPost_ret (v := .tuple #[.agg #[.int .i64 0, .slice none 0 0, .slice none 0 0], .slice none 0 0, .int .i64 2]) ?_ rfl ?_
    · rw [results_cell_two rfl]
      go_simp
    · exact RetDk2.zero HE.out
  by_cases hc1 : (4 : Int) < p
  · have d1_0 : decide (p < (1 : Int)) = false := decide_eq_false (by omega)
    have d1_1 : decide ((4 : Int) < p) = true := decide_eq_true (by omega)
    go_enter Tryz.func21, Tryz.ntmps21
    go_wp2_with fail
    refine bodyPost_ret (v := .tuple #[.agg #[.int .i64 0, .slice none 0 0, .slice none 0 0], .slice none 0 0, .int .i64 2]) ?_ rfl ?_
    · rw [results_cell_two rfl]
      go_simp
    · exact RetDk2.zero HE.out
  by_cases hc2 : c < p
  · have d2_0 : decide (p < (1 : Int)) = false := decide_eq_false (by omega)
    have d2_1 : decide ((4 : Int) < p) = false := decide_eq_false (by omega)
    have d2_2 : decide (c < p) = true := decide_eq_true (by omega)
    go_enter Tryz.func21, Tryz.ntmps21
    go_wp2_with fail
    refine bodyPost_ret (v := .tuple #[.agg #[.int .i64 0, .slice none 0 0, .slice none 0 0], .slice none 0 0, .int .i64 2]) ?_ rfl ?_
    · rw [results_cell_two rfl]
      go_simp
    · exact RetDk2.zero HE.out
  have d3_0 : decide (p < (1 : Int)) = false := decide_eq_false (by omega)
  have d3_1 : decide ((4 : Int) < p) = false := decide_eq_false (by omega)
  have d3_2 : decide (c < p) = false := decide_eq_false (by omega)
  have d3_3 : decide ((4 : Int) < c) = true := decide_eq_true (by omega)
  go_enter Tryz.func21, Tryz.ntmps21
  go_wp2_with fail
  refine bodyPost_ret (v := .tuple #[.agg #[.int .i64 0, .slice none 0 0, .slice none 0 0], .slice none 0 0, .int .i64 2]) ?_ rfl ?_
  · rw [results_cell_two rfl]
    go_simp
  · exact RetDk2.zero HE.out
set_option maxHeartbeats 2000000 in
theorem seen_bad (n : Int) (la : Option Addr) (k lc : Nat) (h : n < 1 ∨ 4 < n) (w : World) : Calls Tryz.prog 12 #[.int .i64 n, .slice la k lc] w fun e w' => RetRz ⟨0, [], []⟩ 2 e w w' := by
  have hE0 : Ext w ((((w).alloc (.cells #[.int .i64 n] 3)).alloc (.cells #[.slice la k lc] 22)).alloc (.cells #[.int .i64 0, .slice none 0 0, .slice none 0 0] 28)) := (((Ext.refl w).alloc _).alloc _).alloc _
  have HE := Lib.hid hE0
  obtain ⟨e0, e1, e2, efz⟩ := OutAt.new3 w (.cells #[.int .i64 n] 3) (.cells #[.slice la k lc] 22) (.int .i64 0) (.slice none 0 0) (.slice none 0 0) 28
  have f0 := efz 0
  have f1 := efz 1
  have f2 := efz 2
  clear hE0 efz
  by_cases hc0 : n < (1 : Int)
  · have d0_0 : decide (n < (1 : Int)) = true := decide_eq_true (by omega)
    go_enter Tryz.func12, Tryz.ntmps12
    go_wp2_with fail
    refine bodyPost_ret (v := .tuple #[.agg #[.int .i64 0, .slice none 0 0, .slice none 0 0], .int .i64 2]) ?_ rfl ?_
    · rw [results_cell_tmpZ rfl]
      go_simp
    · exact RetRz.zero HE.out
  have d1_0 : decide (n < (1 : Int)) = false := decide_eq_false (by omega)
  have d1_1 : decide ((4 : Int) < n) = true := decide_eq_true (by omega)
  go_enter Tryz.func12, Tryz.ntmps12
  go_wp2_with fail
  refine bodyPost_ret (v := .tuple #[.agg #[.int .i64 0, .slice none 0 0, .slice none 0 0], .int .i64 2]) ?_ rfl ?_
  · rw [results_cell_tmpZ rfl]
    go_simp
  · exact RetRz.zero HE.out
set_option maxHeartbeats 2000000 in
theorem r32seen_bad (n : Int) (la : Option Addr) (k lc : Nat) (h : n < 1 ∨ 4 < n) (w : World) : Calls Tryz.prog 13 #[.int .i64 n, .slice la k lc] w fun e w' => RetRz ⟨0, [], []⟩ 2 e w w' := by
  have hE0 : Ext w ((w).alloc (.cells #[.int .i64 0, .slice none 0 0, .slice none 0 0] 28)) := (Ext.refl w).alloc _
  have HE := Lib.hid hE0
  obtain ⟨e0, e1, e2, efz⟩ := OutAt.new w (.int .i64 0) (.slice none 0 0) (.slice none 0 0) 28
  have f0 := efz 0
  have f1 := efz 1
  have f2 := efz 2
  clear hE0 efz
  by_cases hc0 : n < (1 : Int)
  · have d0_0 : decide (n < (1 : Int)) = true := decide_eq_true (by omega)
    go_enter Tryz.func13, Tryz.ntmps13
    go_wp2_with fail
    refine bodyPost_ret (v := .tuple #[.agg #[.int .i64 0, .slice none 0 0, .slice none 0 0], .int .i64 2]) ?_ rfl ?_
    · rw [results_cell_tmpZ rfl]
      go_simp
    · exact RetRz.zero HE.out
  have d1_0 : decide (n < (1 : Int)) = false := decide_eq_false (by omega)
  have d1_1 : decide ((4 : Int) < n) = true := decide_eq_true (by omega)
  go_enter Tryz.func13, Tryz.ntmps13
  go_wp2_with fail
  refine bodyPost_ret (v := .tuple #[.agg #[.int .i64 0, .slice none 0 0, .slice none 0 0], .int .i64 2]) ?_ rfl ?_
  · rw [results_cell_tmpZ rfl]
    go_simp
  · exact RetRz.zero HE.out
set_option maxHeartbeats 2000000 in
theorem seen_len (n : Int) (la : Option Addr) (k lc : Nat) (h1 : ¬ n < 1) (h2 : ¬ 4 < n) (h : (k : Int) ≠ n) (w : World) : Calls Tryz.prog 12 #[.int .i64 n, .slice la k lc] w fun e w' => RetRz ⟨0, [], []⟩ 3 e w w' := by
  have hE0 : Ext w ((((w).alloc (.cells #[.int .i64 n] 3)).alloc (.cells #[.slice la k lc] 22)).alloc (.cells #[.int .i64 0, .slice none 0 0, .slice none 0 0] 28)) := (((Ext.refl w).alloc _).alloc _).alloc _
  have HE := Lib.hid hE0
  obtain ⟨e0, e1, e2, efz⟩ := OutAt.new3 w (.cells #[.int .i64 n] 3) (.cells #[.slice la k lc] 22) (.int .i64 0) (.slice none 0 0) (.slice none 0 0) 28
  have f0 := efz 0
  have f1 := efz 1
  have f2 := efz 2
  clear hE0 efz
  have d0_0 : decide (n < (1 : Int)) = false := decide_eq_false (by omega)
  have d0_1 : decide ((4 : Int) < n) = false := decide_eq_false (by omega)
  have d0_2 : ((k : Int) != n) = true := by simpa using h
  go_enter Tryz.func12, Tryz.ntmps12
  go_wp2_with fail
  refine bodyPost_ret (v := .tuple #[.agg #[.int .i64 0, .slice none 0 0, .slice none 0 0], .int .i64 3]) ?_ rfl ?_
  · rw [results_cell_tmpZ rfl]
    go_simp
  · exact RetRz.zero HE.out
set_option maxHeartbeats 2000000 in
theorem r32seen_len (n : Int) (la : Option Addr) (k lc : Nat) (h1 : ¬ n < 1) (h2 : ¬ 4 < n) (h : (k : Int) ≠ n) (w : World) : Calls Tryz.prog 13 #[.int .i64 n, .slice la k lc] w fun e w' => RetRz ⟨0, [], []⟩ 3 e w w' := by
  have hE0 : Ext w ((w).alloc (.cells #[.int .i64 0, .slice none 0 0, .slice none 0 0] 28)) := (Ext.refl w).alloc _
  have HE := Lib.hid hE0
  obtain ⟨e0, e1, e2, efz⟩ := OutAt.new w (.int .i64 0) (.slice none 0 0) (.slice none 0 0) 28
  have f0 := efz 0
  have f1 := efz 1
  have f2 := efz 2
  clear hE0 efz
  have d0_0 : decide (n < (1 : Int)) = false := decide_eq_false (by omega)
  have d0_1 : decide ((4 : Int) < n) = false := decide_eq_false (by omega)
  have d0_2 : ((k : Int) != n) = true := by simpa using h
  go_enter Tryz.func13, Tryz.ntmps13
  go_wp2_with fail
  refine bodyPost_ret (v := .tuple #[.agg #[.int .i64 0, .slice none 0 0, .slice none 0 0], .int .i64 3]) ?_ rfl ?_
  · rw [results_cell_tmpZ rfl]
    go_simp
  · exact RetRz.zero HE.out
end Wt

/- Walk: wittingref32.Seen where the numbers fit (printed by gen_yi.py). -/
namespace Wt
open Go Go.RowKit Go.Maps Go.Proofs Fm

/-- Seen's model and error where there are as many sets as agents. -/
def seenO (n : Nat) (L : List Int) : Mo := if L.any (senB (2 ^ n)) = true then ⟨0, [], []⟩ else senM n (L.map Int.toNat)
def seenC (n : Nat) (L : List Int) : Int := if L.any (senB (2 ^ n)) = true then 1 else 0
set_option maxRecDepth 20000 in
set_option maxHeartbeats 16000000 in
theorem r32seen_any (L : List Int) (n : Nat) (hL : L.length = n) (h1 : 1 ≤ n) (h4 : n ≤ 4) (la : Option Addr) (lc : Nat) (w : World) (hl : RI w la L) :
    Calls Tryz.prog 13 #[.int .i64 (n : Int), .slice la n lc] w fun e w' => RetRz (seenO n L) (seenC n L) e w w' := by
  have hE0 : Ext w (w.alloc (.cells #[.int .i64 0, .slice none 0 0, .slice none 0 0] 28)) := (Ext.refl w).alloc _
  have HE := Lib.hid hE0
  have HOR := Lib.hid (OutAt.new w (.int .i64 0) (.slice none 0 0) (.slice none 0 0) 28)
  have hsz : (w.alloc (.cells #[.int .i64 0, .slice none 0 0, .slice none 0 0] 28)).heap.size = w.heap.size + 1 := by simp
  have HSZ := Lib.hid hsz
  have HL0 := Lib.hid (hl.ext hE0)
  have HLL := Lib.hid hL
  obtain ⟨q, hq⟩ : ∃ q : Nat, q = 2 ^ n := ⟨_, rfl⟩
  have hp : p2 n = (q : Int) := by rw [hq]; rfl
  have hq16 : q ≤ 16 := by
    have : 2 ^ n ≤ 2 ^ 4 := Nat.pow_le_pow_right (by omega) h4
    omega
  have h63 : n < 63 := by omega
  have HQ := Lib.hid hq
  have HPP := Lib.hid hp
  have d0 : decide ((n : Int) < 1) = false := decide_eq_false (by omega)
  have d1 : decide ((4 : Int) < (n : Int)) = false := decide_eq_false (by omega)
  have d2 : ((n : Int) != (n : Int)) = false := by simp
  clear hE0 hsz hl hL hq
  go_enter Tryz.func13, Tryz.ntmps13
  go_wp2_with fail
  generalize w.alloc (.cells #[.int .i64 0, .slice none 0 0, .slice none 0 0] 28) = w0 at *
  go_loop [6] (fun i => ∃ j : Nat, j ≤ n ∧ i = .int .i64 (j : Int) ∧ Hid (∀ k, k < j → senB q (nth L k) = false)) (fun i => n - (RowKit.intOf i).toNat)
  case atStart => exact ⟨0, Nat.zero_le _, rfl, Lib.hid fun k hk => absurd hk (Nat.not_lt_zero _)⟩
  case round =>
    obtain ⟨j, hj, rfl, HNO⟩ := hrel
    by_cases hjn : j < n
    · obtain ⟨b1, o1, rfl, hb1, hc1⟩ := HL0.out.get (k := j) (by rw [HLL.out]; exact hjn)
      have HSB : Hid (senB q (nth L j) = (decide (nth L j < 0) || decide ((q : Int) ≤ nth L j))) := Lib.hid rfl
      have HYES : Hid (senB q (nth L j) = true → seenO n L = ⟨0, [], []⟩ ∧ seenC n L = 1) := Lib.hid fun h => by
        have ha : L.any (senB q) = true := any_yes (by rw [HLL.out]; exact hjn) h
        unfold seenO seenC
        rw [← HQ.out, if_pos ha, if_pos ha]
        exact ⟨rfl, rfl⟩
      have HNX : Hid (senB q (nth L j) = false → ∀ k, k < j + 1 → senB q (nth L k) = false) := Lib.hid fun h k hk => by
        by_cases e : k = j
        · rw [e]; exact h
        · exact HNO.out k (by omega)
      generalize nth L j = x at *
      obtain ⟨bb, hbb⟩ : ∃ bb, decide (x < 0) = bb := ⟨_, rfl⟩
      rw [hbb] at HSB
      cases bb
      · obtain ⟨cc, hcc⟩ : ∃ cc, decide ((q : Int) ≤ x) = cc := ⟨_, rfl⟩
        rw [hcc] at HSB
        cases cc
        · go_wp2_with fail
          go_round
          case rel => exact ⟨j + 1, hjn, by go_num, Lib.hid (HNX.out HSB.out)⟩
          case measure => simp [RowKit.intOf]; omega
        · obtain ⟨hO, hC⟩ := HYES.out HSB.out
          have HOO := Lib.hid hO
          have HCC := Lib.hid hC
          clear hO hC
          have HOF := HOR
          obtain ⟨r0, r1, r2, rfz⟩ := HOF.out
          have f0 := rfz 0
          have f1 := rfz 1
          have f2 := rfz 2
          have rl := HOF.out.lt
          clear rfz
          go_wp2_with fail
          have hEx : Ext w (((w0.setCell ⟨w.heap.size, 0, none⟩ (.int .i64 0)).setCell ⟨w.heap.size, 1, none⟩ (.slice none 0 0)).setCell ⟨w.heap.size, 2, none⟩ (.slice none 0 0)) := ext_set3Z HE.out (by omega) _ _ _
          have ho : OutAt w0 w.heap.size (.int .i64 0) (.slice none 0 0) (.slice none 0 0) := HOF.out
          obtain ⟨e0, e1, e2, -⟩ := ((ho.set0 (.int .i64 0)).set1 (.slice none 0 0)).set2 (.slice none 0 0)
          clear r0 r1 r2 f0 f1 f2 rl
          generalize ((w0.setCell ⟨w.heap.size, 0, none⟩ (.int .i64 0)).setCell ⟨w.heap.size, 1, none⟩ (.slice none 0 0)).setCell ⟨w.heap.size, 2, none⟩ (.slice none 0 0) = W2 at *
          refine bodyPost_ret (v := .tuple #[.agg #[.int .i64 0, .slice none 0 0, .slice none 0 0], .int .i64 1]) ?_ rfl ?_
          · rw [results_cell_tmpZ rfl]
            go_simp
          · rw [HOO.out, HCC.out]
            exact RetRz.zero hEx
      · obtain ⟨hO, hC⟩ := HYES.out (by rw [HSB.out]; rfl)
        have HOO := Lib.hid hO
        have HCC := Lib.hid hC
        clear hO hC
        have HOF := HOR
        obtain ⟨r0, r1, r2, rfz⟩ := HOF.out
        have f0 := rfz 0
        have f1 := rfz 1
        have f2 := rfz 2
        have rl := HOF.out.lt
        clear rfz
        go_wp2_with fail
        have hEx : Ext w (((w0.setCell ⟨w.heap.size, 0, none⟩ (.int .i64 0)).setCell ⟨w.heap.size, 1, none⟩ (.slice none 0 0)).setCell ⟨w.heap.size, 2, none⟩ (.slice none 0 0)) := ext_set3Z HE.out (by omega) _ _ _
        have ho : OutAt w0 w.heap.size (.int .i64 0) (.slice none 0 0) (.slice none 0 0) := HOF.out
        obtain ⟨e0, e1, e2, -⟩ := ((ho.set0 (.int .i64 0)).set1 (.slice none 0 0)).set2 (.slice none 0 0)
        clear r0 r1 r2 f0 f1 f2 rl
        generalize ((w0.setCell ⟨w.heap.size, 0, none⟩ (.int .i64 0)).setCell ⟨w.heap.size, 1, none⟩ (.slice none 0 0)).setCell ⟨w.heap.size, 2, none⟩ (.slice none 0 0) = W2 at *
        refine bodyPost_ret (v := .tuple #[.agg #[.int .i64 0, .slice none 0 0, .slice none 0 0], .int .i64 1]) ?_ rfl ?_
        · rw [results_cell_tmpZ rfl]
          go_simp
        · rw [HOO.out, HCC.out]
          exact RetRz.zero hEx
    · obtain rfl : j = n := by omega
      obtain ⟨Ln, hLn, hLB⟩ : ∃ Ln : List Nat, L = natI Ln ∧ ∀ a, a < j → nth Ln a < q := by
        refine ⟨L.map Int.toNat, ?_, fun a ha => ?_⟩
        · refine nth_ext (by simp [natI]) fun k hk => ?_
          rw [nth_natI (by simpa using hk), nth_eq (L.map Int.toNat) k (by simpa using hk), List.getElem_map, ← nth_eq L k hk]
          have h := HNO.out k (by rw [← HLL.out]; exact hk)
          unfold senB at h
          simp only [Bool.or_eq_false_iff, decide_eq_false_iff_not] at h
          omega
        · have h := HNO.out a ha
          unfold senB at h
          simp only [Bool.or_eq_false_iff, decide_eq_false_iff_not] at h
          rw [nth_eq (L.map Int.toNat) a (by rw [List.length_map, HLL.out]; exact ha), List.getElem_map, ← nth_eq L a (by rw [HLL.out]; exact ha)]
          omega
      have hany : L.any (senB q) = false := any_no fun k hk => HNO.out k (by rw [← HLL.out]; exact hk)
      have hO : seenO j L = senM j Ln := by
        unfold seenO
        rw [← HQ.out, if_neg (by rw [hany]; decide), hLn]
        congr 1
        refine nth_ext (by simp [natI]) fun k hk => ?_
        have hk2 : k < Ln.length := by simpa [natI] using hk
        rw [nth_eq ((natI Ln).map Int.toNat) k hk, List.getElem_map, ← nth_eq (natI Ln) k (by rw [natI_len]; exact hk2), nth_natI hk2]
        simp
      have hC : seenC j L = 0 := by
        unfold seenC
        rw [← HQ.out, if_neg (by rw [hany]; decide)]
      have HSO := Lib.hid hO
      have HSC := Lib.hid hC
      have hlen : Ln.length = j := by rw [← HLL.out, hLn, natI_len]
      rw [hLn] at HL0
      have HL := HL0
      have HLN := Lib.hid hlen
      have HLB := Lib.hid hLB
      clear hany hO hC HNO hLB hlen hLn HLL
      go_wp2_with fail
      obtain ⟨i0, hi1, hz0, hz1, hz2⟩ := info_parts int_info
      go_loopw [7, 8] (fun v i wr => ∃ k : Nat, k ≤ q ∧ i = .int .i64 (k : Int) ∧ Hid (GL w0 3 iv (natI (List.range k)) v wr)) (fun _ i _ => q - (RowKit.intOf i).toNat)
      case atStart => exact ⟨0, Nat.zero_le _, rfl, Lib.hid ⟨Ext.refl _, World.ownsRow_nil _ _ _ _⟩⟩
      case round =>
        obtain ⟨k, hk, rfl, HG⟩ := hrel
        by_cases hkq : k < q
        · have HTK : Hid (natI (List.range (k + 1)) = natI (List.range k) ++ [((k : Nat) : Int)]) := Lib.hid (by rw [List.range_succ]; simp [natI])
          have hfl : (natI (List.range k)).length = k := by rw [natI_len]; simp
          have HO : Hid (∀ o, (wr.alloc o).ownsRow w0.heap.size 3 1 u7 (natI (List.range k)).length ((natI (List.range k)).map iv)) := Lib.hid fun o => (HG.out.ext' ((Ext.refl wr).alloc o)).own
          have HPA : Hid (∀ o, GL w0 3 iv (natI (List.range k)) u7 (wr.alloc o)) := Lib.hid fun o => HG.out.ext' ((Ext.refl wr).alloc o)
          have hsz1 : w0.heap.size ≤ wr.heap.size := HG.out.e.size
          have HFL := Lib.hid hfl
          have hlt : decide ((k : Int) < (q : Int)) = true := decide_eq_true (by omega)
          generalize natI (List.range k) = F at *
          have HONE : Hid (∀ u ∈ [Value.int .i64 (k : Int)], u.oneCell' = true) := Lib.hid (by simp [Value.oneCell'])
          go_wp2_with (at_builtin; refine wpList_append_lies _ rfl _ _ 22 rfl w0.heap.size 3 i0 _ 1 8 Tryz.underlying22 hi1 hz0 hz1 hz2 rfl (by decide) u7 F.length _ rfl (HO.out _) ⟨wr.heap.size, 0, none⟩ 1 1 [.int .i64 (k : Int)] rfl rfl (cell_one_new _ _ _) HONE.out (by decide) (by unfold maxLen; omega) (by omega) (Nat.le_trans hsz1 (by simp)) (wr.heap.size + 1) (by simp) ?_; intro gx cap W1 hown hgrow hat hlt2; have hpush := (HPA.out _).push (x := (k : Int)) hown hgrow; have HPU := Lib.hid hpush; clear hpush hown hgrow hat)
          go_roundw
          case rel => exact ⟨k + 1, hkq, by go_num, Lib.hid (by have h := HPU.out; rw [HFL.out] at h; rw [HTK.out]; exact h)⟩
          case measure => simp [RowKit.intOf]; omega
        · obtain rfl : k = q := by omega
          have hlt : decide ((k : Int) < (k : Int)) = false := decide_eq_false (by omega)
          obtain ⟨wa, wc, hv9, hri⟩ := RI_of_own HG.out.own (by rw [natI_len]; simp; omega)
          have hnl : (natI (List.range k)).length = k := by rw [natI_len]; simp
          rw [hnl] at hv9
          subst hv9
          have HXr := Lib.hid HG.out.e
          have hvv := r32val_any (List.range k) wa wc j wr hri (by simp; omega) (by omega) (fun i hi => by
            have hi : i < k := by simpa using hi
            rw [nth_range hi]; omega)
          rw [List.length_range] at hvv
          clear HG hnl
          have HVV := Lib.hid hvv
          have HVl := Lib.hid (bldVs_len (List.range k) j)
          obtain ⟨V, hV⟩ : ∃ V, V = bldVs (List.range k) j := ⟨_, rfl⟩
          rw [← hV] at HVV HVl
          have HV := Lib.hid hV
          clear hV hvv hri
          go_wp2_with fail
          refine HVV.out.mono ?_
          rintro _ w2 ⟨va, vc, rfl, hov, hE2⟩
          have HOV := Lib.hid hov
          have HE2 := Lib.hid (HXr.out.trans hE2)
          have HXY := Lib.hid hE2
          have HB0 : Hid (w0.heap.size ≤ wr.heap.size ∧ wr.heap.size ≤ w2.heap.size) := Lib.hid ⟨HXr.out.size, hE2.size⟩
          clear hov hE2
          dsimp only
          go_wp2_with fail
          have hA0 := ARq.start (wr := w2) (x := .int .i64 (k : Int)) (vv := .slice va V.length vc) (len := k) rfl
          have hE3 : Ext w2 (w2.alloc (.cells #[.int .i64 (k : Int), .slice va V.length vc, .slice none 0 0] 28)) := (Ext.refl _).alloc _
          have HA0 := Lib.hid hA0
          have HE3 := Lib.hid hE3
          clear hA0 hE3
          generalize w2.alloc (.cells #[.int .i64 (k : Int), .slice va V.length vc, .slice none 0 0] 28) = W0 at *
          have HS3 : Hid (w2.heap.size < W0.heap.size) := Lib.hid HA0.out.lo
          obtain ⟨Rows, hRows⟩ : ∃ Rows : List (List (BitVec 64)), Rows = (List.range j).map fun a => bldRow k (fun v => ((v &&& nth Ln a : Nat) : Int)) := ⟨_, rfl⟩
          have hRl : Rows.length = j := by rw [hRows]; simp
          have HRow : Hid (∀ a, a < j → nth Rows a = bldRow k (fun v => ((v &&& nth Ln a : Nat) : Int))) := Lib.hid fun a ha => by rw [hRows]; exact nth_mapX _ ha
          have HRe := Lib.hid hRows
          obtain ⟨i2, hj1, hy0, hy1, hy2⟩ := info_parts sl_info
          clear hRows
          go_loopw [10] (fun i wz => ∃ a : Nat, a ≤ j ∧ i = .int .i64 (a : Int) ∧ Hid (ARqE W0 w2.heap.size k (.slice va V.length vc) Rows a wz)) (fun i _ => j - (RowKit.intOf i).toNat)
          case atStart => exact ⟨0, Nat.zero_le _, rfl, Lib.hid ⟨_, _, HA0.out⟩⟩
          case round =>
            clear HA0
            rename World => wx
            obtain ⟨a, haa, rfl, HAE⟩ := hrel
            obtain ⟨svs, vr, hAR⟩ := HAE.out
            have HAR := Lib.hid hAR
            clear HAE hAR
            have HXa : Hid (Ext w2 wx) := Lib.hid (Below.trans HE3.out HAR.out.e)
            by_cases hal : a < j
            · go_wp2_with fail
              go_loopw [11, 12] (fun v i wz => ∃ kk : Nat, kk ≤ k ∧ i = .int .i64 (kk : Int) ∧ Hid (GL wx 3 iv (natI ((List.range kk).map (fun v => v &&& nth Ln a))) v wz)) (fun _ i _ => k - (RowKit.intOf i).toNat)
              case atStart => exact ⟨0, Nat.zero_le _, rfl, Lib.hid ⟨Ext.refl _, World.ownsRow_nil _ _ _ _⟩⟩
              case round =>
                rename World => wz
                obtain ⟨kk, hk, rfl, HG⟩ := hrel
                by_cases hkN : kk < k
                · have HTK : Hid (natI ((List.range (kk + 1)).map (fun v => v &&& nth Ln a)) = natI ((List.range kk).map (fun v => v &&& nth Ln a)) ++ [(((kk &&& nth Ln a) : Nat) : Int)]) := Lib.hid (by rw [List.range_succ]; simp [natI])
                  have hfl : (natI ((List.range kk).map (fun v => v &&& nth Ln a))).length = kk := by rw [natI_len]; simp
                  have HHO : Hid (∀ o, (wz.alloc o).ownsRow wx.heap.size 3 1 u11 (natI ((List.range kk).map (fun v => v &&& nth Ln a))).length ((natI ((List.range kk).map (fun v => v &&& nth Ln a))).map iv)) := Lib.hid fun o => (HG.out.ext' ((Ext.refl wz).alloc o)).own
                  have HO := HHO
                  have HPA : Hid (∀ o, GL wx 3 iv (natI ((List.range kk).map (fun v => v &&& nth Ln a))) u11 (wz.alloc o)) := Lib.hid fun o => HG.out.ext' ((Ext.refl wz).alloc o)
                  have hsz1 : wx.heap.size ≤ wz.heap.size := HG.out.e.size
                  have HFL := Lib.hid hfl
                  have HXz := Lib.hid (HXa.out.trans HG.out.e)
                  generalize natI ((List.range kk).map (fun v => v &&& nth Ln a)) = F at *
                  obtain ⟨b1, o1, rfl, hb1, hc1⟩ := (HL.out.ext (HE2.out.trans HXz.out)).get (k := a) (by rw [natI_len, HLN.out]; exact hal)
                  rw [nth_natI (by rw [HLN.out]; exact hal)] at hc1
                  have hx16 : nth Ln a < 16 := by have := HLB.out a hal; omega
                  generalize nth Ln a = x at *
                  have han := and_nat kk x (by omega) (by omega)
                  have hk16 : kk < 16 := by omega
                  have HONE : Hid (∀ u ∈ [Value.int .i64 (((kk &&& x : Nat) : Int) : Int)], u.oneCell' = true) := Lib.hid (by simp [Value.oneCell'])
                  go_wp2_with (at_builtin; refine wpList_append_lies _ rfl _ _ 22 rfl wx.heap.size 3 i0 _ 1 8 Tryz.underlying22 hi1 hz0 hz1 hz2 rfl (by decide) u11 F.length _ rfl (HO.out _) ⟨wz.heap.size, 0, none⟩ 1 1 [.int .i64 (((kk &&& x : Nat) : Int) : Int)] rfl rfl (cell_one_new _ _ _) HONE.out (by decide) (by unfold maxLen; omega) (by omega) (Nat.le_trans hsz1 (by simp)) (wz.heap.size + 1) (by simp) ?_; intro gx cap W1 hown hgrow hat hlt2; have hpush := (HPA.out _).push (x := (((kk &&& x : Nat) : Int) : Int)) hown hgrow; have HPU := Lib.hid hpush; clear hpush hown hgrow hat)
                  go_roundw
                  case rel => exact ⟨kk + 1, hkN, by go_num, Lib.hid (by have h := HPU.out; rw [HFL.out] at h; rw [HTK.out]; exact h)⟩
                  case measure => simp [RowKit.intOf]; omega
                · obtain rfl : k = kk := by omega
                  obtain ⟨ka, kc, hv9, hri9⟩ := RI_of_own (l := natI ((List.range k).map (fun v => v &&& nth Ln a))) HG.out.own (by rw [natI_len]; simp; omega)
                  have hnl9 : (natI ((List.range k).map (fun v => v &&& nth Ln a))).length = k := by rw [natI_len]; simp
                  rw [hnl9] at hv9
                  subst hv9
                  have HEQ : Hid (∀ W', Ext wz W' → Calls Tryz.prog 56 #[.slice ka k kc] W' fun e w' => RetY (nth Rows a) e W' w') := Lib.hid fun W' hW => by
                    have h9 := r32eqv_any _ ka kc W' (hri9.ext hW) (by rw [hnl9]; omega)
                    rw [hnl9] at h9
                    rw [HRow.out a hal, bldRow_congr (k2 := nth (natI ((List.range k).map (fun v => v &&& nth Ln a)))) fun v hv => by
                      rw [nth_natI (by simpa using hv), nth_mapX _ hv]]
                    exact h9
                  have HRL : Hid ((nth Rows a).length = k) := Lib.hid (by rw [HRow.out a hal, bldRow_len])
                  have HXz := Lib.hid HG.out.e
                  have hone : Rows.take (a + 1) = Rows.take a ++ [nth Rows a] := take_nthZ (by rw [hRl]; exact hal)
                  have HONE1 := Lib.hid hone
                  clear HG hri9 hnl9 hone
                  generalize nth Rows a = R at *
                  have hsl : svs.length = a := by rw [HAR.out.rl, List.length_take]; omega
                  have HA3 := Lib.hid (HAR.out.ext' HXz.out)
                  have HSS : Hid (∀ w', Ext wz w' → w'.cell? ⟨w2.heap.size, 2, none⟩ = some vr) := Lib.hid fun w' h => (HA3.out.out.ext h).c2
                  have hbl := HA3.out.out.lt
                  go_wp2_with fail
                  refine wp_region_E 6 (fun w' => w'.cell? ⟨w2.heap.size, 2, none⟩ = some vr) (by kernel_rfl) ?_
                  refine wpAnyE_take (i := 0) (v := ?_) (.here) (by kernel_rfl) (fun _ _ _ h => h) (HSS.out _ (Ext.refl _).drew) (by rfl) ?_ ?_
                  rotate_left
                  focus (intro w hSw; (try dsimp only at hSw); go_simp; try with_reducible rfl)
                  try simp only [Act.put, List.setIfInBounds_toArray, List.set_cons_zero, List.set_cons_succ]
                  refine wpAnyE_take (i := 1) (v := ?_) (.next (.here)) (by kernel_rfl) (fun _ _ _ h => h) (HSS.out _ (Ext.refl _).drew) (by rfl) ?_ ?_
                  rotate_left
                  focus (intro w hSw; (try dsimp only at hSw); go_simp; try with_reducible rfl)
                  try simp only [Act.put, List.setIfInBounds_toArray, List.set_cons_zero, List.set_cons_succ]
                  refine wpAnyE_take (i := 2) (v := ?_) (.next (.next (.here))) (by kernel_rfl) (fun _ _ _ h => h) (HSS.out _ (Ext.refl _).drew) (by rfl) ?_ ?_
                  rotate_left
                  focus (intro w hSw; (try dsimp only at hSw); go_simp; try with_reducible rfl)
                  try simp only [Act.put, List.setIfInBounds_toArray, List.set_cons_zero, List.set_cons_succ]
                  refine wpAnyE_one (k := 3) (.next (.next (.next (.here)))) (by kernel_rfl) (fun K hK => ?_)
                  go_simp
                  refine (HEQ.out _ (Ext.refl _).drew).mono ?_; rintro _ w3 ⟨a1, c1, rfl, ho1, hE4⟩; dsimp only
                  refine hK.out _ _ (fun _ => HSS.out _ ((Ext.refl _).drew.trans hE4)) ?_
                  clear hK
                  try simp only [Act.put, List.setIfInBounds_toArray, List.set_cons_zero, List.set_cons_succ]
                  refine wpAnyE_one (k := 4) (.next (.next (.next (.next (.here))))) (by kernel_rfl) (fun K hK => ?_)
                  go_simp
                  refine hK.out _ _ (fun _ => HSS.out _ (((Ext.refl _).drew.trans hE4).alloc _)) ?_
                  clear hK
                  try simp only [Act.put, List.setIfInBounds_toArray, List.set_cons_zero, List.set_cons_succ]
                  have hdr : wz.drew.heap.size = wz.heap.size := rfl
                  have hsz3 := hE4.size
                  have hszx := HXz.out.size
                  have HE4 : Hid (Ext wz w3) := Lib.hid ((Ext.refl _).drew.trans hE4)
                  have HAP := Lib.hid (HAR.out.apart (OU.mono (b' := wx.heap.size) ho1 (by omega)))
                  have HA4 := Lib.hid ((HA3.out.ext' HE4.out).ext' ((Ext.refl w3).alloc (.cells #[.slice a1 R.length c1] 25)))
                  have HO4 : Hid (OU (w3.alloc (.cells #[.slice a1 R.length c1] 25)) (w2.heap.size + 1) (.slice a1 R.length c1) R) := Lib.hid ((OU.mono (b' := w2.heap.size + 1) ho1 (by omega)).ext ((Ext.refl _).alloc _))
                  have HON : Hid (∀ u ∈ [Value.slice a1 R.length c1], u.oneCell' = true) := Lib.hid (by simp [Value.oneCell'])
                  have hb3 : w2.heap.size < w3.heap.size := by omega
                  refine wpAnyE_one (k := 5) (.next (.next (.next (.next (.next (.here)))))) (by kernel_rfl) (fun K hK => ?_)
                  refine step_append_lies _ rfl _ _ 26 rfl (w2.heap.size + 1) 25 i2 _ 1 24 Tryz.underlying26 hj1 hy0 hy1 hy2 rfl (by decide) vr svs.length svs rfl HA4.out.orr ⟨w3.heap.size, 0, none⟩ 1 1 [.slice a1 R.length c1] rfl rfl (cell_one_new _ _ _) HON.out (by decide) (by unfold maxLen; omega) (by omega) (by simp; omega) _ rfl ?_; intro gx cap W1 hown hgrow hat hlt2; have HOW := Lib.hid hown; have HGR := Lib.hid hgrow; clear hown hgrow hat
                  refine hK.out _ _ (fun _ => (HA4.out.outR HGR.out).c2) ?_
                  clear hK
                  try simp only [Act.put, List.setIfInBounds_toArray, List.set_cons_zero, List.set_cons_succ]
                  refine wpAnyE_seq [6, 7] (.cons (.next (.next (.next (.next (.next (.next (.here))))))) (.cons (.next (.next (.next (.next (.next (.next (.next (.here)))))))) (.nil))) (by kernel_rfl) (by kernel_rfl) ?_
                  obtain ⟨p0, p1, p2, pfz⟩ := HA4.out.outR HGR.out
                  have pf := pfz 2
                  have pl := (HA4.out.outR HGR.out).lt
                  have HNEW := Lib.hid (HA4.out.push HO4.out HAP.out HOW.out HGR.out)
                  clear pfz ho1 hE4
                  go_wp2_with fail
                  go_roundw
                  case rel => exact ⟨a + 1, hal, by go_num, Lib.hid ⟨_, _, by have h := HNEW.out; rw [hsl] at h; rw [HONE1.out]; exact h⟩⟩
                  case measure => simp [RowKit.intOf]; omega
            · obtain rfl : j = a := by omega
              have hfull : Rows.take j = Rows := List.take_of_length_le (by omega)
              have har := HAR.out
              rw [hfull] at har
              have HAF := Lib.hid har
              obtain ⟨ra, rc, hvr, hall⟩ := har.all (HOV.out.ext HXa.out) (by have := HB0.out; omega) (by rw [HVl.out]; omega) (by rw [hRl]; omega) (fun jj hj => by rw [HRow.out jj (by omega), bldRow_len]; omega)
              rw [hRl] at hvr
              subst hvr
              have HALL := Lib.hid hall
              have HAA : Hid (senM j Ln = ⟨(k : Int), V, Rows⟩) := Lib.hid (by
                rw [HV.out, HRe.out]
                unfold senM bldM bldVs
                rw [← HQ.out]
                simp only [List.length_range])
              obtain ⟨o0, o1, o2, -⟩ := har.out
              have ol := har.out.lt
              have HOF := Lib.hid (HOR.out.ext (HE2.out.trans HXa.out))
              obtain ⟨r0, r1, r2, rfz⟩ := HOF.out
              have f0 := rfz 0
              have f1 := rfz 1
              have f2 := rfz 2
              have rl := HOF.out.lt
              clear hall rfz har hfull HAR
              go_wp2_with fail
              have hs0 := HSZ.out
              have hs1 := HXr.out.size
              have hs2 := HB0.out
              have hbk : ∀ kk, kk ≠ w.heap.size → (((wx.setCell ⟨w.heap.size, 0, none⟩ (.int .i64 (k : Int))).setCell ⟨w.heap.size, 1, none⟩ (.slice va V.length vc)).setCell ⟨w.heap.size, 2, none⟩ (.slice ra j rc)).heap[kk]? = wx.heap[kk]? := fun kk hne => by
                rw [heap_setCell_other _ _ _ _ (by simpa using hne), heap_setCell_other _ _ _ _ (by simpa using hne), heap_setCell_other _ _ _ _ (by simpa using hne)]
              have hkm : ∀ w'' : World, Agree w.heap.size (((wx.setCell ⟨w.heap.size, 0, none⟩ (.int .i64 (k : Int))).setCell ⟨w.heap.size, 1, none⟩ (.slice va V.length vc)).setCell ⟨w.heap.size, 2, none⟩ (.slice ra j rc)) w'' → RM w'' va ra ⟨(k : Int), V, Rows⟩ := fun w'' ag => HALL.out w'' fun kk hk hl => (ag kk (by omega) (by simp only [World.setCell, Array.size_modify]; omega)).trans (hbk kk (by omega))
              have hEx : Ext w (((wx.setCell ⟨w.heap.size, 0, none⟩ (.int .i64 (k : Int))).setCell ⟨w.heap.size, 1, none⟩ (.slice va V.length vc)).setCell ⟨w.heap.size, 2, none⟩ (.slice ra j rc)) := ext_set3Z (HE.out.trans (HE2.out.trans HXa.out)) (by omega) _ _ _
          
              have ho : OutAt wx w.heap.size (.int .i64 0) (.slice none 0 0) (.slice none 0 0) := HOF.out
              obtain ⟨e0, e1, e2, -⟩ := ((ho.set0 (.int .i64 (k : Int))).set1 (.slice va V.length vc)).set2 (.slice ra j rc)
              clear r0 r1 r2 f0 f1 f2 rl o0 o1 o2 ol
              generalize ((wx.setCell ⟨w.heap.size, 0, none⟩ (.int .i64 (k : Int))).setCell ⟨w.heap.size, 1, none⟩ (.slice va V.length vc)).setCell ⟨w.heap.size, 2, none⟩ (.slice ra j rc) = W9 at *
              refine bodyPost_ret (v := .tuple #[.agg #[.int .i64 (k : Int), .slice va V.length vc, .slice ra j rc], .int .i64 0]) ?_ rfl ?_
              · rw [results_cell_tmpZ rfl]
                go_simp
              · rw [HSO.out, HSC.out, HAA.out]
                exact ⟨va, ra, vc, rc, by rw [show (⟨(k : Int), V, Rows⟩ : Mo).rel.length = j from hRl], hkm _ fun _ _ _ => rfl, hEx⟩
end Wt

/- Walk: wittingref32.Deal (printed by gen_yi.py). -/
namespace Wt
open Go Go.RowKit Go.Maps Go.Proofs Fm

theorem r32deals_p (C : Nat) (hC : C ≤ 4) (p : Nat) (h1 : 1 ≤ p) (h4 : p ≤ 4) (w : World) :
    Calls Tryz.prog 70 #[.slice none 0 0, .int .i64 (p : Int), .int .i64 (C : Int)] w fun e w' => RetDk (dealL C p []) e w w' := by
  obtain ⟨n, rfl⟩ : ∃ n, p = n + 1 := ⟨p - 1, by omega⟩
  exact r32deals_top C hC n (n + 1) w rfl h1 h4
set_option maxRecDepth 20000 in
set_option maxHeartbeats 16000000 in
theorem r32deal_own (p C : Nat) (hp : 1 ≤ p) (hC : C ≤ 4) (hpC : p ≤ C) (w : World) : Calls Tryz.prog 21 #[.int .i64 (p : Int), .int .i64 (C : Int)] w fun e w' => RetDk2 (deaM p C) (deaL p C) 0 e w w' := by
  have hE0 : Ext w (w.alloc (.cells #[.int .i64 0, .slice none 0 0, .slice none 0 0] 28)) := (Ext.refl w).alloc _
  have HE := Lib.hid hE0
  have HOR := Lib.hid (OutAt.new w (.int .i64 0) (.slice none 0 0) (.slice none 0 0) 28)
  have hsz : (w.alloc (.cells #[.int .i64 0, .slice none 0 0, .slice none 0 0] 28)).heap.size = w.heap.size + 1 := by simp
  have HSZ := Lib.hid hsz
  have d0 : decide ((p : Int) < 1) = false := decide_eq_false (by omega)
  have d1 : decide ((4 : Int) < (p : Int)) = false := decide_eq_false (by omega)
  have d2 : decide ((C : Int) < (p : Int)) = false := decide_eq_false (by omega)
  have d3 : decide ((4 : Int) < (C : Int)) = false := decide_eq_false (by omega)
  have d4 : decide (C < p) = false := decide_eq_false (by omega)
  have hp4 : p ≤ 4 := by omega
  clear hE0 hsz
  go_enter Tryz.func21, Tryz.ntmps21
  go_wp2_with fail
  generalize w.alloc (.cells #[.int .i64 0, .slice none 0 0, .slice none 0 0] 28) = w0 at *
  refine (r32deals_p C hC p hp hp4 w0).mono ?_
  rintro _ w1 ⟨svs, v1, rfl, hdk⟩
  obtain ⟨la, lc, rfl, hri⟩ := hdk.rii (by have := (deaL_ok ⟨p, by omega⟩ ⟨C, by omega⟩).1; unfold deaL at this; dsimp only at this; omega) (fun r hr => by have := ((deaL_ok ⟨p, by omega⟩ ⟨C, by omega⟩).2 r hr).1; dsimp only at this; omega)
  have HRI := Lib.hid hri
  have HX1 := Lib.hid hdk.e
  have HRI2 : Hid (RII w1 la (dealL C p [])) := Lib.hid (hri _ fun _ _ _ => rfl)
  clear hri hdk
  dsimp only
  obtain ⟨L, hL⟩ : ∃ L, L = dealL C p [] := ⟨_, rfl⟩
  rw [← hL] at HRI HRI2 ⊢
  have HLe := Lib.hid hL
  clear hL
  have HLL : Hid (L.length ≤ 64 ∧ ∀ r ∈ L, r.length = p ∧ ∀ c ∈ r, c < 4) := Lib.hid (by
    rw [HLe.out]
    exact deaL_ok ⟨p, by omega⟩ ⟨C, by omega⟩)
  have hl64 := HLL.out.1
  go_wp2_with fail
  obtain ⟨i0, hi1, hz0, hz1, hz2⟩ := info_parts int_info
  go_loopw [8, 9] (fun v i wr => ∃ k : Nat, k ≤ L.length ∧ i = .int .i64 (k : Int) ∧ Hid (GL w1 3 iv (natI ((L.take k).map dealW)) v wr)) (fun _ i _ => L.length - (RowKit.intOf i).toNat)
  case atStart => exact ⟨0, Nat.zero_le _, rfl, Lib.hid ⟨Ext.refl _, by rw [List.take_zero]; exact World.ownsRow_nil _ _ _ _⟩⟩
  case round =>
    obtain ⟨k, hk, rfl, HS⟩ := hrel
    by_cases hkl : k < L.length
    · obtain ⟨bb, off, ra, rc, rfl, hbb, hc, hr⟩ := (HRI2.out.ext HS.out.e).get k hkl
      have hrl := HLL.out.2 _ (nth_mem hkl)
      have HTK : Hid (natI ((L.take (k + 1)).map dealW) = natI ((L.take k).map dealW) ++ [((dealW (nth L k) : Nat) : Int)]) := Lib.hid (by rw [take_nthZ hkl]; simp [natI])
      have hfl : (natI ((L.take k).map dealW)).length = k := by rw [natI_len]; simp; omega
      have HFL := Lib.hid hfl
      generalize nth L k = r at *
      have HR := Lib.hid hr
      have HRL := Lib.hid hrl
      have hrn4 : r.length ≤ 4 := by have := hrl.1; omega
      have hrp := hrl.1
      rw [hrp] at hc
      clear hr hrl hfl
      go_wp2_with fail
      go_loop [10, 11] (fun x i => ∃ j : Nat, j ≤ p ∧ i = .int .i64 (j : Int) ∧ x = .int .i64 ((dealF r j : Nat) : Int)) (fun _ i => p - (RowKit.intOf i).toNat)
      case atStart => exact ⟨0, Nat.zero_le _, rfl, rfl⟩
      case round =>
        obtain ⟨j, hj, rfl, rfl⟩ := hrel
        by_cases hjl : j < p
        · have hnl : (natI r).length = r.length := by simp [natI]
          obtain ⟨b3, o3, rfl, hb3, hc3⟩ := HR.out.get (k := j) (by rw [hnl, HRL.out.1]; exact hjl)
          rw [nth_natI (by rw [HRL.out.1]; exact hjl)] at hc3
          have HBT := Lib.hid (dealF_bits HRL.out.2 (by rw [HRL.out.1]; exact hjl) hrn4)
          clear hnl hrp
          go_wp2_with fail
          go_round
          case rel => exact ⟨j + 1, hjl, by go_num, by rw [← HBT.out]⟩
          case measure => simp [RowKit.intOf]; omega
        · obtain rfl : p = j := by omega
          have HZZ : Hid (dealW r = dealF r p) := Lib.hid (by unfold dealW; rw [HRL.out.1])
          have HO : Hid (∀ o, (wr.alloc o).ownsRow w1.heap.size 3 1 u8 (natI ((L.take k).map dealW)).length ((natI ((L.take k).map dealW)).map iv)) := Lib.hid fun o => (HS.out.ext' ((Ext.refl wr).alloc o)).own
          have HPA : Hid (∀ o, GL w1 3 iv (natI ((L.take k).map dealW)) u8 (wr.alloc o)) := Lib.hid fun o => HS.out.ext' ((Ext.refl wr).alloc o)
          have hsz1 : w1.heap.size ≤ wr.heap.size := HS.out.e.size
          generalize dealF r p = z at *
          have HONE : Hid (∀ u ∈ [Value.int .i64 (z : Int)], u.oneCell' = true) := Lib.hid (by simp [Value.oneCell'])
          have hzl := HFL.out
          generalize natI ((L.take k).map dealW) = F at *
          go_wp2_with (at_builtin; refine wpList_append_lies _ rfl _ _ 22 rfl w1.heap.size 3 i0 _ 1 8 Tryz.underlying22 hi1 hz0 hz1 hz2 rfl (by decide) u8 F.length _ rfl (HO.out _) ⟨wr.heap.size, 0, none⟩ 1 1 [.int .i64 (z : Int)] rfl rfl (cell_one_new _ _ _) HONE.out (by decide) (by unfold maxLen; omega) (by omega) (Nat.le_trans hsz1 (by simp)) (wr.heap.size + 1) (by simp) ?_; intro gx cap W1 hown hgrow hat hlt2; have hpush := (HPA.out _).push (x := (z : Int)) hown hgrow; have HPU := Lib.hid hpush; clear hpush hown hgrow hat)
          go_roundw
          case rel => exact ⟨k + 1, hkl, by go_num, Lib.hid (by have h := HPU.out; rw [HFL.out] at h; rw [HTK.out, HZZ.out]; exact h)⟩
          case measure => simp [RowKit.intOf]; omega
    · obtain rfl : L.length = k := by omega
      have hS := HS.out
      rw [List.take_length] at hS
      obtain ⟨wa, wc, hv9, hri9⟩ := RI_of_own hS.own (by rw [natI_len]; simp; omega)
      have hml : (L.map dealW).length = L.length := by simp
      rw [natI_len, hml] at hv9
      subst hv9
      have HX1r := Lib.hid hS.e
      have HXr := Lib.hid (HX1.out.trans hS.e)
      have hvv := r32val_any (L.map dealW) wa wc (2 * p) wr hri9 (by omega) (by omega) (fun i hi => by
        rw [hml] at hi
        rw [nth_eq _ _ (by rw [hml]; exact hi), List.getElem_map, ← nth_eq L i hi]
        have h := HLL.out.2 _ (nth_mem hi)
        unfold dealW
        have h2 := dealF_lt _ h.2 _ (Nat.le_refl _)
        have h3 : 2 ^ (2 * (nth L i).length) ≤ 2 ^ 8 := Nat.pow_le_pow_right (by omega) (by omega)
        omega)
      rw [hml, show ((2 * p : Nat) : Int) = 2 * (p : Int) by omega] at hvv
      clear hS HS
      have HVV := Lib.hid hvv
      have HVl := Lib.hid (bldVs_len (L.map dealW) (2 * p))
      obtain ⟨V, hV⟩ : ∃ V, V = bldVs (L.map dealW) (2 * p) := ⟨_, rfl⟩
      rw [← hV] at HVV HVl
      have HV := Lib.hid hV
      clear hV hvv hri9 hml
      go_wp2_with fail
      refine HVV.out.mono ?_
      rintro _ w2 ⟨va, vc, rfl, hov, hE2⟩
      have HOV := Lib.hid hov
      have HE2 := Lib.hid (HXr.out.trans hE2)
      have HXY := Lib.hid hE2
      have HB0 : Hid (w0.heap.size ≤ wr.heap.size ∧ wr.heap.size ≤ w2.heap.size) := Lib.hid ⟨HXr.out.size, hE2.size⟩
      clear hov hE2
      dsimp only
      go_wp2_with fail
      have hA0 := ARq.start (wr := w2) (x := .int .i64 (L.length : Int)) (vv := .slice va V.length vc) (len := L.length) rfl
      have hE3 : Ext w2 (w2.alloc (.cells #[.int .i64 (L.length : Int), .slice va V.length vc, .slice none 0 0] 28)) := (Ext.refl _).alloc _
      have HA0 := Lib.hid hA0
      have HE3 := Lib.hid hE3
      clear hA0 hE3
      generalize w2.alloc (.cells #[.int .i64 (L.length : Int), .slice va V.length vc, .slice none 0 0] 28) = W0 at *
      have HS3 : Hid (w2.heap.size < W0.heap.size) := Lib.hid HA0.out.lo
      obtain ⟨Rows, hRows⟩ : ∃ Rows : List (List (BitVec 64)), Rows = (List.range p).map fun a => bldRow L.length (fun v => ((nth (nth L v) a : Nat) : Int)) := ⟨_, rfl⟩
      have hRl : Rows.length = p := by rw [hRows]; simp
      have HRow : Hid (∀ a, a < p → nth Rows a = bldRow L.length (fun v => ((nth (nth L v) a : Nat) : Int))) := Lib.hid fun a ha => by rw [hRows]; exact nth_mapX _ ha
      have HRe := Lib.hid hRows
      obtain ⟨i2, hj1, hy0, hy1, hy2⟩ := info_parts sl_info
      clear hRows
      go_loopw [13] (fun i wz => ∃ a : Nat, a ≤ p ∧ i = .int .i64 (a : Int) ∧ Hid (ARqE W0 w2.heap.size L.length (.slice va V.length vc) Rows a wz)) (fun i _ => p - (RowKit.intOf i).toNat)
      case atStart => exact ⟨0, Nat.zero_le _, rfl, Lib.hid ⟨_, _, HA0.out⟩⟩
      case round =>
        clear HA0
        rename World => wx
        obtain ⟨a, haa, rfl, HAE⟩ := hrel
        obtain ⟨svs, vr, hAR⟩ := HAE.out
        have HAR := Lib.hid hAR
        clear HAE hAR
        have HXa : Hid (Ext w2 wx) := Lib.hid (Below.trans HE3.out HAR.out.e)
        by_cases hal : a < p
        · go_wp2_with fail
          go_loopw [14, 15] (fun v i wz => ∃ k : Nat, k ≤ L.length ∧ i = .int .i64 (k : Int) ∧ Hid (GL wx 3 iv (natI ((List.range k).map (fun v => nth (nth L v) a))) v wz)) (fun _ i _ => L.length - (RowKit.intOf i).toNat)
          case atStart => exact ⟨0, Nat.zero_le _, rfl, Lib.hid ⟨Ext.refl _, World.ownsRow_nil _ _ _ _⟩⟩
          case round =>
            rename World => wz
            obtain ⟨k, hk, rfl, HG⟩ := hrel
            by_cases hkN : k < L.length
            · have HTK : Hid (natI ((List.range (k + 1)).map (fun v => nth (nth L v) a)) = natI ((List.range k).map (fun v => nth (nth L v) a)) ++ [(((nth (nth L k) a) : Nat) : Int)]) := Lib.hid (by rw [List.range_succ]; simp [natI])
              have hfl : (natI ((List.range k).map (fun v => nth (nth L v) a))).length = k := by rw [natI_len]; simp
              have HHO : Hid (∀ o, (wz.alloc o).ownsRow wx.heap.size 3 1 u14 (natI ((List.range k).map (fun v => nth (nth L v) a))).length ((natI ((List.range k).map (fun v => nth (nth L v) a))).map iv)) := Lib.hid fun o => (HG.out.ext' ((Ext.refl wz).alloc o)).own
              have HO := HHO
              have HPA : Hid (∀ o, GL wx 3 iv (natI ((List.range k).map (fun v => nth (nth L v) a))) u14 (wz.alloc o)) := Lib.hid fun o => HG.out.ext' ((Ext.refl wz).alloc o)
              have hsz1 : wx.heap.size ≤ wz.heap.size := HG.out.e.size
              have HFL := Lib.hid hfl
              have HXz := Lib.hid (HXa.out.trans HG.out.e)
              generalize natI ((List.range k).map (fun v => nth (nth L v) a)) = F at *
              obtain ⟨b5, o5, a5, c5, rfl, hb5, hc5, hr5⟩ := (HRI2.out.ext ((HX1r.out.trans HXY.out).trans HXz.out)).get k hkN
              have hrl5 := (HLL.out.2 _ (nth_mem hkN)).1
              obtain ⟨b6, o6, rfl, hb6, hc6⟩ := hr5.get (k := a) (by rw [natI_len, hrl5]; exact hal)
              rw [nth_natI (by rw [hrl5]; exact hal)] at hc6
              rw [hrl5] at hc5
              clear hr5 hrl5
              generalize nth (nth L k) a = x at *
              have HONE : Hid (∀ u ∈ [Value.int .i64 ((x : Int) : Int)], u.oneCell' = true) := Lib.hid (by simp [Value.oneCell'])
              go_wp2_with (at_builtin; refine wpList_append_lies _ rfl _ _ 22 rfl wx.heap.size 3 i0 _ 1 8 Tryz.underlying22 hi1 hz0 hz1 hz2 rfl (by decide) u14 F.length _ rfl (HO.out _) ⟨wz.heap.size, 0, none⟩ 1 1 [.int .i64 ((x : Int) : Int)] rfl rfl (cell_one_new _ _ _) HONE.out (by decide) (by unfold maxLen; omega) (by omega) (Nat.le_trans hsz1 (by simp)) (wz.heap.size + 1) (by simp) ?_; intro gx cap W1 hown hgrow hat hlt2; have hpush := (HPA.out _).push (x := ((x : Int) : Int)) hown hgrow; have HPU := Lib.hid hpush; clear hpush hown hgrow hat)
              go_roundw
              case rel => exact ⟨k + 1, hkN, by go_num, Lib.hid (by have h := HPU.out; rw [HFL.out] at h; rw [HTK.out]; exact h)⟩
              case measure => simp [RowKit.intOf]; omega
            · obtain rfl : L.length = k := by omega
              obtain ⟨ka, kc, hv9, hri9⟩ := RI_of_own (l := natI ((List.range L.length).map (fun v => nth (nth L v) a))) HG.out.own (by rw [natI_len]; simp; omega)
              have hnl9 : (natI ((List.range L.length).map (fun v => nth (nth L v) a))).length = L.length := by rw [natI_len]; simp
              rw [hnl9] at hv9
              subst hv9
              have HEQ : Hid (∀ W', Ext wz W' → Calls Tryz.prog 56 #[.slice ka L.length kc] W' fun e w' => RetY (nth Rows a) e W' w') := Lib.hid fun W' hW => by
                have h9 := r32eqv_any _ ka kc W' (hri9.ext hW) (by rw [hnl9]; omega)
                rw [hnl9] at h9
                rw [HRow.out a hal, bldRow_congr (k2 := nth (natI ((List.range L.length).map (fun v => nth (nth L v) a)))) fun v hv => by
                  rw [nth_natI (by simpa using hv), nth_mapX _ hv]]
                exact h9
              have HRL : Hid ((nth Rows a).length = L.length) := Lib.hid (by rw [HRow.out a hal, bldRow_len])
              have HXz := Lib.hid HG.out.e
              have hone : Rows.take (a + 1) = Rows.take a ++ [nth Rows a] := take_nthZ (by rw [hRl]; exact hal)
              have HONE1 := Lib.hid hone
              clear HG hri9 hnl9 hone
              generalize nth Rows a = R at *
              have hsl : svs.length = a := by rw [HAR.out.rl, List.length_take]; omega
              have HA3 := Lib.hid (HAR.out.ext' HXz.out)
              have HSS : Hid (∀ w', Ext wz w' → w'.cell? ⟨w2.heap.size, 2, none⟩ = some vr) := Lib.hid fun w' h => (HA3.out.out.ext h).c2
              have hbl := HA3.out.out.lt
              go_wp2_with fail
              refine wp_region_E 6 (fun w' => w'.cell? ⟨w2.heap.size, 2, none⟩ = some vr) (by kernel_rfl) ?_
              refine wpAnyE_take (i := 0) (v := ?_) (.here) (by kernel_rfl) (fun _ _ _ h => h) (HSS.out _ (Ext.refl _).drew) (by rfl) ?_ ?_
              rotate_left
              focus (intro w hSw; (try dsimp only at hSw); go_simp; try with_reducible rfl)
              try simp only [Act.put, List.setIfInBounds_toArray, List.set_cons_zero, List.set_cons_succ]
              refine wpAnyE_take (i := 1) (v := ?_) (.next (.here)) (by kernel_rfl) (fun _ _ _ h => h) (HSS.out _ (Ext.refl _).drew) (by rfl) ?_ ?_
              rotate_left
              focus (intro w hSw; (try dsimp only at hSw); go_simp; try with_reducible rfl)
              try simp only [Act.put, List.setIfInBounds_toArray, List.set_cons_zero, List.set_cons_succ]
              refine wpAnyE_take (i := 2) (v := ?_) (.next (.next (.here))) (by kernel_rfl) (fun _ _ _ h => h) (HSS.out _ (Ext.refl _).drew) (by rfl) ?_ ?_
              rotate_left
              focus (intro w hSw; (try dsimp only at hSw); go_simp; try with_reducible rfl)
              try simp only [Act.put, List.setIfInBounds_toArray, List.set_cons_zero, List.set_cons_succ]
              refine wpAnyE_one (k := 3) (.next (.next (.next (.here)))) (by kernel_rfl) (fun K hK => ?_)
              go_simp
              refine (HEQ.out _ (Ext.refl _).drew).mono ?_; rintro _ w3 ⟨a1, c1, rfl, ho1, hE4⟩; dsimp only
              refine hK.out _ _ (fun _ => HSS.out _ ((Ext.refl _).drew.trans hE4)) ?_
              clear hK
              try simp only [Act.put, List.setIfInBounds_toArray, List.set_cons_zero, List.set_cons_succ]
              refine wpAnyE_one (k := 4) (.next (.next (.next (.next (.here))))) (by kernel_rfl) (fun K hK => ?_)
              go_simp
              refine hK.out _ _ (fun _ => HSS.out _ (((Ext.refl _).drew.trans hE4).alloc _)) ?_
              clear hK
              try simp only [Act.put, List.setIfInBounds_toArray, List.set_cons_zero, List.set_cons_succ]
              have hdr : wz.drew.heap.size = wz.heap.size := rfl
              have hsz3 := hE4.size
              have hszx := HXz.out.size
              have HE4 : Hid (Ext wz w3) := Lib.hid ((Ext.refl _).drew.trans hE4)
              have HAP := Lib.hid (HAR.out.apart (OU.mono (b' := wx.heap.size) ho1 (by omega)))
              have HA4 := Lib.hid ((HA3.out.ext' HE4.out).ext' ((Ext.refl w3).alloc (.cells #[.slice a1 R.length c1] 25)))
              have HO4 : Hid (OU (w3.alloc (.cells #[.slice a1 R.length c1] 25)) (w2.heap.size + 1) (.slice a1 R.length c1) R) := Lib.hid ((OU.mono (b' := w2.heap.size + 1) ho1 (by omega)).ext ((Ext.refl _).alloc _))
              have HON : Hid (∀ u ∈ [Value.slice a1 R.length c1], u.oneCell' = true) := Lib.hid (by simp [Value.oneCell'])
              have hb3 : w2.heap.size < w3.heap.size := by omega
              refine wpAnyE_one (k := 5) (.next (.next (.next (.next (.next (.here)))))) (by kernel_rfl) (fun K hK => ?_)
              refine step_append_lies _ rfl _ _ 26 rfl (w2.heap.size + 1) 25 i2 _ 1 24 Tryz.underlying26 hj1 hy0 hy1 hy2 rfl (by decide) vr svs.length svs rfl HA4.out.orr ⟨w3.heap.size, 0, none⟩ 1 1 [.slice a1 R.length c1] rfl rfl (cell_one_new _ _ _) HON.out (by decide) (by unfold maxLen; omega) (by omega) (by simp; omega) _ rfl ?_; intro gx cap W1 hown hgrow hat hlt2; have HOW := Lib.hid hown; have HGR := Lib.hid hgrow; clear hown hgrow hat
              refine hK.out _ _ (fun _ => (HA4.out.outR HGR.out).c2) ?_
              clear hK
              try simp only [Act.put, List.setIfInBounds_toArray, List.set_cons_zero, List.set_cons_succ]
              refine wpAnyE_seq [6, 7] (.cons (.next (.next (.next (.next (.next (.next (.here))))))) (.cons (.next (.next (.next (.next (.next (.next (.next (.here)))))))) (.nil))) (by kernel_rfl) (by kernel_rfl) ?_
              obtain ⟨p0, p1, p2, pfz⟩ := HA4.out.outR HGR.out
              have pf := pfz 2
              have pl := (HA4.out.outR HGR.out).lt
              have HNEW := Lib.hid (HA4.out.push HO4.out HAP.out HOW.out HGR.out)
              clear pfz ho1 hE4
              go_wp2_with fail
              go_roundw
              case rel => exact ⟨a + 1, hal, by go_num, Lib.hid ⟨_, _, by have h := HNEW.out; rw [hsl] at h; rw [HONE1.out]; exact h⟩⟩
              case measure => simp [RowKit.intOf]; omega
        · obtain rfl : p = a := by omega
          have hfull : Rows.take p = Rows := List.take_of_length_le (by omega)
          have har := HAR.out
          rw [hfull] at har
          have HAF := Lib.hid har
          obtain ⟨ra, rc, hvr, hall⟩ := har.all (HOV.out.ext HXa.out) (by have := HB0.out; omega) (by rw [HVl.out]; omega) (by rw [hRl]; omega) (fun j hj => by rw [HRow.out j (by omega), bldRow_len]; omega)
          rw [hRl] at hvr
          subst hvr
          have HALL := Lib.hid hall
          have HAA : Hid (deaM p C = ⟨(L.length : Int), V, Rows⟩) := Lib.hid (by
            rw [HV.out, HRe.out]
            unfold deaM bldM bldVs deaL
            rw [← HLe.out, List.length_map])
          obtain ⟨o0, o1, o2, -⟩ := har.out
          have ol := har.out.lt
          have HOF := Lib.hid (HOR.out.ext (HE2.out.trans HXa.out))
          obtain ⟨r0, r1, r2, rfz⟩ := HOF.out
          have f0 := rfz 0
          have f1 := rfz 1
          have f2 := rfz 2
          have rl := HOF.out.lt
          clear hall rfz har hfull HAR
          go_wp2_with fail
          have hs0 := HSZ.out
          have hs1 := HXr.out.size
          have hs2 := HB0.out
          have hbk : ∀ k, k ≠ w.heap.size → (((wx.setCell ⟨w.heap.size, 0, none⟩ (.int .i64 (L.length : Int))).setCell ⟨w.heap.size, 1, none⟩ (.slice va V.length vc)).setCell ⟨w.heap.size, 2, none⟩ (.slice ra p rc)).heap[k]? = wx.heap[k]? := fun k hne => by
            rw [heap_setCell_other _ _ _ _ (by simpa using hne), heap_setCell_other _ _ _ _ (by simpa using hne), heap_setCell_other _ _ _ _ (by simpa using hne)]
          have hkm : ∀ w'' : World, Agree w.heap.size (((wx.setCell ⟨w.heap.size, 0, none⟩ (.int .i64 (L.length : Int))).setCell ⟨w.heap.size, 1, none⟩ (.slice va V.length vc)).setCell ⟨w.heap.size, 2, none⟩ (.slice ra p rc)) w'' → RM w'' va ra ⟨(L.length : Int), V, Rows⟩ := fun w'' ag => HALL.out w'' fun k hk hl => (ag k (by omega) (by simp only [World.setCell, Array.size_modify]; omega)).trans (hbk k (by omega))
          have hEx : Ext w (((wx.setCell ⟨w.heap.size, 0, none⟩ (.int .i64 (L.length : Int))).setCell ⟨w.heap.size, 1, none⟩ (.slice va V.length vc)).setCell ⟨w.heap.size, 2, none⟩ (.slice ra p rc)) := ext_set3Z (HE.out.trans (HE2.out.trans HXa.out)) (by omega) _ _ _
          have hkr : ∀ w'' : World, Agree w.heap.size (((wx.setCell ⟨w.heap.size, 0, none⟩ (.int .i64 (L.length : Int))).setCell ⟨w.heap.size, 1, none⟩ (.slice va V.length vc)).setCell ⟨w.heap.size, 2, none⟩ (.slice ra p rc)) w'' → RII w'' la L := fun w'' ag => HRI.out w'' fun k hk hl => (ag k (by omega) (by simp only [World.setCell, Array.size_modify]; have := ((HX1r.out.trans HXY.out).trans HXa.out).size; omega)).trans ((hbk k (by omega)).trans (((HX1r.out.trans HXY.out).trans HXa.out).block k hl))
          have ho : OutAt wx w.heap.size (.int .i64 0) (.slice none 0 0) (.slice none 0 0) := HOF.out
          obtain ⟨e0, e1, e2, -⟩ := ((ho.set0 (.int .i64 (L.length : Int))).set1 (.slice va V.length vc)).set2 (.slice ra p rc)
          clear r0 r1 r2 f0 f1 f2 rl o0 o1 o2 ol
          generalize ((wx.setCell ⟨w.heap.size, 0, none⟩ (.int .i64 (L.length : Int))).setCell ⟨w.heap.size, 1, none⟩ (.slice va V.length vc)).setCell ⟨w.heap.size, 2, none⟩ (.slice ra p rc) = W9 at *
          refine bodyPost_ret (v := .tuple #[.agg #[.int .i64 (L.length : Int), .slice va V.length vc, .slice ra p rc], .slice la L.length lc, .int .i64 0]) ?_ rfl ?_
          · rw [results_cell_two rfl]
            go_simp
          · rw [HAA.out, show deaL p C = L from HLe.out.symm]
            exact ⟨va, ra, la, vc, rc, lc, by rw [show (⟨(L.length : Int), V, Rows⟩ : Mo).rel.length = p from hRl], hkm, hkr, hEx⟩
end Wt

/- Walks: what is left of Seen and Sums; the results of Numbers, Sums, Deal, Seen at any ints (printed by gen_yk.py). -/
namespace Wt
open Go Go.RowKit Go.Maps Go.Proofs Fm

set_option maxRecDepth 20000 in
set_option maxHeartbeats 8000000 in
theorem sums_none_own (l m : Nat) (hl : l ≤ 15) (hm : m ≤ 30) (hemp : sumL l m = []) (w : World) : Calls Tryz.prog 18 #[.int .i64 (l : Int), .int .i64 (m : Int)] w fun e w' => RetNk ⟨0, [], []⟩ [] 6 e w w' := by
  have hE3 : Ext w (((w.alloc (.cells #[.int .i64 (l : Int)] 3)).alloc (.cells #[.int .i64 (m : Int)] 3)).alloc (.cells #[.int .i64 0, .slice none 0 0, .slice none 0 0] 28)) := (((Ext.refl w).alloc _).alloc _).alloc _
  have HBL := Lib.hid ((Bx1.new w (.int .i64 (l : Int)) 3).ext (((Ext.refl _).alloc (.cells #[.int .i64 (m : Int)] 3)).alloc (.cells #[.int .i64 0, .slice none 0 0, .slice none 0 0] 28)))
  have HBM := Lib.hid (((Bx1.new (w.alloc (.cells #[.int .i64 (l : Int)] 3)) (.int .i64 (m : Int)) 3).ext ((Ext.refl _).alloc (.cells #[.int .i64 0, .slice none 0 0, .slice none 0 0] 28))).at (b' := w.heap.size + 1) (by simp))
  have HOR := Lib.hid (OutAt.new3 w (.cells #[.int .i64 (l : Int)] 3) (.cells #[.int .i64 (m : Int)] 3) (.int .i64 0) (.slice none 0 0) (.slice none 0 0) 28)
  have HE := Lib.hid hE3
  have HSZ : Hid ((((w.alloc (.cells #[.int .i64 (l : Int)] 3)).alloc (.cells #[.int .i64 (m : Int)] 3)).alloc (.cells #[.int .i64 0, .slice none 0 0, .slice none 0 0] 28)).heap.size = w.heap.size + 3) := Lib.hid (by simp)
  have d0 : decide ((l : Int) < 0) = false := decide_eq_false (by omega)
  have d1 : decide ((15 : Int) < (l : Int)) = false := decide_eq_false (by omega)
  have d2 : decide ((m : Int) < 0) = false := decide_eq_false (by omega)
  have d3 : decide ((30 : Int) < (m : Int)) = false := decide_eq_false (by omega)
  obtain ⟨n0, n1⟩ : (((w.alloc (.cells #[.int .i64 (l : Int)] 3)).alloc (.cells #[.int .i64 (m : Int)] 3)).alloc (.cells #[.int .i64 0, .slice none 0 0, .slice none 0 0] 28)).cell? ⟨w.heap.size, 0, none⟩ = some (.int .i64 (l : Int)) ∧ (((w.alloc (.cells #[.int .i64 (l : Int)] 3)).alloc (.cells #[.int .i64 (m : Int)] 3)).alloc (.cells #[.int .i64 0, .slice none 0 0, .slice none 0 0] 28)).cell? ⟨w.heap.size + 1, 0, none⟩ = some (.int .i64 (m : Int)) := ⟨HBL.out.c, HBM.out.c⟩
  have nl := World.block_lt_of_cell? _ _ n1
  dsimp only at nl
  have HEM := Lib.hid hemp
  clear hE3 hemp
  go_enter Tryz.func18, Tryz.ntmps18
  go_wp2_with fail
  generalize ((w.alloc (.cells #[.int .i64 (l : Int)] 3)).alloc (.cells #[.int .i64 (m : Int)] 3)).alloc (.cells #[.int .i64 0, .slice none 0 0, .slice none 0 0] 28) = w0 at *
  refine (pairs_any m 64 #[.pointer (some ⟨w.heap.size, 0, none⟩), .pointer (some ⟨w.heap.size + 1, 0, none⟩)] w0).mono ?_
  rintro _ w1 ⟨rfl, hw1⟩
  dsimp only
  have hE1 : Ext w0 w1 := by rw [hw1]; exact ((Ext.refl _).alloc _).alloc _
  have HE1 := Lib.hid hE1
  have b0 : w1.cell? ⟨w0.heap.size, 0, none⟩ = some (.int .i64 (m : Int)) := by
    rw [hw1]
    exact ((Bx1.new w0 (.int .i64 (m : Int)) 3).ext ((Ext.refl _).alloc _)).c
  have b1 : w1.cell? ⟨w0.heap.size + 1, 0, none⟩ = some (.func (.func 64) #[] #[.pointer (some ⟨w.heap.size, 0, none⟩), .pointer (some ⟨w.heap.size + 1, 0, none⟩)]) := by
    rw [hw1]
    exact ((Bx1.new (w0.alloc (.cells #[.int .i64 (m : Int)] 3)) (.func (.func 64) #[] #[.pointer (some ⟨w.heap.size, 0, none⟩), .pointer (some ⟨w.heap.size + 1, 0, none⟩)]) 75).at (b' := w0.heap.size + 1) (by simp)).c
  have HC := Lib.hid (collect_any w0.heap.size (w0.heap.size + 1) m 64 [.pointer (some ⟨w.heap.size, 0, none⟩), .pointer (some ⟨w.heap.size + 1, 0, none⟩)] (sumP l m) (by omega) w1 b0 b1 cf_sum1 fun W' x y h hx hy => sum1_any l m x y w.heap.size (w.heap.size + 1) (by omega) (by omega) W' ((HBL.out.ext HE1.out).ext h).c ((HBM.out.ext HE1.out).ext h).c)
  clear hw1 hE1 b0 b1 n0 n1 nl
  go_wp2_with fail
  refine HC.out.mono ?_
  rintro _ w2 ⟨la, lc, rfl, hrp, hE2⟩
  dsimp only
  have HRP := Lib.hid hrp
  have HE2 := Lib.hid (HE1.out.trans hE2)
  have HLO : Hid (w0.heap.size ≤ w1.heap.size) := Lib.hid HE1.out.size
  have HNL : Hid (prAll m (sumP l m) = []) := Lib.hid (show sumL l m = [] from HEM.out)
  rw [HNL.out]
  clear hrp hE2 HRP HNL HC
  have HO9 := Lib.hid (HOR.out.ext HE2.out)
  obtain ⟨r0, r1, r2, rfz⟩ := HO9.out
  have f0 := rfz 0
  have f1 := rfz 1
  have f2 := rfz 2
  have rl := HO9.out.lt
  have hs0 := HSZ.out
  clear rfz
  simp only [List.length_nil]
  go_wp2_with fail
  have hEx : Ext w (((w2.setCell ⟨w.heap.size + 1 + 1, 0, none⟩ (.int .i64 0)).setCell ⟨w.heap.size + 1 + 1, 1, none⟩ (.slice none 0 0)).setCell ⟨w.heap.size + 1 + 1, 2, none⟩ (.slice none 0 0)) := ext_set3Z (HE.out.trans HE2.out) (by omega) _ _ _
  have ho : OutAt w2 (w.heap.size + 1 + 1) (.int .i64 0) (.slice none 0 0) (.slice none 0 0) := HO9.out
  obtain ⟨e0, e1, e2, -⟩ := ((ho.set0 (.int .i64 0)).set1 (.slice none 0 0)).set2 (.slice none 0 0)
  clear r0 r1 r2 f0 f1 f2 rl
  generalize ((w2.setCell ⟨w.heap.size + 1 + 1, 0, none⟩ (.int .i64 0)).setCell ⟨w.heap.size + 1 + 1, 1, none⟩ (.slice none 0 0)).setCell ⟨w.heap.size + 1 + 1, 2, none⟩ (.slice none 0 0) = W2 at *
  refine bodyPost_ret (v := .tuple #[.agg #[.int .i64 0, .slice none 0 0, .slice none 0 0], .slice none 0 0, .int .i64 6]) ?_ rfl ?_
  · rw [results_cell_two rfl]
    go_simp
  · exact RetNk.zero hEx
set_option maxRecDepth 20000 in
set_option maxHeartbeats 8000000 in
theorem sums_many (l m : Nat) (hl : l ≤ 15) (hm : m ≤ 30) (hne : sumL l m ≠ []) (h64 : 64 < (sumL l m).length) (w : World) : Calls Tryz.prog 18 #[.int .i64 (l : Int), .int .i64 (m : Int)] w fun e w' => RetNk ⟨0, [], []⟩ [] 8 e w w' := by
  have hE3 : Ext w (((w.alloc (.cells #[.int .i64 (l : Int)] 3)).alloc (.cells #[.int .i64 (m : Int)] 3)).alloc (.cells #[.int .i64 0, .slice none 0 0, .slice none 0 0] 28)) := (((Ext.refl w).alloc _).alloc _).alloc _
  have HBL := Lib.hid ((Bx1.new w (.int .i64 (l : Int)) 3).ext (((Ext.refl _).alloc (.cells #[.int .i64 (m : Int)] 3)).alloc (.cells #[.int .i64 0, .slice none 0 0, .slice none 0 0] 28)))
  have HBM := Lib.hid (((Bx1.new (w.alloc (.cells #[.int .i64 (l : Int)] 3)) (.int .i64 (m : Int)) 3).ext ((Ext.refl _).alloc (.cells #[.int .i64 0, .slice none 0 0, .slice none 0 0] 28))).at (b' := w.heap.size + 1) (by simp))
  have HOR := Lib.hid (OutAt.new3 w (.cells #[.int .i64 (l : Int)] 3) (.cells #[.int .i64 (m : Int)] 3) (.int .i64 0) (.slice none 0 0) (.slice none 0 0) 28)
  have HE := Lib.hid hE3
  have HSZ : Hid ((((w.alloc (.cells #[.int .i64 (l : Int)] 3)).alloc (.cells #[.int .i64 (m : Int)] 3)).alloc (.cells #[.int .i64 0, .slice none 0 0, .slice none 0 0] 28)).heap.size = w.heap.size + 3) := Lib.hid (by simp)
  have d0 : decide ((l : Int) < 0) = false := decide_eq_false (by omega)
  have d1 : decide ((15 : Int) < (l : Int)) = false := decide_eq_false (by omega)
  have d2 : decide ((m : Int) < 0) = false := decide_eq_false (by omega)
  have d3 : decide ((30 : Int) < (m : Int)) = false := decide_eq_false (by omega)
  obtain ⟨n0, n1⟩ : (((w.alloc (.cells #[.int .i64 (l : Int)] 3)).alloc (.cells #[.int .i64 (m : Int)] 3)).alloc (.cells #[.int .i64 0, .slice none 0 0, .slice none 0 0] 28)).cell? ⟨w.heap.size, 0, none⟩ = some (.int .i64 (l : Int)) ∧ (((w.alloc (.cells #[.int .i64 (l : Int)] 3)).alloc (.cells #[.int .i64 (m : Int)] 3)).alloc (.cells #[.int .i64 0, .slice none 0 0, .slice none 0 0] 28)).cell? ⟨w.heap.size + 1, 0, none⟩ = some (.int .i64 (m : Int)) := ⟨HBL.out.c, HBM.out.c⟩
  have nl := World.block_lt_of_cell? _ _ n1
  dsimp only at nl
  have HLM : Hid ((sumL l m).length ≤ 961) := Lib.hid (by
    have h := prL_len m (sumP l m) ((m + 1) * (m + 1))
    have h2 : (m + 1) * (m + 1) ≤ 31 * 31 := Nat.mul_le_mul (by omega) (by omega)
    unfold sumL prAll
    omega)
  have hl0 : (((sumL l m).length : Int) == 0) = false := by
    have h2 : (sumL l m).length ≠ 0 := fun e => hne (List.eq_nil_of_length_eq_zero e)
    rw [beq_eq_false_iff_ne]; omega
  have hd64 : decide ((64 : Int) < ((sumL l m).length : Int)) = true := decide_eq_true (by omega)
  clear hE3 hne
  go_enter Tryz.func18, Tryz.ntmps18
  go_wp2_with fail
  generalize ((w.alloc (.cells #[.int .i64 (l : Int)] 3)).alloc (.cells #[.int .i64 (m : Int)] 3)).alloc (.cells #[.int .i64 0, .slice none 0 0, .slice none 0 0] 28) = w0 at *
  refine (pairs_any m 64 #[.pointer (some ⟨w.heap.size, 0, none⟩), .pointer (some ⟨w.heap.size + 1, 0, none⟩)] w0).mono ?_
  rintro _ w1 ⟨rfl, hw1⟩
  dsimp only
  have hE1 : Ext w0 w1 := by rw [hw1]; exact ((Ext.refl _).alloc _).alloc _
  have HE1 := Lib.hid hE1
  have b0 : w1.cell? ⟨w0.heap.size, 0, none⟩ = some (.int .i64 (m : Int)) := by
    rw [hw1]
    exact ((Bx1.new w0 (.int .i64 (m : Int)) 3).ext ((Ext.refl _).alloc _)).c
  have b1 : w1.cell? ⟨w0.heap.size + 1, 0, none⟩ = some (.func (.func 64) #[] #[.pointer (some ⟨w.heap.size, 0, none⟩), .pointer (some ⟨w.heap.size + 1, 0, none⟩)]) := by
    rw [hw1]
    exact ((Bx1.new (w0.alloc (.cells #[.int .i64 (m : Int)] 3)) (.func (.func 64) #[] #[.pointer (some ⟨w.heap.size, 0, none⟩), .pointer (some ⟨w.heap.size + 1, 0, none⟩)]) 75).at (b' := w0.heap.size + 1) (by simp)).c
  have HC := Lib.hid (collect_any w0.heap.size (w0.heap.size + 1) m 64 [.pointer (some ⟨w.heap.size, 0, none⟩), .pointer (some ⟨w.heap.size + 1, 0, none⟩)] (sumP l m) (by omega) w1 b0 b1 cf_sum1 fun W' x y h hx hy => sum1_any l m x y w.heap.size (w.heap.size + 1) (by omega) (by omega) W' ((HBL.out.ext HE1.out).ext h).c ((HBM.out.ext HE1.out).ext h).c)
  clear hw1 hE1 b0 b1 n0 n1 nl
  go_wp2_with fail
  refine HC.out.mono ?_
  rintro _ w2 ⟨la, lc, rfl, hrp, hE2⟩
  dsimp only
  have HRP := Lib.hid hrp
  have HE2 := Lib.hid (HE1.out.trans hE2)
  have HLO : Hid (w0.heap.size ≤ w1.heap.size) := Lib.hid HE1.out.size
  have hrp2 := hrp w2 fun _ _ _ => rfl
  have HCF := Lib.hid (containsFunc_p 66 [] sumB la (sumL l m) lc w2 hrp2 cf_sum2 fun W s _ => sum2_any s W)
  have HNL : Hid (prAll m (sumP l m) = sumL l m) := Lib.hid rfl
  rw [HNL.out]
  clear hrp hE2 HRP HNL HC hrp2
  generalize sumL l m = LQ at *
  have HO9 := Lib.hid (HOR.out.ext HE2.out)
  obtain ⟨r0, r1, r2, rfz⟩ := HO9.out
  have f0 := rfz 0
  have f1 := rfz 1
  have f2 := rfz 2
  have rl := HO9.out.lt
  have hs0 := HSZ.out
  clear rfz
  go_wp2_with fail
  have hEx : Ext w (((w2.setCell ⟨w.heap.size + 1 + 1, 0, none⟩ (.int .i64 0)).setCell ⟨w.heap.size + 1 + 1, 1, none⟩ (.slice none 0 0)).setCell ⟨w.heap.size + 1 + 1, 2, none⟩ (.slice none 0 0)) := ext_set3Z (HE.out.trans HE2.out) (by omega) _ _ _
  have ho : OutAt w2 (w.heap.size + 1 + 1) (.int .i64 0) (.slice none 0 0) (.slice none 0 0) := HO9.out
  obtain ⟨e0, e1, e2, -⟩ := ((ho.set0 (.int .i64 0)).set1 (.slice none 0 0)).set2 (.slice none 0 0)
  clear r0 r1 r2 f0 f1 f2 rl
  generalize ((w2.setCell ⟨w.heap.size + 1 + 1, 0, none⟩ (.int .i64 0)).setCell ⟨w.heap.size + 1 + 1, 1, none⟩ (.slice none 0 0)).setCell ⟨w.heap.size + 1 + 1, 2, none⟩ (.slice none 0 0) = W2 at *
  refine bodyPost_ret (v := .tuple #[.agg #[.int .i64 0, .slice none 0 0, .slice none 0 0], .slice none 0 0, .int .i64 8]) ?_ rfl ?_
  · rw [results_cell_two rfl]
    go_simp
  · exact RetNk.zero hEx
set_option maxRecDepth 20000 in
set_option maxHeartbeats 8000000 in
theorem sums_long (l m : Nat) (hl : l ≤ 15) (hm : m ≤ 30) (hne : sumL l m ≠ []) (h64 : ¬ 64 < (sumL l m).length) (hany : (sumL l m).any sumB = true) (w : World) : Calls Tryz.prog 18 #[.int .i64 (l : Int), .int .i64 (m : Int)] w fun e w' => RetNk ⟨0, [], []⟩ [] 8 e w w' := by
  have hE3 : Ext w (((w.alloc (.cells #[.int .i64 (l : Int)] 3)).alloc (.cells #[.int .i64 (m : Int)] 3)).alloc (.cells #[.int .i64 0, .slice none 0 0, .slice none 0 0] 28)) := (((Ext.refl w).alloc _).alloc _).alloc _
  have HBL := Lib.hid ((Bx1.new w (.int .i64 (l : Int)) 3).ext (((Ext.refl _).alloc (.cells #[.int .i64 (m : Int)] 3)).alloc (.cells #[.int .i64 0, .slice none 0 0, .slice none 0 0] 28)))
  have HBM := Lib.hid (((Bx1.new (w.alloc (.cells #[.int .i64 (l : Int)] 3)) (.int .i64 (m : Int)) 3).ext ((Ext.refl _).alloc (.cells #[.int .i64 0, .slice none 0 0, .slice none 0 0] 28))).at (b' := w.heap.size + 1) (by simp))
  have HOR := Lib.hid (OutAt.new3 w (.cells #[.int .i64 (l : Int)] 3) (.cells #[.int .i64 (m : Int)] 3) (.int .i64 0) (.slice none 0 0) (.slice none 0 0) 28)
  have HE := Lib.hid hE3
  have HSZ : Hid ((((w.alloc (.cells #[.int .i64 (l : Int)] 3)).alloc (.cells #[.int .i64 (m : Int)] 3)).alloc (.cells #[.int .i64 0, .slice none 0 0, .slice none 0 0] 28)).heap.size = w.heap.size + 3) := Lib.hid (by simp)
  have d0 : decide ((l : Int) < 0) = false := decide_eq_false (by omega)
  have d1 : decide ((15 : Int) < (l : Int)) = false := decide_eq_false (by omega)
  have d2 : decide ((m : Int) < 0) = false := decide_eq_false (by omega)
  have d3 : decide ((30 : Int) < (m : Int)) = false := decide_eq_false (by omega)
  obtain ⟨n0, n1⟩ : (((w.alloc (.cells #[.int .i64 (l : Int)] 3)).alloc (.cells #[.int .i64 (m : Int)] 3)).alloc (.cells #[.int .i64 0, .slice none 0 0, .slice none 0 0] 28)).cell? ⟨w.heap.size, 0, none⟩ = some (.int .i64 (l : Int)) ∧ (((w.alloc (.cells #[.int .i64 (l : Int)] 3)).alloc (.cells #[.int .i64 (m : Int)] 3)).alloc (.cells #[.int .i64 0, .slice none 0 0, .slice none 0 0] 28)).cell? ⟨w.heap.size + 1, 0, none⟩ = some (.int .i64 (m : Int)) := ⟨HBL.out.c, HBM.out.c⟩
  have nl := World.block_lt_of_cell? _ _ n1
  dsimp only at nl
  have HLM : Hid ((sumL l m).length ≤ 961) := Lib.hid (by
    have h := prL_len m (sumP l m) ((m + 1) * (m + 1))
    have h2 : (m + 1) * (m + 1) ≤ 31 * 31 := Nat.mul_le_mul (by omega) (by omega)
    unfold sumL prAll
    omega)
  have hl0 : (((sumL l m).length : Int) == 0) = false := by
    have h2 : (sumL l m).length ≠ 0 := fun e => hne (List.eq_nil_of_length_eq_zero e)
    rw [beq_eq_false_iff_ne]; omega
  have hd64 : decide ((64 : Int) < ((sumL l m).length : Int)) = false := decide_eq_false (by omega)
  have HANY := Lib.hid hany
  clear hany
  clear hE3 hne
  go_enter Tryz.func18, Tryz.ntmps18
  go_wp2_with fail
  generalize ((w.alloc (.cells #[.int .i64 (l : Int)] 3)).alloc (.cells #[.int .i64 (m : Int)] 3)).alloc (.cells #[.int .i64 0, .slice none 0 0, .slice none 0 0] 28) = w0 at *
  refine (pairs_any m 64 #[.pointer (some ⟨w.heap.size, 0, none⟩), .pointer (some ⟨w.heap.size + 1, 0, none⟩)] w0).mono ?_
  rintro _ w1 ⟨rfl, hw1⟩
  dsimp only
  have hE1 : Ext w0 w1 := by rw [hw1]; exact ((Ext.refl _).alloc _).alloc _
  have HE1 := Lib.hid hE1
  have b0 : w1.cell? ⟨w0.heap.size, 0, none⟩ = some (.int .i64 (m : Int)) := by
    rw [hw1]
    exact ((Bx1.new w0 (.int .i64 (m : Int)) 3).ext ((Ext.refl _).alloc _)).c
  have b1 : w1.cell? ⟨w0.heap.size + 1, 0, none⟩ = some (.func (.func 64) #[] #[.pointer (some ⟨w.heap.size, 0, none⟩), .pointer (some ⟨w.heap.size + 1, 0, none⟩)]) := by
    rw [hw1]
    exact ((Bx1.new (w0.alloc (.cells #[.int .i64 (m : Int)] 3)) (.func (.func 64) #[] #[.pointer (some ⟨w.heap.size, 0, none⟩), .pointer (some ⟨w.heap.size + 1, 0, none⟩)]) 75).at (b' := w0.heap.size + 1) (by simp)).c
  have HC := Lib.hid (collect_any w0.heap.size (w0.heap.size + 1) m 64 [.pointer (some ⟨w.heap.size, 0, none⟩), .pointer (some ⟨w.heap.size + 1, 0, none⟩)] (sumP l m) (by omega) w1 b0 b1 cf_sum1 fun W' x y h hx hy => sum1_any l m x y w.heap.size (w.heap.size + 1) (by omega) (by omega) W' ((HBL.out.ext HE1.out).ext h).c ((HBM.out.ext HE1.out).ext h).c)
  clear hw1 hE1 b0 b1 n0 n1 nl
  go_wp2_with fail
  refine HC.out.mono ?_
  rintro _ w2 ⟨la, lc, rfl, hrp, hE2⟩
  dsimp only
  have HRP := Lib.hid hrp
  have HE2 := Lib.hid (HE1.out.trans hE2)
  have HLO : Hid (w0.heap.size ≤ w1.heap.size) := Lib.hid HE1.out.size
  have hrp2 := hrp w2 fun _ _ _ => rfl
  have HCF := Lib.hid (containsFunc_p 66 [] sumB la (sumL l m) lc w2 hrp2 cf_sum2 fun W s _ => sum2_any s W)
  have HNL : Hid (prAll m (sumP l m) = sumL l m) := Lib.hid rfl
  rw [HNL.out]
  clear hrp hE2 HRP HNL HC hrp2
  have hcf := HCF.out
  rw [HANY.out] at hcf
  have HCF := Lib.hid hcf
  clear hcf HANY
  generalize sumL l m = LQ at *
  go_wp2_with fail
  refine HCF.out.mono ?_
  rintro _ w3 ⟨rfl, hE3⟩
  dsimp only
  have HE2 := Lib.hid (HE2.out.trans hE3)
  clear hE3
  have HO9 := Lib.hid (HOR.out.ext HE2.out)
  obtain ⟨r0, r1, r2, rfz⟩ := HO9.out
  have f0 := rfz 0
  have f1 := rfz 1
  have f2 := rfz 2
  have rl := HO9.out.lt
  have hs0 := HSZ.out
  clear rfz
  go_wp2_with fail
  have hEx : Ext w (((w3.setCell ⟨w.heap.size + 1 + 1, 0, none⟩ (.int .i64 0)).setCell ⟨w.heap.size + 1 + 1, 1, none⟩ (.slice none 0 0)).setCell ⟨w.heap.size + 1 + 1, 2, none⟩ (.slice none 0 0)) := ext_set3Z (HE.out.trans HE2.out) (by omega) _ _ _
  have ho : OutAt w3 (w.heap.size + 1 + 1) (.int .i64 0) (.slice none 0 0) (.slice none 0 0) := HO9.out
  obtain ⟨e0, e1, e2, -⟩ := ((ho.set0 (.int .i64 0)).set1 (.slice none 0 0)).set2 (.slice none 0 0)
  clear r0 r1 r2 f0 f1 f2 rl
  generalize ((w3.setCell ⟨w.heap.size + 1 + 1, 0, none⟩ (.int .i64 0)).setCell ⟨w.heap.size + 1 + 1, 1, none⟩ (.slice none 0 0)).setCell ⟨w.heap.size + 1 + 1, 2, none⟩ (.slice none 0 0) = W2 at *
  refine bodyPost_ret (v := .tuple #[.agg #[.int .i64 0, .slice none 0 0, .slice none 0 0], .slice none 0 0, .int .i64 8]) ?_ rfl ?_
  · rw [results_cell_two rfl]
    go_simp
  · exact RetNk.zero hEx
set_option maxRecDepth 20000 in
set_option maxHeartbeats 8000000 in
theorem seen_arg (n : Nat) (hn : 1 ≤ n ∧ n ≤ 4) (L : List Int) (hLn : L.length = n) (hL : L.any (senB (2 ^ n)) = true) (la : Option Addr) (lc : Nat) (w : World) (hl : RI w la L) :
    Calls Tryz.prog 12 #[.int .i64 (n : Int), .slice la L.length lc] w fun e w' => RetRz ⟨0, [], []⟩ 1 e w w' := by
  subst hLn
  obtain ⟨q, hq⟩ : ∃ q : Nat, q = 2 ^ L.length := ⟨_, rfl⟩
  have hp : p2 L.length = (q : Int) := by rw [hq]; rfl
  have hq16 : q ≤ 16 := by
    have : 2 ^ L.length ≤ 2 ^ 4 := Nat.pow_le_pow_right (by omega) hn.2
    omega
  have h63 : L.length < 63 := by omega
  have hE3 : Ext w (((w.alloc (.cells #[.int .i64 (L.length : Int)] 3)).alloc (.cells #[.slice la L.length lc] 22)).alloc (.cells #[.int .i64 0, .slice none 0 0, .slice none 0 0] 28)) := (((Ext.refl w).alloc _).alloc _).alloc _
  have HBN := Lib.hid ((Bx1.new w (.int .i64 (L.length : Int)) 3).ext (((Ext.refl _).alloc (.cells #[.slice la L.length lc] 22)).alloc (.cells #[.int .i64 0, .slice none 0 0, .slice none 0 0] 28)))
  have HBS := Lib.hid (((Bx1.new (w.alloc (.cells #[.int .i64 (L.length : Int)] 3)) (.slice la L.length lc) 22).ext ((Ext.refl _).alloc (.cells #[.int .i64 0, .slice none 0 0, .slice none 0 0] 28))).at (b' := w.heap.size + 1) (by simp))
  have HOR := Lib.hid (OutAt.new3 w (.cells #[.int .i64 (L.length : Int)] 3) (.cells #[.slice la L.length lc] 22) (.int .i64 0) (.slice none 0 0) (.slice none 0 0) 28)
  have HE := Lib.hid hE3
  have HL := Lib.hid (hl.ext hE3)
  have HSZ : Hid ((((w.alloc (.cells #[.int .i64 (L.length : Int)] 3)).alloc (.cells #[.slice la L.length lc] 22)).alloc (.cells #[.int .i64 0, .slice none 0 0, .slice none 0 0] 28)).heap.size = w.heap.size + 3) := Lib.hid (by simp)
  have hln := hl.len
  have d0 : decide ((L.length : Int) < 1) = false := decide_eq_false (by omega)
  have d1 : decide ((4 : Int) < (L.length : Int)) = false := decide_eq_false (by omega)
  have d2 : ((L.length : Int) != (L.length : Int)) = false := by simp
  have hcf := fun W (e : Ext (((w.alloc (.cells #[.int .i64 (L.length : Int)] 3)).alloc (.cells #[.slice la L.length lc] 22)).alloc (.cells #[.int .i64 0, .slice none 0 0, .slice none 0 0] 28)) W) => containsFunc_i 52 [.pointer (some ⟨w.heap.size, 0, none⟩)] (senB q) la L lc W (HL.out.ext e) cf_seen1 (fun W2 k h1 _ => seen1_any (nth L k) w.heap.size L.length q hq hn.2 W2 ((HBN.out.ext e).ext h1).c)
  rw [show L.any (senB q) = true from by rw [hq]; exact hL] at hcf
  have HCF := Lib.hid hcf
  obtain ⟨n0, n1⟩ : (((w.alloc (.cells #[.int .i64 (L.length : Int)] 3)).alloc (.cells #[.slice la L.length lc] 22)).alloc (.cells #[.int .i64 0, .slice none 0 0, .slice none 0 0] 28)).cell? ⟨w.heap.size, 0, none⟩ = some (.int .i64 (L.length : Int)) ∧ (((w.alloc (.cells #[.int .i64 (L.length : Int)] 3)).alloc (.cells #[.slice la L.length lc] 22)).alloc (.cells #[.int .i64 0, .slice none 0 0, .slice none 0 0] 28)).cell? ⟨w.heap.size + 1, 0, none⟩ = some (.slice la L.length lc) := ⟨HBN.out.c, HBS.out.c⟩
  have nl := World.block_lt_of_cell? _ _ n1
  have hnn := hn.1
  have hn4 := hn.2
  dsimp only at nl
  have HQ := Lib.hid hq
  clear hl hL hn hE3 hcf hq
  go_enter Tryz.func12, Tryz.ntmps12
  go_wp2_with fail
  generalize ((w.alloc (.cells #[.int .i64 (L.length : Int)] 3)).alloc (.cells #[.slice la L.length lc] 22)).alloc (.cells #[.int .i64 0, .slice none 0 0, .slice none 0 0] 28) = w0 at *
  refine (HCF.out _ (Ext.refl _)).mono ?_
  rintro _ w1 ⟨rfl, hX1⟩
  have HX1 := Lib.hid hX1
  clear hX1 n0 n1 nl
  have HO9 := Lib.hid (HOR.out.ext HX1.out)
  obtain ⟨r0, r1, r2, rfz⟩ := HO9.out
  have f0 := rfz 0
  have f1 := rfz 1
  have f2 := rfz 2
  have rl := HO9.out.lt
  have hs0 := HSZ.out
  clear rfz
  dsimp only
  go_wp2_with fail
  have hEx : Ext w (((w1.setCell ⟨w.heap.size + 1 + 1, 0, none⟩ (.int .i64 0)).setCell ⟨w.heap.size + 1 + 1, 1, none⟩ (.slice none 0 0)).setCell ⟨w.heap.size + 1 + 1, 2, none⟩ (.slice none 0 0)) := ext_set3Z (HE.out.trans HX1.out) (by omega) _ _ _
  have ho : OutAt w1 (w.heap.size + 1 + 1) (.int .i64 0) (.slice none 0 0) (.slice none 0 0) := HO9.out
  obtain ⟨e0, e1, e2, -⟩ := ((ho.set0 (.int .i64 0)).set1 (.slice none 0 0)).set2 (.slice none 0 0)
  clear r0 r1 r2 f0 f1 f2 rl
  generalize ((w1.setCell ⟨w.heap.size + 1 + 1, 0, none⟩ (.int .i64 0)).setCell ⟨w.heap.size + 1 + 1, 1, none⟩ (.slice none 0 0)).setCell ⟨w.heap.size + 1 + 1, 2, none⟩ (.slice none 0 0) = W2 at *
  refine bodyPost_ret (v := .tuple #[.agg #[.int .i64 0, .slice none 0 0, .slice none 0 0], .int .i64 1]) ?_ rfl ?_
  · rw [results_cell_tmpZ rfl]
    go_simp
  · exact RetRz.zero hEx
/-- Numbers' results at any int. -/
def nuE (m : Int) : Int := if m < 1 ∨ 7 < m then 2 else 0
def nuO (m : Int) : Mo := if m < 1 ∨ 7 < m then ⟨0, [], []⟩ else numM m.toNat
def nuL (m : Int) : List (Nat × Nat) := if m < 1 ∨ 7 < m then [] else numL m.toNat
def suE (l m : Int) : Int := if l < 0 ∨ 15 < l ∨ m < 0 ∨ 30 < m then 2 else sumE l.toNat m.toNat
def suO (l m : Int) : Mo := if l < 0 ∨ 15 < l ∨ m < 0 ∨ 30 < m then ⟨0, [], []⟩ else sumMo l.toNat m.toNat
def suL (l m : Int) : List (Nat × Nat) := if l < 0 ∨ 15 < l ∨ m < 0 ∨ 30 < m then [] else sumLo l.toNat m.toNat
def deE (p c : Int) : Int := if p < 1 ∨ 4 < p ∨ c < p ∨ 4 < c then 2 else 0
def deO (p c : Int) : Mo := if p < 1 ∨ 4 < p ∨ c < p ∨ 4 < c then ⟨0, [], []⟩ else deaM p.toNat c.toNat
def deL (p c : Int) : List (List Nat) := if p < 1 ∨ 4 < p ∨ c < p ∨ 4 < c then [] else deaL p.toNat c.toNat
def seE (n : Int) (L : List Int) : Int := if n < 1 ∨ 4 < n then 2 else if (L.length : Int) ≠ n then 3 else seenC n.toNat L
def seO (n : Int) (L : List Int) : Mo := if n < 1 ∨ 4 < n then ⟨0, [], []⟩ else if (L.length : Int) ≠ n then ⟨0, [], []⟩ else seenO n.toNat L
theorem numbers_all (m : Int) (w : World) : Calls Tryz.prog 15 #[.int .i64 m] w fun e w' => RetNk (nuO m) (nuL m) (nuE m) e w w' := by
  unfold nuE nuO nuL
  by_cases h : m < 1 ∨ 7 < m
  · rw [if_pos h, if_pos h, if_pos h]
    exact numbers_bad m h w
  · rw [if_neg h, if_neg h, if_neg h]
    obtain ⟨k, rfl⟩ : ∃ k : Nat, m = (k : Int) := ⟨m.toNat, by omega⟩
    exact numbers_own k (by omega) (by omega) w
theorem r32numbers_all (m : Int) (w : World) : Calls Tryz.prog 16 #[.int .i64 m] w fun e w' => RetNk (nuO m) (nuL m) (nuE m) e w w' := by
  unfold nuE nuO nuL
  by_cases h : m < 1 ∨ 7 < m
  · rw [if_pos h, if_pos h, if_pos h]
    exact r32numbers_bad m h w
  · rw [if_neg h, if_neg h, if_neg h]
    obtain ⟨k, rfl⟩ : ∃ k : Nat, m = (k : Int) := ⟨m.toNat, by omega⟩
    exact r32numbers_own k (by omega) (by omega) w
theorem sums_fit (l m : Nat) (hl : l ≤ 15) (hm : m ≤ 30) (w : World) : Calls Tryz.prog 18 #[.int .i64 (l : Int), .int .i64 (m : Int)] w fun e w' => RetNk (sumMo l m) (sumLo l m) (sumE l m) e w w' := by
  have HEQ : sumE l m = if sumL l m = [] then 6 else if 64 < (sumL l m).length ∨ (sumL l m).any sumB = true then 8 else 0 := by unfold sumE; rw [if_neg (by omega)]
  unfold sumMo sumLo
  by_cases hnil : sumL l m = []
  · have he : sumE l m = 6 := by rw [HEQ, if_pos hnil]
    rw [he, if_neg (by decide), if_neg (by decide)]
    exact sums_none_own l m hl hm hnil w
  by_cases h64 : 64 < (sumL l m).length
  · have he : sumE l m = 8 := by rw [HEQ, if_neg hnil, if_pos (Or.inl h64)]
    rw [he, if_neg (by decide), if_neg (by decide)]
    exact sums_many l m hl hm hnil h64 w
  by_cases hany : (sumL l m).any sumB = true
  · have he : sumE l m = 8 := by rw [HEQ, if_neg hnil, if_pos (Or.inr hany)]
    rw [he, if_neg (by decide), if_neg (by decide)]
    exact sums_long l m hl hm hnil h64 hany w
  · have h0 : sumE l m = 0 := by rw [HEQ, if_neg hnil, if_neg (fun h => h.elim h64 hany)]
    rw [if_pos h0, if_pos h0, h0]
    exact sums_own l m h0 w
theorem r32sums_fit (l m : Nat) (hl : l ≤ 15) (hm : m ≤ 30) (w : World) : Calls Tryz.prog 19 #[.int .i64 (l : Int), .int .i64 (m : Int)] w fun e w' => RetNk (sumMo l m) (sumLo l m) (sumE l m) e w w' := r32sums_own l m hl hm w
theorem sums_all (l m : Int) (w : World) : Calls Tryz.prog 18 #[.int .i64 l, .int .i64 m] w fun e w' => RetNk (suO l m) (suL l m) (suE l m) e w w' := by
  unfold suE suO suL
  by_cases h : l < 0 ∨ 15 < l ∨ m < 0 ∨ 30 < m
  · rw [if_pos h, if_pos h, if_pos h]
    exact sums_bad l m h w
  · rw [if_neg h, if_neg h, if_neg h]
    obtain ⟨k, rfl⟩ : ∃ k : Nat, l = (k : Int) := ⟨l.toNat, by omega⟩
    obtain ⟨j, rfl⟩ : ∃ j : Nat, m = (j : Int) := ⟨m.toNat, by omega⟩
    exact sums_fit k j (by omega) (by omega) w
theorem r32sums_all (l m : Int) (w : World) : Calls Tryz.prog 19 #[.int .i64 l, .int .i64 m] w fun e w' => RetNk (suO l m) (suL l m) (suE l m) e w w' := by
  unfold suE suO suL
  by_cases h : l < 0 ∨ 15 < l ∨ m < 0 ∨ 30 < m
  · rw [if_pos h, if_pos h, if_pos h]
    exact r32sums_bad l m h w
  · rw [if_neg h, if_neg h, if_neg h]
    obtain ⟨k, rfl⟩ : ∃ k : Nat, l = (k : Int) := ⟨l.toNat, by omega⟩
    obtain ⟨j, rfl⟩ : ∃ j : Nat, m = (j : Int) := ⟨m.toNat, by omega⟩
    exact r32sums_fit k j (by omega) (by omega) w
theorem deal_all (p c : Int) (w : World) : Calls Tryz.prog 20 #[.int .i64 p, .int .i64 c] w fun e w' => RetDk2 (deO p c) (deL p c) (deE p c) e w w' := by
  unfold deE deO deL
  by_cases h : p < 1 ∨ 4 < p ∨ c < p ∨ 4 < c
  · rw [if_pos h, if_pos h, if_pos h]
    exact deal_bad p c h w
  · rw [if_neg h, if_neg h, if_neg h]
    obtain ⟨k, rfl⟩ : ∃ k : Nat, p = (k : Int) := ⟨p.toNat, by omega⟩
    obtain ⟨j, rfl⟩ : ∃ j : Nat, c = (j : Int) := ⟨c.toNat, by omega⟩
    exact deal_own k j (by omega) (by omega) (by omega) w
theorem r32deal_all (p c : Int) (w : World) : Calls Tryz.prog 21 #[.int .i64 p, .int .i64 c] w fun e w' => RetDk2 (deO p c) (deL p c) (deE p c) e w w' := by
  unfold deE deO deL
  by_cases h : p < 1 ∨ 4 < p ∨ c < p ∨ 4 < c
  · rw [if_pos h, if_pos h, if_pos h]
    exact r32deal_bad p c h w
  · rw [if_neg h, if_neg h, if_neg h]
    obtain ⟨k, rfl⟩ : ∃ k : Nat, p = (k : Int) := ⟨p.toNat, by omega⟩
    obtain ⟨j, rfl⟩ : ∃ j : Nat, c = (j : Int) := ⟨c.toNat, by omega⟩
    exact r32deal_own k j (by omega) (by omega) (by omega) w
theorem seen_fit (L : List Int) (n : Nat) (hL : L.length = n) (h1 : 1 ≤ n) (h4 : n ≤ 4) (la : Option Addr) (lc : Nat) (w : World) (hl : RI w la L) :
    Calls Tryz.prog 12 #[.int .i64 (n : Int), .slice la n lc] w fun e w' => RetRz (seenO n L) (seenC n L) e w w' := by
  unfold seenO seenC
  by_cases h : L.any (senB (2 ^ n)) = true
  · rw [if_pos h, if_pos h]
    have h9 := seen_arg n ⟨h1, h4⟩ L hL h la lc w hl
    rw [hL] at h9
    exact h9
  · rw [if_neg h, if_neg h]
    have hno : ∀ k, k < n → 0 ≤ nth L k ∧ nth L k < ((2 ^ n : Nat) : Int) := fun k hk => by
      have hb : senB (2 ^ n) (nth L k) = false := by
        cases hb : senB (2 ^ n) (nth L k)
        · rfl
        · exact absurd (any_yes (by omega) hb) h
      unfold senB at hb
      simp only [Bool.or_eq_false_iff, decide_eq_false_iff_not] at hb
      omega
    have hLn : L = natI (L.map Int.toNat) := by
      refine nth_ext (by simp [natI]) fun k hk => ?_
      rw [nth_natI (by simpa using hk), nth_eq (L.map Int.toNat) k (by simpa using hk), List.getElem_map, ← nth_eq L k hk]
      have := hno k (by omega)
      omega
    have hat : ∀ a, a < n → nth (L.map Int.toNat) a < 2 ^ n := fun a ha => by
      rw [nth_eq (L.map Int.toNat) a (by rw [List.length_map, hL]; exact ha), List.getElem_map, ← nth_eq L a (by rw [hL]; exact ha)]
      have := hno a ha
      omega
    have h9 := seen_ok n ⟨h1, h4⟩ (L.map Int.toNat) (by rw [List.length_map, hL]) hat la lc w (by rw [← hLn]; exact hl)
    rw [List.length_map, hL] at h9
    exact h9
theorem r32seen_fit (L : List Int) (n : Nat) (hL : L.length = n) (h1 : 1 ≤ n) (h4 : n ≤ 4) (la : Option Addr) (lc : Nat) (w : World) (hl : RI w la L) :
    Calls Tryz.prog 13 #[.int .i64 (n : Int), .slice la n lc] w fun e w' => RetRz (seenO n L) (seenC n L) e w w' := r32seen_any L n hL h1 h4 la lc w hl
theorem seen_all (n : Int) (L : List Int) (la : Option Addr) (lc : Nat) (w : World) (hl : RI w la L) : Calls Tryz.prog 12 #[.int .i64 n, .slice la L.length lc] w fun e w' => RetRz (seO n L) (seE n L) e w w' := by
  unfold seE seO
  by_cases h : n < 1 ∨ 4 < n
  · rw [if_pos h, if_pos h]
    exact seen_bad n la L.length lc h w
  rw [if_neg h, if_neg h]
  by_cases h2 : (L.length : Int) ≠ n
  · rw [if_pos h2, if_pos h2]
    exact seen_len n la L.length lc (by omega) (by omega) h2 w
  · rw [if_neg h2, if_neg h2]
    have h3 : (L.length : Int) = n := by omega
    subst h3
    exact seen_fit L L.length rfl (by omega) (by omega) la lc w hl
theorem r32seen_all (n : Int) (L : List Int) (la : Option Addr) (lc : Nat) (w : World) (hl : RI w la L) : Calls Tryz.prog 13 #[.int .i64 n, .slice la L.length lc] w fun e w' => RetRz (seO n L) (seE n L) e w w' := by
  unfold seE seO
  by_cases h : n < 1 ∨ 4 < n
  · rw [if_pos h, if_pos h]
    exact r32seen_bad n la L.length lc h w
  rw [if_neg h, if_neg h]
  by_cases h2 : (L.length : Int) ≠ n
  · rw [if_pos h2, if_pos h2]
    exact r32seen_len n la L.length lc (by omega) (by omega) h2 w
  · rw [if_neg h2, if_neg h2]
    have h3 : (L.length : Int) = n := by omega
    subst h3
    exact r32seen_fit L L.length rfl (by omega) (by omega) la lc w hl
end Wt
