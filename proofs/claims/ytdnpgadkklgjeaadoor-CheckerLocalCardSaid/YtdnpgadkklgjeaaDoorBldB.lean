/- Walks: formula's constructors (printed by gen_bldb.py). -/
import Derived.Test.YtdnpgadkklgjeaaDoorBldA
namespace Wt
open Go Go.RowKit Go.Maps Go.Proofs Fm

theorem RNN.one (w : World) (fa : Option Addr) (fc : Nat) (f : List Nd) (T : Nat) (h : RN w fa f) : RNN (w.alloc (.cells #[.slice fa f.length fc] T)) (some ⟨w.heap.size, 0, none⟩) [f] :=
  ⟨by simp, fun k hk => by
    obtain rfl : k = 0 := by simp at hk; omega
    exact ⟨w.heap.size, 0, fa, fc, rfl, by simp, by simp [nth], h.ext ((Ext.refl w).alloc _)⟩⟩
theorem RNN.two (w : World) (fa ga : Option Addr) (fc gc : Nat) (f g : List Nd) (T : Nat) (h : RN w fa f) (h2 : RN w ga g) : RNN (w.alloc (.cells #[.slice fa f.length fc, .slice ga g.length gc] T)) (some ⟨w.heap.size, 0, none⟩) [f, g] :=
  ⟨by simp, fun k hk => by
    rcases (show k = 0 ∨ k = 1 by simp at hk; omega) with rfl | rfl
    · exact ⟨w.heap.size, 0, fa, fc, rfl, by simp, by simp [nth], h.ext ((Ext.refl w).alloc _)⟩
    · exact ⟨w.heap.size, 0, ga, gc, rfl, by simp, by simp [nth], h2.ext ((Ext.refl w).alloc _)⟩⟩
set_option maxHeartbeats 1000000 in
theorem cTrue_any (w : World) :
    Calls Tryd.prog 17 #[] w fun e w' => RetN (fB ⟨1, 0, 0, 0, 0, 0⟩ []) e w w' := by
  have H := Lib.hid (build_any ⟨1, 0, 0, 0, 0, 0⟩ none 0 [] w (RNN.nil _ _) (by decide))
  go_enter Tryd.func17, Tryd.ntmps17
  go_wp2_with (go_at_call 33; go_loud (refine H.out.mono ?_; rintro e w1 ⟨a1, c1, rfl, h1, hE⟩))
  go_ret
  exact ⟨a1, c1, rfl, h1, hE⟩
set_option maxHeartbeats 1000000 in
theorem cFact_any (a : Int) (w : World) :
    Calls Tryd.prog 11 #[.int .i64 a] w fun e w' => RetN (fB ⟨3, a, 0, 0, 0, 0⟩ []) e w w' := by
  have H := Lib.hid (build_any ⟨3, a, 0, 0, 0, 0⟩ none 0 [] w (RNN.nil _ _) (by decide))
  go_enter Tryd.func11, Tryd.ntmps11
  go_wp2_with (go_at_call 33; go_loud (refine H.out.mono ?_; rintro e w1 ⟨a1, c1, rfl, h1, hE⟩))
  go_ret
  exact ⟨a1, c1, rfl, h1, hE⟩
set_option maxHeartbeats 1000000 in
theorem cNot_any (fa : Option Addr) (fc : Nat) (f : List Nd) (w : World) (hf : RN w fa f) :
    Calls Tryd.prog 19 #[.slice fa f.length fc] w fun e w' => RetN (fB ⟨4, 0, 0, 0, 0, 0⟩ [f]) e w w' := by
  have H := Lib.hid (build_any ⟨4, 0, 0, 0, 0, 0⟩ (some ⟨w.heap.size, 0, none⟩) 1 [f] _ (RNN.one w fa fc f 26 hf) (by simp))
  go_enter Tryd.func19, Tryd.ntmps19
  go_wp2_with (go_at_call 33; go_loud (refine H.out.mono ?_; rintro e w1 ⟨a1, c1, rfl, h1, hE⟩))
  go_ret
  exact ⟨a1, c1, rfl, h1, ((Ext.refl w).alloc _).trans hE⟩
set_option maxHeartbeats 1000000 in
theorem cOr_any (fa : Option Addr) (fc : Nat) (f : List Nd) (ga : Option Addr) (gc : Nat) (g : List Nd) (w : World) (hf : RN w fa f) (hg : RN w ga g) :
    Calls Tryd.prog 23 #[.slice fa f.length fc, .slice ga g.length gc] w fun e w' => RetN (fB ⟨6, 0, 0, 0, 0, 0⟩ [f, g]) e w w' := by
  have H := Lib.hid (build_any ⟨6, 0, 0, 0, 0, 0⟩ (some ⟨w.heap.size, 0, none⟩) 2 [f, g] _ (RNN.two w fa ga fc gc f g 26 hf hg) (by simp))
  go_enter Tryd.func23, Tryd.ntmps23
  go_wp2_with (go_at_call 33; go_loud (refine H.out.mono ?_; rintro e w1 ⟨a1, c1, rfl, h1, hE⟩))
  go_ret
  exact ⟨a1, c1, rfl, h1, ((Ext.refl w).alloc _).trans hE⟩
set_option maxHeartbeats 1000000 in
theorem cKnow_any (a : Int) (fa : Option Addr) (fc : Nat) (f : List Nd) (w : World) (hf : RN w fa f) :
    Calls Tryd.prog 13 #[.int .i64 a, .slice fa f.length fc] w fun e w' => RetN (fB ⟨9, a, 0, 0, 0, 0⟩ [f]) e w w' := by
  have H := Lib.hid (build_any ⟨9, a, 0, 0, 0, 0⟩ (some ⟨w.heap.size, 0, none⟩) 1 [f] _ (RNN.one w fa fc f 26 hf) (by simp))
  go_enter Tryd.func13, Tryd.ntmps13
  go_wp2_with (go_at_call 33; go_loud (refine H.out.mono ?_; rintro e w1 ⟨a1, c1, rfl, h1, hE⟩))
  go_ret
  exact ⟨a1, c1, rfl, h1, ((Ext.refl w).alloc _).trans hE⟩
set_option maxHeartbeats 1000000 in
theorem cPoss_any (a : Int) (fa : Option Addr) (fc : Nat) (f : List Nd) (w : World) (hf : RN w fa f) :
    Calls Tryd.prog 18 #[.int .i64 a, .slice fa f.length fc] w fun e w' => RetN (fB ⟨10, a, 0, 0, 0, 0⟩ [f]) e w w' := by
  have H := Lib.hid (build_any ⟨10, a, 0, 0, 0, 0⟩ (some ⟨w.heap.size, 0, none⟩) 1 [f] _ (RNN.one w fa fc f 26 hf) (by simp))
  go_enter Tryd.func18, Tryd.ntmps18
  go_wp2_with (go_at_call 33; go_loud (refine H.out.mono ?_; rintro e w1 ⟨a1, c1, rfl, h1, hE⟩))
  go_ret
  exact ⟨a1, c1, rfl, h1, ((Ext.refl w).alloc _).trans hE⟩
set_option maxHeartbeats 1000000 in
theorem cEvery_any (a : Int) (fa : Option Addr) (fc : Nat) (f : List Nd) (w : World) (hf : RN w fa f) :
    Calls Tryd.prog 14 #[.int .i64 a, .slice fa f.length fc] w fun e w' => RetN (fB ⟨11, 0, 0, a, 0, 0⟩ [f]) e w w' := by
  have H := Lib.hid (build_any ⟨11, 0, 0, a, 0, 0⟩ (some ⟨w.heap.size, 0, none⟩) 1 [f] _ (RNN.one w fa fc f 26 hf) (by simp))
  go_enter Tryd.func14, Tryd.ntmps14
  go_wp2_with (go_at_call 33; go_loud (refine H.out.mono ?_; rintro e w1 ⟨a1, c1, rfl, h1, hE⟩))
  go_ret
  exact ⟨a1, c1, rfl, h1, ((Ext.refl w).alloc _).trans hE⟩
set_option maxHeartbeats 1000000 in
theorem cDist_any (a : Int) (fa : Option Addr) (fc : Nat) (f : List Nd) (w : World) (hf : RN w fa f) :
    Calls Tryd.prog 15 #[.int .i64 a, .slice fa f.length fc] w fun e w' => RetN (fB ⟨12, 0, 0, a, 0, 0⟩ [f]) e w w' := by
  have H := Lib.hid (build_any ⟨12, 0, 0, a, 0, 0⟩ (some ⟨w.heap.size, 0, none⟩) 1 [f] _ (RNN.one w fa fc f 26 hf) (by simp))
  go_enter Tryd.func15, Tryd.ntmps15
  go_wp2_with (go_at_call 33; go_loud (refine H.out.mono ?_; rintro e w1 ⟨a1, c1, rfl, h1, hE⟩))
  go_ret
  exact ⟨a1, c1, rfl, h1, ((Ext.refl w).alloc _).trans hE⟩
set_option maxHeartbeats 1000000 in
theorem cCommon_any (a : Int) (fa : Option Addr) (fc : Nat) (f : List Nd) (ga : Option Addr) (gc : Nat) (g : List Nd) (w : World) (hf : RN w fa f) (hg : RN w ga g) :
    Calls Tryd.prog 16 #[.int .i64 a, .slice fa f.length fc, .slice ga g.length gc] w fun e w' => RetN (fB ⟨13, 0, 0, a, 0, 0⟩ [f, g]) e w w' := by
  have H := Lib.hid (build_any ⟨13, 0, 0, a, 0, 0⟩ (some ⟨w.heap.size, 0, none⟩) 2 [f, g] _ (RNN.two w fa ga fc gc f g 26 hf hg) (by simp))
  go_enter Tryd.func16, Tryd.ntmps16
  go_wp2_with (go_at_call 33; go_loud (refine H.out.mono ?_; rintro e w1 ⟨a1, c1, rfl, h1, hE⟩))
  go_ret
  exact ⟨a1, c1, rfl, h1, ((Ext.refl w).alloc _).trans hE⟩
set_option maxHeartbeats 1000000 in
theorem cSafe_any (a : Int) (fa : Option Addr) (fc : Nat) (f : List Nd) (w : World) (hf : RN w fa f) :
    Calls Tryd.prog 25 #[.int .i64 a, .slice fa f.length fc] w fun e w' => RetN (fB ⟨15, a, 0, 0, 0, 0⟩ [f]) e w w' := by
  have H := Lib.hid (build_any ⟨15, a, 0, 0, 0, 0⟩ (some ⟨w.heap.size, 0, none⟩) 1 [f] _ (RNN.one w fa fc f 26 hf) (by simp))
  go_enter Tryd.func25, Tryd.ntmps25
  go_wp2_with (go_at_call 33; go_loud (refine H.out.mono ?_; rintro e w1 ⟨a1, c1, rfl, h1, hE⟩))
  go_ret
  exact ⟨a1, c1, rfl, h1, ((Ext.refl w).alloc _).trans hE⟩
end Wt
