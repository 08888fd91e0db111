/- Walks: formula's constructors (printed by gen_bldb.py). -/
import Derived.Test.YtflnfcmbalhpnaaGreatDoorM4Bb
import Derived.Test.YtflnfcmbalhpnaaGreatDoorM4Ba
import Derived.Test.YtflnfcmbalhpnaaGreatDoorM4Al
import Derived.Laws.ResultCell
import Derived.Test.YtflnfcmbalhpnaaGreatDoorM4Aj
namespace Wt
open Go Go.RowKit Go.Maps Go.Proofs Fm

theorem RNN.one (w : World) (fa : Option Addr) (fc : Nat) (f : List Nd) (T : Nat) (h : RN w fa f) : RNN (w.alloc (.cells #[.slice fa f.length fc] T)) (some ⟨w.heap.size, 0, none⟩) [f] :=
  ⟨by simp, fun k hk => by
    obtain rfl : k = 0 := by simp at hk; omega
    exact ⟨w.heap.size, 0, fa, fc, rfl, by simp, by simp [nth], h.ext ((Ext.refl w).alloc _)⟩⟩
theorem RNN.two (w : World) (fa ga : Option Addr) (fc gc : Nat) (f g : List Nd) (T : Nat) (h : RN w fa f) (h2 : RN w ga g) : RNN (w.alloc (.cells #[.slice fa f.length fc, .slice ga g.length gc] T)) (some ⟨w.heap.size, 0, none⟩) [f, g] :=
  ⟨by simp, fun k hk => by
    rcases (show k = 0 ∨ k = 1 by simp at hk; omega) with rfl | rfl
    · exact ⟨w.heap.size, 0, fa, fc, rfl, by simp, by simp [nth], h.ext ((Ext.refl w).alloc _)⟩
    · exact ⟨w.heap.size, 0, ga, gc, rfl, by simp, by simp [nth], h2.ext ((Ext.refl w).alloc _)⟩⟩
set_option maxHeartbeats 1000000 in
theorem cTrue_any (w : World) :
    Calls Tryz.prog 36 #[] w fun e w' => RetN (fB ⟨1, 0, 0, 0, 0, 0⟩ []) e w w' := by
  have H := Lib.hid (build_any ⟨1, 0, 0, 0, 0, 0⟩ none 0 [] w (RNN.nil _ _) (by decide))
  go_enter Tryz.func36, Tryz.ntmps36
  go_wp2_with (go_at_call 74; go_loud (refine H.out.mono ?_; rintro e w1 ⟨a1, c1, rfl, h1, hE⟩))
  go_ret
  exact ⟨a1, c1, rfl, h1, hE⟩
set_option maxHeartbeats 1000000 in
theorem cFalse_any (w : World) :
    Calls Tryz.prog 37 #[] w fun e w' => RetN (fB ⟨2, 0, 0, 0, 0, 0⟩ []) e w w' := by
  have H := Lib.hid (build_any ⟨2, 0, 0, 0, 0, 0⟩ none 0 [] w (RNN.nil _ _) (by decide))
  go_enter Tryz.func37, Tryz.ntmps37
  go_wp2_with (go_at_call 74; go_loud (refine H.out.mono ?_; rintro e w1 ⟨a1, c1, rfl, h1, hE⟩))
  go_ret
  exact ⟨a1, c1, rfl, h1, hE⟩
set_option maxHeartbeats 1000000 in
theorem cFact_any (a : Int) (w : World) :
    Calls Tryz.prog 39 #[.int .i64 a] w fun e w' => RetN (fB ⟨3, a, 0, 0, 0, 0⟩ []) e w w' := by
  have H := Lib.hid (build_any ⟨3, a, 0, 0, 0, 0⟩ none 0 [] w (RNN.nil _ _) (by decide))
  go_enter Tryz.func39, Tryz.ntmps39
  go_wp2_with (go_at_call 74; go_loud (refine H.out.mono ?_; rintro e w1 ⟨a1, c1, rfl, h1, hE⟩))
  go_ret
  exact ⟨a1, c1, rfl, h1, hE⟩
set_option maxHeartbeats 1000000 in
theorem cNot_any (fa : Option Addr) (fc : Nat) (f : List Nd) (w : World) (hf : RN w fa f) :
    Calls Tryz.prog 40 #[.slice fa f.length fc] w fun e w' => RetN (fB ⟨4, 0, 0, 0, 0, 0⟩ [f]) e w w' := by
  have H := Lib.hid (build_any ⟨4, 0, 0, 0, 0, 0⟩ (some ⟨w.heap.size, 0, none⟩) 1 [f] _ (RNN.one w fa fc f 29 hf) (by simp))
  go_enter Tryz.func40, Tryz.ntmps40
  go_wp2_with (go_at_call 74; go_loud (refine H.out.mono ?_; rintro e w1 ⟨a1, c1, rfl, h1, hE⟩))
  go_ret
  exact ⟨a1, c1, rfl, h1, ((Ext.refl w).alloc _).trans hE⟩
set_option maxHeartbeats 1000000 in
theorem cAnd_any (fa : Option Addr) (fc : Nat) (f : List Nd) (ga : Option Addr) (gc : Nat) (g : List Nd) (w : World) (hf : RN w fa f) (hg : RN w ga g) :
    Calls Tryz.prog 154 #[.slice fa f.length fc, .slice ga g.length gc] w fun e w' => RetN (fB ⟨5, 0, 0, 0, 0, 0⟩ [f, g]) e w w' := by
  have H := Lib.hid (build_any ⟨5, 0, 0, 0, 0, 0⟩ (some ⟨w.heap.size, 0, none⟩) 2 [f, g] _ (RNN.two w fa ga fc gc f g 29 hf hg) (by simp))
  go_enter Tryz.func154, Tryz.ntmps154
  go_wp2_with (go_at_call 74; go_loud (refine H.out.mono ?_; rintro e w1 ⟨a1, c1, rfl, h1, hE⟩))
  go_ret
  exact ⟨a1, c1, rfl, h1, ((Ext.refl w).alloc _).trans hE⟩
set_option maxHeartbeats 1000000 in
theorem cOr_any (fa : Option Addr) (fc : Nat) (f : List Nd) (ga : Option Addr) (gc : Nat) (g : List Nd) (w : World) (hf : RN w fa f) (hg : RN w ga g) :
    Calls Tryz.prog 38 #[.slice fa f.length fc, .slice ga g.length gc] w fun e w' => RetN (fB ⟨6, 0, 0, 0, 0, 0⟩ [f, g]) e w w' := by
  have H := Lib.hid (build_any ⟨6, 0, 0, 0, 0, 0⟩ (some ⟨w.heap.size, 0, none⟩) 2 [f, g] _ (RNN.two w fa ga fc gc f g 29 hf hg) (by simp))
  go_enter Tryz.func38, Tryz.ntmps38
  go_wp2_with (go_at_call 74; go_loud (refine H.out.mono ?_; rintro e w1 ⟨a1, c1, rfl, h1, hE⟩))
  go_ret
  exact ⟨a1, c1, rfl, h1, ((Ext.refl w).alloc _).trans hE⟩
set_option maxHeartbeats 1000000 in
theorem cImp_any (fa : Option Addr) (fc : Nat) (f : List Nd) (ga : Option Addr) (gc : Nat) (g : List Nd) (w : World) (hf : RN w fa f) (hg : RN w ga g) :
    Calls Tryz.prog 155 #[.slice fa f.length fc, .slice ga g.length gc] w fun e w' => RetN (fB ⟨7, 0, 0, 0, 0, 0⟩ [f, g]) e w w' := by
  have H := Lib.hid (build_any ⟨7, 0, 0, 0, 0, 0⟩ (some ⟨w.heap.size, 0, none⟩) 2 [f, g] _ (RNN.two w fa ga fc gc f g 29 hf hg) (by simp))
  go_enter Tryz.func155, Tryz.ntmps155
  go_wp2_with (go_at_call 74; go_loud (refine H.out.mono ?_; rintro e w1 ⟨a1, c1, rfl, h1, hE⟩))
  go_ret
  exact ⟨a1, c1, rfl, h1, ((Ext.refl w).alloc _).trans hE⟩
set_option maxHeartbeats 1000000 in
theorem cIff_any (fa : Option Addr) (fc : Nat) (f : List Nd) (ga : Option Addr) (gc : Nat) (g : List Nd) (w : World) (hf : RN w fa f) (hg : RN w ga g) :
    Calls Tryz.prog 59 #[.slice fa f.length fc, .slice ga g.length gc] w fun e w' => RetN (fB ⟨8, 0, 0, 0, 0, 0⟩ [f, g]) e w w' := by
  have H := Lib.hid (build_any ⟨8, 0, 0, 0, 0, 0⟩ (some ⟨w.heap.size, 0, none⟩) 2 [f, g] _ (RNN.two w fa ga fc gc f g 29 hf hg) (by simp))
  go_enter Tryz.func59, Tryz.ntmps59
  go_wp2_with (go_at_call 74; go_loud (refine H.out.mono ?_; rintro e w1 ⟨a1, c1, rfl, h1, hE⟩))
  go_ret
  exact ⟨a1, c1, rfl, h1, ((Ext.refl w).alloc _).trans hE⟩
set_option maxHeartbeats 1000000 in
theorem cDist_any (a : Int) (fa : Option Addr) (fc : Nat) (f : List Nd) (w : World) (hf : RN w fa f) :
    Calls Tryz.prog 134 #[.int .i64 a, .slice fa f.length fc] w fun e w' => RetN (fB ⟨12, 0, 0, a, 0, 0⟩ [f]) e w w' := by
  have H := Lib.hid (build_any ⟨12, 0, 0, a, 0, 0⟩ (some ⟨w.heap.size, 0, none⟩) 1 [f] _ (RNN.one w fa fc f 29 hf) (by simp))
  go_enter Tryz.func134, Tryz.ntmps134
  go_wp2_with (go_at_call 74; go_loud (refine H.out.mono ?_; rintro e w1 ⟨a1, c1, rfl, h1, hE⟩))
  go_ret
  exact ⟨a1, c1, rfl, h1, ((Ext.refl w).alloc _).trans hE⟩
set_option maxHeartbeats 1000000 in
theorem cFact_fresh (a : Int) (w : World) :
    Calls Tryz.prog 39 #[.int .i64 a] w fun e w' => RetNF (fB ⟨3, a, 0, 0, 0, 0⟩ []) e w w' := by
  have H := Lib.hid (build_fresh ⟨3, a, 0, 0, 0, 0⟩ none 0 [] w (RNN.nil _ _) (by decide))
  go_enter Tryz.func39, Tryz.ntmps39
  go_wp2_with (go_at_call 74; go_loud (refine H.out.mono ?_; rintro e w1 ⟨a1, c1, rfl, h1, hfr, hE⟩))
  go_ret
  exact ⟨a1, c1, rfl, h1, hfr, hE⟩
end Wt

namespace Wt
open Go Go.RowKit Go.Maps Go.Proofs Fm

end Wt

namespace Wt
open Go Go.RowKit Go.Maps Go.Proofs Fm

def exM : Mo := ⟨3, [3#64], [[3#64, 3#64, 4#64], [1#64, 6#64, 6#64]]⟩
theorem RU.lit (w : World) (l : List (BitVec 64)) (cs : Array Value) (T : Nat) (h : cs = (l.map uv).toArray) (hl : l.length ≤ 1000) : RU (w.alloc (.cells cs T)) (some ⟨w.heap.size, 0, none⟩) l := by
  subst h
  refine ⟨by omega, fun k hk => ⟨w.heap.size, 0, rfl, ?_⟩⟩
  rw [nth_eq _ _ hk]
  simp [hk, uv]
theorem results_cell_one {fn : Func} {p : Tmp} {ty : TypeId} (h : fn.results = #[.cell p ty]) (tmps : Array Value) (P : Program) (w : World) :
    (results fn tmps).run P w = ((asAddr (tmps.getD p undef)).run P w).andThen fun a w₁ => ((loadVar ty a).run P w₁).andThen fun v w₂ => .ok v w₂ := by
  simp only [results, h]
  simp [Sem.run_bind, Result.andThen]
  cases (asAddr (tmps[p]?.getD undef)).run P w with
  | ok a w => dsimp only; cases (loadVar ty a).run P w <;> rfl
  | halt h w => rfl
def hb (f : List Nd) (s : BitVec 64) : Bool := reqErr exM f == 0 && holdsOf exM f == s
end Wt

namespace Wt
open Go Go.RowKit Go.Maps Go.Proofs Fm

theorem RM.ext' {w w' : World} {va ra : Option Addr} {M : Mo} (r : RM w va ra M) (h : Ext w w') : RM w' va ra M := RM.ext h r
end Wt

namespace Wt
open Go Go.RowKit Go.Maps Go.Proofs Fm

end Wt
