/- Walks: formula's constructors (printed by gen_bldb.py). -/
import Derived.Test.YtflnfcmbalhpnaaDoorM4Bb
import Derived.Test.YtflnfcmbalhpnaaDoorM4Ba
import Derived.Test.YtflnfcmbalhpnaaDoorM4Al
import Derived.Laws.ResultCell
import Derived.Test.YtflnfcmbalhpnaaDoorM4Aj
namespace Wt
open Go Go.RowKit Go.Maps Go.Proofs Fm

theorem RNN.one (w : World) (fa : Option Addr) (fc : Nat) (f : List Nd) (T : Nat) (h : RN w fa f) : RNN (w.alloc (.cells #[.slice fa f.length fc] T)) (some ⟨w.heap.size, 0, none⟩) [f] :=
  ⟨by simp, fun k hk => by
    obtain rfl : k = 0 := by simp at hk; omega
    exact ⟨w.heap.size, 0, fa, fc, rfl, by simp, by simp [nth], h.ext ((Ext.refl w).alloc _)⟩⟩
theorem RNN.two (w : World) (fa ga : Option Addr) (fc gc : Nat) (f g : List Nd) (T : Nat) (h : RN w fa f) (h2 : RN w ga g) : RNN (w.alloc (.cells #[.slice fa f.length fc, .slice ga g.length gc] T)) (some ⟨w.heap.size, 0, none⟩) [f, g] :=
  ⟨by simp, fun k hk => by
    rcases (show k = 0 ∨ k = 1 by simp at hk; omega) with rfl | rfl
    · exact ⟨w.heap.size, 0, fa, fc, rfl, by simp, by simp [nth], h.ext ((Ext.refl w).alloc _)⟩
    · exact ⟨w.heap.size, 0, ga, gc, rfl, by simp, by simp [nth], h2.ext ((Ext.refl w).alloc _)⟩⟩
set_option maxHeartbeats 1000000 in
theorem cTrue_any (w : World) :
    Calls Tryd.prog 33 #[] w fun e w' => RetN (fB ⟨1, 0, 0, 0, 0, 0⟩ []) e w w' := by
  have H := Lib.hid (build_any ⟨1, 0, 0, 0, 0, 0⟩ none 0 [] w (RNN.nil _ _) (by decide))
  go_enter Tryd.func33, Tryd.ntmps33
  go_wp2_with (go_at_call 24; go_loud (refine H.out.mono ?_; rintro e w1 ⟨a1, c1, rfl, h1, hE⟩))
  go_ret
  exact ⟨a1, c1, rfl, h1, hE⟩
set_option maxHeartbeats 1000000 in
theorem cFalse_any (w : World) :
    Calls Tryd.prog 74 #[] w fun e w' => RetN (fB ⟨2, 0, 0, 0, 0, 0⟩ []) e w w' := by
  have H := Lib.hid (build_any ⟨2, 0, 0, 0, 0, 0⟩ none 0 [] w (RNN.nil _ _) (by decide))
  go_enter Tryd.func74, Tryd.ntmps74
  go_wp2_with (go_at_call 24; go_loud (refine H.out.mono ?_; rintro e w1 ⟨a1, c1, rfl, h1, hE⟩))
  go_ret
  exact ⟨a1, c1, rfl, h1, hE⟩
set_option maxHeartbeats 1000000 in
theorem cFact_any (a : Int) (w : World) :
    Calls Tryd.prog 17 #[.int .i64 a] w fun e w' => RetN (fB ⟨3, a, 0, 0, 0, 0⟩ []) e w w' := by
  have H := Lib.hid (build_any ⟨3, a, 0, 0, 0, 0⟩ none 0 [] w (RNN.nil _ _) (by decide))
  go_enter Tryd.func17, Tryd.ntmps17
  go_wp2_with (go_at_call 24; go_loud (refine H.out.mono ?_; rintro e w1 ⟨a1, c1, rfl, h1, hE⟩))
  go_ret
  exact ⟨a1, c1, rfl, h1, hE⟩
set_option maxHeartbeats 1000000 in
theorem cNot_any (fa : Option Addr) (fc : Nat) (f : List Nd) (w : World) (hf : RN w fa f) :
    Calls Tryd.prog 8 #[.slice fa f.length fc] w fun e w' => RetN (fB ⟨4, 0, 0, 0, 0, 0⟩ [f]) e w w' := by
  have H := Lib.hid (build_any ⟨4, 0, 0, 0, 0, 0⟩ (some ⟨w.heap.size, 0, none⟩) 1 [f] _ (RNN.one w fa fc f 31 hf) (by simp))
  go_enter Tryd.func8, Tryd.ntmps8
  go_wp2_with (go_at_call 24; go_loud (refine H.out.mono ?_; rintro e w1 ⟨a1, c1, rfl, h1, hE⟩))
  go_ret
  exact ⟨a1, c1, rfl, h1, ((Ext.refl w).alloc _).trans hE⟩
set_option maxHeartbeats 1000000 in
theorem cAnd_any (fa : Option Addr) (fc : Nat) (f : List Nd) (ga : Option Addr) (gc : Nat) (g : List Nd) (w : World) (hf : RN w fa f) (hg : RN w ga g) :
    Calls Tryd.prog 75 #[.slice fa f.length fc, .slice ga g.length gc] w fun e w' => RetN (fB ⟨5, 0, 0, 0, 0, 0⟩ [f, g]) e w w' := by
  have H := Lib.hid (build_any ⟨5, 0, 0, 0, 0, 0⟩ (some ⟨w.heap.size, 0, none⟩) 2 [f, g] _ (RNN.two w fa ga fc gc f g 31 hf hg) (by simp))
  go_enter Tryd.func75, Tryd.ntmps75
  go_wp2_with (go_at_call 24; go_loud (refine H.out.mono ?_; rintro e w1 ⟨a1, c1, rfl, h1, hE⟩))
  go_ret
  exact ⟨a1, c1, rfl, h1, ((Ext.refl w).alloc _).trans hE⟩
set_option maxHeartbeats 1000000 in
theorem cOr_any (fa : Option Addr) (fc : Nat) (f : List Nd) (ga : Option Addr) (gc : Nat) (g : List Nd) (w : World) (hf : RN w fa f) (hg : RN w ga g) :
    Calls Tryd.prog 77 #[.slice fa f.length fc, .slice ga g.length gc] w fun e w' => RetN (fB ⟨6, 0, 0, 0, 0, 0⟩ [f, g]) e w w' := by
  have H := Lib.hid (build_any ⟨6, 0, 0, 0, 0, 0⟩ (some ⟨w.heap.size, 0, none⟩) 2 [f, g] _ (RNN.two w fa ga fc gc f g 31 hf hg) (by simp))
  go_enter Tryd.func77, Tryd.ntmps77
  go_wp2_with (go_at_call 24; go_loud (refine H.out.mono ?_; rintro e w1 ⟨a1, c1, rfl, h1, hE⟩))
  go_ret
  exact ⟨a1, c1, rfl, h1, ((Ext.refl w).alloc _).trans hE⟩
set_option maxHeartbeats 1000000 in
theorem cImp_any (fa : Option Addr) (fc : Nat) (f : List Nd) (ga : Option Addr) (gc : Nat) (g : List Nd) (w : World) (hf : RN w fa f) (hg : RN w ga g) :
    Calls Tryd.prog 76 #[.slice fa f.length fc, .slice ga g.length gc] w fun e w' => RetN (fB ⟨7, 0, 0, 0, 0, 0⟩ [f, g]) e w w' := by
  have H := Lib.hid (build_any ⟨7, 0, 0, 0, 0, 0⟩ (some ⟨w.heap.size, 0, none⟩) 2 [f, g] _ (RNN.two w fa ga fc gc f g 31 hf hg) (by simp))
  go_enter Tryd.func76, Tryd.ntmps76
  go_wp2_with (go_at_call 24; go_loud (refine H.out.mono ?_; rintro e w1 ⟨a1, c1, rfl, h1, hE⟩))
  go_ret
  exact ⟨a1, c1, rfl, h1, ((Ext.refl w).alloc _).trans hE⟩
set_option maxHeartbeats 1000000 in
theorem cDist_any (a : Int) (fa : Option Addr) (fc : Nat) (f : List Nd) (w : World) (hf : RN w fa f) :
    Calls Tryd.prog 16 #[.int .i64 a, .slice fa f.length fc] w fun e w' => RetN (fB ⟨12, 0, 0, a, 0, 0⟩ [f]) e w w' := by
  have H := Lib.hid (build_any ⟨12, 0, 0, a, 0, 0⟩ (some ⟨w.heap.size, 0, none⟩) 1 [f] _ (RNN.one w fa fc f 31 hf) (by simp))
  go_enter Tryd.func16, Tryd.ntmps16
  go_wp2_with (go_at_call 24; go_loud (refine H.out.mono ?_; rintro e w1 ⟨a1, c1, rfl, h1, hE⟩))
  go_ret
  exact ⟨a1, c1, rfl, h1, ((Ext.refl w).alloc _).trans hE⟩
set_option maxHeartbeats 1000000 in
/-- The formula of a fact lies in memory of its own. -/
theorem cFact_fresh (a : Int) (w : World) :
    Calls Tryd.prog 17 #[.int .i64 a] w fun e w' => RetNF (fB ⟨3, a, 0, 0, 0, 0⟩ []) e w w' := by
  have H := Lib.hid (build_fresh ⟨3, a, 0, 0, 0, 0⟩ none 0 [] w (RNN.nil _ _) (by decide))
  go_enter Tryd.func17, Tryd.ntmps17
  go_wp2_with (go_at_call 24; go_loud (refine H.out.mono ?_; rintro e w1 ⟨a1, c1, rfl, h1, hfr, hE⟩))
  go_ret
  exact ⟨a1, c1, rfl, h1, hfr, hE⟩
end Wt

/- Walk: announce.everything; a copy of a model with all of its worlds. -/
namespace Wt
open Go Go.RowKit Go.Maps Go.Proofs Fm

def topF : List Nd := fB ⟨1, 0, 0, 0, 0, 0⟩ []
theorem topF_is : IsF topF (.leaf 1 0 0 0) := ⟨by decide +kernel, by decide +kernel⟩
def evM (M : Mo) : Mo := if moCheck M = 0 then M else ⟨0, [], []⟩
def evL (M : Mo) : List Nat := if moCheck M = 0 then List.range M.worlds.toNat else []
theorem allW_ne {N : Nat} (h : 1 ≤ N) : allW N ≠ 0#64 := fun e => by
  have : bt (allW N) 0 = true := by rw [bt_allW]; simp; omega
  rw [e, bt_zero] at this; cases this
theorem ev_up (M : Mo) : upErr M topF = moCheck M ∧ upM M topF = evM M ∧ upL M topF = evL M := by
  by_cases h : moCheck M = 0
  · obtain ⟨N, ok⟩ := moCheck_ok h
    have hNt : M.worlds.toNat = N := by rw [ok.worlds]; exact Int.toNat_natCast N
    obtain ⟨h1, h2⟩ := set_sem h topF_is
    have hs : semT M (.leaf 1 0 0 0) = (allW N, true) := by simp [semT, valN, hNt]
    rw [hs] at h1 h2
    have h3 : reqErr M topF = 0 := by simpa using h1
    have h2 : holdsOf M topF = allW N := h2
    have hu := upErr_mk h3 (by rw [h2]; exact allW_ne ok.one)
    refine ⟨by rw [hu, h], ?_, ?_⟩
    · unfold upM evM; rw [if_pos hu, if_pos h, h2, memL_allW ok.most, arr_all ok]
    · unfold upL evL; rw [if_pos hu, if_pos h, h2, memL_allW ok.most, hNt]
  · have h3 : reqErr M topF = moCheck M := if_pos h
    have hu : upErr M topF = moCheck M := by unfold upErr; rw [if_pos (by rw [h3]; exact h), h3]
    refine ⟨hu, ?_, ?_⟩
    · unfold upM evM; rw [if_neg (by rw [hu]; exact h), if_neg h]
    · unfold upL evL; rw [if_neg (by rw [hu]; exact h), if_neg h]
end Wt

/- Walks: wittinglaw17.example, holds; what the examples of the chapter come to. -/
namespace Wt
open Go Go.RowKit Go.Maps Go.Proofs Fm

/-- The model of the example of the chapter. -/
def exM : Mo := ⟨3, [3#64], [[3#64, 3#64, 4#64], [1#64, 6#64, 6#64]]⟩
def RetM (M : Mo) (e : Ending) (w w' : World) : Prop := ∃ va ra vc rc, e = .returned (.agg #[.int .i64 M.worlds, .slice va M.val.length vc, .slice ra M.rel.length rc]) ∧ RM w' va ra M ∧ Ext w w'
theorem RU.lit (w : World) (l : List (BitVec 64)) (cs : Array Value) (T : Nat) (h : cs = (l.map uv).toArray) (hl : l.length ≤ 1000) : RU (w.alloc (.cells cs T)) (some ⟨w.heap.size, 0, none⟩) l := by
  subst h
  refine ⟨by omega, fun k hk => ⟨w.heap.size, 0, rfl, ?_⟩⟩
  rw [nth_eq _ _ hk]
  simp [hk, uv]
theorem results_cell_one {fn : Func} {p : Tmp} {ty : TypeId} (h : fn.results = #[.cell p ty]) (tmps : Array Value) (P : Program) (w : World) :
    (results fn tmps).run P w = ((asAddr (tmps.getD p undef)).run P w).andThen fun a w₁ => ((loadVar ty a).run P w₁).andThen fun v w₂ => .ok v w₂ := by
  simp only [results, h]
  simp [Sem.run_bind, Result.andThen]
  cases (asAddr (tmps[p]?.getD undef)).run P w with
  | ok a w => dsimp only; cases (loadVar ty a).run P w <;> rfl
  | halt h w => rfl
/-- Does a formula hold in just these worlds of the example? -/
def hb (f : List Nd) (s : BitVec 64) : Bool := reqErr exM f == 0 && holdsOf exM f == s
/-! The examples. -/
def exP : List Nd := fB ⟨3, 0, 0, 0, 0, 0⟩ []
def exT : List Nd := fB ⟨1, 0, 0, 0, 0, 0⟩ []
def exN : List Nd := fB ⟨4, 0, 0, 0, 0, 0⟩ [exP]
theorem ex1 : hb (fB ⟨9, 0, 0, 0, 0, 0⟩ [exP]) 3#64 = true := by decide +kernel
theorem ex2 : hb (fB ⟨9, 1, 0, 0, 0, 0⟩ [exP]) 1#64 = true := by decide +kernel
theorem ex3 : hb (fB ⟨11, 0, 0, 3, 0, 0⟩ [exP]) 1#64 = true := by decide +kernel
theorem ex4 : hb (fB ⟨12, 0, 0, 3, 0, 0⟩ [exP]) 3#64 = true := by decide +kernel
theorem ex5 : hb (fB ⟨13, 0, 0, 3, 0, 0⟩ [exT, exP]) 0#64 = true := by decide +kernel
theorem ex6 : hb (fB ⟨13, 0, 0, 3, 0, 0⟩ [exP, exP]) 7#64 = true := by decide +kernel
theorem ex7 : hb (fB ⟨10, 1, 0, 0, 0, 0⟩ [exN]) 6#64 = true := by decide +kernel
theorem ex8 : atOf exM 1 exP = true ∧ atErr exM 1 exP = 0 := by decide +kernel
theorem ex9 : validOf exM (fB ⟨6, 0, 0, 0, 0, 0⟩ [exP, exN]) = true ∧ reqErr exM (fB ⟨6, 0, 0, 0, 0, 0⟩ [exP, exN]) = 0 := by decide +kernel
theorem ex10 : reqErr exM (fB ⟨15, 0, 0, 0, 0, 0⟩ [exP]) = 10 := by decide +kernel
theorem ex11 : reqErr exM (fB ⟨9, 2, 0, 0, 0, 0⟩ [exP]) = 2 := by decide +kernel
end Wt

/- Walk: wittinglaw17.awake (printed by gen_lawb.py). -/
namespace Wt
open Go Go.RowKit Go.Maps Go.Proofs Fm

def exC5 : List Nd := fB ⟨13, 0, 0, 3, 0, 0⟩ [exT, exP]
def exC6 : List Nd := fB ⟨13, 0, 0, 3, 0, 0⟩ [exP, exP]
def exQ7 : List Nd := fB ⟨10, 1, 0, 0, 0, 0⟩ [exN]
def exO : List Nd := fB ⟨6, 0, 0, 0, 0, 0⟩ [exP, exN]
def exK0 : List Nd := fB ⟨9, 0, 0, 0, 0, 0⟩ [exP]
def exK1 : List Nd := fB ⟨9, 1, 0, 0, 0, 0⟩ [exP]
def exK2 : List Nd := fB ⟨9, 2, 0, 0, 0, 0⟩ [exP]
def exE3 : List Nd := fB ⟨11, 0, 0, 3, 0, 0⟩ [exP]
def exD3 : List Nd := fB ⟨12, 0, 0, 3, 0, 0⟩ [exP]
def exS0 : List Nd := fB ⟨15, 0, 0, 0, 0, 0⟩ [exP]
theorem RM.ext' {w w' : World} {va ra : Option Addr} {M : Mo} (r : RM w va ra M) (h : Ext w w') : RM w' va ra M := RM.ext h r
end Wt

/- Walks: wittingref13.Few, wittinglaw17.few. -/
namespace Wt
open Go Go.RowKit Go.Maps Go.Proofs Fm

def RetB (e : Ending) (w w' : World) : Prop := ∃ b, e = .returned (.bool b) ∧ Ext w w'
/-- Whether the formulas are small, and more. -/
def RetF (os : List (List Nd)) (e : Ending) (w w' : World) : Prop := ∃ b, e = .returned (.bool b) ∧ Ext w w' ∧ (b = true → ∀ j, j < os.length → (nth os j).length ≤ 60)
end Wt
