/- Walks: wittinglaw17.example, holds; what the examples of the chapter come to. -/
import Derived.Test.YtdnpgadkklgjeaaDoorBldB
import Derived.Test.YtdnpgadkklgjeaaDoorCkD
import Derived.Laws.ResultCell
namespace Wt
open Go Go.RowKit Go.Maps Go.Proofs Fm

/-- The model of the example of the chapter. -/
def exM : Mo := ⟨3, [3#64], [[3#64, 3#64, 4#64], [1#64, 6#64, 6#64]]⟩
def RetM (M : Mo) (e : Ending) (w w' : World) : Prop := ∃ va ra vc rc, e = .returned (.agg #[.int .i64 M.worlds, .slice va M.val.length vc, .slice ra M.rel.length rc]) ∧ RM w' va ra M ∧ Ext w w'
theorem RU.lit (w : World) (l : List (BitVec 64)) (cs : Array Value) (T : Nat) (h : cs = (l.map uv).toArray) (hl : l.length ≤ 1000) : RU (w.alloc (.cells cs T)) (some ⟨w.heap.size, 0, none⟩) l := by
  subst h
  refine ⟨by omega, fun k hk => ⟨w.heap.size, 0, rfl, ?_⟩⟩
  rw [nth_eq _ _ hk]
  simp [hk, uv]
theorem results_cell_one {fn : Func} {p : Tmp} {ty : TypeId} (h : fn.results = #[.cell p ty]) (tmps : Array Value) (P : Program) (w : World) :
    (results fn tmps).run P w = ((asAddr (tmps.getD p undef)).run P w).andThen fun a w₁ => ((loadVar ty a).run P w₁).andThen fun v w₂ => .ok v w₂ := by
  simp only [results, h]
  simp [Sem.run_bind, Result.andThen]
  cases (asAddr (tmps[p]?.getD undef)).run P w with
  | ok a w => dsimp only; cases (loadVar ty a).run P w <;> rfl
  | halt h w => rfl
set_option maxHeartbeats 1000000 in
theorem example_any (w : World) : Calls Tryd.prog 21 #[] w fun e w' => RetM exM e w w' := by
  go_enter Tryd.func21, Tryd.ntmps21
  go_wp2
  have hE0 := (Ext.refl w).alloc (.cells #[.int .i64 3, .slice (some ⟨w.heap.size + 1, 0, none⟩) 1 1, .slice (some ⟨w.heap.size + 1 + 1 + 1 + 1, 0, none⟩) 2 2] 25)
  have c0 : (w.alloc (.cells #[.int .i64 3, .slice (some ⟨w.heap.size + 1, 0, none⟩) 1 1, .slice (some ⟨w.heap.size + 1 + 1 + 1 + 1, 0, none⟩) 2 2] 25)).cell? ⟨w.heap.size, 0, none⟩ = some (.int .i64 3) := by simp
  have c1 : (w.alloc (.cells #[.int .i64 3, .slice (some ⟨w.heap.size + 1, 0, none⟩) 1 1, .slice (some ⟨w.heap.size + 1 + 1 + 1 + 1, 0, none⟩) 2 2] 25)).cell? ⟨w.heap.size, 1, none⟩ = some (.slice (some ⟨w.heap.size + 1, 0, none⟩) 1 1) := by simp
  have c2 : (w.alloc (.cells #[.int .i64 3, .slice (some ⟨w.heap.size + 1, 0, none⟩) 1 1, .slice (some ⟨w.heap.size + 1 + 1 + 1 + 1, 0, none⟩) 2 2] 25)).cell? ⟨w.heap.size, 2, none⟩ = some (.slice (some ⟨w.heap.size + 1 + 1 + 1 + 1, 0, none⟩) 2 2) := by simp
  generalize hw0 : w.alloc (.cells #[.int .i64 3, .slice (some ⟨w.heap.size + 1, 0, none⟩) 1 1, .slice (some ⟨w.heap.size + 1 + 1 + 1 + 1, 0, none⟩) 2 2] 25) = w0 at *
  have s0 : w0.heap.size = w.heap.size + 1 := by rw [← hw0]; simp
  rw [← s0] at c1 c2 ⊢
  have u1 := RU.lit w0 [3#64] #[.int .u64 3] 31 rfl (by decide)
  have e1 := (Ext.refl w0).alloc (.cells #[.int .u64 3] 31)
  generalize hw1 : w0.alloc (.cells #[.int .u64 3] 31) = w1 at *
  have s1 : w1.heap.size = w0.heap.size + 1 := by rw [← hw1]; simp
  have u2 := RU.lit w1 [3#64, 3#64, 4#64] #[.int .u64 3, .int .u64 3, .int .u64 4] 31 rfl (by decide)
  have e2 := (Ext.refl w1).alloc (.cells #[.int .u64 3, .int .u64 3, .int .u64 4] 31)
  generalize hw2 : w1.alloc (.cells #[.int .u64 3, .int .u64 3, .int .u64 4] 31) = w2 at *
  have s2 : w2.heap.size = w1.heap.size + 1 := by rw [← hw2]; simp
  have u3 := RU.lit w2 [1#64, 6#64, 6#64] #[.int .u64 1, .int .u64 6, .int .u64 6] 31 rfl (by decide)
  have e3 := (Ext.refl w2).alloc (.cells #[.int .u64 1, .int .u64 6, .int .u64 6] 31)
  generalize hw3 : w2.alloc (.cells #[.int .u64 1, .int .u64 6, .int .u64 6] 31) = w3 at *
  have s3 : w3.heap.size = w2.heap.size + 1 := by rw [← hw3]; simp
  rw [← s1, ← s2, ← s3]
  rw [← s1, ← s2, ← s3] at c2
  have e4 := (Ext.refl w3).alloc (.cells #[.slice (some ⟨w1.heap.size, 0, none⟩) 3 3, .slice (some ⟨w2.heap.size, 0, none⟩) 3 3] 22)
  have d0 : (w3.alloc (.cells #[.slice (some ⟨w1.heap.size, 0, none⟩) 3 3, .slice (some ⟨w2.heap.size, 0, none⟩) 3 3] 22)).cell? ⟨w3.heap.size, 0, none⟩ = some (.slice (some ⟨w1.heap.size, 0, none⟩) 3 3) := by simp
  have d1 : (w3.alloc (.cells #[.slice (some ⟨w1.heap.size, 0, none⟩) 3 3, .slice (some ⟨w2.heap.size, 0, none⟩) 3 3] 22)).cell? ⟨w3.heap.size, 1, none⟩ = some (.slice (some ⟨w2.heap.size, 0, none⟩) 3 3) := by simp
  generalize w3.alloc (.cells #[.slice (some ⟨w1.heap.size, 0, none⟩) 3 3, .slice (some ⟨w2.heap.size, 0, none⟩) 3 3] 22) = w4 at *
  have eA := ((e1.trans e2).trans e3).trans e4
  have k0 := eA.cell c0
  have k1 := eA.cell c1
  have k2 := eA.cell c2
  refine bodyPost_ret (v := .agg #[.int .i64 3, .slice (some ⟨w0.heap.size, 0, none⟩) 1 1, .slice (some ⟨w3.heap.size, 0, none⟩) 2 2]) ?_ rfl ?_
  · rw [results_cell_one rfl]
    go_simp
  · refine ⟨_, _, _, _, rfl, ⟨u1.ext ((e2.trans e3).trans e4), ⟨by decide, fun k hk => ?_⟩⟩, hE0.trans eA⟩
    rcases (show k = 0 ∨ k = 1 by have : k < 2 := hk; omega) with rfl | rfl
    · exact ⟨w3.heap.size, 0, _, 3, rfl, d0, u2.ext (e3.trans e4)⟩
    · exact ⟨w3.heap.size, 0, _, 3, rfl, d1, u3.ext e4⟩
/-- Does a formula hold in just these worlds of the example? -/
def hb (f : List Nd) (s : BitVec 64) : Bool := reqErr exM f == 0 && holdsOf exM f == s
set_option maxHeartbeats 1000000 in
theorem holdsL_any (fa : Option Addr) (fc : Nat) (f : List Nd) (s : BitVec 64) (w : World) (hf : RN w fa f) :
    Calls Tryd.prog 12 #[.slice fa f.length fc, .int .u64 (un s)] w fun e w' => e = .returned (.bool (hb f s)) ∧ Ext w w' := by
  have HF := Lib.hid hf
  clear hf
  by_cases h : reqErr exM f = 0
  · have hN : hb f s = (holdsOf exM f == s) := by unfold hb; simp [h]
    have HN := Lib.hid hN
    have HR := Lib.hid h
    clear hN h
    go_enter Tryd.func12, Tryd.ntmps12
    go_wp2_with (first | (go_at_call 21; refine (example_any _).mono ?_; rintro e w1 ⟨va, ra, vc, rc, rfl, hm, hE1⟩) | (go_at_call 24; refine (holds_any exM va ra vc rc fa fc f _ hm (HF.out.ext hE1)).mono ?_; rintro e w2 ⟨rfl, hE2⟩; rw [HR.out]))
    go_ret
    exact ⟨by rw [HN.out]; rfl, hE1.trans hE2⟩
  · have hN : hb f s = false := by unfold hb; simp [h]
    have HN := Lib.hid hN
    have hq : (reqErr exM f == 0) = false := by simp [h]
    clear hN h
    go_enter Tryd.func12, Tryd.ntmps12
    go_wp2_with (first | (go_at_call 21; refine (example_any _).mono ?_; rintro e w1 ⟨va, ra, vc, rc, rfl, hm, hE1⟩) | (go_at_call 24; refine (holds_any exM va ra vc rc fa fc f _ hm (HF.out.ext hE1)).mono ?_; rintro e w2 ⟨rfl, hE2⟩))
    go_ret
    exact ⟨by rw [HN.out]; rfl, hE1.trans hE2⟩
/-! The examples. -/
def exP : List Nd := fB ⟨3, 0, 0, 0, 0, 0⟩ []
def exT : List Nd := fB ⟨1, 0, 0, 0, 0, 0⟩ []
def exN : List Nd := fB ⟨4, 0, 0, 0, 0, 0⟩ [exP]
theorem ex1 : hb (fB ⟨9, 0, 0, 0, 0, 0⟩ [exP]) 3#64 = true := by decide +kernel
theorem ex2 : hb (fB ⟨9, 1, 0, 0, 0, 0⟩ [exP]) 1#64 = true := by decide +kernel
theorem ex3 : hb (fB ⟨11, 0, 0, 3, 0, 0⟩ [exP]) 1#64 = true := by decide +kernel
theorem ex4 : hb (fB ⟨12, 0, 0, 3, 0, 0⟩ [exP]) 3#64 = true := by decide +kernel
theorem ex5 : hb (fB ⟨13, 0, 0, 3, 0, 0⟩ [exT, exP]) 0#64 = true := by decide +kernel
theorem ex6 : hb (fB ⟨13, 0, 0, 3, 0, 0⟩ [exP, exP]) 7#64 = true := by decide +kernel
theorem ex7 : hb (fB ⟨10, 1, 0, 0, 0, 0⟩ [exN]) 6#64 = true := by decide +kernel
theorem ex8 : atOf exM 1 exP = true ∧ atErr exM 1 exP = 0 := by decide +kernel
theorem ex9 : validOf exM (fB ⟨6, 0, 0, 0, 0, 0⟩ [exP, exN]) = true ∧ reqErr exM (fB ⟨6, 0, 0, 0, 0, 0⟩ [exP, exN]) = 0 := by decide +kernel
theorem ex10 : reqErr exM (fB ⟨15, 0, 0, 0, 0, 0⟩ [exP]) = 10 := by decide +kernel
theorem ex11 : reqErr exM (fB ⟨9, 2, 0, 0, 0, 0⟩ [exP]) = 2 := by decide +kernel
end Wt

/- Walk: wittinglaw17.awake (printed by gen_lawb.py). -/
namespace Wt
open Go Go.RowKit Go.Maps Go.Proofs Fm

def exC5 : List Nd := fB ⟨13, 0, 0, 3, 0, 0⟩ [exT, exP]
def exC6 : List Nd := fB ⟨13, 0, 0, 3, 0, 0⟩ [exP, exP]
def exQ7 : List Nd := fB ⟨10, 1, 0, 0, 0, 0⟩ [exN]
def exO : List Nd := fB ⟨6, 0, 0, 0, 0, 0⟩ [exP, exN]
def exK0 : List Nd := fB ⟨9, 0, 0, 0, 0, 0⟩ [exP]
def exK1 : List Nd := fB ⟨9, 1, 0, 0, 0, 0⟩ [exP]
def exK2 : List Nd := fB ⟨9, 2, 0, 0, 0, 0⟩ [exP]
def exE3 : List Nd := fB ⟨11, 0, 0, 3, 0, 0⟩ [exP]
def exD3 : List Nd := fB ⟨12, 0, 0, 3, 0, 0⟩ [exP]
def exS0 : List Nd := fB ⟨15, 0, 0, 0, 0, 0⟩ [exP]
theorem RM.ext' {w w' : World} {va ra : Option Addr} {M : Mo} (r : RM w va ra M) (h : Ext w w') : RM w' va ra M := RM.ext h r
theorem holdsQ (fa : Option Addr) (fc : Nat) (f : List Nd) (s : BitVec 64) (q : Int) (w : World) (hf : RN w fa f) (hq : un s = q) (hh : hb f s = true) :
    Calls Tryd.prog 12 #[.slice fa f.length fc, .int .u64 q] w fun e w' => e = .returned (.bool true) ∧ Ext w w' := by
  subst hq
  rw [← hh]
  exact holdsL_any fa fc f s w hf
set_option maxRecDepth 20000 in
set_option maxHeartbeats 4000000 in
theorem awake_any (w : World) : Calls Tryd.prog 4 #[] w fun e w' => e = .returned (.bool true) ∧ Ext w w' := by
  have F0 : Hid (∀ w, Calls Tryd.prog 11 #[.int .i64 0] w (fun e w' => RetN exP e w w')) := fun w => cFact_any 0 w
  have FT : Hid (∀ w, Calls Tryd.prog 17 #[] w (fun e w' => RetN exT e w w')) := fun w => cTrue_any w
  have FN : Hid (∀ w a c, RN w a exP → Calls Tryd.prog 19 #[.slice a exP.length c] w (fun e w' => RetN exN e w w')) := fun w a c h => cNot_any a c exP w h
  have FK0 : Hid (∀ w a c, RN w a exP → Calls Tryd.prog 13 #[.int .i64 0, .slice a exP.length c] w (fun e w' => RetN exK0 e w w')) := fun w a c h => cKnow_any 0 a c exP w h
  have FK1 : Hid (∀ w a c, RN w a exP → Calls Tryd.prog 13 #[.int .i64 1, .slice a exP.length c] w (fun e w' => RetN exK1 e w w')) := fun w a c h => cKnow_any 1 a c exP w h
  have FK2 : Hid (∀ w a c, RN w a exP → Calls Tryd.prog 13 #[.int .i64 2, .slice a exP.length c] w (fun e w' => RetN exK2 e w w')) := fun w a c h => cKnow_any 2 a c exP w h
  have FE3 : Hid (∀ w a c, RN w a exP → Calls Tryd.prog 14 #[.int .i64 3, .slice a exP.length c] w (fun e w' => RetN exE3 e w w')) := fun w a c h => cEvery_any 3 a c exP w h
  have FD3 : Hid (∀ w a c, RN w a exP → Calls Tryd.prog 15 #[.int .i64 3, .slice a exP.length c] w (fun e w' => RetN exD3 e w w')) := fun w a c h => cDist_any 3 a c exP w h
  have FS0 : Hid (∀ w a c, RN w a exP → Calls Tryd.prog 25 #[.int .i64 0, .slice a exP.length c] w (fun e w' => RetN exS0 e w w')) := fun w a c h => cSafe_any 0 a c exP w h
  have FQ7 : Hid (∀ w a c, RN w a exN → Calls Tryd.prog 18 #[.int .i64 1, .slice a exN.length c] w (fun e w' => RetN exQ7 e w w')) := fun w a c h => cPoss_any 1 a c exN w h
  have FC5 : Hid (∀ w a c b d, RN w a exT → RN w b exP → Calls Tryd.prog 16 #[.int .i64 3, .slice a exT.length c, .slice b exP.length d] w (fun e w' => RetN exC5 e w w')) := fun w a c b d h h2 => cCommon_any 3 a c exT b d exP w h h2
  have FC6 : Hid (∀ w a c b d, RN w a exP → RN w b exP → Calls Tryd.prog 16 #[.int .i64 3, .slice a exP.length c, .slice b exP.length d] w (fun e w' => RetN exC6 e w w')) := fun w a c b d h h2 => cCommon_any 3 a c exP b d exP w h h2
  have FO : Hid (∀ w a c b d, RN w a exP → RN w b exN → Calls Tryd.prog 23 #[.slice a exP.length c, .slice b exN.length d] w (fun e w' => RetN exO e w w')) := fun w a c b d h h2 => cOr_any a c exP b d exN w h h2
  have H1 : Hid (∀ w a c, RN w a exK0 → Calls Tryd.prog 12 #[.slice a exK0.length c, .int .u64 3] w (fun e w' => e = .returned (.bool true) ∧ Ext w w')) := fun w a c h => holdsQ a c _ 3#64 3 w h rfl ex1
  have H2 : Hid (∀ w a c, RN w a exK1 → Calls Tryd.prog 12 #[.slice a exK1.length c, .int .u64 1] w (fun e w' => e = .returned (.bool true) ∧ Ext w w')) := fun w a c h => holdsQ a c _ 1#64 1 w h rfl ex2
  have H3 : Hid (∀ w a c, RN w a exE3 → Calls Tryd.prog 12 #[.slice a exE3.length c, .int .u64 1] w (fun e w' => e = .returned (.bool true) ∧ Ext w w')) := fun w a c h => holdsQ a c _ 1#64 1 w h rfl ex3
  have H4 : Hid (∀ w a c, RN w a exD3 → Calls Tryd.prog 12 #[.slice a exD3.length c, .int .u64 3] w (fun e w' => e = .returned (.bool true) ∧ Ext w w')) := fun w a c h => holdsQ a c _ 3#64 3 w h rfl ex4
  have H5 : Hid (∀ w a c, RN w a exC5 → Calls Tryd.prog 12 #[.slice a exC5.length c, .int .u64 0] w (fun e w' => e = .returned (.bool true) ∧ Ext w w')) := fun w a c h => holdsQ a c _ 0#64 0 w h rfl ex5
  have H6 : Hid (∀ w a c, RN w a exC6 → Calls Tryd.prog 12 #[.slice a exC6.length c, .int .u64 7] w (fun e w' => e = .returned (.bool true) ∧ Ext w w')) := fun w a c h => holdsQ a c _ 7#64 7 w h rfl ex6
  have H7 : Hid (∀ w a c, RN w a exQ7 → Calls Tryd.prog 12 #[.slice a exQ7.length c, .int .u64 6] w (fun e w' => e = .returned (.bool true) ∧ Ext w w')) := fun w a c h => holdsQ a c _ 6#64 6 w h rfl ex7
  have XE : Hid (∀ w, Calls Tryd.prog 21 #[] w (fun e w' => RetM exM e w w')) := fun w => example_any w
  have XA : Hid (∀ w va ra vc rc a c, RM w va ra exM → RN w a exP → Calls Tryd.prog 20 #[.agg #[.int .i64 exM.worlds, .slice va exM.val.length vc, .slice ra exM.rel.length rc], .int .i64 1, .slice a exP.length c] w (fun e w' => RetP (.bool true) 0 e w w')) := fun w va ra vc rc a c h h2 => by have := at_any exM va ra vc rc 1 a c exP w h h2; rw [ex8.1, ex8.2] at this; exact this
  have XV : Hid (∀ w va ra vc rc a c, RM w va ra exM → RN w a exO → Calls Tryd.prog 22 #[.agg #[.int .i64 exM.worlds, .slice va exM.val.length vc, .slice ra exM.rel.length rc], .slice a exO.length c] w (fun e w' => RetP (.bool true) 0 e w w')) := fun w va ra vc rc a c h h2 => by have := valid_any exM va ra vc rc a c exO w h h2; have e1 : validOf exM exO = true := ex9.1; have e2 : reqErr exM exO = 0 := ex9.2; rw [e1, e2] at this; exact this
  have XS : Hid (∀ w va ra vc rc a c, RM w va ra exM → RN w a exS0 → Calls Tryd.prog 24 #[.agg #[.int .i64 exM.worlds, .slice va exM.val.length vc, .slice ra exM.rel.length rc], .slice a exS0.length c] w (fun e w' => RetP (.int .u64 (un (holdsOf exM exS0))) 10 e w w')) := fun w va ra vc rc a c h h2 => by have := holds_any exM va ra vc rc a c exS0 w h h2; have e1 : reqErr exM exS0 = 10 := ex10; rw [e1] at this; exact this
  have XK : Hid (∀ w va ra vc rc a c, RM w va ra exM → RN w a exK2 → Calls Tryd.prog 24 #[.agg #[.int .i64 exM.worlds, .slice va exM.val.length vc, .slice ra exM.rel.length rc], .slice a exK2.length c] w (fun e w' => RetP (.int .u64 (un (holdsOf exM exK2))) 2 e w w')) := fun w va ra vc rc a c h h2 => by have := holds_any exM va ra vc rc a c exK2 w h h2; have e1 : reqErr exM exK2 = 2 := ex11; rw [e1] at this; exact this
  generalize exC5 = C5 at *
  generalize exC6 = C6 at *
  generalize exQ7 = Q7 at *
  generalize exO = O at *
  generalize exK0 = K0 at *
  generalize exK1 = K1 at *
  generalize exK2 = K2 at *
  generalize exE3 = E3 at *
  generalize exD3 = D3 at *
  generalize exS0 = S0 at *
  generalize exP = P at *
  generalize exN = N at *
  generalize exT = T at *
  generalize exM = M at *
  go_enter Tryd.func4, Tryd.ntmps4
  go_wp2_with fail
  refine (F0.out _).mono ?_
  rintro _ w1 ⟨pa, pc, rfl, hp, hE0⟩
  dsimp only
  have hX1 := Ext.refl w1
  go_wp2_with fail
  refine (FK0.out _ _ _ (hp.ext hX1)).mono ?_
  rintro _ w2 ⟨a2, c2, rfl, r2, hE⟩
  dsimp only
  have hX2 := hX1.trans hE
  have hY2 := hE
  clear hE
  go_wp2_with fail
  refine (H1.out _ _ _ r2).mono ?_
  rintro _ w3 ⟨rfl, hE⟩
  dsimp only
  have hX3 := hX2.trans hE
  have hY3 := hE
  clear hE
  go_wp2_with fail
  refine (FK1.out _ _ _ (hp.ext hX3)).mono ?_
  rintro _ w4 ⟨a4, c4, rfl, r4, hE⟩
  dsimp only
  have hX4 := hX3.trans hE
  have hY4 := hE
  clear hE
  go_wp2_with fail
  refine (H2.out _ _ _ r4).mono ?_
  rintro _ w5 ⟨rfl, hE⟩
  dsimp only
  have hX5 := hX4.trans hE
  have hY5 := hE
  clear hE
  go_wp2_with fail
  refine (FE3.out _ _ _ (hp.ext hX5)).mono ?_
  rintro _ w6 ⟨a6, c6, rfl, r6, hE⟩
  dsimp only
  have hX6 := hX5.trans hE
  have hY6 := hE
  clear hE
  go_wp2_with fail
  refine (H3.out _ _ _ r6).mono ?_
  rintro _ w7 ⟨rfl, hE⟩
  dsimp only
  have hX7 := hX6.trans hE
  have hY7 := hE
  clear hE
  go_wp2_with fail
  refine (FD3.out _ _ _ (hp.ext hX7)).mono ?_
  rintro _ w8 ⟨a8, c8, rfl, r8, hE⟩
  dsimp only
  have hX8 := hX7.trans hE
  have hY8 := hE
  clear hE
  go_wp2_with fail
  refine (H4.out _ _ _ r8).mono ?_
  rintro _ w9 ⟨rfl, hE⟩
  dsimp only
  have hX9 := hX8.trans hE
  have hY9 := hE
  clear hE
  go_wp2_with fail
  refine (FT.out _).mono ?_
  rintro _ w10 ⟨a10, c10, rfl, r10, hE⟩
  dsimp only
  have hX10 := hX9.trans hE
  have hY10 := hE
  clear hE
  go_wp2_with fail
  refine (FC5.out _ _ _ _ _ r10 (hp.ext hX10)).mono ?_
  rintro _ w11 ⟨a11, c11, rfl, r11, hE⟩
  dsimp only
  have hX11 := hX10.trans hE
  have hY11 := hE
  clear hE
  go_wp2_with fail
  refine (H5.out _ _ _ r11).mono ?_
  rintro _ w12 ⟨rfl, hE⟩
  dsimp only
  have hX12 := hX11.trans hE
  have hY12 := hE
  clear hE
  go_wp2_with fail
  refine (FC6.out _ _ _ _ _ (hp.ext hX12) (hp.ext hX12)).mono ?_
  rintro _ w13 ⟨a13, c13, rfl, r13, hE⟩
  dsimp only
  have hX13 := hX12.trans hE
  have hY13 := hE
  clear hE
  go_wp2_with fail
  refine (H6.out _ _ _ r13).mono ?_
  rintro _ w14 ⟨rfl, hE⟩
  dsimp only
  have hX14 := hX13.trans hE
  have hY14 := hE
  clear hE
  go_wp2_with fail
  refine (FN.out _ _ _ (hp.ext hX14)).mono ?_
  rintro _ w15 ⟨a15, c15, rfl, r15, hE⟩
  dsimp only
  have hX15 := hX14.trans hE
  have hY15 := hE
  clear hE
  go_wp2_with fail
  refine (FQ7.out _ _ _ r15).mono ?_
  rintro _ w16 ⟨a16, c16, rfl, r16, hE⟩
  dsimp only
  have hX16 := hX15.trans hE
  have hY16 := hE
  clear hE
  go_wp2_with fail
  refine (H7.out _ _ _ r16).mono ?_
  rintro _ w17 ⟨rfl, hE⟩
  dsimp only
  have hX17 := hX16.trans hE
  have hY17 := hE
  clear hE
  go_wp2_with fail
  refine (XE.out _).mono ?_
  rintro _ w18 ⟨va, ra, vc, rc, rfl, hm18, hE⟩
  dsimp only
  have hX18 := hX17.trans hE
  have hY18 := hE
  clear hE
  go_wp2_with fail
  refine (XA.out _ _ _ _ _ _ _ hm18 (hp.ext hX18)).mono ?_
  rintro _ w19 ⟨rfl, hE⟩
  dsimp only
  have hX19 := hX18.trans hE
  have hY19 := hE
  clear hE
  go_wp2_with fail
  refine (XE.out _).mono ?_
  rintro _ w20 ⟨va, ra, vc, rc, rfl, hm20, hE⟩
  dsimp only
  have hX20 := hX19.trans hE
  have hY20 := hE
  clear hE
  go_wp2_with fail
  refine (FN.out _ _ _ (hp.ext hX20)).mono ?_
  rintro _ w21 ⟨a21, c21, rfl, r21, hE⟩
  dsimp only
  have hX21 := hX20.trans hE
  have hY21 := hE
  clear hE
  go_wp2_with fail
  refine (FO.out _ _ _ _ _ (hp.ext hX21) r21).mono ?_
  rintro _ w22 ⟨a22, c22, rfl, r22, hE⟩
  dsimp only
  have hX22 := hX21.trans hE
  have hY22 := hE
  clear hE
  go_wp2_with fail
  refine (XV.out _ _ _ _ _ _ _ ((hm20.ext' hY21).ext' hY22) r22).mono ?_
  rintro _ w23 ⟨rfl, hE⟩
  dsimp only
  have hX23 := hX22.trans hE
  have hY23 := hE
  clear hE
  go_wp2_with fail
  refine (XE.out _).mono ?_
  rintro _ w24 ⟨va, ra, vc, rc, rfl, hm24, hE⟩
  dsimp only
  have hX24 := hX23.trans hE
  have hY24 := hE
  clear hE
  go_wp2_with fail
  refine (FS0.out _ _ _ (hp.ext hX24)).mono ?_
  rintro _ w25 ⟨a25, c25, rfl, r25, hE⟩
  dsimp only
  have hX25 := hX24.trans hE
  have hY25 := hE
  clear hE
  go_wp2_with fail
  refine (XS.out _ _ _ _ _ _ _ (hm24.ext' hY25) r25).mono ?_
  rintro _ w26 ⟨rfl, hE⟩
  dsimp only
  have hX26 := hX25.trans hE
  have hY26 := hE
  clear hE
  go_wp2_with fail
  refine (XE.out _).mono ?_
  rintro _ w27 ⟨va, ra, vc, rc, rfl, hm27, hE⟩
  dsimp only
  have hX27 := hX26.trans hE
  have hY27 := hE
  clear hE
  go_wp2_with fail
  refine (FK2.out _ _ _ (hp.ext hX27)).mono ?_
  rintro _ w28 ⟨a28, c28, rfl, r28, hE⟩
  dsimp only
  have hX28 := hX27.trans hE
  have hY28 := hE
  clear hE
  go_wp2_with fail
  refine (XK.out _ _ _ _ _ _ _ (hm27.ext' hY28) r28).mono ?_
  rintro _ w29 ⟨rfl, hE⟩
  dsimp only
  have hX29 := hX28.trans hE
  have hY29 := hE
  clear hE
  go_wp2_with fail
  go_ret
  exact ⟨rfl, hE0.trans hX29⟩
end Wt
