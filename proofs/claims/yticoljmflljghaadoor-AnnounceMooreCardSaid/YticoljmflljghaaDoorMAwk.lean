/- Walk: wittinglaw25.awake (printed by gen_awk.py). -/
import Derived.Test.YticoljmflljghaaDoorMHat
import Derived.Test.YticoljmflljghaaDoorMSeq
import Derived.Test.YticoljmflljghaaDoorMChg
namespace Wt
open Go Go.RowKit Go.Maps Go.Proofs Fm

def ahP : List Nd := fB ⟨3, 0, 0, 0, 0, 0⟩ []
def ahQ : List Nd := fB ⟨3, 1, 0, 0, 0, 0⟩ []
def ahE : List Nd := fB ⟨6, 0, 0, 0, 0, 0⟩ [ahP, ahQ]
/-- Neither that it is true nor that it is false is known. -/
def opF (a : Int) (f : List Nd) : List Nd := fB ⟨5, 0, 0, 0, 0, 0⟩ [fB ⟨4, 0, 0, 0, 0, 0⟩ [fB ⟨9, a, 0, 0, 0, 0⟩ [f]], fB ⟨4, 0, 0, 0, 0, 0⟩ [fB ⟨9, a, 0, 0, 0, 0⟩ [fB ⟨4, 0, 0, 0, 0, 0⟩ [f]]]]
def ahO0 : List Nd := opF 0 ahP
def ahO1 : List Nd := opF 1 ahQ
def ahN : List Nd := fB ⟨5, 0, 0, 0, 0, 0⟩ [ahO0, ahO1]
def ahK : List Nd := fB ⟨9, 1, 0, 0, 0, 0⟩ [ahQ]
def ahKn : List Nd := fB ⟨4, 0, 0, 0, 0, 0⟩ [ahK]
def ahM : List Nd := fB ⟨5, 0, 0, 0, 0, 0⟩ [ahQ, ahKn]
def ahL : List Nd := fB ⟨9, 1, 0, 0, 0, 0⟩ [ahP]
def ahLn : List Nd := fB ⟨4, 0, 0, 0, 0, 0⟩ [ahL]
def ahB : List Nd := fB ⟨5, 0, 0, 0, 0, 0⟩ [ahP, ahLn]
def ahNp : List Nd := fB ⟨4, 0, 0, 0, 0, 0⟩ [ahP]
def ahR : List Nd := fB ⟨10, 0, 0, 0, 0, 0⟩ [ahNp]
def whX : Mo := whM hatM ahP
theorem ah1 : upErr hatM ahE = 0 ∧ upL hatM ahE = [1, 2, 3] ∧ (upM hatM ahE).worlds = 3 := by decide +kernel
theorem ah2 : (seqOf hatM [ahE, ahN]).1.worlds = 1 ∧ (seqOf hatM [ahE, ahN]).2.1 = [3] ∧ (seqOf hatM [ahE, ahN]).2.2.1 = 2 ∧ (seqOf hatM [ahE, ahN]).2.2.2 = 0 := by decide +kernel
theorem ah3 : sucOf hatM 2 ahM = false ∧ afErr hatM 2 ahM = 0 := by decide +kernel
theorem ah4 : afErr hatM 1 ahB = 11 := by decide +kernel
theorem ah5 : sucOf hatM 1 ahP = true ∧ afErr hatM 1 ahP = 0 := by decide +kernel
theorem ah6 : reqErr hatM ahP = 0 ∧ whX.worlds = 4 ∧ whX.rel = [[1#64, 2#64, 4#64, 8#64], [5#64, 10#64, 5#64, 10#64]] := by decide +kernel
theorem ah7 : (repQ hatM ahE).1.worlds = 3 ∧ (repQ hatM ahE).2.2.1 = 1 ∧ (repQ hatM ahE).2.2.2 = 0 := by decide +kernel
theorem ah8 : chgOf hatM 3 ahE 0 [ahE, ahP, ahR] = ([], [], 0) := by decide +kernel
set_option maxHeartbeats 1000000 in
theorem awake1_any (a : Int) (fa : Option Addr) (fc : Nat) (f : List Nd) (w : World) (hf : RN w fa f) :
    Calls Tryd.prog 31 #[.int .i64 a, .slice fa f.length fc] w fun e w' => RetN (opF a f) e w w' := by
  have HF := Lib.hid hf
  clear hf
  go_enter Tryd.func31, Tryd.ntmps31
  go_wp2_with fail
  refine (cKnow_any a fa fc f _ HF.out).mono ?_
  rintro _ w1 ⟨a1, c1, rfl, r1, hE1⟩
  dsimp only
  go_wp2_with fail
  refine (cNot_any a1 c1 _ _ r1).mono ?_
  rintro _ w2 ⟨a2, c2, rfl, r2, hE2⟩
  dsimp only
  go_wp2_with fail
  refine (cNot_any fa fc f _ (HF.out.ext (hE1.trans hE2))).mono ?_
  rintro _ w3 ⟨a3, c3, rfl, r3, hE3⟩
  dsimp only
  go_wp2_with fail
  refine (cKnow_any a a3 c3 _ _ r3).mono ?_
  rintro _ w4 ⟨a4, c4, rfl, r4, hE4⟩
  dsimp only
  go_wp2_with fail
  refine (cNot_any a4 c4 _ _ r4).mono ?_
  rintro _ w5 ⟨a5, c5, rfl, r5, hE5⟩
  dsimp only
  go_wp2_with fail
  refine (cAnd_any a2 c2 _ a5 c5 _ _ (r2.ext (hE3.trans (hE4.trans hE5))) r5).mono ?_
  rintro _ w6 ⟨a6, c6, rfl, r6, hE6⟩
  dsimp only
  go_wp2_with fail
  go_ret
  exact ⟨a6, c6, rfl, r6, hE1.trans (hE2.trans (hE3.trans (hE4.trans (hE5.trans hE6))))⟩
theorem RNN.three (w : World) (fa ga ha : Option Addr) (fc gc hc : Nat) (f g h : List Nd) (T : Nat) (h1 : RN w fa f) (h2 : RN w ga g) (h3 : RN w ha h) : RNN (w.alloc (.cells #[.slice fa f.length fc, .slice ga g.length gc, .slice ha h.length hc] T)) (some ⟨w.heap.size, 0, none⟩) [f, g, h] :=
  ⟨by simp, fun k hk => by
    rcases (show k = 0 ∨ k = 1 ∨ k = 2 by simp at hk; omega) with rfl | rfl | rfl
    · exact ⟨w.heap.size, 0, fa, fc, rfl, by simp, by simp [nth], h1.ext ((Ext.refl w).alloc _)⟩
    · exact ⟨w.heap.size, 0, ga, gc, rfl, by simp, by simp [nth], h2.ext ((Ext.refl w).alloc _)⟩
    · exact ⟨w.heap.size, 0, ha, hc, rfl, by simp, by simp [nth], h3.ext ((Ext.refl w).alloc _)⟩⟩
def UpR (n m k : Nat) (l : List Int) (x c : Int) (e : Ending) (w w' : World) : Prop := ∃ va ra la vc rc lc, e = .returned (.tuple #[.agg #[.int .i64 x, .slice va n vc, .slice ra m rc], .slice la l.length lc, .int .i64 c]) ∧ RI w' la l ∧ Ext w w' ∧ k = 0
def SqR (n m : Nat) (l : List Int) (x y c : Int) (e : Ending) (w w' : World) : Prop := ∃ va ra la vc rc lc, e = .returned (.tuple #[.agg #[.int .i64 x, .slice va n vc, .slice ra m rc], .slice la l.length lc, .int .i64 y, .int .i64 c]) ∧ RI w' la l ∧ Ext w w'
def RpR (n m k : Nat) (x y c : Int) (e : Ending) (w w' : World) : Prop := ∃ va ra la vc rc lc, e = .returned (.tuple #[.agg #[.int .i64 x, .slice va n vc, .slice ra m rc], .slice la k lc, .int .i64 y, .int .i64 c]) ∧ Ext w w'
def WhRr (n : Nat) (R : List (List (BitVec 64))) (e : Ending) (w w' : World) : Prop := ∃ va ra vc rc, e = .returned (.tuple #[.agg #[.int .i64 4, .slice va n vc, .slice ra R.length rc], .int .i64 0]) ∧ RR w' ra R ∧ Ext w w'
def ChR (e : Ending) (w w' : World) : Prop := ∃ la lb lc ld, e = .returned (.tuple #[.slice la 0 lc, .slice lb 0 ld, .int .i64 0]) ∧ Ext w w'
theorem RM.ext2 {w w' : World} {va ra : Option Addr} {M : Mo} (r : RM w va ra M) (h : Ext w w') : RM w' va ra M := RM.ext h r
set_option maxRecDepth 20000 in
set_option maxHeartbeats 8000000 in
theorem awake25_any (w : World) (hT : Tab w) : Calls Tryd.prog 8 #[] w fun e w' => e = .returned (.bool true) ∧ Ext w w' := by
  have F0 : Hid (∀ w, Calls Tryd.prog 29 #[.int .i64 0] w (fun e w' => RetN ahP e w w')) := fun w => cFact_any 0 w
  have F1 : Hid (∀ w, Calls Tryd.prog 29 #[.int .i64 1] w (fun e w' => RetN ahQ e w w')) := fun w => cFact_any 1 w
  have FE : Hid (∀ w a c b d, RN w a ahP → RN w b ahQ → Calls Tryd.prog 30 #[.slice a ahP.length c, .slice b ahQ.length d] w (fun e w' => RetN ahE e w w')) := fun w a c b d h h2 => cOr_any a c ahP b d ahQ w h h2
  have FO0 : Hid (∀ w a c, RN w a ahP → Calls Tryd.prog 31 #[.int .i64 0, .slice a ahP.length c] w (fun e w' => RetN ahO0 e w w')) := fun w a c h => awake1_any 0 a c ahP w h
  have FO1 : Hid (∀ w a c, RN w a ahQ → Calls Tryd.prog 31 #[.int .i64 1, .slice a ahQ.length c] w (fun e w' => RetN ahO1 e w w')) := fun w a c h => awake1_any 1 a c ahQ w h
  have FN : Hid (∀ w a c b d, RN w a ahO0 → RN w b ahO1 → Calls Tryd.prog 12 #[.slice a ahO0.length c, .slice b ahO1.length d] w (fun e w' => RetN ahN e w w')) := fun w a c b d h h2 => cAnd_any a c ahO0 b d ahO1 w h h2
  have FK : Hid (∀ w a c, RN w a ahQ → Calls Tryd.prog 14 #[.int .i64 1, .slice a ahQ.length c] w (fun e w' => RetN ahK e w w')) := fun w a c h => cKnow_any 1 a c ahQ w h
  have FKn : Hid (∀ w a c, RN w a ahK → Calls Tryd.prog 13 #[.slice a ahK.length c] w (fun e w' => RetN ahKn e w w')) := fun w a c h => cNot_any a c ahK w h
  have FM : Hid (∀ w a c b d, RN w a ahQ → RN w b ahKn → Calls Tryd.prog 12 #[.slice a ahQ.length c, .slice b ahKn.length d] w (fun e w' => RetN ahM e w w')) := fun w a c b d h h2 => cAnd_any a c ahQ b d ahKn w h h2
  have FL : Hid (∀ w a c, RN w a ahP → Calls Tryd.prog 14 #[.int .i64 1, .slice a ahP.length c] w (fun e w' => RetN ahL e w w')) := fun w a c h => cKnow_any 1 a c ahP w h
  have FLn : Hid (∀ w a c, RN w a ahL → Calls Tryd.prog 13 #[.slice a ahL.length c] w (fun e w' => RetN ahLn e w w')) := fun w a c h => cNot_any a c ahL w h
  have FB : Hid (∀ w a c b d, RN w a ahP → RN w b ahLn → Calls Tryd.prog 12 #[.slice a ahP.length c, .slice b ahLn.length d] w (fun e w' => RetN ahB e w w')) := fun w a c b d h h2 => cAnd_any a c ahP b d ahLn w h h2
  have FNp : Hid (∀ w a c, RN w a ahP → Calls Tryd.prog 13 #[.slice a ahP.length c] w (fun e w' => RetN ahNp e w w')) := fun w a c h => cNot_any a c ahP w h
  have FR : Hid (∀ w a c, RN w a ahNp → Calls Tryd.prog 34 #[.int .i64 0, .slice a ahNp.length c] w (fun e w' => RetN ahR e w w')) := fun w a c h => cPoss_any 0 a c ahNp w h
  have XE : Hid (∀ w, Calls Tryd.prog 32 #[] w (fun e w' => RetM hatM e w w')) := fun w => hats_any w
  have XU : Hid (∀ w va ra vc rc a c, Tab w → RM w va ra hatM → RN w a ahE → Calls Tryd.prog 16 #[.agg #[.int .i64 hatM.worlds, .slice va hatM.val.length vc, .slice ra hatM.rel.length rc], .slice a ahE.length c] w (fun e w' => UpR (upM hatM ahE).val.length (upM hatM ahE).rel.length 0 [1, 2, 3] 3 0 e w w')) := fun w va ra vc rc a c ht h h2 => (update_any hatM va ra vc rc a c ahE w h h2 ht).mono fun e w' hr => by
    obtain ⟨va2, ra2, la, vc2, rc2, lc, svs, h1, _, h3, h4⟩ := hr
    rw [ah1.1, ah1.2.1, ah1.2.2] at h1
    rw [ah1.2.1] at h3
    exact ⟨va2, ra2, la, vc2, rc2, lc, h1, h3 w' (fun _ _ _ => rfl), h4, rfl⟩
  have XQ : Hid (∀ w va ra vc rc a c, Tab w → RM w va ra hatM → RNN w a [ahE, ahN] → Calls Tryd.prog 18 #[.agg #[.int .i64 hatM.worlds, .slice va hatM.val.length vc, .slice ra hatM.rel.length rc], .slice a 2 c] w (fun e w' => SqR (seqOf hatM [ahE, ahN]).1.val.length (seqOf hatM [ahE, ahN]).1.rel.length [3] 1 2 0 e w w')) := fun w va ra vc rc a c ht h h2 => (sequence_any hatM va ra vc rc a c [ahE, ahN] w h h2 ht).mono fun e w' hr => by
    obtain ⟨va2, ra2, la, vc2, rc2, lc, h1, h3, h4⟩ := hr
    have h5 := (h3 w' (fun _ _ _ => rfl)).2
    rw [ah2.1, ah2.2.1, ah2.2.2.1, ah2.2.2.2] at h1
    rw [ah2.2.1] at h5
    exact ⟨va2, ra2, la, vc2, rc2, lc, h1, h5, h4⟩
  have XS1 : Hid (∀ w va ra vc rc a c, Tab w → RM w va ra hatM → RN w a ahM → Calls Tryd.prog 15 #[.agg #[.int .i64 hatM.worlds, .slice va hatM.val.length vc, .slice ra hatM.rel.length rc], .int .i64 2, .slice a ahM.length c] w (fun e w' => RetP (.bool false) 0 e w w')) := fun w va ra vc rc a c ht h h2 => by
    have := successful_any hatM va ra vc rc 2 a c ahM w h h2 ht
    rw [ah3.1, ah3.2] at this
    exact this
  have XS2 : Hid (∀ w va ra vc rc a c, Tab w → RM w va ra hatM → RN w a ahB → Calls Tryd.prog 15 #[.agg #[.int .i64 hatM.worlds, .slice va hatM.val.length vc, .slice ra hatM.rel.length rc], .int .i64 1, .slice a ahB.length c] w (fun e w' => RetP (.bool (sucOf hatM 1 ahB)) 11 e w w')) := fun w va ra vc rc a c ht h h2 => by
    have := successful_any hatM va ra vc rc 1 a c ahB w h h2 ht
    rw [ah4] at this
    exact this
  have XS3 : Hid (∀ w va ra vc rc a c, Tab w → RM w va ra hatM → RN w a ahP → Calls Tryd.prog 15 #[.agg #[.int .i64 hatM.worlds, .slice va hatM.val.length vc, .slice ra hatM.rel.length rc], .int .i64 1, .slice a ahP.length c] w (fun e w' => RetP (.bool true) 0 e w w')) := fun w va ra vc rc a c ht h h2 => by
    have := successful_any hatM va ra vc rc 1 a c ahP w h h2 ht
    rw [ah5.1, ah5.2] at this
    exact this
  have XW : Hid (∀ w va ra vc rc a c, Tab w → RM w va ra hatM → RN w a ahP → Calls Tryd.prog 24 #[.agg #[.int .i64 hatM.worlds, .slice va hatM.val.length vc, .slice ra hatM.rel.length rc], .slice a ahP.length c] w (fun e w' => WhRr whX.val.length [[1#64, 2#64, 4#64, 8#64], [5#64, 10#64, 5#64, 10#64]] e w w')) := fun w va ra vc rc a c ht h h2 => (whether_any hatM va ra vc rc a c ahP w h h2 ht).mono fun e w' hr => by
    obtain ⟨va2, ra2, vc2, rc2, h1, h3, h4⟩ := hr
    have h5 := (h3 w' (fun _ _ _ => rfl)).rel
    rw [show whM hatM ahP = whX from rfl] at h1 h5
    rw [ah6.1, ah6.2.1, ah6.2.2] at h1
    rw [ah6.2.2] at h5
    exact ⟨va2, ra2, vc2, rc2, h1, h5, h4⟩
  have XR : Hid (∀ w va ra vc rc a c, Tab w → RM w va ra hatM → RN w a ahE → Calls Tryd.prog 22 #[.agg #[.int .i64 hatM.worlds, .slice va hatM.val.length vc, .slice ra hatM.rel.length rc], .slice a ahE.length c] w (fun e w' => RpR (repQ hatM ahE).1.val.length (repQ hatM ahE).1.rel.length (repQ hatM ahE).2.1.length 3 1 0 e w w')) := fun w va ra vc rc a c ht h h2 => (repeat_any hatM va ra vc rc a c ahE w h h2 ht).mono fun e w' hr => by
    obtain ⟨va2, ra2, la, vc2, rc2, lc, h1, _, h4⟩ := hr
    rw [ah7.1, ah7.2.1, ah7.2.2] at h1
    exact ⟨va2, ra2, la, vc2, rc2, lc, h1, h4⟩
  have XC : Hid (∀ w va ra vc rc a c b d, Tab w → RM w va ra hatM → RN w a ahE → RNN w b [ahE, ahP, ahR] → Calls Tryd.prog 33 #[.agg #[.int .i64 hatM.worlds, .slice va hatM.val.length vc, .slice ra hatM.rel.length rc], .int .i64 3, .slice a ahE.length c, .int .i64 0, .slice b 3 d] w (fun e w' => ChR e w w')) := fun w va ra vc rc a c b d ht h h2 h3 => (change_any hatM va ra vc rc 3 a c ahE 0 b d [ahE, ahP, ahR] w h h2 h3 (by decide) ht).mono fun e w' hr => by
    obtain ⟨la, lb, lc, ld, h1, _, _, h4⟩ := hr
    rw [ah8] at h1
    exact ⟨la, lb, lc, ld, h1, h4⟩
  have HT := Lib.hid hT
  clear hT
  generalize upM hatM ahE = G0 at *
  generalize seqOf hatM [ahE, ahN] = G1 at *
  generalize sucOf hatM 1 ahB = G2 at *
  generalize whX = G3 at *
  generalize repQ hatM ahE = G4 at *
  generalize ahE = ahE' at *
  generalize ahN = ahN' at *
  generalize ahO0 = ahO0' at *
  generalize ahO1 = ahO1' at *
  generalize ahKn = ahKn' at *
  generalize ahK = ahK' at *
  generalize ahM = ahM' at *
  generalize ahLn = ahLn' at *
  generalize ahL = ahL' at *
  generalize ahB = ahB' at *
  generalize ahNp = ahNp' at *
  generalize ahR = ahR' at *
  generalize ahP = ahP' at *
  generalize ahQ = ahQ' at *
  generalize hatM = hatM' at *
  go_enter Tryd.func8, Tryd.ntmps8
  go_wp2_with fail
  refine (F0.out _).mono ?_
  rintro _ w1 ⟨a1, c1, rfl, r1, hE⟩
  dsimp only
  have hY1 := hE
  clear hE
  go_wp2_with fail
  refine (F1.out _).mono ?_
  rintro _ w2 ⟨a2, c2, rfl, r2, hE⟩
  dsimp only
  have hY2 := hE
  clear hE
  go_wp2_with fail
  refine (FE.out _ _ _ _ _ (r1.ext (hY2)) r2).mono ?_
  rintro _ w3 ⟨a3, c3, rfl, r3, hE⟩
  dsimp only
  have hY3 := hE
  clear hE
  go_wp2_with fail
  refine (FO0.out _ _ _ (r1.ext ((hY2).trans hY3))).mono ?_
  rintro _ w4 ⟨a4, c4, rfl, r4, hE⟩
  dsimp only
  have hY4 := hE
  clear hE
  go_wp2_with fail
  refine (FO1.out _ _ _ (r2.ext ((hY3).trans hY4))).mono ?_
  rintro _ w5 ⟨a5, c5, rfl, r5, hE⟩
  dsimp only
  have hY5 := hE
  clear hE
  go_wp2_with fail
  refine (FN.out _ _ _ _ _ (r4.ext (hY5)) r5).mono ?_
  rintro _ w6 ⟨a6, c6, rfl, r6, hE⟩
  dsimp only
  have hY6 := hE
  clear hE
  go_wp2_with fail
  refine (XE.out _).mono ?_
  rintro _ w7 ⟨va7, ra7, vc7, rc7, rfl, hm7, hE⟩
  dsimp only
  have hY7 := hE
  clear hE
  go_wp2_with fail
  refine (XU.out _ _ _ _ _ _ _ (HT.out.ext (((((((hY1).trans hY2).trans hY3).trans hY4).trans hY5).trans hY6).trans hY7)) hm7 (r3.ext ((((hY4).trans hY5).trans hY6).trans hY7))).mono ?_
  rintro _ w8 ⟨ua, ub, ul, uc, ud, ulc, rfl, hul, hE, -⟩
  dsimp only
  have hY8 := hE
  clear hE
  have hcA := OutAt.new w8 (.int .i64 3) (.slice ua G0.val.length uc) (.slice ub G0.rel.length ud) 25
  have hEA : Ext w8 (w8.alloc (.cells #[.int .i64 3, .slice ua G0.val.length uc, .slice ub G0.rel.length ud] 25)) := (Ext.refl _).alloc _
  go_wp2_with fail
  refine (XE.out _).mono ?_
  rintro _ w9 ⟨va9, ra9, vc9, rc9, rfl, hm9, hE⟩
  dsimp only
  have hY9 := hE
  clear hE
  have hLB := RNN.two w9 a3 a6 c3 c6 ahE' ahN' 26 (r3.ext (((((((hY4).trans hY5).trans hY6).trans hY7).trans hY8).trans hEA).trans hY9)) (r6.ext ((((hY7).trans hY8).trans hEA).trans hY9))
  have hEB : Ext w9 (w9.alloc (.cells #[.slice a3 ahE'.length c3, .slice a6 ahN'.length c6] 26)) := (Ext.refl _).alloc _
  go_wp2_with fail
  refine (XQ.out _ _ _ _ _ _ _ (HT.out.ext (((((((((((hY1).trans hY2).trans hY3).trans hY4).trans hY5).trans hY6).trans hY7).trans hY8).trans hEA).trans hY9).trans hEB)) (hm9.ext2 (hEB)) hLB).mono ?_
  rintro _ w10 ⟨ba, bb, bl, bc, bd, blc, rfl, hbl, hE⟩
  dsimp only
  have hY10 := hE
  clear hE
  have hcB := OutAt.new w10 (.int .i64 1) (.slice ba G1.1.val.length bc) (.slice bb G1.1.rel.length bd) 25
  have hEC : Ext w10 (w10.alloc (.cells #[.int .i64 1, .slice ba G1.1.val.length bc, .slice bb G1.1.rel.length bd] 25)) := (Ext.refl _).alloc _
  go_wp2_with fail
  refine (FK.out _ _ _ (r2.ext (((((((((((hY3).trans hY4).trans hY5).trans hY6).trans hY7).trans hY8).trans hEA).trans hY9).trans hEB).trans hY10).trans hEC))).mono ?_
  rintro _ w11 ⟨a11, c11, rfl, r11, hE⟩
  dsimp only
  have hY11 := hE
  clear hE
  go_wp2_with fail
  refine (FKn.out _ _ _ r11).mono ?_
  rintro _ w12 ⟨a12, c12, rfl, r12, hE⟩
  dsimp only
  have hY12 := hE
  clear hE
  go_wp2_with fail
  refine (FM.out _ _ _ _ _ (r2.ext (((((((((((((hY3).trans hY4).trans hY5).trans hY6).trans hY7).trans hY8).trans hEA).trans hY9).trans hEB).trans hY10).trans hEC).trans hY11).trans hY12)) r12).mono ?_
  rintro _ w13 ⟨a13, c13, rfl, r13, hE⟩
  dsimp only
  have hY13 := hE
  clear hE
  go_wp2_with fail
  refine (XE.out _).mono ?_
  rintro _ w14 ⟨va14, ra14, vc14, rc14, rfl, hm14, hE⟩
  dsimp only
  have hY14 := hE
  clear hE
  go_wp2_with fail
  refine (XS1.out _ _ _ _ _ _ _ (HT.out.ext (((((((((((((((((hY1).trans hY2).trans hY3).trans hY4).trans hY5).trans hY6).trans hY7).trans hY8).trans hEA).trans hY9).trans hEB).trans hY10).trans hEC).trans hY11).trans hY12).trans hY13).trans hY14)) hm14 (r13.ext (hY14))).mono ?_
  rintro _ w15 ⟨rfl, hE⟩
  dsimp only
  have hY15 := hE
  clear hE
  go_wp2_with fail
  refine (XE.out _).mono ?_
  rintro _ w16 ⟨va16, ra16, vc16, rc16, rfl, hm16, hE⟩
  dsimp only
  have hY16 := hE
  clear hE
  go_wp2_with fail
  refine (FL.out _ _ _ (r1.ext ((((((((((((((((((hY2).trans hY3).trans hY4).trans hY5).trans hY6).trans hY7).trans hY8).trans hEA).trans hY9).trans hEB).trans hY10).trans hEC).trans hY11).trans hY12).trans hY13).trans hY14).trans hY15).trans hY16))).mono ?_
  rintro _ w17 ⟨a17, c17, rfl, r17, hE⟩
  dsimp only
  have hY17 := hE
  clear hE
  go_wp2_with fail
  refine (FLn.out _ _ _ r17).mono ?_
  rintro _ w18 ⟨a18, c18, rfl, r18, hE⟩
  dsimp only
  have hY18 := hE
  clear hE
  go_wp2_with fail
  refine (FB.out _ _ _ _ _ (r1.ext ((((((((((((((((((((hY2).trans hY3).trans hY4).trans hY5).trans hY6).trans hY7).trans hY8).trans hEA).trans hY9).trans hEB).trans hY10).trans hEC).trans hY11).trans hY12).trans hY13).trans hY14).trans hY15).trans hY16).trans hY17).trans hY18)) r18).mono ?_
  rintro _ w19 ⟨a19, c19, rfl, r19, hE⟩
  dsimp only
  have hY19 := hE
  clear hE
  go_wp2_with fail
  refine (XS2.out _ _ _ _ _ _ _ (HT.out.ext ((((((((((((((((((((((hY1).trans hY2).trans hY3).trans hY4).trans hY5).trans hY6).trans hY7).trans hY8).trans hEA).trans hY9).trans hEB).trans hY10).trans hEC).trans hY11).trans hY12).trans hY13).trans hY14).trans hY15).trans hY16).trans hY17).trans hY18).trans hY19)) (hm16.ext2 (((hY17).trans hY18).trans hY19)) r19).mono ?_
  rintro _ w20 ⟨rfl, hE⟩
  dsimp only
  have hY20 := hE
  clear hE
  go_wp2_with fail
  refine (XE.out _).mono ?_
  rintro _ w21 ⟨va21, ra21, vc21, rc21, rfl, hm21, hE⟩
  dsimp only
  have hY21 := hE
  clear hE
  go_wp2_with fail
  refine (XS3.out _ _ _ _ _ _ _ (HT.out.ext ((((((((((((((((((((((((hY1).trans hY2).trans hY3).trans hY4).trans hY5).trans hY6).trans hY7).trans hY8).trans hEA).trans hY9).trans hEB).trans hY10).trans hEC).trans hY11).trans hY12).trans hY13).trans hY14).trans hY15).trans hY16).trans hY17).trans hY18).trans hY19).trans hY20).trans hY21)) hm21 (r1.ext (((((((((((((((((((((((hY2).trans hY3).trans hY4).trans hY5).trans hY6).trans hY7).trans hY8).trans hEA).trans hY9).trans hEB).trans hY10).trans hEC).trans hY11).trans hY12).trans hY13).trans hY14).trans hY15).trans hY16).trans hY17).trans hY18).trans hY19).trans hY20).trans hY21))).mono ?_
  rintro _ w22 ⟨rfl, hE⟩
  dsimp only
  have hY22 := hE
  clear hE
  go_wp2_with fail
  refine (XE.out _).mono ?_
  rintro _ w23 ⟨va23, ra23, vc23, rc23, rfl, hm23, hE⟩
  dsimp only
  have hY23 := hE
  clear hE
  go_wp2_with fail
  refine (XW.out _ _ _ _ _ _ _ (HT.out.ext ((((((((((((((((((((((((((hY1).trans hY2).trans hY3).trans hY4).trans hY5).trans hY6).trans hY7).trans hY8).trans hEA).trans hY9).trans hEB).trans hY10).trans hEC).trans hY11).trans hY12).trans hY13).trans hY14).trans hY15).trans hY16).trans hY17).trans hY18).trans hY19).trans hY20).trans hY21).trans hY22).trans hY23)) hm23 (r1.ext (((((((((((((((((((((((((hY2).trans hY3).trans hY4).trans hY5).trans hY6).trans hY7).trans hY8).trans hEA).trans hY9).trans hEB).trans hY10).trans hEC).trans hY11).trans hY12).trans hY13).trans hY14).trans hY15).trans hY16).trans hY17).trans hY18).trans hY19).trans hY20).trans hY21).trans hY22).trans hY23))).mono ?_
  rintro _ w24 ⟨wa, wb, wc, wd, rfl, hwr, hE⟩
  dsimp only
  have hY24 := hE
  clear hE
  have hcW := OutAt.new w24 (.int .i64 4) (.slice wa G3.val.length wc) (.slice wb 2 wd) 25
  have hEW : Ext w24 (w24.alloc (.cells #[.int .i64 4, .slice wa G3.val.length wc, .slice wb 2 wd] 25)) := (Ext.refl _).alloc _
  go_wp2_with fail
  refine (XE.out _).mono ?_
  rintro _ w25 ⟨va25, ra25, vc25, rc25, rfl, hm25, hE⟩
  dsimp only
  have hY25 := hE
  clear hE
  go_wp2_with fail
  refine (XR.out _ _ _ _ _ _ _ (HT.out.ext (((((((((((((((((((((((((((((hY1).trans hY2).trans hY3).trans hY4).trans hY5).trans hY6).trans hY7).trans hY8).trans hEA).trans hY9).trans hEB).trans hY10).trans hEC).trans hY11).trans hY12).trans hY13).trans hY14).trans hY15).trans hY16).trans hY17).trans hY18).trans hY19).trans hY20).trans hY21).trans hY22).trans hY23).trans hY24).trans hEW).trans hY25)) hm25 (r3.ext ((((((((((((((((((((((((((hY4).trans hY5).trans hY6).trans hY7).trans hY8).trans hEA).trans hY9).trans hEB).trans hY10).trans hEC).trans hY11).trans hY12).trans hY13).trans hY14).trans hY15).trans hY16).trans hY17).trans hY18).trans hY19).trans hY20).trans hY21).trans hY22).trans hY23).trans hY24).trans hEW).trans hY25))).mono ?_
  rintro _ w26 ⟨xa, xb, xl, xc, xd, xlc, rfl, hE⟩
  dsimp only
  have hY26 := hE
  clear hE
  have hcR := OutAt.new w26 (.int .i64 3) (.slice xa G4.1.val.length xc) (.slice xb G4.1.rel.length xd) 25
  have hER : Ext w26 (w26.alloc (.cells #[.int .i64 3, .slice xa G4.1.val.length xc, .slice xb G4.1.rel.length xd] 25)) := (Ext.refl _).alloc _
  go_wp2_with fail
  refine (XE.out _).mono ?_
  rintro _ w27 ⟨va27, ra27, vc27, rc27, rfl, hm27, hE⟩
  dsimp only
  have hY27 := hE
  clear hE
  go_wp2_with fail
  refine (FNp.out _ _ _ (r1.ext (((((((((((((((((((((((((((((((hY2).trans hY3).trans hY4).trans hY5).trans hY6).trans hY7).trans hY8).trans hEA).trans hY9).trans hEB).trans hY10).trans hEC).trans hY11).trans hY12).trans hY13).trans hY14).trans hY15).trans hY16).trans hY17).trans hY18).trans hY19).trans hY20).trans hY21).trans hY22).trans hY23).trans hY24).trans hEW).trans hY25).trans hY26).trans hER).trans hY27))).mono ?_
  rintro _ w28 ⟨a28, c28, rfl, r28, hE⟩
  dsimp only
  have hY28 := hE
  clear hE
  go_wp2_with fail
  refine (FR.out _ _ _ r28).mono ?_
  rintro _ w29 ⟨a29, c29, rfl, r29, hE⟩
  dsimp only
  have hY29 := hE
  clear hE
  have hLC := RNN.three w29 a3 a1 a29 c3 c1 c29 ahE' ahP' ahR' 26 (r3.ext (((((((((((((((((((((((((((((((hY4).trans hY5).trans hY6).trans hY7).trans hY8).trans hEA).trans hY9).trans hEB).trans hY10).trans hEC).trans hY11).trans hY12).trans hY13).trans hY14).trans hY15).trans hY16).trans hY17).trans hY18).trans hY19).trans hY20).trans hY21).trans hY22).trans hY23).trans hY24).trans hEW).trans hY25).trans hY26).trans hER).trans hY27).trans hY28).trans hY29)) (r1.ext (((((((((((((((((((((((((((((((((hY2).trans hY3).trans hY4).trans hY5).trans hY6).trans hY7).trans hY8).trans hEA).trans hY9).trans hEB).trans hY10).trans hEC).trans hY11).trans hY12).trans hY13).trans hY14).trans hY15).trans hY16).trans hY17).trans hY18).trans hY19).trans hY20).trans hY21).trans hY22).trans hY23).trans hY24).trans hEW).trans hY25).trans hY26).trans hER).trans hY27).trans hY28).trans hY29)) r29
  have hEL : Ext w29 (w29.alloc (.cells #[.slice a3 ahE'.length c3, .slice a1 ahP'.length c1, .slice a29 ahR'.length c29] 26)) := (Ext.refl _).alloc _
  go_wp2_with fail
  refine (XC.out _ _ _ _ _ _ _ _ _ (HT.out.ext (((((((((((((((((((((((((((((((((((hY1).trans hY2).trans hY3).trans hY4).trans hY5).trans hY6).trans hY7).trans hY8).trans hEA).trans hY9).trans hEB).trans hY10).trans hEC).trans hY11).trans hY12).trans hY13).trans hY14).trans hY15).trans hY16).trans hY17).trans hY18).trans hY19).trans hY20).trans hY21).trans hY22).trans hY23).trans hY24).trans hEW).trans hY25).trans hY26).trans hER).trans hY27).trans hY28).trans hY29).trans hEL)) (hm27.ext2 (((hY28).trans hY29).trans hEL)) (r3.ext ((((((((((((((((((((((((((((((((hY4).trans hY5).trans hY6).trans hY7).trans hY8).trans hEA).trans hY9).trans hEB).trans hY10).trans hEC).trans hY11).trans hY12).trans hY13).trans hY14).trans hY15).trans hY16).trans hY17).trans hY18).trans hY19).trans hY20).trans hY21).trans hY22).trans hY23).trans hY24).trans hEW).trans hY25).trans hY26).trans hER).trans hY27).trans hY28).trans hY29).trans hEL)) hLC).mono ?_
  rintro _ w30 ⟨la, lb, lc, ld, rfl, hE⟩
  dsimp only
  have hY30 := hE
  clear hE
  obtain ⟨A0, -, -, -⟩ := hcA.ext (((((((((((((((((((((((((((hY9).trans hEB).trans hY10).trans hEC).trans hY11).trans hY12).trans hY13).trans hY14).trans hY15).trans hY16).trans hY17).trans hY18).trans hY19).trans hY20).trans hY21).trans hY22).trans hY23).trans hY24).trans hEW).trans hY25).trans hY26).trans hER).trans hY27).trans hY28).trans hY29).trans hEL).trans hY30)
  obtain ⟨B0, -, -, -⟩ := hcB.ext (((((((((((((((((((((((hY11).trans hY12).trans hY13).trans hY14).trans hY15).trans hY16).trans hY17).trans hY18).trans hY19).trans hY20).trans hY21).trans hY22).trans hY23).trans hY24).trans hEW).trans hY25).trans hY26).trans hER).trans hY27).trans hY28).trans hY29).trans hEL).trans hY30)
  obtain ⟨D0, -, D2, -⟩ := hcW.ext ((((((((hY25).trans hY26).trans hER).trans hY27).trans hY28).trans hY29).trans hEL).trans hY30)
  obtain ⟨R0, -, -, -⟩ := hcR.ext (((((hY27).trans hY28).trans hY29).trans hEL).trans hY30)
  obtain ⟨g1, o1, rfl, hg1, q1⟩ := (hul.ext ((((((((((((((((((((((((((((hEA).trans hY9).trans hEB).trans hY10).trans hEC).trans hY11).trans hY12).trans hY13).trans hY14).trans hY15).trans hY16).trans hY17).trans hY18).trans hY19).trans hY20).trans hY21).trans hY22).trans hY23).trans hY24).trans hEW).trans hY25).trans hY26).trans hER).trans hY27).trans hY28).trans hY29).trans hEL).trans hY30)).get (k := 0) (by decide)
  obtain ⟨g2, o2, rfl, hg2, q2⟩ := (hbl.ext ((((((((((((((((((((((((hEC).trans hY11).trans hY12).trans hY13).trans hY14).trans hY15).trans hY16).trans hY17).trans hY18).trans hY19).trans hY20).trans hY21).trans hY22).trans hY23).trans hY24).trans hEW).trans hY25).trans hY26).trans hER).trans hY27).trans hY28).trans hY29).trans hEL).trans hY30)).get (k := 0) (by decide)
  have hwr := hwr.ext (((((((((hEW).trans hY25).trans hY26).trans hER).trans hY27).trans hY28).trans hY29).trans hEL).trans hY30)
  have HWR := Lib.hid hwr
  obtain ⟨g3, o3, p3, s3, hwb, hg3, q3, t3⟩ := hwr.get (k := 0) (by decide)
  obtain ⟨g4, o4, p4, s4, hwb2, hg4, q4, t4⟩ := hwr.get (k := 1) (by decide)
  obtain ⟨g5, o5, rfl, hg5, q5⟩ := t3.get (k := 0) (by decide)
  obtain ⟨g6, o6, rfl, hg6, q6⟩ := t4.get (k := 0) (by decide)
  subst hwb
  simp only [Option.some.injEq, Addr.mk.injEq] at hwb2
  obtain ⟨rfl, rfl, -⟩ := hwb2
  have hEnd := (((((((((((((((((((((((((((((((((((hY1).trans hY2).trans hY3).trans hY4).trans hY5).trans hY6).trans hY7).trans hY8).trans hEA).trans hY9).trans hEB).trans hY10).trans hEC).trans hY11).trans hY12).trans hY13).trans hY14).trans hY15).trans hY16).trans hY17).trans hY18).trans hY19).trans hY20).trans hY21).trans hY22).trans hY23).trans hY24).trans hEW).trans hY25).trans hY26).trans hER).trans hY27).trans hY28).trans hY29).trans hEL).trans hY30
  have z1 : w30.cell? ⟨g1, o1, none⟩ = some (.int .i64 1) := q1
  have z2 : w30.cell? ⟨g2, o2, none⟩ = some (.int .i64 3) := q2
  have z3 : w30.cell? ⟨g3, o3, none⟩ = some (.slice (some ⟨g5, o5, none⟩) 4 s3) := q3
  have z4 : w30.cell? ⟨g3, o3 + 1, none⟩ = some (.slice (some ⟨g6, o6, none⟩) 4 s4) := q4
  have z5 : w30.cell? ⟨g5, o5, none⟩ = some (.int .u64 1) := q5
  have z6 : w30.cell? ⟨g6, o6, none⟩ = some (.int .u64 5) := q6
  clear hwr t3 t4 hul hbl hcA hcB hcW hcR q1 q2 q3 q4 q5 q6
  go_wp2_with fail
  go_ret
  exact ⟨rfl, hEnd⟩
end Wt
