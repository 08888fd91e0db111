/- Walks: frames.Properties, frames.Has, frames.In, over contracts of relation.Has. -/
import Derived.Test.YtbeaagnahldefaaDoorM8Aw
import Derived.Test.YtbeaagnahldefaaDoorM8Au
import Derived.Test.YtbeaagnahldefaaDoorM8Ai
import Derived.Test.YtbeaagnahldefaaDoorShm
import Derived.Lib.BitFns
import Derived.Test.YtbeaagnahldefaaDoorM8Ap
import Derived.Test.YtbeaagnahldefaaDoorM8As
namespace Wt
open Go Go.RowKit Go.Maps Go.Proofs Fm

theorem RI.lit9 (w : World) (l : List Int) (cs : Array Value) (T : Nat) (h : cs = (l.map iv).toArray) (hl : l.length ≤ 1000) : RI (w.alloc (.cells cs T)) (some ⟨w.heap.size, 0, none⟩) l := by
  subst h
  refine ⟨by omega, fun k hk => ⟨w.heap.size, 0, rfl, ?_⟩⟩
  simp [iv, hk, nth_eq l k hk]
/-- The properties of a logic, and the error where there is none. -/
def propsL (g : Int) : List Int := if g = 0 then [] else if g = 1 then [1] else if g = 2 then [2] else if g = 3 then [4] else if g = 4 then [2, 4] else if g = 5 then [1, 4, 5] else if g = 6 then [2, 4, 5] else []
def propsE (g : Int) : Int := if g = 0 ∨ g = 1 ∨ g = 2 ∨ g = 3 ∨ g = 4 ∨ g = 5 ∨ g = 6 then 0 else 1
def frHas (r : List (BitVec 64)) (g : Int) : Bool := propsE g == 0 && relCheck r == 0 && (propsL g).all fun p => hasB r p
def frIn (M : Mo) (g : Int) : Bool := propsE g == 0 && moCheck M == 0 && M.rel.all fun r => frHas r g
def RetPr (g : Int) (e : Ending) (w w' : World) : Prop := ∃ a c, e = .returned (.tuple #[.slice a (propsL g).length c, .int .i64 (propsE g)]) ∧ RI w' a (propsL g) ∧ Ext w w'
set_option maxRecDepth 20000 in
set_option maxHeartbeats 4000000 in
theorem props_any (g : Int) (w : World) : Calls Tryd.prog 47 #[.int .i64 g] w fun e w' => RetPr g e w w' := by
  by_cases h0 : g = 0
  · subst h0
    go_enter Tryd.func47, Tryd.ntmps47
    go_wp2
    go_ret2
    exact ⟨none, 0, rfl, RI.nil _ _, Ext.refl _⟩
  by_cases h1 : g = 1
  · subst h1
    go_enter Tryd.func47, Tryd.ntmps47
    go_wp2
    go_ret2
    exact ⟨some ⟨w.heap.size, 0, none⟩, 1, rfl, RI.lit9 w [1] #[.int .i64 1] _ rfl (by decide), (Ext.refl _).alloc _⟩
  by_cases h2 : g = 2
  · subst h2
    go_enter Tryd.func47, Tryd.ntmps47
    go_wp2
    go_ret2
    exact ⟨some ⟨w.heap.size, 0, none⟩, 1, rfl, RI.lit9 w [2] #[.int .i64 2] _ rfl (by decide), (Ext.refl _).alloc _⟩
  by_cases h3 : g = 3
  · subst h3
    go_enter Tryd.func47, Tryd.ntmps47
    go_wp2
    go_ret2
    exact ⟨some ⟨w.heap.size, 0, none⟩, 1, rfl, RI.lit9 w [4] #[.int .i64 4] _ rfl (by decide), (Ext.refl _).alloc _⟩
  by_cases h4 : g = 4
  · subst h4
    go_enter Tryd.func47, Tryd.ntmps47
    go_wp2
    go_ret2
    exact ⟨some ⟨w.heap.size, 0, none⟩, 2, rfl, RI.lit9 w [2, 4] #[.int .i64 2, .int .i64 4] _ rfl (by decide), (Ext.refl _).alloc _⟩
  by_cases h5 : g = 5
  · subst h5
    go_enter Tryd.func47, Tryd.ntmps47
    go_wp2
    go_ret2
    exact ⟨some ⟨w.heap.size, 0, none⟩, 3, rfl, RI.lit9 w [1, 4, 5] #[.int .i64 1, .int .i64 4, .int .i64 5] _ rfl (by decide), (Ext.refl _).alloc _⟩
  by_cases h6 : g = 6
  · subst h6
    go_enter Tryd.func47, Tryd.ntmps47
    go_wp2
    go_ret2
    exact ⟨some ⟨w.heap.size, 0, none⟩, 3, rfl, RI.lit9 w [2, 4, 5] #[.int .i64 2, .int .i64 4, .int .i64 5] _ rfl (by decide), (Ext.refl _).alloc _⟩
  have e1 : propsL g = [] := by simp [propsL, h0, h1, h2, h3, h4, h5, h6]
  have e2 : propsE g = 1 := by simp [propsE, h0, h1, h2, h3, h4, h5, h6]
  have q0 : (g == 0) = false := by simpa using h0
  have q1 : (g == 1) = false := by simpa using h1
  have q2 : (g == 2) = false := by simpa using h2
  have q3 : (g == 3) = false := by simpa using h3
  have q4 : (g == 4) = false := by simpa using h4
  have q5 : (g == 5) = false := by simpa using h5
  have q6 : (g == 6) = false := by simpa using h6
  unfold RetPr
  rw [e1, e2]
  clear h0 h1 h2 h3 h4 h5 h6 e1 e2
  go_enter Tryd.func47, Tryd.ntmps47
  go_wp2
  go_ret2
  exact ⟨none, 0, rfl, RI.nil _ _, Ext.refl _⟩
set_option maxHeartbeats 1000000 in
theorem indexFunc_i (F : Nat) (caps : List Value) (p : Int → Bool) (a : Option Addr) (l : List Int) (cap : Nat) (w : World) (hr : RI w a l)
    (hF : ∀ args W, (callFunc F args).run Tryd.prog W = .ok (.enter F args) W)
    (hp : ∀ W k, Ext w W → k < l.length → Calls Tryd.prog F (.int .i64 (nth l k) :: caps).toArray W fun e w' => e = .returned (.bool (p (nth l k))) ∧ Ext W w') :
    Calls Tryd.prog 112 #[.slice a l.length cap, .func (.func F) #[] caps.toArray] w fun e w' => (∃ i : Int, e = .returned (.int .i64 i) ∧ decide (0 ≤ i) = l.any p) ∧ Ext w w' := by
  have hl := hr.len
  have Hp := Lib.hid hp
  clear hp
  go_enter Tryd.func112, Tryd.ntmps112
  go_wp2
  go_loopw [8] (fun i wr => ∃ k : Nat, k ≤ l.length ∧ i = .int .i64 k ∧ Ext w wr ∧ Hid (∀ j, j < k → p (nth l j) = false)) (fun i _ => l.length - (RowKit.intOf i).toNat)
  case atStart => exact ⟨0, Nat.zero_le _, rfl, Ext.refl _, fun _ h => absurd h (Nat.not_lt_zero _)⟩
  case round =>
    obtain ⟨k, hk, rfl, hE, hno⟩ := hrel
    by_cases hlt : k < l.length
    · obtain ⟨b, off, rfl, hb, hc⟩ := (hr.ext hE).get hlt
      have HC := Lib.hid (Hp.out wr k hE hlt)
      have hHx : Hid (∀ b, p (nth l k) = b → p (nth l k) = b) := Lib.hid fun _ h => h
      go_wp2_with fail
      refine HC.out.mono ?_
      rintro e w1 ⟨rfl, hE1⟩
      cases hb : p (nth l k)
      all_goals have Hb := Lib.hid hb; clear hb
      · go_wp2
        go_roundw
        case rel => exact ⟨k + 1, hlt, by go_num, hE.trans hE1, lt_step hno Hb.out⟩
        case measure => simp [RowKit.intOf]; omega
      · go_wp2
        go_ret
        exact ⟨⟨k, rfl, by rw [any_yes hlt Hb.out]; simp⟩, hE.trans hE1⟩
    · go_wp2
      go_ret
      exact ⟨⟨-1, rfl, by rw [any_no (fun j hj => hno j (by omega))]; rfl⟩, hE⟩
set_option maxHeartbeats 1000000 in
theorem containsFunc_i (F : Nat) (caps : List Value) (p : Int → Bool) (a : Option Addr) (l : List Int) (cap : Nat) (w : World) (hr : RI w a l)
    (hF : ∀ args W, (callFunc F args).run Tryd.prog W = .ok (.enter F args) W)
    (hp : ∀ W k, Ext w W → k < l.length → Calls Tryd.prog F (.int .i64 (nth l k) :: caps).toArray W fun e w' => e = .returned (.bool (p (nth l k))) ∧ Ext W w') :
    Calls Tryd.prog 87 #[.slice a l.length cap, .func (.func F) #[] caps.toArray] w fun e w' => e = .returned (.bool (l.any p)) ∧ Ext w w' := by
  have Hi := Lib.hid (indexFunc_i F caps p a l cap w hr hF hp)
  clear hF hp
  go_enter Tryd.func87, Tryd.ntmps87
  go_wp2_with (go_at_call 112; refine (Hi.out).mono ?_; rintro e w1 ⟨⟨i, rfl, hi⟩, hE⟩; have HI := Lib.hid hi; clear hi)
  go_ret
  exact ⟨by rw [← HI.out]; simp, hE⟩
theorem cf_frHas1 (args : Array Value) (W : World) : (callFunc 88 args).run Tryd.prog W = .ok (.enter 88 args) W := by
  simp [callFunc, Tryd.func88, Tryd.f88]
theorem cf_frIn1 (args : Array Value) (W : World) : (callFunc 49 args).run Tryd.prog W = .ok (.enter 49 args) W := by
  simp [callFunc, Tryd.func49, Tryd.f49]
/-- A contract of relation.Has at a property. -/
def HasAt (p : Int) : Prop := ∀ (r : List (BitVec 64)) (a : Option Addr) (c : Nat) (W : World), Tab W → RU W a r → Calls Tryd.prog 14 #[.slice a r.length c, .int .i64 p] W fun e w' => e = .returned (.bool (hasB r p)) ∧ Ext W w'
set_option maxHeartbeats 1000000 in
theorem frHas1_any (p : Int) (hp : HasAt p) (r : List (BitVec 64)) (a : Option Addr) (c b : Nat) (w : World) (hT : Tab w) (hr : RU w a r) (hb : Bx1 w b (.slice a r.length c)) :
    Calls Tryd.prog 88 #[.int .i64 p, .pointer (some ⟨b, 0, none⟩)] w fun e w' => e = .returned (.bool (!hasB r p)) ∧ Ext w w' := by
  have H := Lib.hid (hp r a c w hT hr)
  obtain ⟨b0, -⟩ := hb
  have bl := World.block_lt_of_cell? _ _ b0
  clear hp hT hr
  go_enter Tryd.func88, Tryd.ntmps88
  go_wp2_with (go_at_call 14; refine H.out.mono ?_; rintro _ w1 ⟨rfl, hE⟩)
  go_ret
  exact ⟨rfl, hE⟩
theorem not_any_not (l : List Int) (f : Int → Bool) : (!l.any fun p => !f p) = l.all f := by
  induction l with
  | nil => rfl
  | cons x l ih => simp only [List.any_cons, List.all_cons, Bool.not_or, Bool.not_not, ih]
theorem not_any_notR (l : List (List (BitVec 64))) (f : List (BitVec 64) → Bool) : (!l.any fun p => !f p) = l.all f := by
  induction l with
  | nil => rfl
  | cons x l ih => simp only [List.any_cons, List.all_cons, Bool.not_or, Bool.not_not, ih]
set_option maxRecDepth 20000 in
set_option maxHeartbeats 2000000 in
theorem frHas_any (g : Int) (hh : ∀ p, p ∈ propsL g → HasAt p) (r : List (BitVec 64)) (a : Option Addr) (c : Nat) (w : World) (hT : Tab w) (hr : RU w a r) :
    Calls Tryd.prog 50 #[.slice a r.length c, .int .i64 g] w fun e w' => e = .returned (.bool (frHas r g)) ∧ Ext w w' := by
  have hE0 : Ext w (w.alloc (.cells #[.slice a r.length c] 22)) := (Ext.refl w).alloc _
  have hb0 := Bx1.new w (.slice a r.length c) 22
  have HE := Lib.hid hE0
  have HT := Lib.hid (hT.ext hE0)
  have HR := Lib.hid (hr.ext hE0)
  have HB := Lib.hid hb0
  have HH := Lib.hid hh
  have hln := hr.len
  clear hE0 hT hr hb0 hh
  have HCK : Hid (∀ W, RU W a r → Calls Tryd.prog 41 #[.int .i64 (r.length : Int), .slice a r.length c] W fun e w' => e = .returned (.int .i64 (relCheck r)) ∧ W = w') := Lib.hid fun W h => relCheck_any a r c W h
  go_enter Tryd.func50, Tryd.ntmps50
  go_wp2_with fail
  generalize w.alloc (.cells #[.slice a r.length c] 22) = w0 at *
  refine (props_any g w0).mono ?_
  rintro _ w1 ⟨la, lc, rfl, hl, hE1⟩
  have HL := Lib.hid hl
  have HE1 := Lib.hid hE1
  have HB1 := Lib.hid (HB.out.ext hE1)
  have HT1 := Lib.hid (HT.out.ext hE1)
  have HR1 := Lib.hid (HR.out.ext hE1)
  clear hl hE1
  have hll := HL.out.len
  by_cases he : propsE g = 0
  · rw [he]
    obtain ⟨b0, -⟩ := HB1.out
    have bl := World.block_lt_of_cell? _ _ b0
    by_cases hck : relCheck r = 0
    · have HF : Hid (frHas r g = (propsL g).all fun p => hasB r p) := Lib.hid (by unfold frHas; rw [he, hck]; rfl)
      have HC1 := HCK.out _ HR1.out
      rw [hck] at HC1
      have HC2 := Lib.hid HC1
      clear HC1 hck he
      have HCF : Hid (∀ W, W = w1 → Calls Tryd.prog 87 #[.slice la (propsL g).length lc, .func (.func 88) #[] #[.pointer (some ⟨w.heap.size, 0, none⟩)]] W fun e w' => e = .returned (.bool ((propsL g).any fun p => !hasB r p)) ∧ Ext w1 w') := Lib.hid fun W hW => by
        subst hW
        exact containsFunc_i 88 [.pointer (some ⟨w.heap.size, 0, none⟩)] _ la (propsL g) lc W HL.out cf_frHas1 fun W2 k e hk => frHas1_any (nth (propsL g) k) (HH.out _ (nth_mem hk)) r a c w.heap.size W2 (HT1.out.ext e) (HR1.out.ext e) (HB1.out.ext e)
      dsimp only
      go_wp2_with (first | (go_at_call 41; refine HC2.out.mono ?_; rintro _ _ ⟨rfl, rfl⟩) | (go_at_call 87; refine (HCF.out _ rfl).mono ?_; rintro _ w2 ⟨rfl, hE2⟩))
      go_ret
      exact ⟨by rw [HF.out, ← not_any_not]; rfl, (HE.out.trans HE1.out).trans hE2⟩
    · have HF : Hid (frHas r g = false) := Lib.hid (by unfold frHas; rw [show (relCheck r == 0) = false by simpa using hck]; simp)
      have hq : (relCheck r != 0) = true := by simpa using hck
      have HC2 := Lib.hid (HCK.out _ HR1.out)
      clear hck he
      generalize relCheck r = er at *
      dsimp only
      go_wp2_with (go_at_call 41; refine HC2.out.mono ?_; rintro _ _ ⟨rfl, rfl⟩)
      go_ret
      exact ⟨by rw [HF.out]; rfl, HE.out.trans HE1.out⟩
  · have HF : Hid (frHas r g = false) := Lib.hid (by unfold frHas; rw [show (propsE g == 0) = false by simpa using he]; rfl)
    have hq : (propsE g != 0) = true := by simpa using he
    clear he
    generalize propsE g = er at *
    dsimp only
    go_wp2_with fail
    go_ret
    exact ⟨by rw [HF.out]; rfl, HE.out.trans HE1.out⟩
set_option maxHeartbeats 1000000 in
theorem frIn1_any (g : Int) (hh : ∀ p, p ∈ propsL g → HasAt p) (r : List (BitVec 64)) (a : Option Addr) (c b : Nat) (w : World) (hT : Tab w) (hr : RU w a r) (hb : Bx1 w b (.int .i64 g)) :
    Calls Tryd.prog 49 #[.slice a r.length c, .pointer (some ⟨b, 0, none⟩)] w fun e w' => e = .returned (.bool (!frHas r g)) ∧ Ext w w' := by
  have H := Lib.hid (frHas_any g hh r a c w hT hr)
  obtain ⟨b0, -⟩ := hb
  have bl := World.block_lt_of_cell? _ _ b0
  clear hh hT hr
  go_enter Tryd.func49, Tryd.ntmps49
  go_wp2_with (go_at_call 50; refine H.out.mono ?_; rintro _ w1 ⟨rfl, hE⟩)
  go_ret
  exact ⟨rfl, hE⟩
set_option maxRecDepth 20000 in
set_option maxHeartbeats 2000000 in
theorem frIn_any (g : Int) (hh : ∀ p, p ∈ propsL g → HasAt p) (M : Mo) (va ra : Option Addr) (vc rc : Nat) (w : World) (hT : Tab w) (hm : RM w va ra M) :
    Calls Tryd.prog 18 #[.agg #[.int .i64 M.worlds, .slice va M.val.length vc, .slice ra M.rel.length rc], .int .i64 g] w fun e w' => e = .returned (.bool (frIn M g)) ∧ Ext w w' := by
  have hE0 : Ext w ((w.alloc (.cells #[.int .i64 M.worlds, .slice va M.val.length vc, .slice ra M.rel.length rc] 25)).alloc (.cells #[.int .i64 g] 3)) := ((Ext.refl w).alloc _).alloc _
  have hbx := (MoBox.new w M.worlds M.val M.rel va vc ra rc 25).ext ((Ext.refl _).alloc (.cells #[.int .i64 g] 3))
  have hb0 := (Bx1.new (w.alloc (.cells #[.int .i64 M.worlds, .slice va M.val.length vc, .slice ra M.rel.length rc] 25)) (.int .i64 g) 3).at (b' := w.heap.size + 1) (by simp)
  have HE := Lib.hid hE0
  have HT := Lib.hid (hT.ext hE0)
  have HM := Lib.hid (hm.ext hE0)
  have HB := Lib.hid hbx
  have HG := Lib.hid hb0
  have HH := Lib.hid hh
  obtain ⟨b0, bf0⟩ := hb0
  have bl := World.block_lt_of_cell? _ _ b0
  clear hE0 hT hm hbx hh bf0
  go_enter Tryd.func18, Tryd.ntmps18
  go_wp2_with fail
  generalize (w.alloc (.cells #[.int .i64 M.worlds, .slice va M.val.length vc, .slice ra M.rel.length rc] 25)).alloc (.cells #[.int .i64 g] 3) = w0 at *
  refine (props_any g w0).mono ?_
  rintro _ w1 ⟨la, lc, rfl, hl, hE1⟩
  have HE1 := Lib.hid hE1
  have HB1 := Lib.hid (HB.out.ext hE1)
  have HM1 := Lib.hid (HM.out.ext hE1)
  have HT1 := Lib.hid (HT.out.ext hE1)
  have HG1 := Lib.hid (HG.out.ext hE1)
  clear hl hE1 b0 bl
  by_cases he : propsE g = 0
  · rw [he]
    obtain ⟨p0, p1, p2⟩ := HB1.out
    dsimp only at p0 p1 p2
    have pl := World.block_lt_of_cell? _ _ p0
    dsimp only at pl
    by_cases hck : moCheck M = 0
    · have HF : Hid (frIn M g = M.rel.all fun r => frHas r g) := Lib.hid (by unfold frIn; rw [he, hck]; rfl)
      have HC1 := modelCheck_any M va ra vc rc w1 HM1.out
      rw [hck] at HC1
      have HC2 := Lib.hid HC1
      clear HC1 hck he
      have HCF : Hid (∀ W, Ext w1 W → Calls Tryd.prog 38 #[.slice ra M.rel.length rc, .func (.func 49) #[] #[.pointer (some ⟨w.heap.size + 1, 0, none⟩)]] W fun e w' => e = .returned (.bool (M.rel.any fun r => !frHas r g)) ∧ Ext W w') := Lib.hid fun W eW =>
        containsFunc_g 49 [.pointer (some ⟨w.heap.size + 1, 0, none⟩)] _ ra M.rel rc W (HM1.out.rel.ext eW) cf_frIn1 fun W2 a s c e hu => frIn1_any g HH.out s a c (w.heap.size + 1) W2 (HT1.out.ext (eW.trans e)) hu (HG1.out.ext (eW.trans e))
      dsimp only
      go_wp2_with (first | (go_at_call 48; refine HC2.out.mono ?_; rintro _ w2 ⟨rfl, hE2⟩; obtain ⟨q0, q1, q2⟩ := HB1.out.ext hE2; have ql := World.block_lt_of_cell? _ _ q0; dsimp only at q0 q1 q2 ql) | (go_at_call 38; refine (HCF.out _ hE2).mono ?_; rintro _ w3 ⟨rfl, hE3⟩))
      go_ret
      exact ⟨by rw [HF.out, ← not_any_notR]; rfl, (HE.out.trans HE1.out).trans (hE2.trans hE3)⟩
    · have HF : Hid (frIn M g = false) := Lib.hid (by unfold frIn; rw [show (moCheck M == 0) = false by simpa using hck]; simp)
      have hq : (moCheck M == 0) = false := by simpa using hck
      have HC2 := Lib.hid (modelCheck_any M va ra vc rc w1 HM1.out)
      clear hck he
      generalize moCheck M = er at *
      dsimp only
      go_wp2_with (go_at_call 48; refine HC2.out.mono ?_; rintro _ w2 ⟨rfl, hE2⟩)
      go_ret
      exact ⟨by rw [HF.out]; rfl, (HE.out.trans HE1.out).trans hE2⟩
  · have HF : Hid (frIn M g = false) := Lib.hid (by unfold frIn; rw [show (propsE g == 0) = false by simpa using he]; rfl)
    have hq : (propsE g == 0) = false := by simpa using he
    clear he
    generalize propsE g = er at *
    dsimp only
    go_wp2_with fail
    go_ret
    exact ⟨by rw [HF.out]; rfl, HE.out.trans HE1.out⟩
end Wt

/- Walks of package action: static, changes. Assignments and actions in memory. -/
namespace Wt
open Go Go.RowKit Go.Maps Go.Proofs Fm

/-- An assignment. -/
structure Asn where
  fact : Int
  tf : List Nd
  deriving Inhabited
/-- A slice of assignments. -/
structure RAs (w : World) (a : Option Addr) (L : List Asn) : Prop where
  len : L.length ≤ 140737488355328
  get : ∀ k, k < L.length → ∃ b off a' c', a = some ⟨b, off, none⟩ ∧ b < w.heap.size ∧ w.cell? ⟨b, off + k * 2, none⟩ = some (.int .i64 (nth L k).fact) ∧ w.cell? ⟨b, off + k * 2 + 1, none⟩ = some (.slice a' (nth L k).tf.length c') ∧ RN w a' (nth L k).tf
theorem RAs.ext {w w' : World} {a : Option Addr} {L : List Asn} (h : RAs w a L) (e : Ext w w') : RAs w' a L :=
  ⟨h.len, fun k hk => by
    obtain ⟨b, off, a', c', h1, h2, h3, h4, h5⟩ := h.get k hk
    exact ⟨b, off, a', c', h1, Nat.lt_of_lt_of_le h2 e.size, e.cell h3, e.cell h4, h5.ext e⟩⟩
theorem RAs.nil (w : World) (a : Option Addr) : RAs w a [] := ⟨by simp, fun _ hk => absurd hk (by simp)⟩
/-- A slice of slices of assignments. -/
structure RAss (w : World) (a : Option Addr) (L : List (List Asn)) : Prop where
  len : L.length ≤ 140737488355328
  get : ∀ k, k < L.length → ∃ b off a' c', a = some ⟨b, off, none⟩ ∧ b < w.heap.size ∧ w.cell? ⟨b, off + k, none⟩ = some (.slice a' (nth L k).length c') ∧ RAs w a' (nth L k)
theorem RAss.ext {w w' : World} {a : Option Addr} {L : List (List Asn)} (h : RAss w a L) (e : Ext w w') : RAss w' a L :=
  ⟨h.len, fun k hk => by
    obtain ⟨b, off, a', c', h1, h2, h3, h4⟩ := h.get k hk
    exact ⟨b, off, a', c', h1, Nat.lt_of_lt_of_le h2 e.size, e.cell h3, h4.ext e⟩⟩
/-- The error of a formula that must be static and fit. -/
def stErr (f : List Nd) (a n : Nat) : Int := if fCheck f ≠ 0 then fCheck f else if 16 ≤ fFrags f then 10 else if fFits f a n = false then 2 else 0
set_option maxHeartbeats 1000000 in
theorem static_any (fa : Option Addr) (fc : Nat) (f : List Nd) (a n : Nat) (w : World) (hf : RN w fa f) :
    Calls Tryd.prog 56 #[.slice fa f.length fc, .int .i64 (a : Int), .int .i64 (n : Int)] w fun e w' => e = .returned (.int .i64 (stErr f a n)) ∧ Ext w w' := by
  have HF := Lib.hid hf
  clear hf
  by_cases h2 : fCheck f = 0
  · have H2 := Lib.hid h2
    have hfr2 : fFrags f < 512 := unionL_lt fragN fragN_lt (fCompact f)
    have han : bits .andNot .i64 (fFrags f : Int) 15 = ((fFrags f &&& 4294967280 : Nat) : Int) := andNot_nat (fFrags f) 15 (by omega) (by omega)
    have HC : Hid (∀ W, Ext w W → Calls Tryd.prog 69 #[.slice fa f.length fc] W fun e w' => e = .returned (.int .i64 0) ∧ Ext W w') := Lib.hid fun W e => by
      have h := check_any fa fc f W (HF.out.ext e)
      rw [h2] at h
      exact h
    have HG : Hid (∀ W, Ext w W → Calls Tryd.prog 70 #[.slice fa f.length fc] W fun e w' => e = .returned (.int .i64 (fFrags f : Int)) ∧ Ext W w') := Lib.hid fun W e => frags_any fa fc f W (HF.out.ext e)
    have HI : Hid (∀ W, Ext w W → Calls Tryd.prog 95 #[.slice fa f.length fc, .int .i64 (a : Int), .int .i64 (n : Int)] W fun e w' => e = .returned (.bool (fFits f a n)) ∧ Ext W w') := Lib.hid fun W e => fits_any fa fc f a n W (HF.out.ext e)
    by_cases h3 : 16 ≤ fFrags f
    · have hn : stErr f a n = 10 := by unfold stErr; rw [if_neg (by simp [h2]), if_pos h3]
      have HN := Lib.hid hn
      have hq : (((fFrags f &&& 4294967280 : Nat) : Int) != 0) = true := by
        have := andNot15 (fFrags f) hfr2
        simp; omega
      clear h2 h3 hn hfr2
      go_enter Tryd.func56, Tryd.ntmps56
      go_wp2_with fail
      refine (HC.out _ (Ext.refl _)).mono ?_
      rintro _ w1 ⟨rfl, hE1⟩
      dsimp only
      go_wp2_with fail
      refine (HG.out _ hE1).mono ?_
      rintro _ w2 ⟨rfl, hE2⟩
      dsimp only
      go_wp2_with fail
      go_ret
      exact ⟨by rw [HN.out]; rfl, hE1.trans hE2⟩
    · have hq : (((fFrags f &&& 4294967280 : Nat) : Int) != 0) = false := by
        have := andNot15 (fFrags f) hfr2
        simp; omega
      obtain ⟨b, hb⟩ : ∃ b, b = fFits f a n := ⟨_, rfl⟩
      have HB := Lib.hid hb
      rw [← hb] at HI
      have hn : stErr f a n = if b = false then 2 else 0 := by unfold stErr; rw [if_neg (by simp [h2]), if_neg h3, hb]
      have HN := Lib.hid hn
      clear h2 h3 hn hfr2 hb
      cases b
      all_goals
        go_enter Tryd.func56, Tryd.ntmps56
        go_wp2_with fail
        refine (HC.out _ (Ext.refl _)).mono ?_
        rintro _ w1 ⟨rfl, hE1⟩
        dsimp only
        go_wp2_with fail
        refine (HG.out _ hE1).mono ?_
        rintro _ w2 ⟨rfl, hE2⟩
        dsimp only
        go_wp2_with fail
        refine (HI.out _ (hE1.trans hE2)).mono ?_
        rintro _ w3 ⟨rfl, hE3⟩
        dsimp only
        go_wp2_with fail
        go_ret
        exact ⟨by rw [HN.out]; rfl, (hE1.trans hE2).trans hE3⟩
  · have hq : (fCheck f != 0) = true := by simpa using h2
    have hn : stErr f a n = fCheck f := by unfold stErr; rw [if_pos h2]
    have HN := Lib.hid hn
    have hck := Lib.hid (check_any fa fc f w HF.out)
    clear h2 hn
    generalize fCheck f = er at *
    go_enter Tryd.func56, Tryd.ntmps56
    go_wp2_with fail
    refine hck.out.mono ?_
    rintro _ w1 ⟨rfl, hE1⟩
    dsimp only
    go_wp2_with fail
    go_ret
    exact ⟨by rw [HN.out]; rfl, hE1⟩
/-- The error of the assignments from number k on, behind the fact 'last'. -/
def chErr (a n : Nat) : List Asn → Int → Int
  | [], _ => 0
  | x :: l, last => if x.fact < 0 ∨ (n : Int) ≤ x.fact then 2 else if x.fact ≤ last then 9 else if stErr x.tf a n ≠ 0 then stErr x.tf a n else chErr a n l x.fact
theorem drop_cons {α : Type} [Inhabited α] {l : List α} {k : Nat} (h : k < l.length) : l.drop k = nth l k :: l.drop (k + 1) := by
  rw [nth_eq _ _ h]; exact List.drop_eq_getElem_cons h
theorem chErr_cons (a n : Nat) (x : Asn) (l : List Asn) (last : Int) : chErr a n (x :: l) last = if x.fact < 0 ∨ (n : Int) ≤ x.fact then 2 else if x.fact ≤ last then 9 else if stErr x.tf a n ≠ 0 then stErr x.tf a n else chErr a n l x.fact := rfl
set_option maxRecDepth 20000 in
set_option maxHeartbeats 2000000 in
theorem changes_any (pa : Option Addr) (pc : Nat) (L : List Asn) (a n : Nat) (w : World) (hf : RAs w pa L) :
    Calls Tryd.prog 57 #[.slice pa L.length pc, .int .i64 (a : Int), .int .i64 (n : Int)] w fun e w' => e = .returned (.int .i64 (chErr a n L (-1))) ∧ Ext w w' := by
  have HF := Lib.hid hf
  have hln := hf.len
  clear hf
  go_enter Tryd.func57, Tryd.ntmps57
  go_wp2_with fail
  go_loopw [7, 13] (fun t i wr => ∃ (k : Nat) (last : Int), k ≤ L.length ∧ t = .int .i64 last ∧ i = .int .i64 (k : Int) ∧ Hid (Ext w wr) ∧ Hid (chErr a n (L.drop k) last = chErr a n L (-1))) (fun _ i _ => L.length - (RowKit.intOf i).toNat)
  case atStart => exact ⟨0, -1, Nat.zero_le _, rfl, rfl, Lib.hid (Ext.refl _), Lib.hid rfl⟩
  case round =>
    obtain ⟨k, last, hk, rfl, rfl, HX, HC⟩ := hrel
    by_cases hkl : k < L.length
    · obtain ⟨b, o, a', c', rfl, hb, h0, h1, h2⟩ := (HF.out.ext HX.out).get k hkl
      have HCC := HC.out
      rw [drop_cons hkl, chErr_cons] at HCC
      have HN := Lib.hid h2
      clear h2
      generalize nth L k = x at *
      obtain ⟨fx, tf⟩ := x
      dsimp only at h0 h1 HCC HN
      by_cases c1 : fx < 0 ∨ (n : Int) ≤ fx
      · rw [if_pos c1] at HCC
        have HQ := Lib.hid HCC
        clear HCC
        by_cases d1 : fx < 0
        · have e1 : decide (fx < 0) = true := decide_eq_true d1
          clear c1
          go_wp2_with fail
          go_ret
          exact ⟨by rw [← HQ.out]; rfl, HX.out.alloc _⟩
        · have e1 : decide (fx < 0) = false := decide_eq_false d1
          have e2 : decide ((n : Int) ≤ fx) = true := decide_eq_true (by omega)
          clear c1
          go_wp2_with fail
          go_ret
          exact ⟨by rw [← HQ.out]; rfl, HX.out.alloc _⟩
      · rw [if_neg c1] at HCC
        have e1 : decide (fx < 0) = false := decide_eq_false (by omega)
        have e2 : decide ((n : Int) ≤ fx) = false := decide_eq_false (by omega)
        clear c1
        by_cases c2 : fx ≤ last
        · rw [if_pos c2] at HCC
          have HQ := Lib.hid HCC
          have e3 : decide (fx ≤ last) = true := decide_eq_true c2
          clear HCC
          go_wp2_with fail
          go_ret
          exact ⟨by rw [← HQ.out]; rfl, HX.out.alloc _⟩
        · rw [if_neg c2] at HCC
          have e3 : decide (fx ≤ last) = false := decide_eq_false c2
          have HS : Hid (∀ W, Ext wr W → Calls Tryd.prog 56 #[.slice a' tf.length c', .int .i64 (a : Int), .int .i64 (n : Int)] W fun e w' => e = .returned (.int .i64 (stErr tf a n)) ∧ Ext W w') := Lib.hid fun W e => static_any a' c' tf a n W (HN.out.ext e)
          by_cases c3 : stErr tf a n = 0
          · rw [if_neg (by simp [c3])] at HCC
            rw [c3] at HS
            have HQ := Lib.hid HCC
            clear HCC c3
            go_wp2_with fail
            refine (HS.out _ ((Ext.refl _).alloc _)).mono ?_
            rintro _ w2 ⟨rfl, hE2⟩
            have HE2 := Lib.hid (HX.out.trans (((Ext.refl _).alloc _).trans hE2))
            clear hE2 h0 h1
            dsimp only
            go_wp2_with fail
            go_roundw
            case rel => exact ⟨k + 1, fx, hkl, rfl, by go_num, HE2, HQ⟩
            case measure => simp [RowKit.intOf]; omega
          · rw [if_pos c3] at HCC
            have hq : (stErr tf a n != 0) = true := by simpa using c3
            have HQ := Lib.hid HCC
            clear HCC c3
            go_wp2_with fail
            refine (HS.out _ ((Ext.refl _).alloc _)).mono ?_
            rintro _ w2 ⟨rfl, hE2⟩
            have HE2 := Lib.hid (HX.out.trans (((Ext.refl _).alloc _).trans hE2))
            clear hE2 h0 h1
            dsimp only
            go_wp2_with fail
            go_ret
            exact ⟨by rw [← HQ.out]; rfl, HE2.out⟩
    · have HQ : Hid (chErr a n L (-1) = 0) := Lib.hid (by rw [← HC.out, List.drop_eq_nil_of_le (by omega)]; rfl)
      go_wp2_with fail
      go_ret
      exact ⟨by rw [HQ.out]; rfl, HX.out⟩
end Wt

/- Walks of package action: shape. -/
namespace Wt
open Go Go.RowKit Go.Maps Go.Proofs Fm

theorem bla_le : ∀ (f x n : Nat), x < 2 ^ f → (Lib.bitLenAux f x ≤ n ↔ x < 2 ^ n)
  | 0, x, n, h => by
    have h0 : x = 0 := by simp at h; omega
    subst h0
    exact ⟨fun _ => Nat.two_pow_pos n, fun _ => Nat.zero_le _⟩
  | f + 1, x, n, h => by
    unfold Lib.bitLenAux
    by_cases h0 : x = 0
    · subst h0
      simp only [if_true]
      exact ⟨fun _ => Nat.two_pow_pos n, fun _ => Nat.zero_le _⟩
    · rw [if_neg h0]
      cases n with
      | zero => simp; omega
      | succ n =>
        have ih := bla_le f (x / 2) n (by rw [Nat.pow_succ] at h; omega)
        rw [Nat.pow_succ]
        omega
theorem bitLen_le (s : BitVec 64) (n : Nat) (_hn : n ≤ 63) : decide ((n : Int) < (Lib.bitLen s.toNat : Int)) = outOne n s := by
  have h1 := bla_le 64 s.toNat n s.isLt
  have h2 : outOne n s = false ↔ s.toNat < 2 ^ n := by
    unfold outOne
    rw [bne_eq_false_iff_eq, andNot_zero]
    constructor
    · intro h
      refine Nat.lt_pow_two_of_testBit _ fun i hi => ?_
      by_cases h64 : i < 64
      · cases hb : s.toNat.testBit i
        · rfl
        · have h3 := h i h64 hb
          rw [bt_allW] at h3
          simp at h3
          omega
      · exact Nat.testBit_lt_two_pow (Nat.lt_of_lt_of_le s.isLt (Nat.pow_le_pow_right (by decide) (by omega)))
    · intro h k hk hb
      rw [bt_allW]
      by_cases hkn : k < n
      · simp [hkn, hk]
      · have h3 : s.toNat.testBit k = false := Nat.testBit_lt_two_pow (Nat.lt_of_lt_of_le h (Nat.pow_le_pow_right (by decide) (by omega)))
        have h4 : s.toNat.testBit k = true := hb
        rw [h3] at h4; cases h4
  unfold Lib.bitLen
  cases hb : outOne n s
  · have h3 := h1.2 (h2.1 hb)
    exact decide_eq_false (by omega)
  · refine decide_eq_true ?_
    have h3 : ¬ s.toNat < 2 ^ n := fun h => by have := h2.2 h; rw [hb] at this; cases this
    have h4 : ¬ Lib.bitLenAux 64 s.toNat ≤ n := fun h => h3 (h1.1 h)
    omega
theorem len64_any (s : BitVec 64) (w : World) : Calls Tryd.prog 94 #[.int .u64 (un s)] w fun e w' => e = .returned (.int .i64 (Lib.bitLen s.toNat : Int)) ∧ w = w' := by
  have hs := s.isLt
  have h := Tryd.bits_Len64 (un s) w (by unfold un; omega) (by unfold un; omega)
  have e : (un s).toNat = s.toNat := by simp [un]
  rw [e] at h
  exact h.mono fun _ _ hh => ⟨hh.1, hh.2.symm⟩
/-- An action model. -/
structure Acn where
  pre : List (List Nd)
  post : List (List Asn)
  rel : List (List (BitVec 64))
structure RAc (w : World) (pa qa ra : Option Addr) (A : Acn) : Prop where
  pre : RNN w pa A.pre
  post : RAss w qa A.post
  rel : RR w ra A.rel
theorem RAc.ext {w w' : World} {pa qa ra : Option Addr} {A : Acn} (h : RAc w pa qa ra A) (e : Ext w w') : RAc w' pa qa ra A := ⟨h.pre.ext e, h.post.ext e, h.rel.ext e⟩
/-- The error of the sizes and the relations. -/
def shErr (A : Acn) (a : Nat) : Int :=
  if A.pre.length < 1 ∨ 8 < A.pre.length then 2
  else if A.post.length ≠ A.pre.length ∨ A.rel.length ≠ a ∨ A.rel.any (fun r => r.length != A.pre.length) = true then 3
  else if A.rel.any (fun r => outL A.pre.length r) = true then 2 else 0
theorem cf_shape1 (args : Array Value) (W : World) : (callFunc 93 args).run Tryd.prog W = .ok (.enter 93 args) W := by
  exact enters_of Tryd.func93 (by kernel_rfl) rfl args W
theorem shape1_any (a' : Option Addr) (r : List (BitVec 64)) (c' b n : Nat) (w : World) (hc : w.cell? ⟨b, 0, none⟩ = some (.int .i64 (n : Int))) :
    Calls Tryd.prog 93 #[.slice a' r.length c', .pointer (some ⟨b, 0, none⟩)] w fun e w' => e = .returned (.bool (r.length != n)) ∧ w = w' := by
  have hb := World.block_lt_of_cell? _ _ hc
  dsimp only at hb
  have hq : ((r.length : Int) != (n : Int)) = (r.length != n) := by
    by_cases h : r.length = n
    · rw [h]; simp
    · have h2 : ¬ ((r.length : Int) = (n : Int)) := by omega
      rw [bne_iff_ne.2 h, bne_iff_ne.2 h2]
  go_enter Tryd.func93, Tryd.ntmps93
  go_wp2_with fail
  go_ret
  exact ⟨by first | rfl | (rw [← hq]; rfl) | (simp; done), rfl⟩
end Wt

/- Walks of package action: shape, Check, alone. -/
namespace Wt
open Go Go.RowKit Go.Maps Go.Proofs Fm

set_option maxRecDepth 20000 in
set_option maxHeartbeats 8000000 in
theorem shape_any (A : Acn) (pa qa ra : Option Addr) (pc qc rc a : Nat) (w : World) (ha : RAc w pa qa ra A) :
    Calls Tryd.prog 55 #[.agg #[.slice pa A.pre.length pc, .slice qa A.post.length qc, .slice ra A.rel.length rc], .int .i64 (a : Int)] w fun e w' => e = .returned (.int .i64 (shErr A a)) ∧ Ext w w' := by
  obtain ⟨pre, post, rel⟩ := A
  obtain ⟨hp, hq, hr⟩ := ha
  have hpl := hp.len
  have hql := hq.len
  have hrl := hr.len
  dsimp only at hp hq hr hpl hql hrl ⊢
  have hE1 : Ext w (w.alloc (.cells #[.slice pa pre.length pc, .slice qa post.length qc, .slice ra rel.length rc] 45)) := (Ext.refl w).alloc _
  have hE2 : Ext (w.alloc (.cells #[.slice pa pre.length pc, .slice qa post.length qc, .slice ra rel.length rc] 45)) ((w.alloc (.cells #[.slice pa pre.length pc, .slice qa post.length qc, .slice ra rel.length rc] 45)).alloc (.cells #[.int .i64 (pre.length : Int)] 3)) := (Ext.refl _).alloc _
  have HO1 := Lib.hid (OutAt.new w (.slice pa pre.length pc) (.slice qa post.length qc) (.slice ra rel.length rc) 45)
  have HO := Lib.hid ((OutAt.new w (.slice pa pre.length pc) (.slice qa post.length qc) (.slice ra rel.length rc) 45).ext hE2)
  have HB := Lib.hid ((Bx1.new (w.alloc (.cells #[.slice pa pre.length pc, .slice qa post.length qc, .slice ra rel.length rc] 45)) (.int .i64 (pre.length : Int)) 3).at (b' := w.heap.size + 1) (by simp))
  have HE := Lib.hid (hE1.trans hE2)
  have HR := Lib.hid (hr.ext (hE1.trans hE2))
  clear hp hq hr hE1 hE2
  generalize hn : pre.length = n at *
  have HNE : Hid (shErr ⟨pre, post, rel⟩ a = if n < 1 ∨ 8 < n then 2 else if post.length ≠ n ∨ rel.length ≠ a ∨ rel.any (fun r => r.length != n) = true then 3 else if rel.any (fun r => outL n r) = true then 2 else 0) := Lib.hid (by unfold shErr; rw [hn])
  clear hn
  obtain ⟨o0, o1, o2, -⟩ := HO1.out
  have ol1 := World.block_lt_of_cell? _ _ o0
  dsimp only at ol1
  by_cases c1 : n < 1 ∨ 8 < n
  · have HQ := HNE.out
    rw [if_pos c1] at HQ
    have HQ := Lib.hid HQ
    by_cases d1 : n < 1
    · have e1 : decide ((n : Int) < 1) = true := decide_eq_true (by omega)
      clear c1 d1
      go_enter Tryd.func55, Tryd.ntmps55
      go_wp2_with fail
      go_ret
      exact ⟨by rw [HQ.out]; rfl, HE.out⟩
    · have e1 : decide ((n : Int) < 1) = false := decide_eq_false (by omega)
      have e2 : decide ((8 : Int) < (n : Int)) = true := decide_eq_true (by omega)
      clear c1 d1
      go_enter Tryd.func55, Tryd.ntmps55
      go_wp2_with fail
      go_ret
      exact ⟨by rw [HQ.out]; rfl, HE.out⟩
  have e1 : decide ((n : Int) < 1) = false := decide_eq_false (by omega)
  have e2 : decide ((8 : Int) < (n : Int)) = false := decide_eq_false (by omega)
  have h8 : n ≤ 8 := by omega
  by_cases c2 : post.length ≠ n ∨ rel.length ≠ a
  · have HQ := HNE.out
    rw [if_neg c1, if_pos (by rcases c2 with h | h; exact .inl h; exact .inr (.inl h))] at HQ
    have HQ := Lib.hid HQ
    by_cases d1 : post.length = n
    · have q1 : ((post.length : Int) != (n : Int)) = false := by rw [d1]; simp
      have q2 : ((rel.length : Int) != (a : Int)) = true := by
        have h : rel.length ≠ a := by omega
        rw [bne_iff_ne]; omega
      clear c1 c2 d1
      go_enter Tryd.func55, Tryd.ntmps55
      go_wp2_with fail
      go_ret
      exact ⟨by rw [HQ.out]; rfl, HE.out⟩
    · have q1 : ((post.length : Int) != (n : Int)) = true := by rw [bne_iff_ne]; omega
      clear c1 c2 d1
      go_enter Tryd.func55, Tryd.ntmps55
      go_wp2_with fail
      go_ret
      exact ⟨by rw [HQ.out]; rfl, HE.out⟩
  have q1 : ((post.length : Int) != (n : Int)) = false := by
    have h : post.length = n := by omega
    rw [h]; simp
  have q2 : ((rel.length : Int) != (a : Int)) = false := by
    have h : rel.length = a := by omega
    rw [h]; simp
  have HQ1 := HNE.out
  rw [if_neg c1] at HQ1
  have hc2 : (post.length ≠ n ∨ rel.length ≠ a ∨ rel.any (fun r => r.length != n) = true) ↔ rel.any (fun r => r.length != n) = true := by
    constructor
    · rintro (h | h | h)
      · exact absurd (.inl h) c2
      · exact absurd (.inr h) c2
      · exact h
    · exact fun h => .inr (.inr h)
  simp only [hc2] at HQ1
  have HQ1 := Lib.hid HQ1
  clear c1 c2 hc2 HNE
  obtain ⟨p0, p1, p2, -⟩ := HO.out
  have pl := World.block_lt_of_cell? _ _ p0
  have b0 := HB.out.c
  have bl := HB.out.lt
  dsimp only at pl
  have HCF := Lib.hid (containsFunc_g 93 [.pointer (some ⟨w.heap.size + 1, 0, none⟩)] (fun r => r.length != n) ra rel rc _ HR.out cf_shape1 (fun W a2 s c' e hs => (shape1_any a2 s c' (w.heap.size + 1) n W (HB.out.ext e).c).mono fun _ _ h => ⟨h.1, h.2 ▸ Ext.refl _⟩))
  go_enter Tryd.func55, Tryd.ntmps55
  go_wp2_with fail
  generalize (w.alloc (.cells #[.slice pa n pc, .slice qa post.length qc, .slice ra rel.length rc] 45)).alloc (.cells #[.int .i64 (n : Int)] 3) = w2 at *
  refine HCF.out.mono ?_
  rintro _ w3 ⟨rfl, hE3⟩
  have HE3 := Lib.hid hE3
  clear o0 o1 o2 ol1 p0 p1 p2 pl b0 bl HCF hE3
  obtain ⟨p0, p1, p2, -⟩ := HO.out.ext HE3.out
  have pl := World.block_lt_of_cell? _ _ p0
  dsimp only at pl ⊢
  cases hb : rel.any (fun r => r.length != n)
  rotate_left
  · have HQ : Hid (shErr ⟨pre, post, rel⟩ a = 3) := Lib.hid (by rw [HQ1.out, hb]; rfl)
    clear hb
    go_wp2_with fail
    go_ret
    exact ⟨by rw [HQ.out]; rfl, HE.out.trans HE3.out⟩
  have HQ2 : Hid (shErr ⟨pre, post, rel⟩ a = if rel.any (fun r => outL n r) = true then 2 else 0) := Lib.hid (by rw [HQ1.out, hb]; rfl)
  clear hb HQ1
  go_wp2_with fail
  clear p0 p1 p2 pl
  go_loopw [40] (fun i wr => ∃ k : Nat, k ≤ rel.length ∧ i = .int .i64 (k : Int) ∧ Hid (Ext w3 wr) ∧ Hid (∀ j, j < k → outL n (nth rel j) = false)) (fun i _ => rel.length - (RowKit.intOf i).toNat)
  case atStart => exact ⟨0, Nat.zero_le _, rfl, Lib.hid (Ext.refl _), Lib.hid fun _ h => absurd h (Nat.not_lt_zero _)⟩
  case round =>
    obtain ⟨k, hk, rfl, HX, HNO⟩ := hrel
    by_cases hkl : k < rel.length
    · obtain ⟨b1, f1, a1, c1, rfl, hb1, hc1, hu1⟩ := (HR.out.ext (HE3.out.trans HX.out)).get hkl
      have HU := Lib.hid hu1
      have hul := hu1.len
      clear hu1
      have HNK : Hid (nth rel k = nth rel k) := Lib.hid rfl
      generalize hnr : nth rel k = r at *
      have HNR := Lib.hid hnr
      clear hnr HNK
      go_wp2_with fail
      go_loopw [46] (fun i wz => ∃ j : Nat, j ≤ r.length ∧ i = .int .i64 (j : Int) ∧ Hid (Ext wr wz) ∧ Hid (∀ i, i < j → outOne n (nth r i) = false)) (fun i _ => r.length - (RowKit.intOf i).toNat)
      case atStart => exact ⟨0, Nat.zero_le _, rfl, Lib.hid (Ext.refl _), Lib.hid fun _ h => absurd h (Nat.not_lt_zero _)⟩
      case round =>
        rename World => wz
        obtain ⟨j, hj, rfl, HZ, HNZ⟩ := hrel
        have b0 := (HB.out.ext (HE3.out.trans (HX.out.trans HZ.out))).c
        have bl := (HB.out.ext (HE3.out.trans (HX.out.trans HZ.out))).lt
        by_cases hjr : j < r.length
        · obtain ⟨b2, f2, rfl, hb2, hc2⟩ := (HU.out.ext HZ.out).get hjr
          have HLE := Lib.hid (bitLen_le (nth r j) n (by omega))
          generalize hbb : outOne n (nth r j) = bb at *
          have hbl : decide ((n : Int) < (Lib.bitLen (nth r j).toNat : Int)) = bb := HLE.out
          have HBB := Lib.hid hbb
          have HRN := Lib.hid (len64_any (nth r j))
          clear hbb HLE
          generalize Lib.bitLen (nth r j).toNat = q at *
          generalize hX : nth r j = X at *
          have HXX := Lib.hid hX
          clear hX
          have hbn : decide (n < q) = bb := by rw [← hbl]; simp
          cases bb
          · have hnq : ¬ n < q := of_decide_eq_false hbn
            go_wp2_with fail
            go_quiet ((go_at_call 94; exact Calls.quiet_of_same ((HRN.out _).mono fun _ _ h => ⟨h.1, h.2.symm⟩)))
            go_wp2_with fail
            go_roundw
            case rel => exact ⟨j + 1, hjr, by go_num, Lib.hid (HZ.out.drewN _), Lib.hid (lt_step HNZ.out (by rw [HXX.out]; exact HBB.out))⟩
            case measure => simp [RowKit.intOf]; omega
          · have hnq : n < q := of_decide_eq_true hbn
            have HQ : Hid (shErr ⟨pre, post, rel⟩ a = 2) := Lib.hid (by
              rw [HQ2.out, any_yes (k := k) hkl (by
                show outL n (nth rel k) = true
                rw [HNR.out]
                exact any_yes hjr (by rw [HXX.out]; exact HBB.out))]
              rfl)
            go_wp2_with fail
            go_quiet ((go_at_call 94; exact Calls.quiet_of_same ((HRN.out _).mono fun _ _ h => ⟨h.1, h.2.symm⟩)))
            go_wp2_with fail
            go_ret
            exact ⟨by rw [HQ.out]; rfl, HE.out.trans (HE3.out.trans (HX.out.trans (HZ.out.drewN _)))⟩
        · have hrow : outL n (nth rel k) = false := by
            rw [HNR.out]
            exact any_no fun i hi => HNZ.out i (by omega)
          have HRO := Lib.hid hrow
          clear hrow
          go_wp2_with fail
          go_roundw
          case rel => exact ⟨k + 1, hkl, by go_num, Lib.hid (HX.out.trans HZ.out), Lib.hid (lt_step HNO.out HRO.out)⟩
          case measure => simp [RowKit.intOf]; omega
    · have HQ : Hid (shErr ⟨pre, post, rel⟩ a = 0) := Lib.hid (by
        rw [HQ2.out, any_no (fun j hj => HNO.out j (by omega))]
        rfl)
      go_wp2_with fail
      go_ret
      exact ⟨by rw [HQ.out]; rfl, HE.out.trans (HE3.out.trans HX.out)⟩
/-- The error of the events from number k on. -/
def evErr (a n : Nat) : List (List Nd) → List (List Asn) → Int
  | [], _ => 0
  | f :: l, m => if stErr f a n ≠ 0 then stErr f a n else if chErr a n (m.headD []) (-1) ≠ 0 then chErr a n (m.headD []) (-1) else evErr a n l m.tail
def acErr (A : Acn) (a n : Nat) : Int :=
  if 4 < a ∨ 8 < n then 2 else if shErr A a ≠ 0 then shErr A a else evErr a n A.pre A.post
theorem shErr_ok {A : Acn} {a : Nat} (h : shErr A a = 0) : 1 ≤ A.pre.length ∧ A.pre.length ≤ 8 ∧ A.post.length = A.pre.length ∧ A.rel.length = a ∧ (∀ r ∈ A.rel, r.length = A.pre.length ∧ outL A.pre.length r = false) := by
  unfold shErr at h
  split at h
  · cases h
  · next c1 =>
    split at h
    · cases h
    · next c2 =>
      split at h
      · cases h
      · next c3 =>
        simp only [not_or, ne_eq, Decidable.not_not, Bool.not_eq_true, List.any_eq_false] at c1 c2 c3
        exact ⟨by omega, by omega, c2.1, c2.2.1, fun r hr => ⟨by have := c2.2.2 r hr; simpa using this, by have := c3 r hr; simpa using this⟩⟩
theorem headD_drop {α : Type} [Inhabited α] {l : List (List α)} {k : Nat} (h : k < l.length) : (l.drop k).headD [] = nth l k := by
  rw [drop_cons h]; rfl
set_option maxRecDepth 20000 in
set_option maxHeartbeats 8000000 in
theorem acheck_any (A : Acn) (pa qa ra : Option Addr) (pc qc rc a n : Nat) (w : World) (ha : RAc w pa qa ra A) :
    Calls Tryd.prog 22 #[.agg #[.slice pa A.pre.length pc, .slice qa A.post.length qc, .slice ra A.rel.length rc], .int .i64 (a : Int), .int .i64 (n : Int)] w fun e w' => e = .returned (.int .i64 (acErr A a n)) ∧ Ext w w' := by
  have hpl := ha.pre.len
  have hE0 : Ext w (w.alloc (.cells #[.slice pa A.pre.length pc, .slice qa A.post.length qc, .slice ra A.rel.length rc] 45)) := (Ext.refl w).alloc _
  have HO := Lib.hid (OutAt.new w (.slice pa A.pre.length pc) (.slice qa A.post.length qc) (.slice ra A.rel.length rc) 45)
  have HE := Lib.hid hE0
  have HA := Lib.hid (ha.ext hE0)
  clear ha hE0
  obtain ⟨o0, o1, o2, -⟩ := HO.out
  have ol := World.block_lt_of_cell? _ _ o0
  dsimp only at ol
  have z1 : decide ((a : Int) < 0) = false := decide_eq_false (by omega)
  have z2 : decide ((n : Int) < 0) = false := decide_eq_false (by omega)
  by_cases c1 : 4 < a ∨ 8 < n
  · have HQ : Hid (acErr A a n = 2) := Lib.hid (if_pos c1)
    by_cases d1 : 4 < a
    · have e1 : decide ((4 : Int) < (a : Int)) = true := decide_eq_true (by omega)
      clear c1 d1
      go_enter Tryd.func22, Tryd.ntmps22
      go_wp2_with fail
      go_ret
      exact ⟨by rw [HQ.out]; rfl, HE.out⟩
    · have e1 : decide ((4 : Int) < (a : Int)) = false := decide_eq_false (by omega)
      have e2 : decide ((8 : Int) < (n : Int)) = true := decide_eq_true (by omega)
      clear c1 d1
      go_enter Tryd.func22, Tryd.ntmps22
      go_wp2_with fail
      go_ret
      exact ⟨by rw [HQ.out]; rfl, HE.out⟩
  have e1 : decide ((4 : Int) < (a : Int)) = false := decide_eq_false (by omega)
  have e2 : decide ((8 : Int) < (n : Int)) = false := decide_eq_false (by omega)
  have HNE : Hid (acErr A a n = if shErr A a ≠ 0 then shErr A a else evErr a n A.pre A.post) := Lib.hid (if_neg c1)
  have ha4 : a ≤ 4 := by omega
  have hn8 : n ≤ 8 := by omega
  clear c1
  have HSH := Lib.hid (shape_any A pa qa ra pc qc rc a _ HA.out)
  by_cases c2 : shErr A a = 0
  rotate_left
  · have HQ : Hid (acErr A a n = shErr A a) := Lib.hid (by rw [HNE.out, if_pos c2])
    have q1 : (shErr A a != 0) = true := by simpa using c2
    clear c2 HNE
    go_enter Tryd.func22, Tryd.ntmps22
    go_wp2_with fail
    refine HSH.out.mono ?_
    rintro _ w1 ⟨rfl, hE1⟩
    generalize shErr A a = er at *
    dsimp only
    go_wp2_with fail
    go_ret
    exact ⟨by rw [HQ.out]; rfl, HE.out.trans hE1⟩
  rw [c2] at HSH
  obtain ⟨-, hp8, hqp, hra, -⟩ := shErr_ok c2
  have HNE2 : Hid (acErr A a n = evErr a n A.pre A.post) := Lib.hid (by rw [HNE.out, if_neg (by simp [c2])])
  have HQP := Lib.hid hqp
  clear c2 HNE hqp hra
  go_enter Tryd.func22, Tryd.ntmps22
  go_wp2_with fail
  generalize w.alloc (.cells #[.slice pa A.pre.length pc, .slice qa A.post.length qc, .slice ra A.rel.length rc] 45) = w0 at *
  refine HSH.out.mono ?_
  rintro _ w1 ⟨rfl, hE1⟩
  have HE1 := Lib.hid hE1
  clear o0 o1 o2 ol HSH hE1
  obtain ⟨o0, o1, o2, -⟩ := HO.out.ext HE1.out
  have ol := World.block_lt_of_cell? _ _ o0
  dsimp only at ol ⊢
  go_wp2_with fail
  clear o0 o1 o2 ol
  go_loopw [35] (fun i wr => ∃ k : Nat, k ≤ A.pre.length ∧ i = .int .i64 (k : Int) ∧ Hid (Ext w1 wr) ∧ Hid (evErr a n (A.pre.drop k) (A.post.drop k) = evErr a n A.pre A.post)) (fun i _ => A.pre.length - (RowKit.intOf i).toNat)
  case atStart => exact ⟨0, Nat.zero_le _, rfl, Lib.hid (Ext.refl _), Lib.hid rfl⟩
  case round =>
    obtain ⟨k, hk, rfl, HX, HC⟩ := hrel
    by_cases hkl : k < A.pre.length
    · have HX0 := Lib.hid (HE1.out.trans HX.out)
      obtain ⟨b1, f1, a1, c1, h1, hb1, hc1, hn1⟩ := (HA.out.pre.ext HX0.out).get k hkl
      obtain ⟨b2, f2, a2, c2, h2, hb2, hc2, hs2⟩ := (HA.out.post.ext HX0.out).get k (by rw [HQP.out]; exact hkl)
      obtain ⟨o0, o1, o2, -⟩ := HO.out.ext HX0.out
      have ol := World.block_lt_of_cell? _ _ o0
      have hkp : k < A.post.length := by rw [HQP.out]; exact hkl
      dsimp only at ol
      have HCC : evErr a n (nth A.pre k :: A.pre.drop (k + 1)) (nth A.post k :: A.post.drop (k + 1)) = evErr a n A.pre A.post := by
        rw [← drop_cons hkl, ← drop_cons (by rw [HQP.out]; exact hkl)]
        exact HC.out
      change (if stErr (nth A.pre k) a n ≠ 0 then stErr (nth A.pre k) a n else if chErr a n (nth A.post k) (-1) ≠ 0 then chErr a n (nth A.post k) (-1) else evErr a n (A.pre.drop (k + 1)) (A.post.drop (k + 1))) = _ at HCC
      subst h1
      subst h2
      have HN1 := Lib.hid hn1
      have HS2 := Lib.hid hs2
      clear hn1 hs2
      generalize nth A.pre k = f at *
      generalize nth A.post k = m at *
      have HST := Lib.hid (static_any a1 c1 f a n wr HN1.out)
      by_cases c3 : stErr f a n = 0
      rotate_left
      · rw [if_pos c3] at HCC
        have HQ := Lib.hid HCC
        have q1 : (stErr f a n != 0) = true := by simpa using c3
        clear HCC c3
        go_wp2_with fail
        refine HST.out.mono ?_
        rintro _ w3 ⟨rfl, hE3⟩
        generalize stErr f a n = er at *
        dsimp only
        go_wp2_with fail
        go_ret
        exact ⟨by rw [HNE2.out, ← HQ.out]; rfl, HE.out.trans (HX0.out.trans hE3)⟩
      rw [if_neg (by simp [c3])] at HCC
      rw [c3] at HST
      clear c3
      have HCH : Hid (∀ W, Ext wr W → Calls Tryd.prog 57 #[.slice a2 m.length c2, .int .i64 (a : Int), .int .i64 (n : Int)] W fun e w' => e = .returned (.int .i64 (chErr a n m (-1))) ∧ Ext W w') := Lib.hid fun W e => changes_any a2 c2 m a n W (HS2.out.ext e)
      by_cases c4 : chErr a n m (-1) = 0
      rotate_left
      · rw [if_pos c4] at HCC
        have HQ := Lib.hid HCC
        have q1 : (chErr a n m (-1) != 0) = true := by simpa using c4
        clear HCC c4
        generalize chErr a n m (-1) = er at *
        go_wp2_with fail
        refine HST.out.mono ?_
        rintro _ w3 ⟨rfl, hE3⟩
        have HE3 := Lib.hid hE3
        have p0 := hE3.cell o0
        have p1 := hE3.cell o1
        have p2 := hE3.cell o2
        have pc2 := hE3.cell hc2
        have pl := World.block_lt_of_cell? _ _ p0
        have pb := World.block_lt_of_cell? _ _ pc2
        dsimp only at pl pb ⊢
        clear hE3
        go_wp2_with fail
        refine (HCH.out _ HE3.out).mono ?_
        rintro _ w4 ⟨rfl, hE4⟩
        dsimp only
        go_wp2_with fail
        go_ret
        exact ⟨by rw [HNE2.out, ← HQ.out]; rfl, HE.out.trans (HX0.out.trans (HE3.out.trans hE4))⟩
      · rw [if_neg (by simp [c4])] at HCC
        rw [c4] at HCH
        have HQ := Lib.hid HCC
        clear HCC c4
        go_wp2_with fail
        refine HST.out.mono ?_
        rintro _ w3 ⟨rfl, hE3⟩
        have HE3 := Lib.hid hE3
        have p0 := hE3.cell o0
        have p1 := hE3.cell o1
        have p2 := hE3.cell o2
        have pc2 := hE3.cell hc2
        have pl := World.block_lt_of_cell? _ _ p0
        have pb := World.block_lt_of_cell? _ _ pc2
        dsimp only at pl pb ⊢
        clear hE3
        go_wp2_with fail
        refine (HCH.out _ HE3.out).mono ?_
        rintro _ w4 ⟨rfl, hE4⟩
        have HE4 := Lib.hid (HX.out.trans (HE3.out.trans hE4))
        clear o0 o1 o2 ol p0 p1 p2 pc2 pl pb hc1 hc2 hE4
        dsimp only
        go_wp2_with fail
        go_roundw
        case rel => exact ⟨k + 1, hkl, by go_num, HE4, HQ⟩
        case measure => simp [RowKit.intOf]; omega
    · have HQ : Hid (evErr a n A.pre A.post = 0) := Lib.hid (by rw [← HC.out, List.drop_eq_nil_of_le (by omega)]; rfl)
      go_wp2_with fail
      go_ret
      exact ⟨by rw [HNE2.out, HQ.out]; rfl, HE.out.trans (HE1.out.trans HX.out)⟩
end Wt
