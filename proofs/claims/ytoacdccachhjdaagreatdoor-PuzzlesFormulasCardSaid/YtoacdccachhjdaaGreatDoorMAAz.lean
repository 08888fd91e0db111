/- Walks: frames.Properties, frames.Has, frames.In, over contracts of relation.Has. -/
import Derived.Test.YtoacdccachhjdaaGreatDoorMAAx
import Derived.Test.YtoacdccachhjdaaGreatDoorMAAy
import Derived.Lib.SlicesCompact
import Derived.Test.YtoacdccachhjdaaGreatDoorMAAe
namespace Wt
open Go Go.RowKit Go.Maps Go.Proofs Fm

theorem RI.lit9 (w : World) (l : List Int) (cs : Array Value) (T : Nat) (h : cs = (l.map iv).toArray) (hl : l.length ≤ 1000) : RI (w.alloc (.cells cs T)) (some ⟨w.heap.size, 0, none⟩) l := by
  subst h
  refine ⟨by omega, fun k hk => ⟨w.heap.size, 0, rfl, ?_⟩⟩
  simp [iv, hk, nth_eq l k hk]
/-- The properties of a logic, and the error where there is none. -/
def propsL (g : Int) : List Int := if g = 0 then [] else if g = 1 then [1] else if g = 2 then [2] else if g = 3 then [4] else if g = 4 then [2, 4] else if g = 5 then [1, 4, 5] else if g = 6 then [2, 4, 5] else []
def propsE (g : Int) : Int := if g = 0 ∨ g = 1 ∨ g = 2 ∨ g = 3 ∨ g = 4 ∨ g = 5 ∨ g = 6 then 0 else 1
def frHas (r : List (BitVec 64)) (g : Int) : Bool := propsE g == 0 && relCheck r == 0 && (propsL g).all fun p => hasB r p
def frIn (M : Mo) (g : Int) : Bool := propsE g == 0 && moCheck M == 0 && M.rel.all fun r => frHas r g
def RetPr (g : Int) (e : Ending) (w w' : World) : Prop := ∃ a c, e = .returned (.tuple #[.slice a (propsL g).length c, .int .i64 (propsE g)]) ∧ RI w' a (propsL g) ∧ Ext w w'
set_option maxRecDepth 20000 in
set_option maxHeartbeats 4000000 in
theorem props_any (g : Int) (w : World) : Calls Tryz.prog 95 #[.int .i64 g] w fun e w' => RetPr g e w w' := by
  by_cases h0 : g = 0
  · subst h0
    go_enter Tryz.func95, Tryz.ntmps95
    go_wp2
    go_ret2
    exact ⟨none, 0, rfl, RI.nil _ _, Ext.refl _⟩
  by_cases h1 : g = 1
  · subst h1
    go_enter Tryz.func95, Tryz.ntmps95
    go_wp2
    go_ret2
    exact ⟨some ⟨w.heap.size, 0, none⟩, 1, rfl, RI.lit9 w [1] #[.int .i64 1] _ rfl (by decide), (Ext.refl _).alloc _⟩
  by_cases h2 : g = 2
  · subst h2
    go_enter Tryz.func95, Tryz.ntmps95
    go_wp2
    go_ret2
    exact ⟨some ⟨w.heap.size, 0, none⟩, 1, rfl, RI.lit9 w [2] #[.int .i64 2] _ rfl (by decide), (Ext.refl _).alloc _⟩
  by_cases h3 : g = 3
  · subst h3
    go_enter Tryz.func95, Tryz.ntmps95
    go_wp2
    go_ret2
    exact ⟨some ⟨w.heap.size, 0, none⟩, 1, rfl, RI.lit9 w [4] #[.int .i64 4] _ rfl (by decide), (Ext.refl _).alloc _⟩
  by_cases h4 : g = 4
  · subst h4
    go_enter Tryz.func95, Tryz.ntmps95
    go_wp2
    go_ret2
    exact ⟨some ⟨w.heap.size, 0, none⟩, 2, rfl, RI.lit9 w [2, 4] #[.int .i64 2, .int .i64 4] _ rfl (by decide), (Ext.refl _).alloc _⟩
  by_cases h5 : g = 5
  · subst h5
    go_enter Tryz.func95, Tryz.ntmps95
    go_wp2
    go_ret2
    exact ⟨some ⟨w.heap.size, 0, none⟩, 3, rfl, RI.lit9 w [1, 4, 5] #[.int .i64 1, .int .i64 4, .int .i64 5] _ rfl (by decide), (Ext.refl _).alloc _⟩
  by_cases h6 : g = 6
  · subst h6
    go_enter Tryz.func95, Tryz.ntmps95
    go_wp2
    go_ret2
    exact ⟨some ⟨w.heap.size, 0, none⟩, 3, rfl, RI.lit9 w [2, 4, 5] #[.int .i64 2, .int .i64 4, .int .i64 5] _ rfl (by decide), (Ext.refl _).alloc _⟩
  have e1 : propsL g = [] := by simp [propsL, h0, h1, h2, h3, h4, h5, h6]
  have e2 : propsE g = 1 := by simp [propsE, h0, h1, h2, h3, h4, h5, h6]
  have q0 : (g == 0) = false := by simpa using h0
  have q1 : (g == 1) = false := by simpa using h1
  have q2 : (g == 2) = false := by simpa using h2
  have q3 : (g == 3) = false := by simpa using h3
  have q4 : (g == 4) = false := by simpa using h4
  have q5 : (g == 5) = false := by simpa using h5
  have q6 : (g == 6) = false := by simpa using h6
  unfold RetPr
  rw [e1, e2]
  clear h0 h1 h2 h3 h4 h5 h6 e1 e2
  go_enter Tryz.func95, Tryz.ntmps95
  go_wp2
  go_ret2
  exact ⟨none, 0, rfl, RI.nil _ _, Ext.refl _⟩
set_option maxHeartbeats 1000000 in
theorem indexFunc_i (F : Nat) (caps : List Value) (p : Int → Bool) (a : Option Addr) (l : List Int) (cap : Nat) (w : World) (hr : RI w a l)
    (hF : ∀ args W, (callFunc F args).run Tryz.prog W = .ok (.enter F args) W)
    (hp : ∀ W k, Ext w W → k < l.length → Calls Tryz.prog F (.int .i64 (nth l k) :: caps).toArray W fun e w' => e = .returned (.bool (p (nth l k))) ∧ Ext W w') :
    Calls Tryz.prog 100 #[.slice a l.length cap, .func (.func F) #[] caps.toArray] w fun e w' => (∃ i : Int, e = .returned (.int .i64 i) ∧ decide (0 ≤ i) = l.any p) ∧ Ext w w' := by
  have hl := hr.len
  have Hp := Lib.hid hp
  clear hp
  go_enter Tryz.func100, Tryz.ntmps100
  go_wp2
  go_loopw [8] (fun i wr => ∃ k : Nat, k ≤ l.length ∧ i = .int .i64 k ∧ Ext w wr ∧ Hid (∀ j, j < k → p (nth l j) = false)) (fun i _ => l.length - (RowKit.intOf i).toNat)
  case atStart => exact ⟨0, Nat.zero_le _, rfl, Ext.refl _, fun _ h => absurd h (Nat.not_lt_zero _)⟩
  case round =>
    obtain ⟨k, hk, rfl, hE, hno⟩ := hrel
    by_cases hlt : k < l.length
    · obtain ⟨b, off, rfl, hb, hc⟩ := (hr.ext hE).get hlt
      have HC := Lib.hid (Hp.out wr k hE hlt)
      have hHx : Hid (∀ b, p (nth l k) = b → p (nth l k) = b) := Lib.hid fun _ h => h
      go_wp2_with fail
      refine HC.out.mono ?_
      rintro e w1 ⟨rfl, hE1⟩
      cases hb : p (nth l k)
      all_goals have Hb := Lib.hid hb; clear hb
      · go_wp2
        go_roundw
        case rel => exact ⟨k + 1, hlt, by go_num, hE.trans hE1, lt_step hno Hb.out⟩
        case measure => simp [RowKit.intOf]; omega
      · go_wp2
        go_ret
        exact ⟨⟨k, rfl, by rw [any_yes hlt Hb.out]; simp⟩, hE.trans hE1⟩
    · go_wp2
      go_ret
      exact ⟨⟨-1, rfl, by rw [any_no (fun j hj => hno j (by omega))]; rfl⟩, hE⟩
set_option maxHeartbeats 1000000 in
theorem containsFunc_i (F : Nat) (caps : List Value) (p : Int → Bool) (a : Option Addr) (l : List Int) (cap : Nat) (w : World) (hr : RI w a l)
    (hF : ∀ args W, (callFunc F args).run Tryz.prog W = .ok (.enter F args) W)
    (hp : ∀ W k, Ext w W → k < l.length → Calls Tryz.prog F (.int .i64 (nth l k) :: caps).toArray W fun e w' => e = .returned (.bool (p (nth l k))) ∧ Ext W w') :
    Calls Tryz.prog 51 #[.slice a l.length cap, .func (.func F) #[] caps.toArray] w fun e w' => e = .returned (.bool (l.any p)) ∧ Ext w w' := by
  have Hi := Lib.hid (indexFunc_i F caps p a l cap w hr hF hp)
  clear hF hp
  go_enter Tryz.func51, Tryz.ntmps51
  go_wp2_with (go_at_call 100; refine (Hi.out).mono ?_; rintro e w1 ⟨⟨i, rfl, hi⟩, hE⟩; have HI := Lib.hid hi; clear hi)
  go_ret
  exact ⟨by rw [← HI.out]; simp, hE⟩
theorem cf_frHas1 (args : Array Value) (W : World) : (callFunc 141 args).run Tryz.prog W = .ok (.enter 141 args) W := by
  simp [callFunc, Tryz.func141, Tryz.f141]
theorem cf_frIn1 (args : Array Value) (W : World) : (callFunc 97 args).run Tryz.prog W = .ok (.enter 97 args) W := by
  simp [callFunc, Tryz.func97, Tryz.f97]
/-- A contract of relation.Has at a property. -/
def HasAt (p : Int) : Prop := ∀ (r : List (BitVec 64)) (a : Option Addr) (c : Nat) (W : World), Tab W → RU W a r → Calls Tryz.prog 142 #[.slice a r.length c, .int .i64 p] W fun e w' => e = .returned (.bool (hasB r p)) ∧ Ext W w'
set_option maxHeartbeats 1000000 in
theorem frHas1_any (p : Int) (hp : HasAt p) (r : List (BitVec 64)) (a : Option Addr) (c b : Nat) (w : World) (hT : Tab w) (hr : RU w a r) (hb : Bx1 w b (.slice a r.length c)) :
    Calls Tryz.prog 141 #[.int .i64 p, .pointer (some ⟨b, 0, none⟩)] w fun e w' => e = .returned (.bool (!hasB r p)) ∧ Ext w w' := by
  have H := Lib.hid (hp r a c w hT hr)
  obtain ⟨b0, -⟩ := hb
  have bl := World.block_lt_of_cell? _ _ b0
  clear hp hT hr
  go_enter Tryz.func141, Tryz.ntmps141
  go_wp2_with (go_at_call 142; refine H.out.mono ?_; rintro _ w1 ⟨rfl, hE⟩)
  go_ret
  exact ⟨rfl, hE⟩
theorem not_any_not (l : List Int) (f : Int → Bool) : (!l.any fun p => !f p) = l.all f := by
  induction l with
  | nil => rfl
  | cons x l ih => simp only [List.any_cons, List.all_cons, Bool.not_or, Bool.not_not, ih]
theorem not_any_notR (l : List (List (BitVec 64))) (f : List (BitVec 64) → Bool) : (!l.any fun p => !f p) = l.all f := by
  induction l with
  | nil => rfl
  | cons x l ih => simp only [List.any_cons, List.all_cons, Bool.not_or, Bool.not_not, ih]
set_option maxRecDepth 20000 in
set_option maxHeartbeats 2000000 in
theorem frHas_any (g : Int) (hh : ∀ p, p ∈ propsL g → HasAt p) (r : List (BitVec 64)) (a : Option Addr) (c : Nat) (w : World) (hT : Tab w) (hr : RU w a r) :
    Calls Tryz.prog 98 #[.slice a r.length c, .int .i64 g] w fun e w' => e = .returned (.bool (frHas r g)) ∧ Ext w w' := by
  have hE0 : Ext w (w.alloc (.cells #[.slice a r.length c] 25)) := (Ext.refl w).alloc _
  have hb0 := Bx1.new w (.slice a r.length c) 25
  have HE := Lib.hid hE0
  have HT := Lib.hid (hT.ext hE0)
  have HR := Lib.hid (hr.ext hE0)
  have HB := Lib.hid hb0
  have HH := Lib.hid hh
  have hln := hr.len
  clear hE0 hT hr hb0 hh
  have HCK : Hid (∀ W, RU W a r → Calls Tryz.prog 140 #[.int .i64 (r.length : Int), .slice a r.length c] W fun e w' => e = .returned (.int .i64 (relCheck r)) ∧ W = w') := Lib.hid fun W h => relCheck_any a r c W h
  go_enter Tryz.func98, Tryz.ntmps98
  go_wp2_with fail
  generalize w.alloc (.cells #[.slice a r.length c] 25) = w0 at *
  refine (props_any g w0).mono ?_
  rintro _ w1 ⟨la, lc, rfl, hl, hE1⟩
  have HL := Lib.hid hl
  have HE1 := Lib.hid hE1
  have HB1 := Lib.hid (HB.out.ext hE1)
  have HT1 := Lib.hid (HT.out.ext hE1)
  have HR1 := Lib.hid (HR.out.ext hE1)
  clear hl hE1
  have hll := HL.out.len
  by_cases he : propsE g = 0
  · rw [he]
    obtain ⟨b0, -⟩ := HB1.out
    have bl := World.block_lt_of_cell? _ _ b0
    by_cases hck : relCheck r = 0
    · have HF : Hid (frHas r g = (propsL g).all fun p => hasB r p) := Lib.hid (by unfold frHas; rw [he, hck]; rfl)
      have HC1 := HCK.out _ HR1.out
      rw [hck] at HC1
      have HC2 := Lib.hid HC1
      clear HC1 hck he
      have HCF : Hid (∀ W, W = w1 → Calls Tryz.prog 51 #[.slice la (propsL g).length lc, .func (.func 141) #[] #[.pointer (some ⟨w.heap.size, 0, none⟩)]] W fun e w' => e = .returned (.bool ((propsL g).any fun p => !hasB r p)) ∧ Ext w1 w') := Lib.hid fun W hW => by
        subst hW
        exact containsFunc_i 141 [.pointer (some ⟨w.heap.size, 0, none⟩)] _ la (propsL g) lc W HL.out cf_frHas1 fun W2 k e hk => frHas1_any (nth (propsL g) k) (HH.out _ (nth_mem hk)) r a c w.heap.size W2 (HT1.out.ext e) (HR1.out.ext e) (HB1.out.ext e)
      dsimp only
      go_wp2_with (first | (go_at_call 140; refine HC2.out.mono ?_; rintro _ _ ⟨rfl, rfl⟩) | (go_at_call 51; refine (HCF.out _ rfl).mono ?_; rintro _ w2 ⟨rfl, hE2⟩))
      go_ret
      exact ⟨by rw [HF.out, ← not_any_not]; rfl, (HE.out.trans HE1.out).trans hE2⟩
    · have HF : Hid (frHas r g = false) := Lib.hid (by unfold frHas; rw [show (relCheck r == 0) = false by simpa using hck]; simp)
      have hq : (relCheck r != 0) = true := by simpa using hck
      have HC2 := Lib.hid (HCK.out _ HR1.out)
      clear hck he
      generalize relCheck r = er at *
      dsimp only
      go_wp2_with (go_at_call 140; refine HC2.out.mono ?_; rintro _ _ ⟨rfl, rfl⟩)
      go_ret
      exact ⟨by rw [HF.out]; rfl, HE.out.trans HE1.out⟩
  · have HF : Hid (frHas r g = false) := Lib.hid (by unfold frHas; rw [show (propsE g == 0) = false by simpa using he]; rfl)
    have hq : (propsE g != 0) = true := by simpa using he
    clear he
    generalize propsE g = er at *
    dsimp only
    go_wp2_with fail
    go_ret
    exact ⟨by rw [HF.out]; rfl, HE.out.trans HE1.out⟩
set_option maxHeartbeats 1000000 in
theorem frIn1_any (g : Int) (hh : ∀ p, p ∈ propsL g → HasAt p) (r : List (BitVec 64)) (a : Option Addr) (c b : Nat) (w : World) (hT : Tab w) (hr : RU w a r) (hb : Bx1 w b (.int .i64 g)) :
    Calls Tryz.prog 97 #[.slice a r.length c, .pointer (some ⟨b, 0, none⟩)] w fun e w' => e = .returned (.bool (!frHas r g)) ∧ Ext w w' := by
  have H := Lib.hid (frHas_any g hh r a c w hT hr)
  obtain ⟨b0, -⟩ := hb
  have bl := World.block_lt_of_cell? _ _ b0
  clear hh hT hr
  go_enter Tryz.func97, Tryz.ntmps97
  go_wp2_with (go_at_call 98; refine H.out.mono ?_; rintro _ w1 ⟨rfl, hE⟩)
  go_ret
  exact ⟨rfl, hE⟩
set_option maxRecDepth 20000 in
set_option maxHeartbeats 2000000 in
theorem frIn_any (g : Int) (hh : ∀ p, p ∈ propsL g → HasAt p) (M : Mo) (va ra : Option Addr) (vc rc : Nat) (w : World) (hT : Tab w) (hm : RM w va ra M) :
    Calls Tryz.prog 47 #[.agg #[.int .i64 M.worlds, .slice va M.val.length vc, .slice ra M.rel.length rc], .int .i64 g] w fun e w' => e = .returned (.bool (frIn M g)) ∧ Ext w w' := by
  have hE0 : Ext w ((w.alloc (.cells #[.int .i64 M.worlds, .slice va M.val.length vc, .slice ra M.rel.length rc] 28)).alloc (.cells #[.int .i64 g] 3)) := ((Ext.refl w).alloc _).alloc _
  have hbx := (MoBox.new w M.worlds M.val M.rel va vc ra rc 28).ext ((Ext.refl _).alloc (.cells #[.int .i64 g] 3))
  have hb0 := (Bx1.new (w.alloc (.cells #[.int .i64 M.worlds, .slice va M.val.length vc, .slice ra M.rel.length rc] 28)) (.int .i64 g) 3).at (b' := w.heap.size + 1) (by simp)
  have HE := Lib.hid hE0
  have HT := Lib.hid (hT.ext hE0)
  have HM := Lib.hid (hm.ext hE0)
  have HB := Lib.hid hbx
  have HG := Lib.hid hb0
  have HH := Lib.hid hh
  obtain ⟨b0, bf0⟩ := hb0
  have bl := World.block_lt_of_cell? _ _ b0
  clear hE0 hT hm hbx hh bf0
  go_enter Tryz.func47, Tryz.ntmps47
  go_wp2_with fail
  generalize (w.alloc (.cells #[.int .i64 M.worlds, .slice va M.val.length vc, .slice ra M.rel.length rc] 28)).alloc (.cells #[.int .i64 g] 3) = w0 at *
  refine (props_any g w0).mono ?_
  rintro _ w1 ⟨la, lc, rfl, hl, hE1⟩
  have HE1 := Lib.hid hE1
  have HB1 := Lib.hid (HB.out.ext hE1)
  have HM1 := Lib.hid (HM.out.ext hE1)
  have HT1 := Lib.hid (HT.out.ext hE1)
  have HG1 := Lib.hid (HG.out.ext hE1)
  clear hl hE1 b0 bl
  by_cases he : propsE g = 0
  · rw [he]
    obtain ⟨p0, p1, p2⟩ := HB1.out
    dsimp only at p0 p1 p2
    have pl := World.block_lt_of_cell? _ _ p0
    dsimp only at pl
    by_cases hck : moCheck M = 0
    · have HF : Hid (frIn M g = M.rel.all fun r => frHas r g) := Lib.hid (by unfold frIn; rw [he, hck]; rfl)
      have HC1 := modelCheck_any M va ra vc rc w1 HM1.out
      rw [hck] at HC1
      have HC2 := Lib.hid HC1
      clear HC1 hck he
      have HCF : Hid (∀ W, Ext w1 W → Calls Tryz.prog 96 #[.slice ra M.rel.length rc, .func (.func 97) #[] #[.pointer (some ⟨w.heap.size + 1, 0, none⟩)]] W fun e w' => e = .returned (.bool (M.rel.any fun r => !frHas r g)) ∧ Ext W w') := Lib.hid fun W eW =>
        containsFunc_g 97 [.pointer (some ⟨w.heap.size + 1, 0, none⟩)] _ ra M.rel rc W (HM1.out.rel.ext eW) cf_frIn1 fun W2 a s c e hu => frIn1_any g HH.out s a c (w.heap.size + 1) W2 (HT1.out.ext (eW.trans e)) hu (HG1.out.ext (eW.trans e))
      dsimp only
      go_wp2_with (first | (go_at_call 71; refine HC2.out.mono ?_; rintro _ w2 ⟨rfl, hE2⟩; obtain ⟨q0, q1, q2⟩ := HB1.out.ext hE2; have ql := World.block_lt_of_cell? _ _ q0; dsimp only at q0 q1 q2 ql) | (go_at_call 96; refine (HCF.out _ hE2).mono ?_; rintro _ w3 ⟨rfl, hE3⟩))
      go_ret
      exact ⟨by rw [HF.out, ← not_any_notR]; rfl, (HE.out.trans HE1.out).trans (hE2.trans hE3)⟩
    · have HF : Hid (frIn M g = false) := Lib.hid (by unfold frIn; rw [show (moCheck M == 0) = false by simpa using hck]; simp)
      have hq : (moCheck M == 0) = false := by simpa using hck
      have HC2 := Lib.hid (modelCheck_any M va ra vc rc w1 HM1.out)
      clear hck he
      generalize moCheck M = er at *
      dsimp only
      go_wp2_with (go_at_call 71; refine HC2.out.mono ?_; rintro _ w2 ⟨rfl, hE2⟩)
      go_ret
      exact ⟨by rw [HF.out]; rfl, (HE.out.trans HE1.out).trans hE2⟩
  · have HF : Hid (frIn M g = false) := Lib.hid (by unfold frIn; rw [show (propsE g == 0) = false by simpa using he]; rfl)
    have hq : (propsE g == 0) = false := by simpa using he
    clear he
    generalize propsE g = er at *
    dsimp only
    go_wp2_with fail
    go_ret
    exact ⟨by rw [HF.out]; rfl, HE.out.trans HE1.out⟩
end Wt

/- Leaving with marks; walk: relation.reversed. -/
namespace Wt
open Go Go.RowKit Go.Maps Go.Proofs Fm
attribute [local go_sem] Oper.semAt_some

/-- The mark of a range over a function among the deferred calls. -/
def markD (D : Nat) : Deferred := { target := .collected D, args := #[] }
/-- The marks' blocks are shut, nothing else has changed. -/
structure ShutD (Ds : List Nat) (W W' : World) : Prop where
  os : W'.os = W.os
  tape : W'.tape = W.tape
  output : W'.output = W.output
  size : W'.heap.size = W.heap.size
  block : ∀ k, k ∉ Ds → W'.heap[k]? = W.heap[k]?
theorem leaves_marks {F : Fence} {n : Nat} {P : Program} {fn : Func} {tmps : Array Value} {R : Ending → World → Prop} : ∀ (Ds : List Nat) (W : World), Ds.Nodup → (∀ D ∈ Ds, W.heap[D]? = some (.deferred (some []))) →
    (∀ W', ShutD Ds W W' → LeavesIn F n P fn tmps R [] .returning W') → LeavesInM F n P fn tmps R (Ds.map markD) .returning W
  | [], W, _, _, h => h W ⟨rfl, rfl, rfl, rfl, fun _ _ => rfl⟩
  | D :: Ds, W, hn, hD, h => by
    rw [List.nodup_cons] at hn
    refine ⟨by simp, .inl ⟨D, _, rfl, run_takeDeferred (hD D (by simp)), ?_⟩⟩
    refine leaves_marks Ds _ hn.2 (fun E hE => ?_) fun W' hs => h W' ?_
    · have hne : E ≠ D := fun e => hn.1 (e ▸ hE)
      rw [World.putObj_heap_other hne]
      exact hD E (by simp [hE])
    · refine ⟨hs.os, hs.tape, hs.output, by rw [hs.size]; simp [World.putObj], fun k hk => ?_⟩
      rw [hs.block k (fun h => hk (by simp [h])), World.putObj_heap_other (fun e => hk (by simp [e]))]
theorem ShutD.ext {Ds : List Nat} {w W W' : World} (h : ShutD Ds W W') (e : Ext w W) (hD : ∀ D ∈ Ds, w.heap.size ≤ D) : Ext w W' :=
  ⟨h.os.trans e.os, h.tape.trans e.tape, h.output.trans e.output, by rw [h.size]; exact e.size, fun k hk => (h.block k (fun hm => by have := hD k hm; omega)).trans (e.block k hk)⟩
/-! The reversed relation as it is filled. -/
def rvB (r : List (BitVec 64)) (k : Nat) (l : List Nat) (w v : Nat) : Bool := (decide (w < k) && bt (nth r w) v) || (decide (w = k) && decide (v ∈ l))
def rvL (r : List (BitVec 64)) (k : Nat) (l : List Nat) : List (BitVec 64) := (List.range r.length).map fun v => setTo (fun w => rvB r k l w v) r.length
theorem rvL_len (r : List (BitVec 64)) (k : Nat) (l : List Nat) : (rvL r k l).length = r.length := by simp [rvL]
theorem rvL_nth (r : List (BitVec 64)) (k : Nat) (l : List Nat) {v : Nat} (hv : v < r.length) : nth (rvL r k l) v = setTo (fun w => rvB r k l w v) r.length := nth_mapX _ hv
theorem rvL_ext {r : List (BitVec 64)} {k k' : Nat} {l l' : List Nat} (h : ∀ w v, w < r.length → v < r.length → rvB r k l w v = rvB r k' l' w v) : rvL r k l = rvL r k' l' := by
  refine nth_ext (by rw [rvL_len, rvL_len]) fun v hv => ?_
  rw [rvL_len] at hv
  rw [rvL_nth _ _ _ hv, rvL_nth _ _ _ hv]
  refine bt_ext fun j hj => ?_
  rw [bt_setTo _ hj, bt_setTo _ hj]
  by_cases hjl : j < r.length
  · rw [h j v hjl hv]
  · simp [hjl]
theorem rvL_step {r : List (BitVec 64)} {k v : Nat} {l : List Nat} (_h64 : r.length ≤ 64) (hk : k < r.length) (hv : v < r.length) : (rvL r k l).set v (nth (rvL r k l) v ||| 1#64 <<< k) = rvL r k (l ++ [v]) := by
  refine nth_ext (by rw [List.length_set, rvL_len, rvL_len]) fun u hu => ?_
  rw [List.length_set, rvL_len] at hu
  rw [nth_eq _ _ (by rw [List.length_set, rvL_len]; exact hu), List.getElem_set]
  by_cases e : v = u
  · subst e
    rw [if_pos rfl, rvL_nth _ _ _ hv, rvL_nth _ _ _ hv]
    refine bt_ext fun j hj => ?_
    rw [bt_or, bt_setTo _ hj, bt_setTo _ hj, bt_shl1]
    by_cases hjk : j = k
    · subst hjk
      simp [rvB, hj, hk]
    · simp [rvB, hjk]
  · rw [if_neg e, ← nth_eq _ _ (by rw [rvL_len]; exact hu), rvL_nth _ _ _ hu, rvL_nth _ _ _ hu]
    refine bt_ext fun j hj => ?_
    rw [bt_setTo _ hj, bt_setTo _ hj]
    have e2 : ¬ u = v := fun h => e h.symm
    simp [rvB, e2]
theorem rvL_next {r : List (BitVec 64)} {k : Nat} (h64 : r.length ≤ 64) : rvL r k (memL (nth r k)) = rvL r (k + 1) [] := rvL_ext fun w v hw hv => by
  unfold rvB
  by_cases h1 : w < k
  · have e1 : ¬ w = k := by omega
    have e2 : w < k + 1 := by omega
    simp [h1, e1, e2]
  · by_cases h2 : w = k
    · subst h2
      have hm : decide (v ∈ memL (nth r w)) = bt (nth r w) v := by
        rw [Bool.eq_iff_iff, decide_eq_true_iff, mem_memL]
        exact ⟨fun h => h.2, fun h => ⟨by omega, h⟩⟩
      simp [hm]
    · have e2 : ¬ w < k + 1 := by omega
      simp [h1, h2, e2]
theorem rvL_end (r : List (BitVec 64)) : rvL r r.length [] = revL r := by
  refine nth_ext (by simp [rvL, revL]) fun v hv => ?_
  rw [rvL_len] at hv
  rw [rvL_nth _ _ _ hv]
  unfold revL
  rw [nth_mapX _ hv]
  refine bt_ext fun j hj => ?_
  rw [bt_setTo _ hj, bt_setTo _ hj]
  by_cases hjl : j < r.length
  · simp [rvB, hjl]
  · simp [hjl]
theorem rvL_zero (r : List (BitVec 64)) : rvL r 0 [] = List.replicate r.length 0#64 := by
  refine nth_ext (by simp [rvL]) fun v hv => ?_
  rw [rvL_len] at hv
  rw [rvL_nth _ _ _ hv]
  have e : nth (List.replicate r.length 0#64) v = 0#64 := by rw [nth_eq _ _ (by simpa using hv)]; simp
  rw [e]
  refine bt_ext fun j hj => ?_
  rw [bt_setTo _ hj, bt_zero]
  simp [rvB]
/-- Between two rounds of the outer loop. -/
structure RvO (w : World) (r : List (BitVec 64)) (k : Nat) (l : List Nat) (Ds : List Nat) (W : World) : Prop where
  e : Ext w W
  row : OG W w.heap.size 63 uv w.heap.size r.length r.length (rvL r k l)
  ob : Bx1 W (w.heap.size + 1) (.slice (some ⟨w.heap.size, 0, none⟩) r.length r.length)
  dn : Ds.Nodup
  dl : ∀ D ∈ Ds, w.heap.size + 2 ≤ D ∧ W.heap[D]? = some (.deferred (some []))
theorem Bx1.keep {W W' : World} {b : Nat} {v : Value} (h : Bx1 W b v) (e : W'.heap[b]? = W.heap[b]?) : Bx1 W' b v :=
  ⟨(World.cell?_of_block e).trans h.c, (World.frozen?_of_block e).trans h.f⟩
theorem RvO.ext {w W W' : World} {r : List (BitVec 64)} {k : Nat} {l : List Nat} {Ds : List Nat} (h : RvO w r k l Ds W) (e : Ext W W') : RvO w r k l Ds W' :=
  ⟨h.e.trans e, h.row.ext e, h.ob.ext e, h.dn, fun D hD => ⟨(h.dl D hD).1, by rw [e.block D (Array.getElem?_eq_some_iff.1 (h.dl D hD).2).1]; exact (h.dl D hD).2⟩⟩
theorem RvO.grown {w W W' : World} {r : List (BitVec 64)} {k B : Nat} {l : List Nat} {Ds : List Nat} {row : Option Nat} (h : RvO w r k l Ds W) (g : W.grownBy W' row) (hr : ∀ r, row = some r → B ≤ r) (hB : w.heap.size + 1 < B) (hD : ∀ D ∈ Ds, D < B) : RvO w r k l Ds W' := by
  refine ⟨Below.grown h.e g h.e.size (fun j e => by have := hr j e; omega), ⟨h.row.len, h.row.row.kept g ?_⟩, h.ob.keep (g.block _ h.ob.lt (fun e => by have := hr _ e.symm; omega)), h.dn, fun D hD' => ⟨(h.dl D hD').1, ?_⟩⟩
  · right
    intro e
    have := hr w.heap.size (by rw [← e]; rfl)
    omega
  · rw [g.block D (Array.getElem?_eq_some_iff.1 (h.dl D hD').2).1 (fun e => by have := hr _ e.symm; have := hD D hD'; omega)]
    exact (h.dl D hD').2
theorem RvO.put {w W : World} {r : List (BitVec 64)} {k v : Nat} {l : List Nat} {Ds : List Nat} (h : RvO w r k l Ds W) (h64 : r.length ≤ 64) (hk : k < r.length) (hv : v < r.length) :
    RvO w r k (l ++ [v]) Ds (W.setCell ⟨w.heap.size, v, none⟩ (.int .u64 (un (nth (rvL r k l) v ||| 1#64 <<< k)))) := by
  have h2 := h.row.set v (nth (rvL r k l) v ||| 1#64 <<< k)
  rw [rvL_step h64 hk hv] at h2
  exact ⟨h.e.setCell (Nat.le_refl _) _, h2, h.ob.keep (heap_setCell_other _ ⟨w.heap.size, v, none⟩ _ _ (by simp)), h.dn, fun D hD => ⟨(h.dl D hD).1, by
    rw [heap_setCell_other _ ⟨w.heap.size, v, none⟩ _ _ (by have := (h.dl D hD).1; simp; omega)]; exact (h.dl D hD).2⟩⟩
theorem RvO.setBox {w W : World} {r : List (BitVec 64)} {k b : Nat} {l : List Nat} {Ds : List Nat} (h : RvO w r k l Ds W) (hb : w.heap.size + 1 < b) (hD : ∀ D ∈ Ds, D ≠ b) (v : Value) : RvO w r k l Ds (W.setCell ⟨b, 0, none⟩ v) :=
  ⟨h.e.setCell (by simp; omega) _, h.row.other 0 v (by omega), h.ob.keep (heap_setCell_other _ ⟨b, 0, none⟩ _ _ (by simp; omega)), h.dn, fun D hD' => ⟨(h.dl D hD').1, by
    rw [heap_setCell_other _ ⟨b, 0, none⟩ _ _ (hD D hD')]; exact (h.dl D hD').2⟩⟩
/-- Between two rounds of the inner one. -/
def RvI (w : World) (r : List (BitVec 64)) (k bw : Nat) (Ds : List Nat) (j : Nat) (W : World) : Prop := RvO w r k ((memL (nth r k)).take j) Ds W ∧ Bx1 W bw (.int .i64 (k : Int))
theorem RvI.own {w : World} {r : List (BitVec 64)} {k bw B : Nat} {Ds : List Nat} (hB : w.heap.size + 1 < B) (hb : bw < B) (hD : ∀ D ∈ Ds, D < B) : OwnFrom B (RvI w r k bw Ds) :=
  fun _ _ _ _ hs hg hr => ⟨hs.1.grown hg (fun r e => (hr r e).1) hB hD, hs.2.keep (hg.block _ hs.2.lt (fun e => by have := (hr _ e.symm).1; omega))⟩
theorem take_snoc {α : Type} [Inhabited α] (l : List α) {j : Nat} (h : j < l.length) : l.take (j + 1) = l.take j ++ [nth l j] := by
  rw [nth_eq _ _ h, List.take_add_one, List.getElem?_eq_getElem h]; rfl
theorem RvI_take {w W : World} {r : List (BitVec 64)} {k : Nat} {l m : List Nat} {Ds : List Nat} (h : l = m) : RvO w r k l Ds W = RvO w r k m Ds W := by rw [h]
set_option maxRecDepth 20000 in
set_option maxHeartbeats 8000000 in
theorem reversed_any (r : List (BitVec 64)) (a : Option Addr) (c : Nat) (w : World) (hT : Tab w) (hr : RU w a r) (hck : relCheck r = 0) :
    Calls Tryz.prog 171 #[.slice a r.length c] w fun e w' => (∃ g cp, e = .returned (.slice (some ⟨g, 0, none⟩) r.length cp) ∧ RU w' (some ⟨g, 0, none⟩) (revL r)) ∧ Ext w w' := by
  obtain ⟨h64, hin⟩ := relCheck_ok hck
  refine (callsIn_wide (n := 9)).1 ?_
  refine callsIn_of_wp_marks Tryz.func171 rfl trivial ?_ rfl
  simp only [Tryz.ntmps171, List.size_toArray, List.length_cons, List.length_nil, Nat.reduceAdd, Nat.reduceSub, Array.replicate_succ, Array.replicate_zero, List.push_toArray, List.append_toArray, List.nil_append, List.cons_append]
  have mk1 := fun (w : World) => run_make_row' (P := Tryz.prog) 25 63 (.int .u64 0) 8 Tryz.underlying25 u64_info rfl .i64 .i64 r.length (by omega) (by omega) w
  gi_wp2
  have hE2 : Ext w ((w.alloc (.cells (madeCells #[.int .u64 0] r.length) 63)).alloc (.cells #[.slice (some ⟨w.heap.size, 0, none⟩) r.length r.length] 25)) := ((Ext.refl w).alloc _).alloc _
  have hO : RvO w r 0 [] [] ((w.alloc (.cells (madeCells #[.int .u64 0] r.length) 63)).alloc (.cells #[.slice (some ⟨w.heap.size, 0, none⟩) r.length r.length] 25)) := by
    refine ⟨hE2, ?_, (Bx1.new (w.alloc (.cells (madeCells #[.int .u64 0] r.length) 63)) _ _).at (by simp), List.nodup_nil, fun D hD => by cases hD⟩
    rw [rvL_zero]
    exact (OG.made (enc := uv) w r.length 0#64 (Nat.le_refl _) (by omega)).ext ((Ext.refl _).alloc _)
  clear hE2 mk1
  generalize (w.alloc (.cells (madeCells #[.int .u64 0] r.length) 63)).alloc (.cells #[.slice (some ⟨w.heap.size, 0, none⟩) r.length r.length] 25) = w2 at *
  have HT := Lib.hid hT
  have HR := Lib.hid hr
  have HIN := Lib.hid hin
  clear hT hr hin
  refine wpIn_loop (fun ac W => ∃ (k : Nat) (Ds : List Nat) (u4 u5 u6 u13 u14 u15 u16 u17 u18 u19 u20 u21 u22 u23 u24 u25 u26 u27 u28 : Value), ac = { tmps := #[.slice a r.length c, undef, .slice none 0 0, .pointer (some ⟨w.heap.size + 1, 0, none⟩), u4, u5, u6, .slice a r.length c, .int .i64 (r.length : Int), .slice (some ⟨w.heap.size, 0, none⟩) r.length r.length, .slice a r.length c, .int .i64 (r.length : Int), .int .i64 (k : Int), u13, u14, u15, u16, u17, u18, u19, u20, u21, u22, u23, u24, u25, u26, u27, u28, undef], defers := Ds.map markD } ∧ k ≤ r.length ∧ Hid (RvO w r k [] Ds W)) (fun ac _ => r.length - (RowKit.intOf (ac.tmps.getD 12 undef)).toNat) ?start ?round
  case start => exact ⟨0, [], _, _, _, _, _, _, _, _, _, _, _, _, _, _, _, _, _, _, _, rfl, Nat.zero_le _, Lib.hid hO⟩
  case round =>
    clear hO
    rintro _ W ⟨k, Ds, u4, u5, u6, u13, u14, u15, u16, u17, u18, u19, u20, u21, u22, u23, u24, u25, u26, u27, u28, rfl, hk, HO⟩
    by_cases hkl : k < r.length
    · obtain ⟨b1, o1, ha, hb1, hc1⟩ := (HR.out.ext HO.out.e).get hkl
      subst ha
      gi_wp2_with (refine ⟨trivial, ?_⟩; gi_at_call 173; refine (callsIn_wide.2 (points_any (nth r k) _)).mono ?_; rintro _ _ ⟨rfl, rfl⟩)
      have hsW : W.heap.size + 1 + 1 ≤ ((W.alloc (.cells #[.int .i64 (k : Int)] 3)).alloc (.cells #[.int .u64 (un (nth r k))] 63)).heap.size := by simp
      have hEW : Ext W ((W.alloc (.cells #[.int .i64 (k : Int)] 3)).alloc (.cells #[.int .u64 (un (nth r k))] 63)) := ((Ext.refl W).alloc _).alloc _
      have bw := (Bx1.new W (.int .i64 (k : Int)) 3).ext ((Ext.refl _).alloc (.cells #[.int .u64 (un (nth r k))] 63))
      have bi := (Bx1.new (W.alloc (.cells #[.int .i64 (k : Int)] 3)) (.int .u64 (un (nth r k))) 63).at (b' := W.heap.size + 1) (by simp)
      have hI0 : RvI w r k W.heap.size Ds 0 ((W.alloc (.cells #[.int .i64 (k : Int)] 3)).alloc (.cells #[.int .u64 (un (nth r k))] 63)) := ⟨HO.out.ext hEW, bw⟩
      have hgW := HO.out.ob.lt
      have HDl : Hid (∀ D ∈ Ds, D < W.heap.size) := Lib.hid fun D hD => (Array.getElem?_eq_some_iff.1 (HO.out.dl D hD).2).1
      have hc3 : ((W.alloc (.cells #[.int .i64 (k : Int)] 3)).alloc (.cells #[.int .u64 (un (nth r k))] 63)).cell? ⟨W.heap.size + 1, 0, none⟩ = some (ptsSt (nth r k) 0) := bi.c
      have hf3 := bi.f
      clear bw bi hEW
      generalize (W.alloc (.cells #[.int .i64 (k : Int)] 3)).alloc (.cells #[.int .u64 (un (nth r k))] 63) = W3 at *
      refine wpIn_rangeFunc_pts rfl (by decide) (gf := 192) (b := W.heap.size + 1) rfl trivial (enters_of Tryz.func192 (by kernel_rfl) rfl) (points1_pts _ (by decide) _ (nth r k)) rfl hc3 hf3
        (RvI w r k W.heap.size Ds) (RvI.own (by omega) (by omega) (fun D hD => by have := HDl.out D hD; omega)) (fun j A v h => ⟨h.1.setBox (by omega) (fun D hD => by have := HDl.out D hD; omega) v, h.2.keep (heap_setCell_other _ ⟨W.heap.size + 1, 0, none⟩ _ _ (by simp))⟩) (fun j A h => ⟨h.1.ext (Ext.refl _).drew, h.2.ext (Ext.refl _).drew⟩) (fun j A h => HT.out.ext h.1.e) hI0
        (fun x => { tmps := #[.slice (some ⟨b1, o1, none⟩) r.length c, undef, .slice none 0 0, .pointer (some ⟨w.heap.size + 1, 0, none⟩), .pointer (some ⟨W.heap.size, 0, none⟩), .int .u64 (un (nth r k)), .int .i64 ((x : Nat) : Int), .slice (some ⟨b1, o1, none⟩) r.length c, .int .i64 (r.length : Int), .slice (some ⟨w.heap.size, 0, none⟩) r.length r.length, .slice (some ⟨b1, o1, none⟩) r.length c, .int .i64 (r.length : Int), .int .i64 (k : Int), .bool true, .int .i64 (k : Int), .pointer (some ⟨b1, o1 + k, none⟩), .int .u64 (un (nth r k)), .int .u64 (un (nth r k)), .func (.func 192) #[] #[.pointer (some ⟨W.heap.size + 1, 0, none⟩)], .int .i64 ((x : Nat) : Int), u20, u21, u22, u23, u24, u25, u26, u27, u28, undef], defers := [] }) ?assign ?body ?done
      case assign =>
        intro l j A K hK
        gi_wp2
        exact hK
      case body =>
        intro l j A hj hI
        have HII := Lib.hid hI
        have hv := memL_ltN (HIN.out k hkl) hj
        have hoc := hI.1.ob.c
        have hol := hI.1.ob.lt
        have hwc := hI.2.c
        have hwl := hI.2.lt
        have hrc := hI.1.row.cell hv
        have hrf := hI.1.row.frozen (nth (memL (nth r k)) j)
        have hrl := hI.1.row.lt
        have hk64 : k < 64 := by omega
        have HPP := Lib.hid (hI.1.put h64 hkl hv)
        have HTK := Lib.hid (take_snoc (memL (nth r k)) hj)
        clear hI
        change A.cell? ⟨w.heap.size, nth (memL (nth r k)) j, none⟩ = some (.int .u64 (un (nth (rvL r k ((memL (nth r k)).take j)) (nth (memL (nth r k)) j)))) at hrc
        have hmx : Tryz.prog.follows .mixedOrders = true := by kernel_rfl
        generalize nth (rvL r k ((memL (nth r k)).take j)) (nth (memL (nth r k)) j) = X at *
        gi_wp2
        gi_region_with_o (fail)
        all_goals gi_wp2
        all_goals (try go_bits)
        all_goals exact ⟨(KeepsOthers.setCell _ _ _).trans (KeepsOthers.drew _), ⟨(by rw [RvI_take HTK.out]; exact HPP.out.ext (Ext.refl _).drew), HII.out.2.keep (heap_setCell_other _ ⟨w.heap.size, _, none⟩ _ _ (by simp; omega))⟩, World.cell?_setCell_other _ _ _ _ (by first | (simp; done) | (simp; omega)), by rw [frozen_drew_own, World.frozen?_setCell]⟩
      case done =>
        intro D W4 hD hI hK
        have hO4 : RvO w r (k + 1) [] (D :: Ds) W4 := by
          have h := hI.1
          rw [List.take_length] at h
          exact ⟨h.e, by have h2 := h.row; rw [rvL_next h64] at h2; exact h2, h.ob, List.nodup_cons.2 ⟨fun hm => by have := HDl.out D hm; omega, h.dn⟩, fun E hE => by
            rcases List.mem_cons.1 hE with rfl | hE
            · exact ⟨by omega, hK⟩
            · exact h.dl E hE⟩
        have HO4 := Lib.hid hO4
        clear hI hK hO4
        gi_wp2
        refine ⟨⟨k + 1, D :: Ds, _, _, _, _, _, _, _, _, _, _, _, _, _, _, _, _, _, _, _, rfl, hkl, HO4⟩, ?_⟩
        simp [RowKit.intOf]
        omega
    · obtain rfl : k = r.length := by omega
      have hO := HO.out
      obtain ⟨o0, -⟩ := hO.ob
      have ol := hO.ob.lt
      have HO2 := Lib.hid hO
      clear hO
      gi_wp2
      refine leaves_marks Ds W HO2.out.dn (fun D hD => (HO2.out.dl D hD).2) fun W' hs => ?_
      refine ⟨_, results_tmp rfl _ _ _, ?_⟩
      refine ⟨⟨w.heap.size, r.length, rfl, ?_⟩, hs.ext HO2.out.e fun D hD => by have := (HO2.out.dl D hD).1; omega⟩
      have hrow := HO2.out.row
      rw [rvL_end] at hrow
      have hu := RU_of_OG hrow (by omega)
      refine ⟨hu.len, fun k hk => ⟨w.heap.size, 0, rfl, ?_⟩⟩
      rw [World.cell?_of_block (w := W) (a := ⟨w.heap.size, 0 + k, none⟩) (hs.block _ fun hm => by have := (HO2.out.dl _ hm).1; dsimp only at this; omega)]
      obtain ⟨b, o, e, hc⟩ := hu.at_ k hk
      simp only [Option.some.injEq, Addr.mk.injEq] at e
      obtain ⟨rfl, rfl, -⟩ := e
      exact hc
end Wt

/- Plain: the classes sorted and compacted are their lowest worlds in order. -/
namespace Wt
open Go Go.RowKit Go.Proofs Fm

theorem strict_eq : ∀ {a b : List Int}, a.Pairwise (· < ·) → b.Pairwise (· < ·) → (∀ x, x ∈ a ↔ x ∈ b) → a = b
  | [], [], _, _, _ => rfl
  | [], y :: b, _, _, h => by have := (h y).2 (by simp); simp at this
  | x :: a, [], _, _, h => by have := (h x).1 (by simp); simp at this
  | x :: a, y :: b, ha, hb, h => by
    rw [List.pairwise_cons] at ha hb
    have hxy : x = y := by
      rcases List.mem_cons.1 ((h x).1 (by simp)) with e | hx
      · exact e
      · rcases List.mem_cons.1 ((h y).2 (by simp)) with e | hy
        · exact e.symm
        · have h1 := ha.1 y hy
          have h2 := hb.1 x hx
          omega
    subst hxy
    congr 1
    refine strict_eq ha.2 hb.2 fun z => ?_
    constructor
    · intro hz
      rcases List.mem_cons.1 ((h z).1 (by simp [hz])) with e | h3
      · have := ha.1 z hz; omega
      · exact h3
    · intro hz
      rcases List.mem_cons.1 ((h z).2 (by simp [hz])) with e | h3
      · have := hb.1 z hz; omega
      · exact h3
theorem compact_sorted {d : Array Int} (hs : ∀ i j, i ≤ j → j < d.size → d[i]! ≤ d[j]!) : ∀ m, m ≤ d.size → (Lib.compactUpTo d m).Pairwise (· < ·) ∧ ∀ x, x ∈ Lib.compactUpTo d m ↔ ∃ j, j < m ∧ d[j]! = x
  | 0, _ => by simp [Lib.compactUpTo]
  | m + 1, hm => by
    obtain ⟨h1, h2⟩ := compact_sorted hs m (by omega)
    rw [Lib.compactUpTo_succ]
    have hk : Lib.keeps d m = true ↔ m = 0 ∨ d[m]! ≠ d[m - 1]! := by simp [Lib.keeps]
    by_cases hkm : Lib.keeps d m = true
    · rw [if_pos hkm]
      refine ⟨List.pairwise_append.2 ⟨h1, by simp, fun x hx y hy => ?_⟩, fun x => ?_⟩
      · obtain ⟨j, hj, rfl⟩ := (h2 x).1 hx
        obtain rfl : y = d[m]! := by simpa using hy
        have a1 := hs j (m - 1) (by omega) (by omega)
        have a2 := hs (m - 1) m (by omega) (by omega)
        rcases hk.1 hkm with h | h
        · omega
        · omega
      · rw [List.mem_append, h2, List.mem_singleton]
        constructor
        · rintro (⟨j, hj, e⟩ | e)
          · exact ⟨j, by omega, e⟩
          · exact ⟨m, by omega, e.symm⟩
        · rintro ⟨j, hj, e⟩
          by_cases hjm : j = m
          · subst hjm; exact .inr e.symm
          · exact .inl ⟨j, by omega, e⟩
    · rw [if_neg hkm, List.append_nil]
      refine ⟨h1, fun x => ?_⟩
      rw [h2]
      have hn : ¬ (m = 0 ∨ d[m]! ≠ d[m - 1]!) := fun h => hkm (hk.2 h)
      have hm0 : m ≠ 0 := fun h => hn (.inl h)
      have he : d[m]! = d[m - 1]! := Decidable.not_not.1 fun h => hn (.inr h)
      constructor
      · rintro ⟨j, hj, e⟩; exact ⟨j, by omega, e⟩
      · rintro ⟨j, hj, e⟩
        by_cases hjm : j = m
        · subst hjm; exact ⟨j - 1, by omega, he.symm.trans e⟩
        · exact ⟨j, by omega, e⟩
/-- The classes sorted and compacted. -/
theorem compact_low (L : List (BitVec 64)) (N : Nat) : Lib.compact ((natI (lowL L N)).mergeSort fun x y => decide (x ≤ y)) = natI (repL L N) := by
  have hp := List.mergeSort_perm (natI (lowL L N)) fun x y => decide (x ≤ y)
  have hs := List.pairwise_mergeSort (le := fun x y : Int => decide (x ≤ y)) (fun a b c h1 h2 => by simp at h1 h2 ⊢; omega) (fun a b => by simp; omega) (natI (lowL L N))
  generalize (natI (lowL L N)).mergeSort (fun x y => decide (x ≤ y)) = zs at *
  have hsort : ∀ i j, i ≤ j → j < zs.toArray.size → zs.toArray[i]! ≤ zs.toArray[j]! := by
    intro i j hij hj
    have hjl : j < zs.length := by simpa using hj
    rw [List.pairwise_iff_getElem] at hs
    by_cases e : i = j
    · subst e; exact Int.le_refl _
    · have := hs i j (by omega) hjl (by omega)
      have hi2 : i < zs.toArray.size := by simp; omega
      rw [getElem!_pos zs.toArray i hi2, getElem!_pos zs.toArray j hj]
      simpa using this
  obtain ⟨h1, h2⟩ := compact_sorted hsort zs.length (by simp)
  refine strict_eq h1 ?_ fun x => ?_
  · unfold natI
    exact List.pairwise_map.2 ((repL_pair L N).imp fun h => by omega)
  · have h3 : x ∈ zs ↔ ∃ j, j < zs.length ∧ zs.toArray[j]! = x := by
      constructor
      · intro hx
        obtain ⟨j, hj, e⟩ := List.getElem_of_mem hx
        exact ⟨j, hj, by rw [getElem!_pos zs.toArray j (by simpa using hj)]; simpa using e⟩
      · rintro ⟨j, hj, e⟩
        rw [getElem!_pos zs.toArray j (by simpa using hj)] at e
        rw [← e]; simp
    unfold Lib.compact
    rw [h2, ← h3, hp.mem_iff]
    unfold natI lowL
    simp only [List.mem_map, List.mem_range]
    constructor
    · rintro ⟨v, ⟨w, hw, rfl⟩, rfl⟩
      exact ⟨_, repL_low L hw, rfl⟩
    · rintro ⟨v, hv, rfl⟩
      obtain ⟨a, b⟩ := repL_mem.1 hv
      exact ⟨v, ⟨v, a, b⟩, rfl⟩
end Wt

/- Plain: how the reference gathers the smallest filtration, step by step. -/
namespace Wt
open Go Go.RowKit Go.Proofs Fm

section
variable (M : Mo) (L : List (BitVec 64)) (N a : Nat)
/-- Has a step from class c to class d been seen, up to the worlds w and v? -/
def stepB (w v c d : Nat) : Bool := ((List.range w).any fun x => (List.range N).any fun y => clsOf L N x == c && clsOf L N y == d && bt (nth (nth M.rel a) x) y) || (List.range v).any fun y => clsOf L N w == c && clsOf L N y == d && bt (nth (nth M.rel a) w) y
def smP (w v : Nat) : List (BitVec 64) := (List.range (repL L N).length).map fun c => setTo (fun d => stepB M L N a w v c d) (repL L N).length
theorem smP_len (w v : Nat) : (smP M L N a w v).length = (repL L N).length := by simp [smP]
theorem smP_bit {w v c d : Nat} (_h64 : N ≤ 64) (hc : c < (repL L N).length) (hd : d < 64) : bt (nth (smP M L N a w v) c) d = (decide (d < (repL L N).length) && stepB M L N a w v c d) := by
  unfold smP
  rw [nth_mapX _ hc, bt_setTo _ hd]
theorem smP_zero : smP M L N a 0 0 = List.replicate (repL L N).length 0#64 := by
  refine nth_ext (by simp [smP]) fun c hc => ?_
  rw [smP_len] at hc
  refine bt_ext fun d hd => ?_
  unfold smP
  rw [nth_mapX _ hc, bt_setTo _ hd, nth_eq _ _ (by simpa using hc)]
  simp [stepB, bt_zero]
theorem stepB_end (w c d : Nat) : stepB M L N a w N c d = stepB M L N a (w + 1) 0 c d := by
  unfold stepB
  rw [List.range_succ, List.any_append]
  simp
theorem smP_row (w : Nat) : smP M L N a w N = smP M L N a (w + 1) 0 := by
  unfold smP
  simp only [stepB_end]
theorem stepB_step {w v c d : Nat} : stepB M L N a w (v + 1) c d = (stepB M L N a w v c d || (clsOf L N w == c && clsOf L N v == d && bt (nth (nth M.rel a) w) v)) := by
  unfold stepB
  rw [List.range_succ, List.any_append, ← Bool.or_assoc]
  simp
theorem smP_no {w v : Nat} (h : bt (nth (nth M.rel a) w) v = false) : smP M L N a w (v + 1) = smP M L N a w v := by
  unfold smP
  simp only [stepB_step, h, Bool.and_false, Bool.or_false]
theorem smP_yes {w v : Nat} (h64 : N ≤ 64) (hw : w < N) (hv : v < N) (h : bt (nth (nth M.rel a) w) v = true) : smP M L N a w (v + 1) = (smP M L N a w v).set (clsOf L N w) (nth (smP M L N a w v) (clsOf L N w) ||| 1#64 <<< clsOf L N v) := by
  have hK := repL_len L N
  have hcw := clsOf_lt L hw
  have hcv := clsOf_lt L hv
  refine nth_ext (by simp [smP]) fun c hc => ?_
  rw [smP_len] at hc
  have hset : nth ((smP M L N a w v).set (clsOf L N w) (nth (smP M L N a w v) (clsOf L N w) ||| 1#64 <<< clsOf L N v)) c = if c = clsOf L N w then nth (smP M L N a w v) (clsOf L N w) ||| 1#64 <<< clsOf L N v else nth (smP M L N a w v) c := by
    rw [nth_eq _ _ (by rw [List.length_set, smP_len]; exact hc), List.getElem_set]
    by_cases e : clsOf L N w = c
    · rw [if_pos e, if_pos e.symm]
    · rw [if_neg e, if_neg (fun h => e h.symm)]
      exact (nth_eq _ _ (by rw [smP_len]; exact hc)).symm
  rw [hset]
  refine bt_ext fun d hd => ?_
  rw [smP_bit M L N a h64 hc hd, stepB_step, h]
  by_cases e : c = clsOf L N w
  · subst e
    rw [if_pos rfl, bt_or, smP_bit M L N a h64 hcw hd, bt_shl1]
    by_cases e2 : d = clsOf L N v
    · subst e2; simp [hd, hcv]
    · have : (clsOf L N v == d) = false := by simp; exact fun h => e2 h.symm
      simp [e2, this]
  · rw [if_neg e, smP_bit M L N a h64 hc hd]
    have : (clsOf L N w == c) = false := by simp; exact fun h => e h.symm
    simp [this]
theorem smP_done (h64 : N ≤ 64) : smP M L N a N 0 = (repL L N).map fun x => setTo (fun d => relS M L N a x (nth (repL L N) d)) (repL L N).length := by
  refine nth_ext (by simp [smP]) fun c hc => ?_
  rw [smP_len] at hc
  have hK := repL_len L N
  refine bt_ext fun d hd => ?_
  rw [smP_bit M L N a h64 hc hd, nth_mapN _ _ hc, bt_setTo _ hd]
  by_cases hdK : d < (repL L N).length
  · simp only [hdK, decide_true, Bool.true_and]
    rw [Bool.eq_iff_iff, relS_iff]
    unfold stepB
    simp only [List.range_zero, List.any_nil, Bool.or_false, List.any_eq_true, List.mem_range, Bool.and_eq_true, beq_iff_eq]
    constructor
    · rintro ⟨x, hx, y, hy, ⟨h1, h2⟩, h3⟩
      exact ⟨x, y, hx, hy, by rw [← clsOf_nth L hx, h1], by rw [← clsOf_nth L hy, h2], h3⟩
    · rintro ⟨x, y, hx, hy, h1, h2, h3⟩
      refine ⟨x, hx, y, hy, ⟨?_, ?_⟩, h3⟩
      · have : clsOf L N x = clsOf L N (nth (repL L N) c) := by unfold clsOf; rw [h1, rep_low hc]
        rw [this, clsOf_rep hc]
      · have : clsOf L N y = clsOf L N (nth (repL L N) d) := by unfold clsOf; rw [h2, rep_low hdK]
        rw [this, clsOf_rep hdK]
  · simp [hdK]
end
end Wt

/- Walks: what a view says of a node in a world, and whether it permits a step. -/
namespace Wt
open Go Go.RowKit Go.Maps Go.Proofs Fm

/-- The cells of a view. -/
structure VwAt (w : World) (b : Nat) (W : Int) (va ra ca sa : Option Addr) (vl vc rl rc cl cc sl sc : Nat) : Prop where
  c0 : w.cell? ⟨b, 0, none⟩ = some (.int .i64 W)
  c1 : w.cell? ⟨b, 1, none⟩ = some (.slice va vl vc)
  c2 : w.cell? ⟨b, 2, none⟩ = some (.slice ra rl rc)
  c3 : w.cell? ⟨b, 3, none⟩ = some (.slice ca cl cc)
  c4 : w.cell? ⟨b, 4, none⟩ = some (.slice sa sl sc)
theorem VwAt.ext {w w' : World} {b : Nat} {W : Int} {va ra ca sa : Option Addr} {vl vc rl rc cl cc sl sc : Nat} (h : VwAt w b W va ra ca sa vl vc rl rc cl cc sl sc) (e : Ext w w') : VwAt w' b W va ra ca sa vl vc rl rc cl cc sl sc :=
  ⟨e.cell h.c0, e.cell h.c1, e.cell h.c2, e.cell h.c3, e.cell h.c4⟩
theorem VwAt.new (w : World) (W : Int) (va ra ca sa : Option Addr) (vl vc rl rc cl cc sl sc T : Nat) : VwAt (w.alloc (.cells #[.int .i64 W, .slice va vl vc, .slice ra rl rc, .slice ca cl cc, .slice sa sl sc] T)) w.heap.size W va ra ca sa vl vc rl rc cl cc sl sc :=
  ⟨by simp, by simp, by simp, by simp, by simp⟩
theorem bit_un (s : BitVec 64) (k : Nat) : un (s >>> k &&& 1#64) = b01I (bt s k) := by
  have h : s >>> k &&& 1#64 = if bt s k then 1#64 else 0#64 := by
    refine bt_ext fun j hj => ?_
    rw [bt_and]
    have h1 : bt 1#64 j = decide (j = 0) := by
      have := bt_shl1 (k := j) 0
      rw [show (1#64 <<< 0) = 1#64 by simp] at this
      rw [this]; simp [hj]
    have h2 : bt (s >>> k) j = bt s (k + j) := by unfold bt; rw [BitVec.getLsbD_ushiftRight]
    rw [h1, h2]
    by_cases e : j = 0
    · subst e
      cases hb : bt s k
      · simp [bt_zero]
      · simp [h1]
    · cases hb : bt s k
      · simp [e, bt_zero]
      · simp [e, h1]
  rw [h]
  cases bt s k <;> rfl
/-- Which nodes a view's list may hold. -/
def boxOk (c : List Nd) : Prop := ∀ k, k < c.length → (nth c k).op = 9 ∨ (nth c k).op = 10 → (nth c k).x.toNat < c.length ∧ 0 ≤ (nth c k).x
theorem perN_all {L : List (BitVec 64)} {c : List Nd} {keep : Bool} {a x y k : Nat} (h : ((List.range k).all fun i => perN L (nth c i) i a x y keep) = true) (h2 : perN L (nth c k) k a x y keep = true) : ((List.range (k + 1)).all fun i => perN L (nth c i) i a x y keep) = true := by
  rw [List.range_succ, List.all_append, h]
  simp [h2]
theorem permL_no {L : List (BitVec 64)} {c : List Nd} {keep : Bool} {a x y k : Nat} (hk : k < c.length) (h2 : perN L (nth c k) k a x y keep = false) : permL L c keep a x y = false := by
  cases h : permL L c keep a x y
  · rfl
  · unfold permL at h
    rw [List.all_eq_true] at h
    have := h k (List.mem_range.2 hk)
    rw [h2] at this; cases this
end Wt
