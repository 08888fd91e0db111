/- Walks: frames.Properties, frames.Has, frames.In, over contracts of relation.Has. -/
import Derived.Test.YtbeaagnahldefaaGreatDoorM9Bk
import Derived.Test.YtbeaagnahldefaaGreatDoorM9Bp
namespace Wt
open Go Go.RowKit Go.Maps Go.Proofs Fm

theorem RI.lit9 (w : World) (l : List Int) (cs : Array Value) (T : Nat) (h : cs = (l.map iv).toArray) (hl : l.length ≤ 1000) : RI (w.alloc (.cells cs T)) (some ⟨w.heap.size, 0, none⟩) l := by
  subst h
  refine ⟨by omega, fun k hk => ⟨w.heap.size, 0, rfl, ?_⟩⟩
  simp [iv, hk, nth_eq l k hk]
/-- The properties of a logic, and the error where there is none. -/
def propsL (g : Int) : List Int := if g = 0 then [] else if g = 1 then [1] else if g = 2 then [2] else if g = 3 then [4] else if g = 4 then [2, 4] else if g = 5 then [1, 4, 5] else if g = 6 then [2, 4, 5] else []
def propsE (g : Int) : Int := if g = 0 ∨ g = 1 ∨ g = 2 ∨ g = 3 ∨ g = 4 ∨ g = 5 ∨ g = 6 then 0 else 1
def frHas (r : List (BitVec 64)) (g : Int) : Bool := propsE g == 0 && relCheck r == 0 && (propsL g).all fun p => hasB r p
def frIn (M : Mo) (g : Int) : Bool := propsE g == 0 && moCheck M == 0 && M.rel.all fun r => frHas r g
def RetPr (g : Int) (e : Ending) (w w' : World) : Prop := ∃ a c, e = .returned (.tuple #[.slice a (propsL g).length c, .int .i64 (propsE g)]) ∧ RI w' a (propsL g) ∧ Ext w w'
set_option maxRecDepth 20000 in
set_option maxHeartbeats 4000000 in
theorem props_any (g : Int) (w : World) : Calls Tryz.prog 48 #[.int .i64 g] w fun e w' => RetPr g e w w' := by
  by_cases h0 : g = 0
  · subst h0
    go_enter Tryz.func48, Tryz.ntmps48
    go_wp2
    go_ret2
    exact ⟨none, 0, rfl, RI.nil _ _, Ext.refl _⟩
  by_cases h1 : g = 1
  · subst h1
    go_enter Tryz.func48, Tryz.ntmps48
    go_wp2
    go_ret2
    exact ⟨some ⟨w.heap.size, 0, none⟩, 1, rfl, RI.lit9 w [1] #[.int .i64 1] _ rfl (by decide), (Ext.refl _).alloc _⟩
  by_cases h2 : g = 2
  · subst h2
    go_enter Tryz.func48, Tryz.ntmps48
    go_wp2
    go_ret2
    exact ⟨some ⟨w.heap.size, 0, none⟩, 1, rfl, RI.lit9 w [2] #[.int .i64 2] _ rfl (by decide), (Ext.refl _).alloc _⟩
  by_cases h3 : g = 3
  · subst h3
    go_enter Tryz.func48, Tryz.ntmps48
    go_wp2
    go_ret2
    exact ⟨some ⟨w.heap.size, 0, none⟩, 1, rfl, RI.lit9 w [4] #[.int .i64 4] _ rfl (by decide), (Ext.refl _).alloc _⟩
  by_cases h4 : g = 4
  · subst h4
    go_enter Tryz.func48, Tryz.ntmps48
    go_wp2
    go_ret2
    exact ⟨some ⟨w.heap.size, 0, none⟩, 2, rfl, RI.lit9 w [2, 4] #[.int .i64 2, .int .i64 4] _ rfl (by decide), (Ext.refl _).alloc _⟩
  by_cases h5 : g = 5
  · subst h5
    go_enter Tryz.func48, Tryz.ntmps48
    go_wp2
    go_ret2
    exact ⟨some ⟨w.heap.size, 0, none⟩, 3, rfl, RI.lit9 w [1, 4, 5] #[.int .i64 1, .int .i64 4, .int .i64 5] _ rfl (by decide), (Ext.refl _).alloc _⟩
  by_cases h6 : g = 6
  · subst h6
    go_enter Tryz.func48, Tryz.ntmps48
    go_wp2
    go_ret2
    exact ⟨some ⟨w.heap.size, 0, none⟩, 3, rfl, RI.lit9 w [2, 4, 5] #[.int .i64 2, .int .i64 4, .int .i64 5] _ rfl (by decide), (Ext.refl _).alloc _⟩
  have e1 : propsL g = [] := by simp [propsL, h0, h1, h2, h3, h4, h5, h6]
  have e2 : propsE g = 1 := by simp [propsE, h0, h1, h2, h3, h4, h5, h6]
  have q0 : (g == 0) = false := by simpa using h0
  have q1 : (g == 1) = false := by simpa using h1
  have q2 : (g == 2) = false := by simpa using h2
  have q3 : (g == 3) = false := by simpa using h3
  have q4 : (g == 4) = false := by simpa using h4
  have q5 : (g == 5) = false := by simpa using h5
  have q6 : (g == 6) = false := by simpa using h6
  unfold RetPr
  rw [e1, e2]
  clear h0 h1 h2 h3 h4 h5 h6 e1 e2
  go_enter Tryz.func48, Tryz.ntmps48
  go_wp2
  go_ret2
  exact ⟨none, 0, rfl, RI.nil _ _, Ext.refl _⟩
set_option maxHeartbeats 1000000 in
theorem indexFunc_i (F : Nat) (caps : List Value) (p : Int → Bool) (a : Option Addr) (l : List Int) (cap : Nat) (w : World) (hr : RI w a l)
    (hF : ∀ args W, (callFunc F args).run Tryz.prog W = .ok (.enter F args) W)
    (hp : ∀ W k, Ext w W → k < l.length → Calls Tryz.prog F (.int .i64 (nth l k) :: caps).toArray W fun e w' => e = .returned (.bool (p (nth l k))) ∧ Ext W w') :
    Calls Tryz.prog 121 #[.slice a l.length cap, .func (.func F) #[] caps.toArray] w fun e w' => (∃ i : Int, e = .returned (.int .i64 i) ∧ decide (0 ≤ i) = l.any p) ∧ Ext w w' := by
  have hl := hr.len
  have Hp := Lib.hid hp
  clear hp
  go_enter Tryz.func121, Tryz.ntmps121
  go_wp2
  go_loopw [8] (fun i wr => ∃ k : Nat, k ≤ l.length ∧ i = .int .i64 k ∧ Ext w wr ∧ Hid (∀ j, j < k → p (nth l j) = false)) (fun i _ => l.length - (RowKit.intOf i).toNat)
  case atStart => exact ⟨0, Nat.zero_le _, rfl, Ext.refl _, fun _ h => absurd h (Nat.not_lt_zero _)⟩
  case round =>
    obtain ⟨k, hk, rfl, hE, hno⟩ := hrel
    by_cases hlt : k < l.length
    · obtain ⟨b, off, rfl, hb, hc⟩ := (hr.ext hE).get hlt
      have HC := Lib.hid (Hp.out wr k hE hlt)
      have hHx : Hid (∀ b, p (nth l k) = b → p (nth l k) = b) := Lib.hid fun _ h => h
      go_wp2_with fail
      refine HC.out.mono ?_
      rintro e w1 ⟨rfl, hE1⟩
      cases hb : p (nth l k)
      all_goals have Hb := Lib.hid hb; clear hb
      · go_wp2
        go_roundw
        case rel => exact ⟨k + 1, hlt, by go_num, hE.trans hE1, lt_step hno Hb.out⟩
        case measure => simp [RowKit.intOf]; omega
      · go_wp2
        go_ret
        exact ⟨⟨k, rfl, by rw [any_yes hlt Hb.out]; simp⟩, hE.trans hE1⟩
    · go_wp2
      go_ret
      exact ⟨⟨-1, rfl, by rw [any_no (fun j hj => hno j (by omega))]; rfl⟩, hE⟩
set_option maxHeartbeats 1000000 in
theorem containsFunc_i (F : Nat) (caps : List Value) (p : Int → Bool) (a : Option Addr) (l : List Int) (cap : Nat) (w : World) (hr : RI w a l)
    (hF : ∀ args W, (callFunc F args).run Tryz.prog W = .ok (.enter F args) W)
    (hp : ∀ W k, Ext w W → k < l.length → Calls Tryz.prog F (.int .i64 (nth l k) :: caps).toArray W fun e w' => e = .returned (.bool (p (nth l k))) ∧ Ext W w') :
    Calls Tryz.prog 89 #[.slice a l.length cap, .func (.func F) #[] caps.toArray] w fun e w' => e = .returned (.bool (l.any p)) ∧ Ext w w' := by
  have Hi := Lib.hid (indexFunc_i F caps p a l cap w hr hF hp)
  clear hF hp
  go_enter Tryz.func89, Tryz.ntmps89
  go_wp2_with (go_at_call 121; refine (Hi.out).mono ?_; rintro e w1 ⟨⟨i, rfl, hi⟩, hE⟩; have HI := Lib.hid hi; clear hi)
  go_ret
  exact ⟨by rw [← HI.out]; simp, hE⟩
theorem cf_frHas1 (args : Array Value) (W : World) : (callFunc 90 args).run Tryz.prog W = .ok (.enter 90 args) W := by
  simp [callFunc, Tryz.func90, Tryz.f90]
theorem cf_frIn1 (args : Array Value) (W : World) : (callFunc 50 args).run Tryz.prog W = .ok (.enter 50 args) W := by
  simp [callFunc, Tryz.func50, Tryz.f50]
/-- A contract of relation.Has at a property. -/
def HasAt (p : Int) : Prop := ∀ (r : List (BitVec 64)) (a : Option Addr) (c : Nat) (W : World), Tab W → RU W a r → Calls Tryz.prog 43 #[.slice a r.length c, .int .i64 p] W fun e w' => e = .returned (.bool (hasB r p)) ∧ Ext W w'
set_option maxHeartbeats 1000000 in
theorem frHas1_any (p : Int) (hp : HasAt p) (r : List (BitVec 64)) (a : Option Addr) (c b : Nat) (w : World) (hT : Tab w) (hr : RU w a r) (hb : Bx1 w b (.slice a r.length c)) :
    Calls Tryz.prog 90 #[.int .i64 p, .pointer (some ⟨b, 0, none⟩)] w fun e w' => e = .returned (.bool (!hasB r p)) ∧ Ext w w' := by
  have H := Lib.hid (hp r a c w hT hr)
  obtain ⟨b0, -⟩ := hb
  have bl := World.block_lt_of_cell? _ _ b0
  clear hp hT hr
  go_enter Tryz.func90, Tryz.ntmps90
  go_wp2_with (go_at_call 43; refine H.out.mono ?_; rintro _ w1 ⟨rfl, hE⟩)
  go_ret
  exact ⟨rfl, hE⟩
theorem not_any_not (l : List Int) (f : Int → Bool) : (!l.any fun p => !f p) = l.all f := by
  induction l with
  | nil => rfl
  | cons x l ih => simp only [List.any_cons, List.all_cons, Bool.not_or, Bool.not_not, ih]
theorem not_any_notR (l : List (List (BitVec 64))) (f : List (BitVec 64) → Bool) : (!l.any fun p => !f p) = l.all f := by
  induction l with
  | nil => rfl
  | cons x l ih => simp only [List.any_cons, List.all_cons, Bool.not_or, Bool.not_not, ih]
set_option maxRecDepth 20000 in
set_option maxHeartbeats 2000000 in
theorem frHas_any (g : Int) (hh : ∀ p, p ∈ propsL g → HasAt p) (r : List (BitVec 64)) (a : Option Addr) (c : Nat) (w : World) (hT : Tab w) (hr : RU w a r) :
    Calls Tryz.prog 51 #[.slice a r.length c, .int .i64 g] w fun e w' => e = .returned (.bool (frHas r g)) ∧ Ext w w' := by
  have hE0 : Ext w (w.alloc (.cells #[.slice a r.length c] 22)) := (Ext.refl w).alloc _
  have hb0 := Bx1.new w (.slice a r.length c) 22
  have HE := Lib.hid hE0
  have HT := Lib.hid (hT.ext hE0)
  have HR := Lib.hid (hr.ext hE0)
  have HB := Lib.hid hb0
  have HH := Lib.hid hh
  have hln := hr.len
  clear hE0 hT hr hb0 hh
  have HCK : Hid (∀ W, RU W a r → Calls Tryz.prog 75 #[.int .i64 (r.length : Int), .slice a r.length c] W fun e w' => e = .returned (.int .i64 (relCheck r)) ∧ W = w') := Lib.hid fun W h => relCheck_any a r c W h
  go_enter Tryz.func51, Tryz.ntmps51
  go_wp2_with fail
  generalize w.alloc (.cells #[.slice a r.length c] 22) = w0 at *
  refine (props_any g w0).mono ?_
  rintro _ w1 ⟨la, lc, rfl, hl, hE1⟩
  have HL := Lib.hid hl
  have HE1 := Lib.hid hE1
  have HB1 := Lib.hid (HB.out.ext hE1)
  have HT1 := Lib.hid (HT.out.ext hE1)
  have HR1 := Lib.hid (HR.out.ext hE1)
  clear hl hE1
  have hll := HL.out.len
  by_cases he : propsE g = 0
  · rw [he]
    obtain ⟨b0, -⟩ := HB1.out
    have bl := World.block_lt_of_cell? _ _ b0
    by_cases hck : relCheck r = 0
    · have HF : Hid (frHas r g = (propsL g).all fun p => hasB r p) := Lib.hid (by unfold frHas; rw [he, hck]; rfl)
      have HC1 := HCK.out _ HR1.out
      rw [hck] at HC1
      have HC2 := Lib.hid HC1
      clear HC1 hck he
      have HCF : Hid (∀ W, W = w1 → Calls Tryz.prog 89 #[.slice la (propsL g).length lc, .func (.func 90) #[] #[.pointer (some ⟨w.heap.size, 0, none⟩)]] W fun e w' => e = .returned (.bool ((propsL g).any fun p => !hasB r p)) ∧ Ext w1 w') := Lib.hid fun W hW => by
        subst hW
        exact containsFunc_i 90 [.pointer (some ⟨w.heap.size, 0, none⟩)] _ la (propsL g) lc W HL.out cf_frHas1 fun W2 k e hk => frHas1_any (nth (propsL g) k) (HH.out _ (nth_mem hk)) r a c w.heap.size W2 (HT1.out.ext e) (HR1.out.ext e) (HB1.out.ext e)
      dsimp only
      go_wp2_with (first | (go_at_call 75; refine HC2.out.mono ?_; rintro _ _ ⟨rfl, rfl⟩) | (go_at_call 89; refine (HCF.out _ rfl).mono ?_; rintro _ w2 ⟨rfl, hE2⟩))
      go_ret
      exact ⟨by rw [HF.out, ← not_any_not]; rfl, (HE.out.trans HE1.out).trans hE2⟩
    · have HF : Hid (frHas r g = false) := Lib.hid (by unfold frHas; rw [show (relCheck r == 0) = false by simpa using hck]; simp)
      have hq : (relCheck r != 0) = true := by simpa using hck
      have HC2 := Lib.hid (HCK.out _ HR1.out)
      clear hck he
      generalize relCheck r = er at *
      dsimp only
      go_wp2_with (go_at_call 75; refine HC2.out.mono ?_; rintro _ _ ⟨rfl, rfl⟩)
      go_ret
      exact ⟨by rw [HF.out]; rfl, HE.out.trans HE1.out⟩
  · have HF : Hid (frHas r g = false) := Lib.hid (by unfold frHas; rw [show (propsE g == 0) = false by simpa using he]; rfl)
    have hq : (propsE g != 0) = true := by simpa using he
    clear he
    generalize propsE g = er at *
    dsimp only
    go_wp2_with fail
    go_ret
    exact ⟨by rw [HF.out]; rfl, HE.out.trans HE1.out⟩
set_option maxHeartbeats 1000000 in
theorem frIn1_any (g : Int) (hh : ∀ p, p ∈ propsL g → HasAt p) (r : List (BitVec 64)) (a : Option Addr) (c b : Nat) (w : World) (hT : Tab w) (hr : RU w a r) (hb : Bx1 w b (.int .i64 g)) :
    Calls Tryz.prog 50 #[.slice a r.length c, .pointer (some ⟨b, 0, none⟩)] w fun e w' => e = .returned (.bool (!frHas r g)) ∧ Ext w w' := by
  have H := Lib.hid (frHas_any g hh r a c w hT hr)
  obtain ⟨b0, -⟩ := hb
  have bl := World.block_lt_of_cell? _ _ b0
  clear hh hT hr
  go_enter Tryz.func50, Tryz.ntmps50
  go_wp2_with (go_at_call 51; refine H.out.mono ?_; rintro _ w1 ⟨rfl, hE⟩)
  go_ret
  exact ⟨rfl, hE⟩
set_option maxRecDepth 20000 in
set_option maxHeartbeats 2000000 in
theorem frIn_any (g : Int) (hh : ∀ p, p ∈ propsL g → HasAt p) (M : Mo) (va ra : Option Addr) (vc rc : Nat) (w : World) (hT : Tab w) (hm : RM w va ra M) :
    Calls Tryz.prog 22 #[.agg #[.int .i64 M.worlds, .slice va M.val.length vc, .slice ra M.rel.length rc], .int .i64 g] w fun e w' => e = .returned (.bool (frIn M g)) ∧ Ext w w' := by
  have hE0 : Ext w ((w.alloc (.cells #[.int .i64 M.worlds, .slice va M.val.length vc, .slice ra M.rel.length rc] 25)).alloc (.cells #[.int .i64 g] 3)) := ((Ext.refl w).alloc _).alloc _
  have hbx := (MoBox.new w M.worlds M.val M.rel va vc ra rc 25).ext ((Ext.refl _).alloc (.cells #[.int .i64 g] 3))
  have hb0 := (Bx1.new (w.alloc (.cells #[.int .i64 M.worlds, .slice va M.val.length vc, .slice ra M.rel.length rc] 25)) (.int .i64 g) 3).at (b' := w.heap.size + 1) (by simp)
  have HE := Lib.hid hE0
  have HT := Lib.hid (hT.ext hE0)
  have HM := Lib.hid (hm.ext hE0)
  have HB := Lib.hid hbx
  have HG := Lib.hid hb0
  have HH := Lib.hid hh
  obtain ⟨b0, bf0⟩ := hb0
  have bl := World.block_lt_of_cell? _ _ b0
  clear hE0 hT hm hbx hh bf0
  go_enter Tryz.func22, Tryz.ntmps22
  go_wp2_with fail
  generalize (w.alloc (.cells #[.int .i64 M.worlds, .slice va M.val.length vc, .slice ra M.rel.length rc] 25)).alloc (.cells #[.int .i64 g] 3) = w0 at *
  refine (props_any g w0).mono ?_
  rintro _ w1 ⟨la, lc, rfl, hl, hE1⟩
  have HE1 := Lib.hid hE1
  have HB1 := Lib.hid (HB.out.ext hE1)
  have HM1 := Lib.hid (HM.out.ext hE1)
  have HT1 := Lib.hid (HT.out.ext hE1)
  have HG1 := Lib.hid (HG.out.ext hE1)
  clear hl hE1 b0 bl
  by_cases he : propsE g = 0
  · rw [he]
    obtain ⟨p0, p1, p2⟩ := HB1.out
    dsimp only at p0 p1 p2
    have pl := World.block_lt_of_cell? _ _ p0
    dsimp only at pl
    by_cases hck : moCheck M = 0
    · have HF : Hid (frIn M g = M.rel.all fun r => frHas r g) := Lib.hid (by unfold frIn; rw [he, hck]; rfl)
      have HC1 := modelCheck_any M va ra vc rc w1 HM1.out
      rw [hck] at HC1
      have HC2 := Lib.hid HC1
      clear HC1 hck he
      have HCF : Hid (∀ W, Ext w1 W → Calls Tryz.prog 41 #[.slice ra M.rel.length rc, .func (.func 50) #[] #[.pointer (some ⟨w.heap.size + 1, 0, none⟩)]] W fun e w' => e = .returned (.bool (M.rel.any fun r => !frHas r g)) ∧ Ext W w') := Lib.hid fun W eW =>
        containsFunc_g 50 [.pointer (some ⟨w.heap.size + 1, 0, none⟩)] _ ra M.rel rc W (HM1.out.rel.ext eW) cf_frIn1 fun W2 a s c e hu => frIn1_any g HH.out s a c (w.heap.size + 1) W2 (HT1.out.ext (eW.trans e)) hu (HG1.out.ext (eW.trans e))
      dsimp only
      go_wp2_with (first | (go_at_call 49; refine HC2.out.mono ?_; rintro _ w2 ⟨rfl, hE2⟩; obtain ⟨q0, q1, q2⟩ := HB1.out.ext hE2; have ql := World.block_lt_of_cell? _ _ q0; dsimp only at q0 q1 q2 ql) | (go_at_call 41; refine (HCF.out _ hE2).mono ?_; rintro _ w3 ⟨rfl, hE3⟩))
      go_ret
      exact ⟨by rw [HF.out, ← not_any_notR]; rfl, (HE.out.trans HE1.out).trans (hE2.trans hE3)⟩
    · have HF : Hid (frIn M g = false) := Lib.hid (by unfold frIn; rw [show (moCheck M == 0) = false by simpa using hck]; simp)
      have hq : (moCheck M == 0) = false := by simpa using hck
      have HC2 := Lib.hid (modelCheck_any M va ra vc rc w1 HM1.out)
      clear hck he
      generalize moCheck M = er at *
      dsimp only
      go_wp2_with (go_at_call 49; refine HC2.out.mono ?_; rintro _ w2 ⟨rfl, hE2⟩)
      go_ret
      exact ⟨by rw [HF.out]; rfl, (HE.out.trans HE1.out).trans hE2⟩
  · have HF : Hid (frIn M g = false) := Lib.hid (by unfold frIn; rw [show (propsE g == 0) = false by simpa using he]; rfl)
    have hq : (propsE g == 0) = false := by simpa using he
    clear he
    generalize propsE g = er at *
    dsimp only
    go_wp2_with fail
    go_ret
    exact ⟨by rw [HF.out]; rfl, HE.out.trans HE1.out⟩
end Wt

/- Walk: wittinglaw23.inside where it holds. -/
namespace Wt
open Go Go.RowKit Go.Maps Go.Proofs Fm

set_option maxRecDepth 20000 in
set_option maxHeartbeats 4000000 in
theorem inside_any (A B : List (List (BitVec 64))) (K n xa xb : Nat) (va ra vb rb : Option Addr) (vc rc vd rd : Nat) (w : World) (hK : K ≤ 64) (hn4 : n ≤ 4) (hna : A.length = n) (hnb : B.length = n) (hra : ∀ i, i < n → (nth A i).length = K) (hrb : ∀ i, i < n → (nth B i).length = K)
    (hs : ∀ i w, i < n → w < K → Sub (nth (nth A i) w) (nth (nth B i) w)) (hm : RR w ra A) (hn : RR w rb B) :
    Calls Tryz.prog 19 #[.agg #[.int .i64 (K : Int), .slice va xa vc, .slice ra n rc], .agg #[.int .i64 (K : Int), .slice vb xb vd, .slice rb n rd]] w fun e w' => e = .returned (.bool true) ∧ Ext w w' := by
  have hE0 : Ext w ((w.alloc (.cells #[.int .i64 (K : Int), .slice va xa vc, .slice ra n rc] 25)).alloc (.cells #[.int .i64 (K : Int), .slice vb xb vd, .slice rb n rd] 25)) := ((Ext.refl w).alloc _).alloc _
  have hb1 := (OutAt.new w (.int .i64 (K : Int)) (.slice va xa vc) (.slice ra n rc) 25).ext ((Ext.refl _).alloc (.cells #[.int .i64 (K : Int), .slice vb xb vd, .slice rb n rd] 25))
  have hb2 := OutAt.new1 w (.cells #[.int .i64 (K : Int), .slice va xa vc, .slice ra n rc] 25) (.int .i64 (K : Int)) (.slice vb xb vd) (.slice rb n rd) 25
  have HE := Lib.hid hE0
  have HM := Lib.hid (hm.ext hE0)
  have HN := Lib.hid (hn.ext hE0)
  have HRA := Lib.hid hra
  have HRB := Lib.hid hrb
  have HS := Lib.hid hs
  have HNA := Lib.hid hna
  have HNB := Lib.hid hnb
  have HB1 := Lib.hid hb1
  have HB2 := Lib.hid hb2
  obtain ⟨m0, m1, m2, -⟩ := hb1
  obtain ⟨n0, n1, n2, -⟩ := hb2
  have ml := World.block_lt_of_cell? _ _ m0
  have nl := World.block_lt_of_cell? _ _ n0
  dsimp only at ml nl
  have hq1 : ((K : Int) != (K : Int)) = false := by simp
  have hq2 : ((n : Int) != (n : Int)) = false := by simp
  clear hE0 hm hn hra hrb hs hna hnb
  go_enter Tryz.func19, Tryz.ntmps19
  go_wp2_with fail
  generalize (w.alloc (.cells #[.int .i64 (K : Int), .slice va xa vc, .slice ra n rc] 25)).alloc (.cells #[.int .i64 (K : Int), .slice vb xb vd, .slice rb n rd] 25) = w0 at *
  clear m0 m1 m2 n0 n1 n2 ml nl
  go_loopw [5] (fun i wr => ∃ k : Nat, k ≤ n ∧ i = .int .i64 (k : Int) ∧ Hid (Ext w0 wr)) (fun i _ => n - (RowKit.intOf i).toNat)
  case atStart => exact ⟨0, Nat.zero_le _, rfl, Lib.hid (Ext.refl _)⟩
  case round =>
    obtain ⟨k, hk, rfl, HX⟩ := hrel
    obtain ⟨m0, m1, m2, -⟩ := HB1.out.ext HX.out
    obtain ⟨n0, n1, n2, -⟩ := HB2.out.ext HX.out
    have ml := World.block_lt_of_cell? _ _ m0
    have nl := World.block_lt_of_cell? _ _ n0
    dsimp only at ml nl
    by_cases hkn : k < n
    · obtain ⟨b1, o1, a1, c1, hra1, hb1, hc1, hr1⟩ := (HM.out.ext HX.out).get (k := k) (by rw [HNA.out]; exact hkn)
      obtain ⟨b2, o2, a2, c2, hra2, hb2, hc2, hr2⟩ := (HN.out.ext HX.out).get (k := k) (by rw [HNB.out]; exact hkn)
      have h1 := HRA.out k hkn
      have h2 := HRB.out k hkn
      rw [h1] at hc1
      rw [h2] at hc2
      subst hra1
      subst hra2
      have HSk := Lib.hid (HS.out k)
      have HR1 := Lib.hid hr1
      have HR2 := Lib.hid hr2
      have HC1 := Lib.hid hc1
      have HC2 := Lib.hid hc2
      have HL1 := Lib.hid h1
      have HL2 := Lib.hid h2
      clear hr1 hr2 h1 h2
      go_wp2_with fail
      go_quiet (fail)
      go_wp2_with fail
      clear m0 m1 m2 n0 n1 n2 hc1 hc2 ml nl
      generalize nth A k = RA at *
      generalize nth B k = RB at *
      go_loopw [6] (fun i wz => ∃ j : Nat, j ≤ K ∧ i = .int .i64 (j : Int) ∧ Hid (Ext wr wz)) (fun i _ => K - (RowKit.intOf i).toNat)
      case atStart => exact ⟨0, Nat.zero_le _, rfl, Lib.hid ((Ext.refl _).drewN _)⟩
      case round =>
        rename World => wz
        obtain ⟨j, hj, rfl, HZ⟩ := hrel
        obtain ⟨m0, m1, m2, -⟩ := HB1.out.ext (HX.out.trans HZ.out)
        obtain ⟨n0, n1, n2, -⟩ := HB2.out.ext (HX.out.trans HZ.out)
        have ml := World.block_lt_of_cell? _ _ m0
        have nl := World.block_lt_of_cell? _ _ n0
        have hc1 := HZ.out.cell HC1.out
        have hc2 := HZ.out.cell HC2.out
        have cl1 := World.block_lt_of_cell? _ _ hc1
        have cl2 := World.block_lt_of_cell? _ _ hc2
        dsimp only at ml nl cl1 cl2
        by_cases hjK : j < K
        · obtain ⟨b3, o3, ha3, hb3, hc3⟩ := (HR1.out.ext HZ.out).get (k := j) (by rw [HL1.out]; exact hjK)
          obtain ⟨b4, o4, ha4, hb4, hc4⟩ := (HR2.out.ext HZ.out).get (k := j) (by rw [HL2.out]; exact hjK)
          have hz : (un (nth RA j &&& ~~~ nth RB j) != 0) = false := by
            rw [andNot_zero.2 (HSk.out j hkn hjK), un_zero]; rfl
          subst ha3
          subst ha4
          go_wp2_with fail
          go_quiet (fail)
          go_wp2_with fail
          go_roundw
          case rel => exact ⟨j + 1, hjK, by go_num, Lib.hid (HZ.out.drewN _)⟩
          case measure => simp [RowKit.intOf]; omega
        · go_wp2_with fail
          go_roundw
          case rel => exact ⟨k + 1, hkn, by go_num, Lib.hid (HX.out.trans HZ.out)⟩
          case measure => simp [RowKit.intOf]; omega
    · go_wp2_with fail
      go_ret
      exact ⟨rfl, HE.out.trans HX.out⟩
end Wt

/- Plain: the three filtrations side by side (printed by gen_law23.py). -/
namespace Wt
open Go Go.RowKit Go.Maps Go.Proofs Fm

/-- The three filtrations, spelt out. -/
structure Btw (M : Mo) (f : List Nd) (K : Nat) (V : List (BitVec 64)) (RA RB RC : List (List (BitVec 64))) : Prop where
  k64 : K ≤ 64
  sm : filSm M f = ⟨K, V, RA⟩
  la : filLa M f false = ⟨K, V, RB⟩
  tr : filLa M f true = ⟨K, V, RC⟩
  vl : V.length = M.val.length
  v8 : V.length ≤ 8
  r4 : M.rel.length ≤ 4
  la1 : RA.length = M.rel.length
  lb1 : RB.length = M.rel.length
  lc1 : RC.length = M.rel.length
  ra : ∀ i, i < M.rel.length → (nth RA i).length = K
  rb : ∀ i, i < M.rel.length → (nth RB i).length = K
  rc : ∀ i, i < M.rel.length → (nth RC i).length = K
  ab : ∀ i w, i < M.rel.length → w < K → Sub (nth (nth RA i) w) (nth (nth RB i) w)
  ac : M.rel.all traB = true → ∀ i w, i < M.rel.length → w < K → Sub (nth (nth RA i) w) (nth (nth RC i) w)
  cb : ∀ i w, i < M.rel.length → w < K → Sub (nth (nth RC i) w) (nth (nth RB i) w)
  k4 : frIn ⟨K, V, RC⟩ 3 = true
  zero : ∀ i, i < V.length → (fFacts f).testBit i = false → nth V i = 0#64
theorem setTo_none (n : Nat) {P : Nat → Bool} (h : ∀ k, P k = false) : setTo P n = 0#64 := by
  refine bt_ext fun k hk => ?_
  rw [bt_setTo _ hk, bt_zero, h]; simp
theorem btw_ok {M : Mo} {f : List Nd} (hl : lookErr M f = 0) : ∃ K V RA RB RC, Btw M f K V RA RB RC := by
  obtain ⟨N, vk⟩ := vok_of hl
  have v := vk.vw
  have e1 : filSm M f = filM M (fFacts f) (repL (subL M (rt f)) N) (relS M (subL M (rt f)) N) := by unfold filSm; rw [if_pos hl, vk.nn]
  have e2 : ∀ b, filLa M f b = filM M (fFacts f) (repL (subL M (rt f)) N) (permL (subL M (rt f)) (canon (rt f)) b) := fun b => by unfold filLa; rw [if_pos hl, vk.nn]
  have hK : (repL (subL M (rt f)) N).length ≤ 64 := Nat.le_trans (repL_len _ _) v.ok.most
  have hrow : ∀ (R : Nat → Nat → Nat → Bool) i, i < M.rel.length → (nth (filM M (fFacts f) (repL (subL M (rt f)) N) R).rel i).length = (repL (subL M (rt f)) N).length := fun R i hi => (fil_row v R hi (fFacts f)).1
  refine ⟨(repL (subL M (rt f)) N).length, filV M (fFacts f) (repL (subL M (rt f)) N), _, _, _, ⟨hK, e1, e2 false, e2 true, by simp [filV], by simp [filV]; exact v.ok.val, v.ok.rel, by simp [filR], by simp [filR], by simp [filR], hrow _, hrow _, hrow _, ?_, ?_, ?_, ?_, ?_⟩⟩
  · intro i w hi hw
    exact fil_in v hi (fFacts f) (fun x y h => relS_le (filP v false (fun h => by cases h)) hi h) hw
  · intro ht i w hi hw
    exact fil_in v hi (fFacts f) (fun x y h => relS_le (filP v true (fun _ a ha => TransR.of v ha (List.all_eq_true.1 ht _ (nth_mem ha)))) hi h) hw
  · intro i w hi hw
    exact fil_in v hi (fFacts f) (fun x y h => perm_mono h) hw
  · have ok := filM_ok (facts := fFacts f) (R := permL (subL M (rt f)) (canon (rt f)) true) v.ok (repL_pos (subL M (rt f)) v.ok.one) hK
    show frIn (filM M (fFacts f) (repL (subL M (rt f)) N) (permL (subL M (rt f)) (canon (rt f)) true)) 3 = true
    unfold frIn
    rw [ok.check]
    show (true && true && _) = true
    rw [Bool.true_and, Bool.true_and]
    refine all_yes fun k hk => ?_
    have hk' : k < M.rel.length := by simpa [filM, filR] using hk
    unfold frHas
    rw [ok_rel ok hk]
    show (true && true && _) = true
    rw [Bool.true_and, Bool.true_and]
    show (hasB _ 4 && true) = true
    rw [has4_eq (ok_rel ok hk), Bool.and_true]
    exact fil_tra v hk' (fFacts f)
  · intro i hi hb
    have hi' : i < M.val.length := by simpa [filV] using hi
    unfold filV
    rw [nth_mapX _ hi']
    exact setTo_none _ fun k => by rw [hb]; rfl
end Wt
