/- Walks: relation.Has at seriality, reflexivity and symmetry (printed by gen_has.py). -/
import Derived.Test.YtoacdccachhjdaaGreatDoorMAAz
import Derived.Test.YtoacdccachhjdaaGreatDoorMAAa
import Derived.Sort.QuietIn
import Derived.Shelf.RegionOpen
namespace Wt
open Go Go.RowKit Go.Maps Go.Proofs Fm

theorem has3_eq {r : List (BitVec 64)} (h : relCheck r = 0) : hasB r 3 = decide (r = revL r) := by unfold hasB; rw [h]; rfl
theorem any_len {α : Type} [Inhabited α] {l : List α} {p : α → Bool} (h : ∀ j, j < l.length → p (nth l j) = false) : l.any p = false := any_no h
set_option maxHeartbeats 1000000 in
theorem indexU_any (l : List (BitVec 64)) (x : BitVec 64) (a : Option Addr) (c : Nat) (w : World) (hu : RU w a l) :
    Calls Tryz.prog 191 #[.slice a l.length c, .int .u64 (un x)] w fun e w' => (∃ i : Int, e = .returned (.int .i64 i) ∧ decide (0 ≤ i) = l.any fun s => s == x) ∧ Ext w w' := by
  have hl := hu.len
  have HU := Lib.hid hu
  clear hu
  go_enter Tryz.func191, Tryz.ntmps191
  go_wp2
  go_loopw [8] (fun i wr => ∃ k : Nat, k ≤ l.length ∧ i = .int .i64 k ∧ Hid (Ext w wr) ∧ Hid (∀ j, j < k → (nth l j == x) = false)) (fun i _ => l.length - (RowKit.intOf i).toNat)
  case atStart => exact ⟨0, Nat.zero_le _, rfl, Lib.hid (Ext.refl _), Lib.hid fun _ h => absurd h (Nat.not_lt_zero _)⟩
  case round =>
    obtain ⟨k, hk, rfl, HX, HNO⟩ := hrel
    by_cases hlt : k < l.length
    · obtain ⟨b, off, rfl, hb, hc⟩ := (HU.out.ext HX.out).get hlt
      by_cases he : nth l k = x
      · have hq : (un x == un (nth l k)) = true := by rw [he]; simp
        have HE : Hid ((nth l k == x) = true) := Lib.hid (by rw [he]; simp)
        clear he
        go_wp2_with fail
        go_ret
        exact ⟨⟨k, rfl, by rw [any_yes hlt HE.out]; simp⟩, HX.out⟩
      · have hq : (un x == un (nth l k)) = false := by
          have h2 : un x ≠ un (nth l k) := fun h => he (un_inj.1 h).symm
          simpa using h2
        have HE : Hid ((nth l k == x) = false) := Lib.hid (by simpa using he)
        clear he
        go_wp2_with fail
        go_roundw
        case rel => exact ⟨k + 1, hlt, by go_num, HX, Lib.hid (lt_step HNO.out HE.out)⟩
        case measure => simp [RowKit.intOf]; omega
    · go_wp2_with fail
      go_ret
      exact ⟨⟨-1, rfl, by rw [any_no (fun j hj => HNO.out j (by omega))]; rfl⟩, HX.out⟩
theorem containsU_any (l : List (BitVec 64)) (x : BitVec 64) (a : Option Addr) (c : Nat) (w : World) (hu : RU w a l) :
    Calls Tryz.prog 169 #[.slice a l.length c, .int .u64 (un x)] w fun e w' => e = .returned (.bool (l.any fun s => s == x)) ∧ Ext w w' := by
  have H := Lib.hid (indexU_any l x a c w hu)
  clear hu
  go_enter Tryz.func169, Tryz.ntmps169
  go_wp2_with (go_at_call 191; refine H.out.mono ?_; rintro e w1 ⟨⟨i, rfl, hi⟩, hE⟩; have HI := Lib.hid hi; clear hi)
  go_ret
  exact ⟨by rw [← HI.out]; simp, hE⟩
set_option maxRecDepth 20000 in
set_option maxHeartbeats 1000000 in
theorem equalU_any (l m : List (BitVec 64)) (a b : Option Addr) (c d n : Nat) (w : World) (hl : l.length = n) (hm : m.length = n) (h1 : RU w a l) (h2 : RU w b m) :
    Calls Tryz.prog 170 #[.slice a n c, .slice b n d] w fun e w' => e = .returned (.bool (decide (l = m))) ∧ Ext w w' := by
  have H1 := Lib.hid h1
  have H2 := Lib.hid h2
  have HL := Lib.hid hl
  have HMl := Lib.hid hm
  have hln := h1.len
  rw [hl] at hln
  clear h1 h2 hl hm
  have hnn : ((n : Int) != (n : Int)) = false := by simp
  go_enter Tryz.func170, Tryz.ntmps170
  go_wp2
  go_loopw [13] (fun i wr => ∃ k : Nat, k ≤ n ∧ i = .int .i64 (k : Int) ∧ Hid (Ext w wr) ∧ Hid (∀ j, j < k → nth l j = nth m j)) (fun i _ => n - (RowKit.intOf i).toNat)
  case atStart => exact ⟨0, Nat.zero_le _, rfl, Lib.hid (Ext.refl _), Lib.hid fun _ h => absurd h (Nat.not_lt_zero _)⟩
  case round =>
    obtain ⟨k, hk, rfl, HX, HEQ⟩ := hrel
    by_cases hlt : k < n
    · obtain ⟨b1, o1, ha, hb1, hc1⟩ := (H1.out.ext HX.out).get (k := k) (by rw [HL.out]; exact hlt)
      obtain ⟨b2, o2, hb, hb2, hc2⟩ := (H2.out.ext HX.out).get (k := k) (by rw [HMl.out]; exact hlt)
      subst ha
      subst hb
      by_cases he : nth l k = nth m k
      · have hne : (un (nth l k) != un (nth m k)) = false := by rw [he]; simp
        have HE := Lib.hid he
        clear he
        go_wp2_with fail
        go_quiet (fail)
        go_wp2_with fail
        go_roundw
        case rel => exact ⟨k + 1, hlt, by go_num, Lib.hid (HX.out.drewN _), Lib.hid (lt_step HEQ.out HE.out)⟩
        case measure => simp [RowKit.intOf]; omega
      · have hne : (un (nth l k) != un (nth m k)) = true := by
          have h3 : un (nth l k) ≠ un (nth m k) := fun h => he (un_inj.1 h)
          simpa using h3
        have HD : Hid (decide (l = m) = false) := Lib.hid (decide_eq_false fun h => he (by rw [h]))
        clear he
        go_wp2_with fail
        go_quiet (fail)
        go_wp2_with fail
        go_ret
        exact ⟨by rw [HD.out]; rfl, HX.out.drewN _⟩
    · have HD : Hid (decide (l = m) = true) := Lib.hid (decide_eq_true (nth_ext (by rw [HL.out, HMl.out]) fun j hj => HEQ.out j (by rw [HL.out] at hj; omega)))
      go_wp2_with fail
      go_ret
      exact ⟨by rw [HD.out]; rfl, HX.out⟩
theorem ser_any (r : List (BitVec 64)) : (!r.any fun s => s == 0#64) = serB r := by
  unfold serB
  induction r with
  | nil => rfl
  | cons x l ih => simp only [List.any_cons, List.all_cons, Bool.not_or, ih]; rfl
set_option maxRecDepth 20000 in
set_option maxHeartbeats 4000000 in
theorem has1_any (r : List (BitVec 64)) (a : Option Addr) (c : Nat) (w : World) (hT : Tab w) (hr : RU w a r) :
    Calls Tryz.prog 142 #[.slice a r.length c, .int .i64 1] w fun e w' => e = .returned (.bool (hasB r 1)) ∧ Ext w w' := by
  have hE0 : Ext w ((w.alloc (.cells #[.slice a r.length c] 25)).alloc (.cells #[.bool false] 4)) := ((Ext.refl w).alloc _).alloc _
  have b0 := (Bx1.new w (.slice a r.length c) 25).ext ((Ext.refl _).alloc (.cells #[.bool false] 4))
  have b1 := (Bx1.new (w.alloc (.cells #[.slice a r.length c] 25)) (.bool false) 4).at (b' := w.heap.size + 1) (by simp)
  have HE := Lib.hid hE0
  have HT := Lib.hid (hT.ext hE0)
  have HR := Lib.hid (hr.ext hE0)
  have HB0 := Lib.hid b0
  have HB1 := Lib.hid b1
  have hln := hr.len
  have hck0 := relCheck_any a r c _ (hr.ext hE0)
  clear hT hr hE0
  obtain ⟨c0, -⟩ := b0
  obtain ⟨c1, f1⟩ := b1
  by_cases hck : relCheck r = 0
  · rw [has1_eq hck]
    rw [hck] at hck0
    have HCK := Lib.hid hck0
    clear hck0
    obtain ⟨h64, hin⟩ := relCheck_ok hck
    have HIN := Lib.hid hin
    clear hck hin
    go_enter Tryz.func142, Tryz.ntmps142
    go_wp2_with fail
    generalize ((w.alloc (.cells #[.slice a r.length c] 25)).alloc (.cells #[.bool false] 4)) = w2 at *
    refine HCK.out.mono ?_
    rintro _ _ ⟨rfl, rfl⟩
    dsimp only
    go_wp2_with fail
    refine (containsU_any r 0#64 a c w2 HR.out).mono ?_
    rintro _ w3 ⟨rfl, hE3⟩
    have HE3 := Lib.hid hE3
    obtain ⟨d1, e1⟩ := HB1.out.ext hE3
    have dl1 := (HB1.out.ext hE3).lt
    have HVV := Lib.hid (ser_any r)
    clear hE3 c0 c1 f1
    generalize (r.any fun s => s == 0#64) = bb at *
    dsimp only
    go_wp2_with fail
    refine bodyPost_ret (v := .bool (!bb)) ?_ rfl ?_
    · rw [results_cell_one rfl]
      go_simp
    · exact ⟨by rw [← HVV.out], ((HE.out.trans HE3.out).setCell (by simp) _)⟩
  · rw [has_bad hck]
    have hq : (relCheck r != 0) = true := by simpa using hck
    have HCK := Lib.hid hck0
    clear hck0 hck
    generalize relCheck r = er at *
    go_enter Tryz.func142, Tryz.ntmps142
    go_wp2_with fail
    generalize ((w.alloc (.cells #[.slice a r.length c] 25)).alloc (.cells #[.bool false] 4)) = w2 at *
    refine HCK.out.mono ?_
    rintro _ _ ⟨rfl, rfl⟩
    dsimp only
    go_wp2_with fail
    refine bodyPost_ret (v := .bool false) ?_ rfl ?_
    · rw [results_cell_one rfl]
      go_simp
    · exact ⟨rfl, HE.out.setCell (by simp) _⟩
set_option maxRecDepth 20000 in
set_option maxHeartbeats 4000000 in
theorem has2_any (r : List (BitVec 64)) (a : Option Addr) (c : Nat) (w : World) (hT : Tab w) (hr : RU w a r) :
    Calls Tryz.prog 142 #[.slice a r.length c, .int .i64 2] w fun e w' => e = .returned (.bool (hasB r 2)) ∧ Ext w w' := by
  have hE0 : Ext w ((w.alloc (.cells #[.slice a r.length c] 25)).alloc (.cells #[.bool false] 4)) := ((Ext.refl w).alloc _).alloc _
  have b0 := (Bx1.new w (.slice a r.length c) 25).ext ((Ext.refl _).alloc (.cells #[.bool false] 4))
  have b1 := (Bx1.new (w.alloc (.cells #[.slice a r.length c] 25)) (.bool false) 4).at (b' := w.heap.size + 1) (by simp)
  have HE := Lib.hid hE0
  have HT := Lib.hid (hT.ext hE0)
  have HR := Lib.hid (hr.ext hE0)
  have HB0 := Lib.hid b0
  have HB1 := Lib.hid b1
  have hln := hr.len
  have hck0 := relCheck_any a r c _ (hr.ext hE0)
  clear hT hr hE0
  obtain ⟨c0, -⟩ := b0
  obtain ⟨c1, f1⟩ := b1
  by_cases hck : relCheck r = 0
  · rw [has2_eq hck]
    rw [hck] at hck0
    have HCK := Lib.hid hck0
    clear hck0
    obtain ⟨h64, hin⟩ := relCheck_ok hck
    have HIN := Lib.hid hin
    clear hck hin
    go_enter Tryz.func142, Tryz.ntmps142
    go_wp2_with fail
    generalize ((w.alloc (.cells #[.slice a r.length c] 25)).alloc (.cells #[.bool false] 4)) = w2 at *
    refine HCK.out.mono ?_
    rintro _ _ ⟨rfl, rfl⟩
    dsimp only
    go_wp2_with fail
    go_loopw [24] (fun i wr => ∃ k : Nat, k ≤ r.length ∧ i = .int .i64 (k : Int) ∧ Hid (Ext w2 wr) ∧ Hid (∀ j, j < k → bt (nth r j) j = true)) (fun i _ => r.length - (RowKit.intOf i).toNat)
    case atStart => exact ⟨0, Nat.zero_le _, rfl, Lib.hid (Ext.refl _), Lib.hid fun _ h => absurd h (Nat.not_lt_zero _)⟩
    case round =>
      clear c0 c1 f1
      obtain ⟨k, hk, rfl, HX, HNO⟩ := hrel
      obtain ⟨d0, -⟩ := HB0.out.ext HX.out
      obtain ⟨d1, e1⟩ := HB1.out.ext HX.out
      have dl0 := (HB0.out.ext HX.out).lt
      have dl1 := (HB1.out.ext HX.out).lt
      by_cases hkl : k < r.length
      · obtain ⟨g, q, rfl, hg, hc⟩ := (HR.out.ext HX.out).get hkl
        have hk64 : k < 64 := by omega
        have hbu := bit_un (nth r k) k
        cases hb : bt (nth r k) k
        · rw [hb] at hbu
          simp only [b01I, Bool.false_eq_true, if_false] at hbu
          have HVV : Hid (refB r = false) := Lib.hid (by
            cases hq : refB r
            · rfl
            · have := (refB_iff rfl).1 hq k hkl
              rw [hb] at this; cases this)
          clear hb
          go_wp2_with fail
          refine bodyPost_ret (v := .bool false) ?_ rfl ?_
          · rw [results_cell_one rfl]
            go_simp
          · exact ⟨by rw [HVV.out], ((HE.out.trans HX.out).setCell (by simp) _)⟩
        · rw [hb] at hbu
          simp only [b01I, if_true] at hbu
          have HBB := Lib.hid hb
          clear hb
          go_wp2_with fail
          go_roundw
          case rel => exact ⟨k + 1, hkl, by go_num, HX, Lib.hid (lt_step HNO.out HBB.out)⟩
          case measure => simp [RowKit.intOf]; omega
      · have HVV : Hid (refB r = true) := Lib.hid ((refB_iff rfl).2 fun v hv => HNO.out v (by omega))
        go_wp2_with fail
        refine bodyPost_ret (v := .bool true) ?_ rfl ?_
        · rw [results_cell_one rfl]
          go_simp
        · exact ⟨by rw [HVV.out], ((HE.out.trans HX.out).setCell (by simp) _)⟩
  · rw [has_bad hck]
    have hq : (relCheck r != 0) = true := by simpa using hck
    have HCK := Lib.hid hck0
    clear hck0 hck
    generalize relCheck r = er at *
    go_enter Tryz.func142, Tryz.ntmps142
    go_wp2_with fail
    generalize ((w.alloc (.cells #[.slice a r.length c] 25)).alloc (.cells #[.bool false] 4)) = w2 at *
    refine HCK.out.mono ?_
    rintro _ _ ⟨rfl, rfl⟩
    dsimp only
    go_wp2_with fail
    refine bodyPost_ret (v := .bool false) ?_ rfl ?_
    · rw [results_cell_one rfl]
      go_simp
    · exact ⟨rfl, HE.out.setCell (by simp) _⟩
set_option maxRecDepth 20000 in
set_option maxHeartbeats 4000000 in
theorem has3_any (r : List (BitVec 64)) (a : Option Addr) (c : Nat) (w : World) (hT : Tab w) (hr : RU w a r) :
    Calls Tryz.prog 142 #[.slice a r.length c, .int .i64 3] w fun e w' => e = .returned (.bool (hasB r 3)) ∧ Ext w w' := by
  have hE0 : Ext w ((w.alloc (.cells #[.slice a r.length c] 25)).alloc (.cells #[.bool false] 4)) := ((Ext.refl w).alloc _).alloc _
  have b0 := (Bx1.new w (.slice a r.length c) 25).ext ((Ext.refl _).alloc (.cells #[.bool false] 4))
  have b1 := (Bx1.new (w.alloc (.cells #[.slice a r.length c] 25)) (.bool false) 4).at (b' := w.heap.size + 1) (by simp)
  have HE := Lib.hid hE0
  have HT := Lib.hid (hT.ext hE0)
  have HR := Lib.hid (hr.ext hE0)
  have HB0 := Lib.hid b0
  have HB1 := Lib.hid b1
  have hln := hr.len
  have hck0 := relCheck_any a r c _ (hr.ext hE0)
  clear hT hr hE0
  obtain ⟨c0, -⟩ := b0
  obtain ⟨c1, f1⟩ := b1
  by_cases hck : relCheck r = 0
  · rw [has3_eq hck]
    rw [hck] at hck0
    have HCK := Lib.hid hck0
    clear hck0
    obtain ⟨h64, hin⟩ := relCheck_ok hck
    have HIN := Lib.hid hin
    have HCKR := Lib.hid hck
    clear hck hin
    go_enter Tryz.func142, Tryz.ntmps142
    go_wp2_with fail
    generalize ((w.alloc (.cells #[.slice a r.length c] 25)).alloc (.cells #[.bool false] 4)) = w2 at *
    refine HCK.out.mono ?_
    rintro _ _ ⟨rfl, rfl⟩
    dsimp only
    go_wp2_with fail
    have HRV : Hid (∀ W, Ext w2 W → Calls Tryz.prog 171 #[.slice a r.length c] W fun e w' => (∃ g cp, e = .returned (.slice (some ⟨g, 0, none⟩) r.length cp) ∧ RU w' (some ⟨g, 0, none⟩) (revL r)) ∧ Ext W w') := Lib.hid fun W e => reversed_any r a c W (HT.out.ext e) (HR.out.ext e) HCKR.out
    have HEQ : Hid (∀ W g cp, Ext w2 W → RU W (some ⟨g, 0, none⟩) (revL r) → Calls Tryz.prog 170 #[.slice a r.length c, .slice (some ⟨g, 0, none⟩) r.length cp] W fun e w' => e = .returned (.bool (decide (r = revL r))) ∧ Ext W w') := Lib.hid fun W g cp e hu => equalU_any r (revL r) a _ c cp r.length W rfl (by simp [revL]) (HR.out.ext e) hu
    have HKP : Hid (∀ w', Ext w2.drew w' → w'.cell? ⟨w.heap.size, 0, none⟩ = some (.slice a r.length c)) := Lib.hid fun w' e => e.cell c0
    go_region_held3 (fun w' => w'.cell? ⟨w.heap.size, 0, none⟩ = some (.slice a r.length c)) (first | go_keep | exact HKP.out _ (by assumption)) (first | (go_at_call 171; refine (HRV.out _ (Ext.refl _).drew).mono ?_; rintro _ w3 ⟨⟨g, cp, rfl, hu⟩, hE3⟩) | (go_at_call 170; refine (HEQ.out _ g cp ((Ext.refl _).drew.trans hE3) hu).mono ?_; rintro _ w4 ⟨rfl, hE4⟩; have hE5 := hE3.trans hE4; obtain ⟨d1, e1⟩ := HB1.out.ext ((Ext.refl _).drew.trans hE5); have dl1 := (HB1.out.ext ((Ext.refl _).drew.trans hE5)).lt) | fail)
    all_goals
      have HE5 := Lib.hid ((Ext.refl _).drew.trans hE5)
      clear hE3 hE4 hE5 c0 c1 f1
      generalize hbb : decide (r = revL r) = bb at *
      have HBV := Lib.hid hbb
      clear hbb
      go_wp2_with fail
      refine bodyPost_ret (v := .bool bb) ?_ rfl ?_
      · rw [results_cell_one rfl]
        go_simp
      · exact ⟨by rw [HBV.out], ((HE.out.trans HE5.out).setCell (by simp) _)⟩
  · rw [has_bad hck]
    have hq : (relCheck r != 0) = true := by simpa using hck
    have HCK := Lib.hid hck0
    clear hck0 hck
    generalize relCheck r = er at *
    go_enter Tryz.func142, Tryz.ntmps142
    go_wp2_with fail
    generalize ((w.alloc (.cells #[.slice a r.length c] 25)).alloc (.cells #[.bool false] 4)) = w2 at *
    refine HCK.out.mono ?_
    rintro _ _ ⟨rfl, rfl⟩
    dsimp only
    go_wp2_with fail
    refine bodyPost_ret (v := .bool false) ?_ rfl ?_
    · rw [results_cell_one rfl]
      go_simp
    · exact ⟨rfl, HE.out.setCell (by simp) _⟩
end Wt

/- A range over relation.points with an early return: the law of the statement, the iterator's contract. -/
namespace Wt
open Go Go.RowKit Go.Maps Go.Proofs Fm
attribute [local go_sem] Oper.semAt_some

section
variable {F : Fence} {n : Nat} {P : Program}
/-- As PtsAt, but a round may end the walk. -/
def PtsAtS (F : Fence) (n : Nat) (P : Program) (g b : Nat) (xs : List Nat) (st : Nat → Value) : Prop :=
  ∀ (l : Nat) (J : Nat → World → Prop) (Jx : World → Prop) (W : World),
    (∀ k A v, J k A → J k (A.setCell ⟨b, 0, none⟩ v)) → (∀ k A, J k A → J k A.drew) → (∀ k A, J k A → Tab A) →
    (∀ k A, k < xs.length → J k A → A.cell? ⟨b, 0, none⟩ = some (st k) → A.frozen? ⟨b, 0, none⟩ = false → YieldAt F (n - 1) P l #[.int .i64 ((nth xs k : Nat) : Int)] A fun e A' => (e = .returned (.bool true) ∧ J (k + 1) A' ∧ A'.cell? ⟨b, 0, none⟩ = A.cell? ⟨b, 0, none⟩ ∧ A'.frozen? ⟨b, 0, none⟩ = A.frozen? ⟨b, 0, none⟩) ∨ (e = .returned (.bool false) ∧ Jx A')) →
    J 0 W → W.cell? ⟨b, 0, none⟩ = some (st 0) → W.frozen? ⟨b, 0, none⟩ = false →
    CallsIn F n P g #[.func (.yield l) #[] #[], .pointer (some ⟨b, 0, none⟩)] W fun e W' => (∃ v, e = .returned v) ∧ (J xs.length W' ∨ Jx W')
/-- How a round ends. -/
def ptsPostS (I : Nat → World → Prop) (Ix : Code → World → Prop) (b k : Nat) (W : World) : Exit → Act → World → Prop
  | .normal, _, W' => KeepsOthers W W' ∧ I (k + 1) W' ∧ W'.cell? ⟨b, 0, none⟩ = W.cell? ⟨b, 0, none⟩ ∧ W'.frozen? ⟨b, 0, none⟩ = W.frozen? ⟨b, 0, none⟩
  | .ret, _, W' => KeepsOthers W W' ∧ Ix .ret W'
  | .exit id, _, W' => KeepsOthers W W' ∧ Ix (.exit id) W'
  | _, _, _ => False
theorem wpIn_rangeFunc_ptsS {g : Operand} {ps : Array Tmp} {assign body : Code} {Q : Exit → Act → World → Prop} {a : Act} {w : World}
    (hro : F.round = none) (h1 : 1 ≤ n) {gf b : Nat} (hg : a.eval g = .func (.func gf) #[] #[.pointer (some ⟨b, 0, none⟩)]) (hFg : F.fn gf) (eg : ∀ args w, (callFunc gf args).run P w = .ok (.enter gf args) w)
    {xs : List Nat} {st : Nat → Value} (hseq : PtsAtS F (n - 1) P gf b xs st) (hps : ps.size = 1)
    (hb0 : w.cell? ⟨b, 0, none⟩ = some (st 0)) (hbf : w.frozen? ⟨b, 0, none⟩ = false)
    (I : Nat → World → Prop) (Ix : Code → World → Prop) (hI : OwnFrom w.heap.size I) (hIx : OwnFrom w.heap.size Ix) (hIb : ∀ k A v, I k A → I k (A.setCell ⟨b, 0, none⟩ v)) (hId : ∀ k A, I k A → I k A.drew) (hIT : ∀ k A, I k A → Tab A) (h0 : I 0 w) (a₁ : Nat → Act)
    (hassign : ∀ (l k : Nat) (W : World) (K : Act → World → Prop), K (a₁ (nth xs k)) W →
      assign.wpIn (F.inRound l) (n - 1 - 1) P (Exit.then K (fun _ _ _ => False)) { tmps := (ps.zip #[.int .i64 ((nth xs k : Nat) : Int)]).foldl (fun t (p, v) => t.setIfInBounds p v) a.tmps, defers := [] } W)
    (hbody : ∀ (l k : Nat) (W : World), k < xs.length → I k W → body.wpIn (F.inRound l) (n - 1 - 1) P (ptsPostS I Ix b k W) (a₁ (nth xs k)) W)
    (hdone : ∀ (D : Nat) (W : World), w.heap.size ≤ D → I xs.length W → W.heap[D]? = some (.deferred (some [])) → Q .normal { a with defers := { target := .collected D, args := #[] } :: a.defers } W)
    (hstop : ∀ (D : Nat) (c : Code) (W : World), w.heap.size ≤ D → Ix c W → W.heap[D]? = some (.deferred (some [])) → c.wpIn F n P Q { a with defers := { target := .collected D, args := #[] } :: a.defers } W) :
    (Code.rangeFunc g ps assign body).wpIn F n P Q a w := by
  have hbl : b < w.heap.size := World.block_lt_of_cell? _ _ hb0
  refine wpIn_rangeFunc ?_
  intro fn hfn
  rw [hro]
  obtain ⟨rec, hrec⟩ : ∃ rec : LoopState → Option Code → Loop, rec = fun st pe => { state := st, pending := pe, fn, tmps := a.tmps, params := ps, assign, body, defers := w.heap.size } := ⟨_, rfl⟩
  obtain ⟨W1, hW1⟩ : ∃ W1, (w.alloc (.deferred (some []))).alloc (.loop (rec .ready none)) = W1 := ⟨_, rfl⟩
  have hL1 : W1.heap[w.heap.size + 1]? = some (.loop (rec .ready none)) := by
    rw [← hW1]; have := World.alloc_heap_new (w.alloc (.deferred (some []))) (.loop (rec .ready none)); rwa [World.size_alloc] at this
  have hK1 : W1.heap[w.heap.size]? = some (.deferred (some [])) := by
    rw [← hW1]; exact (Below.heap_alloc _ _ _ (by simp)).trans (World.alloc_heap_new w _)
  have hI1 : I 0 W1 := by rw [← hW1]; exact hI.alloc _ (hI.alloc _ h0)
  have hold : W1.heap[b]? = w.heap[b]? := by
    rw [← hW1]; exact (Below.heap_alloc _ _ b (by simp; omega)).trans (Below.heap_alloc _ _ b hbl)
  refine ⟨w.heap.size + 1, [{ target := .collected w.heap.size, args := #[] }], W1, { target := .fn (.func gf) #[.pointer (some ⟨b, 0, none⟩)], args := #[.func (.yield (w.heap.size + 1)) #[] #[]] }, W1, gf,
    #[.func (.yield (w.heap.size + 1)) #[] #[]] ++ #[.pointer (some ⟨b, 0, none⟩)], W1, ?_, ?_, ?_, ?_, fun _ => h1, ?_⟩
  · rw [← hW1, hrec]; exact run_enterLoop_outer _ _ _ _ _
  · simp only [resolve, hg]
    simp [go_sem]
  · intro f' hf'; simp [Target.leads] at hf'; subst hf'; exact hFg
  · simp [invoke, go_sem, eg]
  · refine (hseq (w.heap.size + 1)
      (fun k W => I k W ∧ W.heap[w.heap.size + 1]? = some (.loop (rec .ready none)) ∧ W.heap[w.heap.size]? = some (.deferred (some [])))
      (fun W => ∃ c, Ix c W ∧ W.heap[w.heap.size + 1]? = some (.loop (rec .done (some c))) ∧ W.heap[w.heap.size]? = some (.deferred (some [])))
      W1
      (fun k A v h => ⟨hIb k A v h.1, (Below.heap_setCell A ⟨b, 0, none⟩ v _ (by show w.heap.size + 1 ≠ b; omega)).trans h.2.1, (Below.heap_setCell A ⟨b, 0, none⟩ v _ (by show w.heap.size ≠ b; omega)).trans h.2.2⟩)
      (fun k A h => ⟨hId k A h.1, h.2.1, h.2.2⟩)
      (fun k A h => hIT k A h.1)
      ?_ ⟨hI1, hL1, hK1⟩ ((World.cell?_of_block hold).trans hb0) ((World.frozen?_of_block hold).trans hbf)).mono ?_
    · rintro k W hk ⟨hi, hl, hkd⟩ hbc hbz
      have hlt : w.heap.size + 1 < W.heap.size := (Array.getElem?_eq_some_iff.1 hl).1
      have hy := run_yield (P := P) (args := #[.int .i64 ((nth xs k : Nat) : Int)]) hl (by rw [hrec]; exact hps.symm)
      rw [hrec] at hy
      refine ⟨fn, _, assign, body, hy, roundIn_of_wpIn hfn (hassign _ k W _ ⟨_, run_beginRound hl (by rw [hrec]), ?_⟩)⟩
      have hl2 : (W.putObj (w.heap.size + 1) (.loop { rec .ready none with state := .busy })).heap[w.heap.size + 1]? = some (.loop { rec .ready none with state := .busy }) := World.putObj_heap_same hlt
      have hk2 : (W.putObj (w.heap.size + 1) (.loop { rec .ready none with state := .busy })).heap[w.heap.size]? = some (.deferred (some [])) := (World.putObj_heap_other (by omega)).trans hkd
      have fin : ∀ (jump : Option Code) (W3 : World), KeepsOthers (W.putObj (w.heap.size + 1) (.loop { rec .ready none with state := .busy })) W3 →
          (Instr.endRound (w.heap.size + 1) jump).run P W3 = .ok (.bool jump.isNone) (W3.putObj (w.heap.size + 1) (.loop (rec (if jump.isNone then .ready else .done) jump))) ∧
          W3.heap[w.heap.size + 1]? = some (.loop { rec .ready none with state := .busy }) ∧
          (W3.putObj (w.heap.size + 1) (.loop (rec (if jump.isNone then .ready else .done) jump))).heap[w.heap.size + 1]? = some (.loop (rec (if jump.isNone then .ready else .done) jump)) ∧
          (W3.putObj (w.heap.size + 1) (.loop (rec (if jump.isNone then .ready else .done) jump))).heap[w.heap.size]? = some (.deferred (some [])) := fun jump W3 hk3 => by
        have hl3 := hk3.same _ _ hl2 rfl
        have := run_endRound (P := P) jump hl3
        rw [hrec] at this ⊢
        exact ⟨this, by rw [hrec] at hl3; exact hl3, World.putObj_heap_same (Array.getElem?_eq_some_iff.1 hl3).1, (World.putObj_heap_other (by omega)).trans (hk3.same _ _ hk2 rfl)⟩
      refine wpIn_mono (hbody _ k _ hk (hI.putObj _ hi (by omega) hl rfl)) ?_
      rintro e a3 W3 hp
      cases e with
      | normal =>
        obtain ⟨hk3, hi3, hc3, hf3⟩ := hp
        obtain ⟨hr, hl3, hl4, hk4⟩ := fin none W3 hk3
        obtain ⟨c1, f1⟩ := putObj_cell (W := W) (l := w.heap.size + 1) (b := b) (.loop { rec .ready none with state := .busy }) (by omega)
        exact ⟨_, _, hr, .inl ⟨rfl, ⟨hI.putObj _ hi3 (by omega) hl3 rfl, hl4, hk4⟩, ((putObj_cell _ (by omega)).1.trans hc3).trans c1, ((putObj_cell _ (by omega)).2.trans hf3).trans f1⟩⟩
      | ret =>
        obtain ⟨hk3, hi3⟩ := hp
        obtain ⟨hr, hl3, hl4, hk4⟩ := fin (some .ret) W3 hk3
        exact ⟨_, _, hr, .inr ⟨rfl, .ret, hIx.putObj _ hi3 (by omega) hl3 rfl, hl4, hk4⟩⟩
      | exit id =>
        obtain ⟨hk3, hi3⟩ := hp
        obtain ⟨hr, hl3, hl4, hk4⟩ := fin (some (.exit id)) W3 hk3
        exact ⟨_, _, hr, .inr ⟨rfl, .exit id, hIx.putObj _ hi3 (by omega) hl3 rfl, hl4, hk4⟩⟩
      | goto t => exact hp.elim
      | panic ch => exact hp.elim
      | outgrown => exact hp.elim
    · rintro e W2 ⟨⟨v, rfl⟩, (⟨hi, hl, hk⟩ | ⟨c, hi, hl, hk⟩)⟩
      · exact ⟨none, _, by have := run_endLoop (P := P) hl (by rw [hrec]; simp); rw [hrec] at this; exact this, hdone _ _ (Nat.le_refl _) (hI.putObj _ hi (by omega) hl rfl) ((World.putObj_heap_other (by omega)).trans hk)⟩
      · exact ⟨some c, _, by have := run_endLoop (P := P) hl (by rw [hrec]; simp); rw [hrec] at this; exact this, hstop _ c _ (Nat.le_refl _) (hIx.putObj _ hi (by omega) hl rfl) ((World.putObj_heap_other (by omega)).trans hk)⟩
end
set_option maxRecDepth 20000 in
set_option maxHeartbeats 4000000 in
theorem points1_ptsS (n : Nat) (hn : 1 ≤ n) (b : Nat) (s : BitVec 64) : PtsAtS Fence.wide n Tryz.prog 192 b (memL s) (ptsSt s) := by
  intro l J Jx W hJs hJd hJT hY h0 hc hf
  have HS := Lib.hid hJs
  have HT := Lib.hid hJT
  have HY := Lib.hid hY
  clear hJs hJd hJT hY
  refine callsIn_of_wp Tryz.func192 rfl trivial ?_ rfl
  simp only [Tryz.ntmps192, List.size_toArray, List.length_cons, List.length_nil, Nat.reduceAdd, Nat.reduceSub, Array.replicate_succ, Array.replicate_zero, List.push_toArray, List.append_toArray, List.nil_append, List.cons_append]
  gi_wp2
  gi_loopw [] (fun wr => ∃ k, k ≤ (memL s).length ∧ Hid (J k wr) ∧ wr.cell? ⟨b, 0, none⟩ = some (ptsSt s k) ∧ wr.frozen? ⟨b, 0, none⟩ = false) (fun wr => ptsMu b wr)
  case atStart => exact ⟨0, Nat.zero_le _, Lib.hid h0, hc, hf⟩
  case round =>
    clear h0 hc hf
    obtain ⟨k, hk, HJ, hc, hf⟩ := hrel
    have hmu := Lib.hid (ptsMu_at hc)
    by_cases hkl : k < (memL s).length
    · have hne := dropK_ne hkl
      have htz := tz_any (dropK s k) hne wr (HT.out _ _ HJ.out)
      rw [dropK_tz hkl] at htz
      have HZ : Hid (CallsIn Fence.wide (n - 1) Tryz.prog 180 #[.int .u64 (un (dropK s k))] wr fun e w' => e = .returned (.int .i64 ((nth (memL s) k : Nat) : Int)) ∧ wr = w') := Lib.hid (callsIn_wide.2 htz)
      obtain ⟨fn, tmps, assign, body, hy, hR⟩ := HY.out k wr hkl HJ.out hc hf
      have hne2 : (un (dropK s k) != 0) = true := by
        have h1 : un (dropK s k) ≠ un 0#64 := fun h => hne (un_inj.1 h)
        rw [un_zero] at h1
        simpa using h1
      have HD : Hid (dropK s (k + 1) = dropK s k &&& (dropK s k - 1#64)) := Lib.hid rfl
      clear htz hne
      change wr.cell? ⟨b, 0, none⟩ = some (.int .u64 (un (dropK s k))) at hc
      generalize dropK s k = S at *
      have hbl := World.block_lt_of_cell? _ _ hc
      gi_wp2_with (refine ⟨trivial, ?_⟩; gi_at_call 180; refine HZ.out.mono ?_; rintro _ _ ⟨rfl, rfl⟩)
      refine hR.mono ?_
      rintro _ w2 (⟨rfl, hJ2, hc2, hf2⟩ | ⟨rfl, hX⟩)
      · rw [hc] at hc2
        rw [hf] at hf2
        have hbl2 := World.block_lt_of_cell? _ _ hc2
        have HJ2 := Lib.hid hJ2
        clear hy hR hJ2
        have HC3 : Hid ((w2.setCell ⟨b, 0, none⟩ (.int .u64 (un (S &&& (S - 1#64))))).cell? ⟨b, 0, none⟩ = some (ptsSt s (k + 1))) := Lib.hid (by
          rw [ptsSt, HD.out]
          exact World.cell?_setCell_same' _ _ _ (by rw [hc2]; rfl))
        gi_wp2
        go_roundw
        case rel => exact ⟨k + 1, hkl, Lib.hid (HS.out _ _ _ HJ2.out), HC3.out, by rw [World.frozen?_setCell]; exact hf2⟩
        case measure =>
          have h1 := hmu.out
          have h2 := ptsMu_at HC3.out
          omega
      · have HX := Lib.hid hX
        clear hy hR hX hc hf
        gi_wp2
        refine bodyPost_ret (results_none rfl _ _ _) rfl ?_
        exact ⟨⟨_, rfl⟩, .inr HX.out⟩
    · obtain rfl : k = (memL s).length := by omega
      have hz : ptsSt s (memL s).length = .int .u64 0 := by unfold ptsSt; rw [dropK_end, un_zero]
      rw [hz] at hc
      gi_wp2
      go_end0
      exact ⟨⟨_, rfl⟩, .inl HJ.out⟩
end Wt

/- The quiet walk of a drawn region inside a round (no deferral among its operations). -/
namespace Wt
open Go Go.RowKit Go.Maps Go.Proofs

section
variable {F : Fence} {n : Nat} {P : Program} {ops : Array Oper} {md : Region.Mode} {C : World → Prop}
/-- No operation defers a call. -/
def noDef (o : Oper) : Bool := match o.op with
  | .defer _ => false
  | _ => true
theorem noDef_ne {o : Oper} (h : noDef o = true) : ∀ c, o.op ≠ .defer c := fun c e => by
  unfold noDef at h
  rw [e] at h
  cases h
theorem wpIn_of_quietR {o : Oper} {a : Act} {K : Act → Prop} {K' : Act → World → Prop} {Q' : Exit → Act → World → Prop} {w : World} (hro : noDef o = true) (hw : C w) (h : ∀ a w', C w' → K a → K' a w')
    (ha : o.askedIn F P a C) (hh : o.quietIn F n P a C K) : o.wpIn F n P a w K' Q' := by
  obtain ⟨v, h1, h2⟩ := hh
  have h3 := h1 w hw
  unfold Oper.quietAtIn at h3
  unfold Oper.wpIn
  refine ⟨ha w hw, ?_⟩
  rw [Oper.semAt_eq _ _ _ (noDef_ne hro)]
  generalize (execOp a.eval o).run P w = r at *
  cases r with
  | ok x w' =>
    cases x <;> simp only [Oper.quietUponIn] at h3 <;> simp only [Oper.uponIn]
    case value u =>
      obtain ⟨e1, e2⟩ := h3
      rw [e1, e2]
      exact h _ _ hw h2
    case skip =>
      obtain ⟨e1, e2⟩ := h3
      rw [e1, ← e2]
      exact h _ _ hw h2
    case enter f args =>
      obtain ⟨e1, hd, hc⟩ := h3
      rw [e1]
      exact ⟨hd, hc.mono fun e w'' ⟨he, hw''⟩ => by subst he; exact h _ _ hw'' h2⟩
  | halt x w' => simp only [Oper.quietUponIn] at h3
theorem wpOpIn_of_qOpR {i : Nat} {a : Act} {K : Act → Prop} {K' : Act → World → Prop} {Q' : Exit → Act → World → Prop} {w : World} (hro : ∀ (j : Nat) (o : Oper), ops[j]? = some o → noDef o = true) (hC : C w) (h : ∀ a w', C w' → K a → K' a w')
    (hh : qOpIn F n P ops C i K a) : wpOpIn F n P ops Q' i K' a w := by
  unfold qOpIn at hh
  unfold wpOpIn
  split
  · rename_i ho; simp only [ho] at hh; exact h _ _ hC hh
  · rename_i o ho
    simp only [ho] at hh
    obtain ⟨ha, hh⟩ := hh
    split
    · rename_i hw; simp only [hw, if_true] at hh; exact wpIn_of_quietR (hro _ _ ho) hC h ha hh
    · rename_i hw; simp only [hw] at hh; exact ⟨ha w hC, h _ _ hC hh⟩
theorem wpAnyIn_of_quietR {Q : Act → Prop} {Q' : Exit → Act → World → Prop} (hro : ∀ (j : Nat) (o : Oper), ops[j]? = some o → noDef o = true) (hQ : ∀ a w, C w → Q a → Q' .normal a w) : ∀ (fuel : Nat) (listed : Array Bool) (a : Act) (w : World), C w →
    wpAnyQIn F n P md ops C Q fuel listed a → wpAnyIn F n P md ops Q' fuel listed a w
  | 0, _, _, _, hw, h => ⟨h.1, hQ _ _ hw h.2⟩
  | fuel + 1, _, _, _, hw, h => ⟨fun h0 => hQ _ _ hw (h.1 h0), fun i hi => wpOpIn_of_qOpR hro hw (fun a' w' hw' => wpAnyIn_of_quietR hro hQ fuel _ a' w' hw') (h.2 i hi)⟩
theorem wpIn_region_quietR {id : Nat} {Q : Exit → Act → World → Prop} {a : Act} {w : World} {l : List Oper} (hro : l.all noDef = true) (hm : P.follows .mixedOrders = true) (hB : Region.lexB .any l.toArray = true)
    (h : wpQuietIn F n P l.toArray (fun w' => ∃ n, w' = w.drewN n) (fun a' => ∀ w', (∃ n, w' = w.drewN n) → Q .normal a' w') l a) : (Code.region id l.toArray true).wpIn F n P Q a w := by
  simp only [Region.lexB, Bool.and_eq_true] at hB
  refine wpIn_region_any hm (wpAnyIn_of_quietR (C := fun w' => ∃ n, w' = w.drewN n) (Q := fun a' => ∀ w', (∃ n, w' = w.drewN n) → Q .normal a' w') (fun j o hj => ?_) (fun _ w' hw' h => h w' hw') _ _ _ _ ⟨1, rfl⟩ ?_)
  · rw [List.getElem?_toArray] at hj
    exact List.all_eq_true.1 hro o (List.mem_of_getElem? hj)
  · have := wpAnyQIn_lex (F := F) (n := n) (C := fun w' => ∃ n, w' = w.drewN n) (md := .any) hB.1 l 0 (Array.replicate l.toArray.size false) a (by simp) (by simpa using hB.2) h
    simpa using this
end
end Wt
