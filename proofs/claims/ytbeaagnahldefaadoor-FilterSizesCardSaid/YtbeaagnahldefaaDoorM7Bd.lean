/- Walks: relation.Has at seriality, reflexivity and symmetry (printed by gen_has.py). -/
import Derived.Test.YtbeaagnahldefaaDoorM7Bc
import Derived.Test.YtbeaagnahldefaaDoorM7Av
namespace Wt
open Go Go.RowKit Go.Maps Go.Proofs Fm

theorem has3_eq {r : List (BitVec 64)} (h : relCheck r = 0) : hasB r 3 = decide (r = revL r) := by unfold hasB; rw [h]; rfl
theorem any_len {α : Type} [Inhabited α] {l : List α} {p : α → Bool} (h : ∀ j, j < l.length → p (nth l j) = false) : l.any p = false := any_no h
set_option maxHeartbeats 1000000 in
theorem indexU_any (l : List (BitVec 64)) (x : BitVec 64) (a : Option Addr) (c : Nat) (w : World) (hu : RU w a l) :
    Calls Tryd.prog 82 #[.slice a l.length c, .int .u64 (un x)] w fun e w' => (∃ i : Int, e = .returned (.int .i64 i) ∧ decide (0 ≤ i) = l.any fun s => s == x) ∧ Ext w w' := by
  have hl := hu.len
  have HU := Lib.hid hu
  clear hu
  go_enter Tryd.func82, Tryd.ntmps82
  go_wp2
  go_loopw [8] (fun i wr => ∃ k : Nat, k ≤ l.length ∧ i = .int .i64 k ∧ Hid (Ext w wr) ∧ Hid (∀ j, j < k → (nth l j == x) = false)) (fun i _ => l.length - (RowKit.intOf i).toNat)
  case atStart => exact ⟨0, Nat.zero_le _, rfl, Lib.hid (Ext.refl _), Lib.hid fun _ h => absurd h (Nat.not_lt_zero _)⟩
  case round =>
    obtain ⟨k, hk, rfl, HX, HNO⟩ := hrel
    by_cases hlt : k < l.length
    · obtain ⟨b, off, rfl, hb, hc⟩ := (HU.out.ext HX.out).get hlt
      by_cases he : nth l k = x
      · have hq : (un x == un (nth l k)) = true := by rw [he]; simp
        have HE : Hid ((nth l k == x) = true) := Lib.hid (by rw [he]; simp)
        clear he
        go_wp2_with fail
        go_ret
        exact ⟨⟨k, rfl, by rw [any_yes hlt HE.out]; simp⟩, HX.out⟩
      · have hq : (un x == un (nth l k)) = false := by
          have h2 : un x ≠ un (nth l k) := fun h => he (un_inj.1 h).symm
          simpa using h2
        have HE : Hid ((nth l k == x) = false) := Lib.hid (by simpa using he)
        clear he
        go_wp2_with fail
        go_roundw
        case rel => exact ⟨k + 1, hlt, by go_num, HX, Lib.hid (lt_step HNO.out HE.out)⟩
        case measure => simp [RowKit.intOf]; omega
    · go_wp2_with fail
      go_ret
      exact ⟨⟨-1, rfl, by rw [any_no (fun j hj => HNO.out j (by omega))]; rfl⟩, HX.out⟩
theorem containsU_any (l : List (BitVec 64)) (x : BitVec 64) (a : Option Addr) (c : Nat) (w : World) (hu : RU w a l) :
    Calls Tryd.prog 42 #[.slice a l.length c, .int .u64 (un x)] w fun e w' => e = .returned (.bool (l.any fun s => s == x)) ∧ Ext w w' := by
  have H := Lib.hid (indexU_any l x a c w hu)
  clear hu
  go_enter Tryd.func42, Tryd.ntmps42
  go_wp2_with (go_at_call 82; refine H.out.mono ?_; rintro e w1 ⟨⟨i, rfl, hi⟩, hE⟩; have HI := Lib.hid hi; clear hi)
  go_ret
  exact ⟨by rw [← HI.out]; simp, hE⟩
set_option maxRecDepth 20000 in
set_option maxHeartbeats 1000000 in
theorem equalU_any (l m : List (BitVec 64)) (a b : Option Addr) (c d n : Nat) (w : World) (hl : l.length = n) (hm : m.length = n) (h1 : RU w a l) (h2 : RU w b m) :
    Calls Tryd.prog 43 #[.slice a n c, .slice b n d] w fun e w' => e = .returned (.bool (decide (l = m))) ∧ Ext w w' := by
  have H1 := Lib.hid h1
  have H2 := Lib.hid h2
  have HL := Lib.hid hl
  have HMl := Lib.hid hm
  have hln := h1.len
  rw [hl] at hln
  clear h1 h2 hl hm
  have hnn : ((n : Int) != (n : Int)) = false := by simp
  go_enter Tryd.func43, Tryd.ntmps43
  go_wp2
  go_loopw [13] (fun i wr => ∃ k : Nat, k ≤ n ∧ i = .int .i64 (k : Int) ∧ Hid (Ext w wr) ∧ Hid (∀ j, j < k → nth l j = nth m j)) (fun i _ => n - (RowKit.intOf i).toNat)
  case atStart => exact ⟨0, Nat.zero_le _, rfl, Lib.hid (Ext.refl _), Lib.hid fun _ h => absurd h (Nat.not_lt_zero _)⟩
  case round =>
    obtain ⟨k, hk, rfl, HX, HEQ⟩ := hrel
    by_cases hlt : k < n
    · obtain ⟨b1, o1, ha, hb1, hc1⟩ := (H1.out.ext HX.out).get (k := k) (by rw [HL.out]; exact hlt)
      obtain ⟨b2, o2, hb, hb2, hc2⟩ := (H2.out.ext HX.out).get (k := k) (by rw [HMl.out]; exact hlt)
      subst ha
      subst hb
      by_cases he : nth l k = nth m k
      · have hne : (un (nth l k) != un (nth m k)) = false := by rw [he]; simp
        have HE := Lib.hid he
        clear he
        go_wp2_with fail
        go_quiet (fail)
        go_wp2_with fail
        go_roundw
        case rel => exact ⟨k + 1, hlt, by go_num, Lib.hid (HX.out.drewN _), Lib.hid (lt_step HEQ.out HE.out)⟩
        case measure => simp [RowKit.intOf]; omega
      · have hne : (un (nth l k) != un (nth m k)) = true := by
          have h3 : un (nth l k) ≠ un (nth m k) := fun h => he (un_inj.1 h)
          simpa using h3
        have HD : Hid (decide (l = m) = false) := Lib.hid (decide_eq_false fun h => he (by rw [h]))
        clear he
        go_wp2_with fail
        go_quiet (fail)
        go_wp2_with fail
        go_ret
        exact ⟨by rw [HD.out]; rfl, HX.out.drewN _⟩
    · have HD : Hid (decide (l = m) = true) := Lib.hid (decide_eq_true (nth_ext (by rw [HL.out, HMl.out]) fun j hj => HEQ.out j (by rw [HL.out] at hj; omega)))
      go_wp2_with fail
      go_ret
      exact ⟨by rw [HD.out]; rfl, HX.out⟩
theorem ser_any (r : List (BitVec 64)) : (!r.any fun s => s == 0#64) = serB r := by
  unfold serB
  induction r with
  | nil => rfl
  | cons x l ih => simp only [List.any_cons, List.all_cons, Bool.not_or, ih]; rfl
set_option maxRecDepth 20000 in
set_option maxHeartbeats 4000000 in
theorem has1_any (r : List (BitVec 64)) (a : Option Addr) (c : Nat) (w : World) (hT : Tab w) (hr : RU w a r) :
    Calls Tryd.prog 14 #[.slice a r.length c, .int .i64 1] w fun e w' => e = .returned (.bool (hasB r 1)) ∧ Ext w w' := by
  have hE0 : Ext w ((w.alloc (.cells #[.slice a r.length c] 22)).alloc (.cells #[.bool false] 4)) := ((Ext.refl w).alloc _).alloc _
  have b0 := (Bx1.new w (.slice a r.length c) 22).ext ((Ext.refl _).alloc (.cells #[.bool false] 4))
  have b1 := (Bx1.new (w.alloc (.cells #[.slice a r.length c] 22)) (.bool false) 4).at (b' := w.heap.size + 1) (by simp)
  have HE := Lib.hid hE0
  have HT := Lib.hid (hT.ext hE0)
  have HR := Lib.hid (hr.ext hE0)
  have HB0 := Lib.hid b0
  have HB1 := Lib.hid b1
  have hln := hr.len
  have hck0 := relCheck_any a r c _ (hr.ext hE0)
  clear hT hr hE0
  obtain ⟨c0, -⟩ := b0
  obtain ⟨c1, f1⟩ := b1
  by_cases hck : relCheck r = 0
  · rw [has1_eq hck]
    rw [hck] at hck0
    have HCK := Lib.hid hck0
    clear hck0
    obtain ⟨h64, hin⟩ := relCheck_ok hck
    have HIN := Lib.hid hin
    clear hck hin
    go_enter Tryd.func14, Tryd.ntmps14
    go_wp2_with fail
    generalize ((w.alloc (.cells #[.slice a r.length c] 22)).alloc (.cells #[.bool false] 4)) = w2 at *
    refine HCK.out.mono ?_
    rintro _ _ ⟨rfl, rfl⟩
    dsimp only
    go_wp2_with fail
    refine (containsU_any r 0#64 a c w2 HR.out).mono ?_
    rintro _ w3 ⟨rfl, hE3⟩
    have HE3 := Lib.hid hE3
    obtain ⟨d1, e1⟩ := HB1.out.ext hE3
    have dl1 := (HB1.out.ext hE3).lt
    have HVV := Lib.hid (ser_any r)
    clear hE3 c0 c1 f1
    generalize (r.any fun s => s == 0#64) = bb at *
    dsimp only
    go_wp2_with fail
    refine bodyPost_ret (v := .bool (!bb)) ?_ rfl ?_
    · rw [results_cell_one rfl]
      go_simp
    · exact ⟨by rw [← HVV.out], ((HE.out.trans HE3.out).setCell (by simp) _)⟩
  · rw [has_bad hck]
    have hq : (relCheck r != 0) = true := by simpa using hck
    have HCK := Lib.hid hck0
    clear hck0 hck
    generalize relCheck r = er at *
    go_enter Tryd.func14, Tryd.ntmps14
    go_wp2_with fail
    generalize ((w.alloc (.cells #[.slice a r.length c] 22)).alloc (.cells #[.bool false] 4)) = w2 at *
    refine HCK.out.mono ?_
    rintro _ _ ⟨rfl, rfl⟩
    dsimp only
    go_wp2_with fail
    refine bodyPost_ret (v := .bool false) ?_ rfl ?_
    · rw [results_cell_one rfl]
      go_simp
    · exact ⟨rfl, HE.out.setCell (by simp) _⟩
set_option maxRecDepth 20000 in
set_option maxHeartbeats 4000000 in
theorem has2_any (r : List (BitVec 64)) (a : Option Addr) (c : Nat) (w : World) (hT : Tab w) (hr : RU w a r) :
    Calls Tryd.prog 14 #[.slice a r.length c, .int .i64 2] w fun e w' => e = .returned (.bool (hasB r 2)) ∧ Ext w w' := by
  have hE0 : Ext w ((w.alloc (.cells #[.slice a r.length c] 22)).alloc (.cells #[.bool false] 4)) := ((Ext.refl w).alloc _).alloc _
  have b0 := (Bx1.new w (.slice a r.length c) 22).ext ((Ext.refl _).alloc (.cells #[.bool false] 4))
  have b1 := (Bx1.new (w.alloc (.cells #[.slice a r.length c] 22)) (.bool false) 4).at (b' := w.heap.size + 1) (by simp)
  have HE := Lib.hid hE0
  have HT := Lib.hid (hT.ext hE0)
  have HR := Lib.hid (hr.ext hE0)
  have HB0 := Lib.hid b0
  have HB1 := Lib.hid b1
  have hln := hr.len
  have hck0 := relCheck_any a r c _ (hr.ext hE0)
  clear hT hr hE0
  obtain ⟨c0, -⟩ := b0
  obtain ⟨c1, f1⟩ := b1
  by_cases hck : relCheck r = 0
  · rw [has2_eq hck]
    rw [hck] at hck0
    have HCK := Lib.hid hck0
    clear hck0
    obtain ⟨h64, hin⟩ := relCheck_ok hck
    have HIN := Lib.hid hin
    clear hck hin
    go_enter Tryd.func14, Tryd.ntmps14
    go_wp2_with fail
    generalize ((w.alloc (.cells #[.slice a r.length c] 22)).alloc (.cells #[.bool false] 4)) = w2 at *
    refine HCK.out.mono ?_
    rintro _ _ ⟨rfl, rfl⟩
    dsimp only
    go_wp2_with fail
    go_loopw [24] (fun i wr => ∃ k : Nat, k ≤ r.length ∧ i = .int .i64 (k : Int) ∧ Hid (Ext w2 wr) ∧ Hid (∀ j, j < k → bt (nth r j) j = true)) (fun i _ => r.length - (RowKit.intOf i).toNat)
    case atStart => exact ⟨0, Nat.zero_le _, rfl, Lib.hid (Ext.refl _), Lib.hid fun _ h => absurd h (Nat.not_lt_zero _)⟩
    case round =>
      clear c0 c1 f1
      obtain ⟨k, hk, rfl, HX, HNO⟩ := hrel
      obtain ⟨d0, -⟩ := HB0.out.ext HX.out
      obtain ⟨d1, e1⟩ := HB1.out.ext HX.out
      have dl0 := (HB0.out.ext HX.out).lt
      have dl1 := (HB1.out.ext HX.out).lt
      by_cases hkl : k < r.length
      · obtain ⟨g, q, rfl, hg, hc⟩ := (HR.out.ext HX.out).get hkl
        have hk64 : k < 64 := by omega
        have hbu := bit_un (nth r k) k
        cases hb : bt (nth r k) k
        · rw [hb] at hbu
          simp only [b01I, Bool.false_eq_true, if_false] at hbu
          have HVV : Hid (refB r = false) := Lib.hid (by
            cases hq : refB r
            · rfl
            · have := (refB_iff rfl).1 hq k hkl
              rw [hb] at this; cases this)
          clear hb
          go_wp2_with fail
          refine bodyPost_ret (v := .bool false) ?_ rfl ?_
          · rw [results_cell_one rfl]
            go_simp
          · exact ⟨by rw [HVV.out], ((HE.out.trans HX.out).setCell (by simp) _)⟩
        · rw [hb] at hbu
          simp only [b01I, if_true] at hbu
          have HBB := Lib.hid hb
          clear hb
          go_wp2_with fail
          go_roundw
          case rel => exact ⟨k + 1, hkl, by go_num, HX, Lib.hid (lt_step HNO.out HBB.out)⟩
          case measure => simp [RowKit.intOf]; omega
      · have HVV : Hid (refB r = true) := Lib.hid ((refB_iff rfl).2 fun v hv => HNO.out v (by omega))
        go_wp2_with fail
        refine bodyPost_ret (v := .bool true) ?_ rfl ?_
        · rw [results_cell_one rfl]
          go_simp
        · exact ⟨by rw [HVV.out], ((HE.out.trans HX.out).setCell (by simp) _)⟩
  · rw [has_bad hck]
    have hq : (relCheck r != 0) = true := by simpa using hck
    have HCK := Lib.hid hck0
    clear hck0 hck
    generalize relCheck r = er at *
    go_enter Tryd.func14, Tryd.ntmps14
    go_wp2_with fail
    generalize ((w.alloc (.cells #[.slice a r.length c] 22)).alloc (.cells #[.bool false] 4)) = w2 at *
    refine HCK.out.mono ?_
    rintro _ _ ⟨rfl, rfl⟩
    dsimp only
    go_wp2_with fail
    refine bodyPost_ret (v := .bool false) ?_ rfl ?_
    · rw [results_cell_one rfl]
      go_simp
    · exact ⟨rfl, HE.out.setCell (by simp) _⟩
set_option maxRecDepth 20000 in
set_option maxHeartbeats 4000000 in
theorem has3_any (r : List (BitVec 64)) (a : Option Addr) (c : Nat) (w : World) (hT : Tab w) (hr : RU w a r) :
    Calls Tryd.prog 14 #[.slice a r.length c, .int .i64 3] w fun e w' => e = .returned (.bool (hasB r 3)) ∧ Ext w w' := by
  have hE0 : Ext w ((w.alloc (.cells #[.slice a r.length c] 22)).alloc (.cells #[.bool false] 4)) := ((Ext.refl w).alloc _).alloc _
  have b0 := (Bx1.new w (.slice a r.length c) 22).ext ((Ext.refl _).alloc (.cells #[.bool false] 4))
  have b1 := (Bx1.new (w.alloc (.cells #[.slice a r.length c] 22)) (.bool false) 4).at (b' := w.heap.size + 1) (by simp)
  have HE := Lib.hid hE0
  have HT := Lib.hid (hT.ext hE0)
  have HR := Lib.hid (hr.ext hE0)
  have HB0 := Lib.hid b0
  have HB1 := Lib.hid b1
  have hln := hr.len
  have hck0 := relCheck_any a r c _ (hr.ext hE0)
  clear hT hr hE0
  obtain ⟨c0, -⟩ := b0
  obtain ⟨c1, f1⟩ := b1
  by_cases hck : relCheck r = 0
  · rw [has3_eq hck]
    rw [hck] at hck0
    have HCK := Lib.hid hck0
    clear hck0
    obtain ⟨h64, hin⟩ := relCheck_ok hck
    have HIN := Lib.hid hin
    have HCKR := Lib.hid hck
    clear hck hin
    go_enter Tryd.func14, Tryd.ntmps14
    go_wp2_with fail
    generalize ((w.alloc (.cells #[.slice a r.length c] 22)).alloc (.cells #[.bool false] 4)) = w2 at *
    refine HCK.out.mono ?_
    rintro _ _ ⟨rfl, rfl⟩
    dsimp only
    go_wp2_with fail
    have HRV : Hid (∀ W, Ext w2 W → Calls Tryd.prog 44 #[.slice a r.length c] W fun e w' => (∃ g cp, e = .returned (.slice (some ⟨g, 0, none⟩) r.length cp) ∧ RU w' (some ⟨g, 0, none⟩) (revL r)) ∧ Ext W w') := Lib.hid fun W e => reversed_any r a c W (HT.out.ext e) (HR.out.ext e) HCKR.out
    have HEQ : Hid (∀ W g cp, Ext w2 W → RU W (some ⟨g, 0, none⟩) (revL r) → Calls Tryd.prog 43 #[.slice a r.length c, .slice (some ⟨g, 0, none⟩) r.length cp] W fun e w' => e = .returned (.bool (decide (r = revL r))) ∧ Ext W w') := Lib.hid fun W g cp e hu => equalU_any r (revL r) a _ c cp r.length W rfl (by simp [revL]) (HR.out.ext e) hu
    have HKP : Hid (∀ w', Ext w2.drew w' → w'.cell? ⟨w.heap.size, 0, none⟩ = some (.slice a r.length c)) := Lib.hid fun w' e => e.cell c0
    go_region_held3 (fun w' => w'.cell? ⟨w.heap.size, 0, none⟩ = some (.slice a r.length c)) (first | go_keep | exact HKP.out _ (by assumption)) (first | (go_at_call 44; refine (HRV.out _ (Ext.refl _).drew).mono ?_; rintro _ w3 ⟨⟨g, cp, rfl, hu⟩, hE3⟩) | (go_at_call 43; refine (HEQ.out _ g cp ((Ext.refl _).drew.trans hE3) hu).mono ?_; rintro _ w4 ⟨rfl, hE4⟩; have hE5 := hE3.trans hE4; obtain ⟨d1, e1⟩ := HB1.out.ext ((Ext.refl _).drew.trans hE5); have dl1 := (HB1.out.ext ((Ext.refl _).drew.trans hE5)).lt) | fail)
    all_goals
      have HE5 := Lib.hid ((Ext.refl _).drew.trans hE5)
      clear hE3 hE4 hE5 c0 c1 f1
      generalize hbb : decide (r = revL r) = bb at *
      have HBV := Lib.hid hbb
      clear hbb
      go_wp2_with fail
      refine bodyPost_ret (v := .bool bb) ?_ rfl ?_
      · rw [results_cell_one rfl]
        go_simp
      · exact ⟨by rw [HBV.out], ((HE.out.trans HE5.out).setCell (by simp) _)⟩
  · rw [has_bad hck]
    have hq : (relCheck r != 0) = true := by simpa using hck
    have HCK := Lib.hid hck0
    clear hck0 hck
    generalize relCheck r = er at *
    go_enter Tryd.func14, Tryd.ntmps14
    go_wp2_with fail
    generalize ((w.alloc (.cells #[.slice a r.length c] 22)).alloc (.cells #[.bool false] 4)) = w2 at *
    refine HCK.out.mono ?_
    rintro _ _ ⟨rfl, rfl⟩
    dsimp only
    go_wp2_with fail
    refine bodyPost_ret (v := .bool false) ?_ rfl ?_
    · rw [results_cell_one rfl]
      go_simp
    · exact ⟨rfl, HE.out.setCell (by simp) _⟩
end Wt
