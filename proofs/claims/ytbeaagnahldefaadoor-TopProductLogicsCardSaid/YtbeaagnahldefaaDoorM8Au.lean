/- Walks: formula's constructors (printed by gen_bldb.py). -/
import Derived.Test.YtbeaagnahldefaaDoorM8At
import Derived.Test.YtbeaagnahldefaaDoorM8Am
import Derived.Laws.ResultCell
import Derived.Test.YtbeaagnahldefaaDoorM8As
import Derived.Deep.RegionHeld3
namespace Wt
open Go Go.RowKit Go.Maps Go.Proofs Fm

theorem RNN.one (w : World) (fa : Option Addr) (fc : Nat) (f : List Nd) (T : Nat) (h : RN w fa f) : RNN (w.alloc (.cells #[.slice fa f.length fc] T)) (some ⟨w.heap.size, 0, none⟩) [f] :=
  ⟨by simp, fun k hk => by
    obtain rfl : k = 0 := by simp at hk; omega
    exact ⟨w.heap.size, 0, fa, fc, rfl, by simp, by simp [nth], h.ext ((Ext.refl w).alloc _)⟩⟩
theorem RNN.two (w : World) (fa ga : Option Addr) (fc gc : Nat) (f g : List Nd) (T : Nat) (h : RN w fa f) (h2 : RN w ga g) : RNN (w.alloc (.cells #[.slice fa f.length fc, .slice ga g.length gc] T)) (some ⟨w.heap.size, 0, none⟩) [f, g] :=
  ⟨by simp, fun k hk => by
    rcases (show k = 0 ∨ k = 1 by simp at hk; omega) with rfl | rfl
    · exact ⟨w.heap.size, 0, fa, fc, rfl, by simp, by simp [nth], h.ext ((Ext.refl w).alloc _)⟩
    · exact ⟨w.heap.size, 0, ga, gc, rfl, by simp, by simp [nth], h2.ext ((Ext.refl w).alloc _)⟩⟩
set_option maxHeartbeats 1000000 in
theorem cFact_any (a : Int) (w : World) :
    Calls Tryd.prog 25 #[.int .i64 a] w fun e w' => RetN (fB ⟨3, a, 0, 0, 0, 0⟩ []) e w w' := by
  have H := Lib.hid (build_any ⟨3, a, 0, 0, 0, 0⟩ none 0 [] w (RNN.nil _ _) (by decide))
  go_enter Tryd.func25, Tryd.ntmps25
  go_wp2_with (go_at_call 67; go_loud (refine H.out.mono ?_; rintro e w1 ⟨a1, c1, rfl, h1, hE⟩))
  go_ret
  exact ⟨a1, c1, rfl, h1, hE⟩
set_option maxHeartbeats 1000000 in
theorem cPoss_any (a : Int) (fa : Option Addr) (fc : Nat) (f : List Nd) (w : World) (hf : RN w fa f) :
    Calls Tryd.prog 26 #[.int .i64 a, .slice fa f.length fc] w fun e w' => RetN (fB ⟨10, a, 0, 0, 0, 0⟩ [f]) e w w' := by
  have H := Lib.hid (build_any ⟨10, a, 0, 0, 0, 0⟩ (some ⟨w.heap.size, 0, none⟩) 1 [f] _ (RNN.one w fa fc f 26 hf) (by simp))
  go_enter Tryd.func26, Tryd.ntmps26
  go_wp2_with (go_at_call 67; go_loud (refine H.out.mono ?_; rintro e w1 ⟨a1, c1, rfl, h1, hE⟩))
  go_ret
  exact ⟨a1, c1, rfl, h1, ((Ext.refl w).alloc _).trans hE⟩
set_option maxHeartbeats 1000000 in
/-- The formula of a fact lies in memory of its own. -/
theorem cFact_fresh (a : Int) (w : World) :
    Calls Tryd.prog 25 #[.int .i64 a] w fun e w' => RetNF (fB ⟨3, a, 0, 0, 0, 0⟩ []) e w w' := by
  have H := Lib.hid (build_fresh ⟨3, a, 0, 0, 0, 0⟩ none 0 [] w (RNN.nil _ _) (by decide))
  go_enter Tryd.func25, Tryd.ntmps25
  go_wp2_with (go_at_call 67; go_loud (refine H.out.mono ?_; rintro e w1 ⟨a1, c1, rfl, h1, hfr, hE⟩))
  go_ret
  exact ⟨a1, c1, rfl, h1, hfr, hE⟩
end Wt

/- Walks: wittinglaw17.example, holds; what the examples of the chapter come to. -/
namespace Wt
open Go Go.RowKit Go.Maps Go.Proofs Fm

/-- The model of the example of the chapter. -/
def exM : Mo := ⟨3, [3#64], [[3#64, 3#64, 4#64], [1#64, 6#64, 6#64]]⟩
def RetM (M : Mo) (e : Ending) (w w' : World) : Prop := ∃ va ra vc rc, e = .returned (.agg #[.int .i64 M.worlds, .slice va M.val.length vc, .slice ra M.rel.length rc]) ∧ RM w' va ra M ∧ Ext w w'
theorem RU.lit (w : World) (l : List (BitVec 64)) (cs : Array Value) (T : Nat) (h : cs = (l.map uv).toArray) (hl : l.length ≤ 1000) : RU (w.alloc (.cells cs T)) (some ⟨w.heap.size, 0, none⟩) l := by
  subst h
  refine ⟨by omega, fun k hk => ⟨w.heap.size, 0, rfl, ?_⟩⟩
  rw [nth_eq _ _ hk]
  simp [hk, uv]
theorem results_cell_one {fn : Func} {p : Tmp} {ty : TypeId} (h : fn.results = #[.cell p ty]) (tmps : Array Value) (P : Program) (w : World) :
    (results fn tmps).run P w = ((asAddr (tmps.getD p undef)).run P w).andThen fun a w₁ => ((loadVar ty a).run P w₁).andThen fun v w₂ => .ok v w₂ := by
  simp only [results, h]
  simp [Sem.run_bind, Result.andThen]
  cases (asAddr (tmps[p]?.getD undef)).run P w with
  | ok a w => dsimp only; cases (loadVar ty a).run P w <;> rfl
  | halt h w => rfl
/-- Does a formula hold in just these worlds of the example? -/
def hb (f : List Nd) (s : BitVec 64) : Bool := reqErr exM f == 0 && holdsOf exM f == s
/-! The examples. -/
def exP : List Nd := fB ⟨3, 0, 0, 0, 0, 0⟩ []
def exT : List Nd := fB ⟨1, 0, 0, 0, 0, 0⟩ []
def exN : List Nd := fB ⟨4, 0, 0, 0, 0, 0⟩ [exP]
theorem ex1 : hb (fB ⟨9, 0, 0, 0, 0, 0⟩ [exP]) 3#64 = true := by decide +kernel
theorem ex2 : hb (fB ⟨9, 1, 0, 0, 0, 0⟩ [exP]) 1#64 = true := by decide +kernel
theorem ex3 : hb (fB ⟨11, 0, 0, 3, 0, 0⟩ [exP]) 1#64 = true := by decide +kernel
theorem ex4 : hb (fB ⟨12, 0, 0, 3, 0, 0⟩ [exP]) 3#64 = true := by decide +kernel
theorem ex5 : hb (fB ⟨13, 0, 0, 3, 0, 0⟩ [exT, exP]) 0#64 = true := by decide +kernel
theorem ex6 : hb (fB ⟨13, 0, 0, 3, 0, 0⟩ [exP, exP]) 7#64 = true := by decide +kernel
theorem ex7 : hb (fB ⟨10, 1, 0, 0, 0, 0⟩ [exN]) 6#64 = true := by decide +kernel
theorem ex8 : atOf exM 1 exP = true ∧ atErr exM 1 exP = 0 := by decide +kernel
theorem ex9 : validOf exM (fB ⟨6, 0, 0, 0, 0, 0⟩ [exP, exN]) = true ∧ reqErr exM (fB ⟨6, 0, 0, 0, 0, 0⟩ [exP, exN]) = 0 := by decide +kernel
theorem ex10 : reqErr exM (fB ⟨15, 0, 0, 0, 0, 0⟩ [exP]) = 10 := by decide +kernel
theorem ex11 : reqErr exM (fB ⟨9, 2, 0, 0, 0, 0⟩ [exP]) = 2 := by decide +kernel
end Wt

/- Walk: wittinglaw17.awake (printed by gen_lawb.py). -/
namespace Wt
open Go Go.RowKit Go.Maps Go.Proofs Fm

def exC5 : List Nd := fB ⟨13, 0, 0, 3, 0, 0⟩ [exT, exP]
def exC6 : List Nd := fB ⟨13, 0, 0, 3, 0, 0⟩ [exP, exP]
def exQ7 : List Nd := fB ⟨10, 1, 0, 0, 0, 0⟩ [exN]
def exO : List Nd := fB ⟨6, 0, 0, 0, 0, 0⟩ [exP, exN]
def exK0 : List Nd := fB ⟨9, 0, 0, 0, 0, 0⟩ [exP]
def exK1 : List Nd := fB ⟨9, 1, 0, 0, 0, 0⟩ [exP]
def exK2 : List Nd := fB ⟨9, 2, 0, 0, 0, 0⟩ [exP]
def exE3 : List Nd := fB ⟨11, 0, 0, 3, 0, 0⟩ [exP]
def exD3 : List Nd := fB ⟨12, 0, 0, 3, 0, 0⟩ [exP]
def exS0 : List Nd := fB ⟨15, 0, 0, 0, 0, 0⟩ [exP]
theorem RM.ext' {w w' : World} {va ra : Option Addr} {M : Mo} (r : RM w va ra M) (h : Ext w w') : RM w' va ra M := RM.ext h r
end Wt

/- Walks: relation.Has at seriality, reflexivity and transitivity (printed by gen_has.py). -/
namespace Wt
open Go Go.RowKit Go.Maps Go.Proofs Fm

theorem relCheck_ok {r : List (BitVec 64)} (h : relCheck r = 0) : r.length ≤ 64 ∧ ∀ w, w < r.length → Sub (nth r w) (allW r.length) := by
  unfold relCheck at h
  split at h
  · cases h
  · refine ⟨by omega, fun w hw => ?_⟩
    split at h
    · cases h
    · next hb =>
      have h2 : relBad r = false := by simpa using hb
      unfold relBad outL at h2
      rw [List.any_eq_false] at h2
      have h3 := h2 _ (nth_mem hw)
      unfold outOne at h3
      exact andNot_zero.1 (by simpa using h3)
theorem has4_eq {r : List (BitVec 64)} (h : relCheck r = 0) : hasB r 4 = traB r := by unfold hasB; rw [h]; rfl
theorem has1_eq {r : List (BitVec 64)} (h : relCheck r = 0) : hasB r 1 = serB r := by unfold hasB; rw [h]; rfl
theorem has2_eq {r : List (BitVec 64)} (h : relCheck r = 0) : hasB r 2 = refB r := by unfold hasB; rw [h]; rfl
theorem has_bad {r : List (BitVec 64)} {p : Int} (h : relCheck r ≠ 0) : hasB r p = false := by
  unfold hasB
  rw [show (relCheck r == 0) = false by simpa using h]
  rfl
theorem sub_bit (S : BitVec 64) (k : Nat) (_hk : k < 64) : ∀ x y, un ((S >>> k) &&& 1#64) = x → (if bt S k then (1 : Int) else 0) = y → x = y := fun x y hx hy => by
  rw [← hx, ← hy]
  cases hb : bt S k
  · have : (S >>> k) &&& 1#64 = 0#64 := by
      refine bt_ext fun j hj => ?_
      rw [bt_and, bt_zero]
      by_cases h0 : j = 0
      · subst h0
        have e : bt (S >>> k) 0 = bt S k := by simp [bt]
        rw [e, hb]; rfl
      · have e : bt 1#64 j = false := by have := bt_shl1 (k := j) 0; simp only [BitVec.shiftLeft_zero] at this; rw [this]; simp [h0]
        rw [e]; simp
    rw [this]; rfl
  · have : (S >>> k) &&& 1#64 = 1#64 := by
      refine bt_ext fun j hj => ?_
      rw [bt_and]
      by_cases h0 : j = 0
      · subst h0
        have e : bt (S >>> k) 0 = bt S k := by simp [bt]
        rw [e, hb]; rfl
      · have e : bt 1#64 j = false := by have := bt_shl1 (k := j) 0; simp only [BitVec.shiftLeft_zero] at this; rw [this]; simp [h0]
        rw [e]; simp
    rw [this]; rfl
set_option maxRecDepth 20000 in
set_option maxHeartbeats 4000000 in
theorem has4_any (r : List (BitVec 64)) (a : Option Addr) (c : Nat) (w : World) (hT : Tab w) (hr : RU w a r) :
    Calls Tryd.prog 14 #[.slice a r.length c, .int .i64 4] w fun e w' => e = .returned (.bool (hasB r 4)) ∧ Ext w w' := by
  have hE0 : Ext w ((w.alloc (.cells #[.slice a r.length c] 22)).alloc (.cells #[.bool false] 4)) := ((Ext.refl w).alloc _).alloc _
  have b0 := (Bx1.new w (.slice a r.length c) 22).ext ((Ext.refl _).alloc (.cells #[.bool false] 4))
  have b1 := (Bx1.new (w.alloc (.cells #[.slice a r.length c] 22)) (.bool false) 4).at (b' := w.heap.size + 1) (by simp)
  have HE := Lib.hid hE0
  have HT := Lib.hid (hT.ext hE0)
  have HR := Lib.hid (hr.ext hE0)
  have HB0 := Lib.hid b0
  have HB1 := Lib.hid b1
  have hln := hr.len
  have hck0 := relCheck_any a r c _ (hr.ext hE0)
  clear hT hr hE0
  obtain ⟨c0, -⟩ := b0
  obtain ⟨c1, f1⟩ := b1
  by_cases hck : relCheck r = 0
  · rw [has4_eq hck]
    rw [hck] at hck0
    have HCK := Lib.hid hck0
    clear hck0
    obtain ⟨h64, hin⟩ := relCheck_ok hck
    have HIN := Lib.hid hin
    clear hck hin
    go_enter Tryd.func14, Tryd.ntmps14
    go_wp2_with fail
    generalize ((w.alloc (.cells #[.slice a r.length c] 22)).alloc (.cells #[.bool false] 4)) = w2 at *
    refine HCK.out.mono ?_
    rintro _ _ ⟨rfl, rfl⟩
    dsimp only
    go_wp2_with fail
    have HTB := Lib.hid (traB_map rfl HIN.out)
    have HMP : Hid (∀ W x, Ext w2 W → x < r.length → Calls Tryd.prog 45 #[.slice a r.length c, .int .u64 (un (nth r x))] W fun e w' => e = .returned (.int .u64 (un (mapS r (nth r x)))) ∧ Ext W w') := Lib.hid fun W x e hx => mapped_any r (nth r x) a c W (HT.out.ext e) (HR.out.ext e) fun k hk => memL_ltN (HIN.out x hx) hk
    go_loopw [46] (fun i wr => ∃ k : Nat, k ≤ r.length ∧ i = .int .i64 (k : Int) ∧ Hid (Ext w2 wr) ∧ Hid (∀ j, j < k → mapS r (nth r j) &&& ~~~ nth r j = 0#64)) (fun i _ => r.length - (RowKit.intOf i).toNat)
    case atStart => exact ⟨0, Nat.zero_le _, rfl, Lib.hid (Ext.refl _), Lib.hid fun _ h => absurd h (Nat.not_lt_zero _)⟩
    case round =>
      clear c0 c1 f1
      obtain ⟨k, hk, rfl, HX, HNO⟩ := hrel
      obtain ⟨d0, -⟩ := HB0.out.ext HX.out
      obtain ⟨d1, e1⟩ := HB1.out.ext HX.out
      have dl0 := (HB0.out.ext HX.out).lt
      have dl1 := (HB1.out.ext HX.out).lt
      by_cases hkl : k < r.length
      · obtain ⟨g, q, rfl, hg, hc⟩ := (HR.out.ext HX.out).get hkl
        have HKP : Hid (∀ w', Ext wr.drew w' → w'.cell? ⟨w.heap.size, 0, none⟩ = some (.slice (some ⟨g, q, none⟩) r.length c) ∧ w'.cell? ⟨g, q + k, none⟩ = some (.int .u64 (un (nth r k)))) := Lib.hid fun w' e => ⟨e.cell d0, e.cell hc⟩
        have HFN : Hid (∀ w', Ext wr.drew w' → w'.cell? ⟨w.heap.size + 1, 0, none⟩ = some (.bool false) ∧ w'.frozen? ⟨w.heap.size + 1, 0, none⟩ = false ∧ w.heap.size + 1 < w'.heap.size) := Lib.hid fun w' e => ⟨((HB1.out.ext HX.out.drew).ext e).c, ((HB1.out.ext HX.out.drew).ext e).f, ((HB1.out.ext HX.out.drew).ext e).lt⟩
        cases hz : (un (mapS r (nth r k) &&& ~~~ nth r k) != 0)
        all_goals
          have HZ := Lib.hid hz
          go_wp2_with fail
          go_region_held3 (fun w' => w'.cell? ⟨w.heap.size, 0, none⟩ = some (.slice (some ⟨g, q, none⟩) r.length c) ∧ w'.cell? ⟨g, q + k, none⟩ = some (.int .u64 (un (nth r k)))) (first | go_keep | exact HKP.out _ (by assumption)) (first | (go_at_call 45; refine (HMP.out _ k (by first | exact HX.out.drew | exact HX.out) hkl).mono ?_; rintro _ w3 ⟨rfl, hE3⟩) | fail)
        all_goals have HE3 := Lib.hid (HX.out.drew.trans hE3)
        · have hnz : mapS r (nth r k) &&& ~~~ nth r k = 0#64 := by
            have h := HZ.out
            rw [← un_zero] at h
            exact un_inj.1 (by simpa using h)
          have HNZ := Lib.hid hnz
          clear hnz hz
          go_wp2_with fail
          go_roundw
          case rel => exact ⟨k + 1, hkl, by go_num, HE3, Lib.hid (lt_step HNO.out HNZ.out)⟩
          case measure => simp [RowKit.intOf]; omega
        · have hb : traB r = false := by
            cases hq : traB r
            · rfl
            · have h := HTB.out.1 hq k hkl
              have h2 := HZ.out
              rw [h, un_zero] at h2
              cases h2
          have HBF := Lib.hid hb
          clear hb hz
          obtain ⟨e2, e3, e4⟩ := HFN.out _ hE3
          go_wp2_with fail
          refine bodyPost_ret (v := .bool false) ?_ rfl ?_
          · rw [results_cell_one rfl]
            go_simp
          · exact ⟨by rw [HBF.out], ((HE.out.trans HE3.out).setCell (by simp) _)⟩
      · obtain rfl : k = r.length := by omega
        have hb : traB r = true := HTB.out.2 HNO.out
        have HBT := Lib.hid hb
        clear hb
        go_wp2_with fail
        refine bodyPost_ret (v := .bool true) ?_ rfl ?_
        · rw [results_cell_one rfl]
          go_simp
        · exact ⟨by rw [HBT.out], ((HE.out.trans HX.out).setCell (by simp) _)⟩
  · rw [has_bad hck]
    have hq : (relCheck r != 0) = true := by simpa using hck
    have HCK := Lib.hid hck0
    clear hck0 hck
    generalize relCheck r = er at *
    go_enter Tryd.func14, Tryd.ntmps14
    go_wp2_with fail
    generalize ((w.alloc (.cells #[.slice a r.length c] 22)).alloc (.cells #[.bool false] 4)) = w2 at *
    refine HCK.out.mono ?_
    rintro _ _ ⟨rfl, rfl⟩
    dsimp only
    go_wp2_with fail
    refine bodyPost_ret (v := .bool false) ?_ rfl ?_
    · rw [results_cell_one rfl]
      go_simp
    · exact ⟨rfl, HE.out.setCell (by simp) _⟩
end Wt
