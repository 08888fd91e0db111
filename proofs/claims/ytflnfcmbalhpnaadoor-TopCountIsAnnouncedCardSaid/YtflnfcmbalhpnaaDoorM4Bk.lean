/- Walks: secrets.between, count, among, Tally, Passes, votes, Votes. -/
import Derived.Test.YtflnfcmbalhpnaaDoorM4Bg
import Derived.Test.YtflnfcmbalhpnaaDoorM4Bi
import Derived.Test.YtflnfcmbalhpnaaDoorM4Bj
import Derived.Test.YtflnfcmbalhpnaaDoorM4Bd
import Derived.Test.YtflnfcmbalhpnaaDoorM4Al
import Derived.Test.YtflnfcmbalhpnaaDoorM4Bc
namespace Wt
open Go Go.RowKit Go.Maps Go.Proofs Fm

def btw (x lo hi : Int) : Bool := decide (lo ≤ x) && decide (x ≤ hi)
set_option maxHeartbeats 1000000 in
theorem between_any (x lo hi : Int) (w : World) :
    Calls Tryd.prog 19 #[.int .i64 x, .int .i64 lo, .int .i64 hi] w fun e w' => e = .returned (.bool (btw x lo hi)) ∧ w = w' := by
  unfold btw
  cases h1 : decide (lo ≤ x) <;> cases h2 : decide (x ≤ hi)
  all_goals
    go_enter Tryd.func19, Tryd.ntmps19
    go_wp2
    go_ret
    exact ⟨rfl, rfl⟩
theorem ones_val : ∀ v : _root_.Fin 16, onesN v.val = v.val % 2 + v.val / 2 % 2 + v.val / 4 % 2 + v.val / 8 % 2 := by decide +kernel
theorem of16 {P : Nat → Prop} (h0 : P 0) (h1 : P 1) (h2 : P 2) (h3 : P 3) (h4 : P 4) (h5 : P 5) (h6 : P 6) (h7 : P 7) (h8 : P 8) (h9 : P 9) (ha : P 10) (hb : P 11) (hc : P 12) (hd : P 13) (he : P 14) (hf : P 15) (v : Nat) (hv : v < 16) : P v := by
  rcases (show v = 0 ∨ v = 1 ∨ v = 2 ∨ v = 3 ∨ v = 4 ∨ v = 5 ∨ v = 6 ∨ v = 7 ∨ v = 8 ∨ v = 9 ∨ v = 10 ∨ v = 11 ∨ v = 12 ∨ v = 13 ∨ v = 14 ∨ v = 15 by omega) with rfl | rfl | rfl | rfl | rfl | rfl | rfl | rfl | rfl | rfl | rfl | rfl | rfl | rfl | rfl | rfl <;> assumption
def Ones64 (v o : Nat) : Prop := ∀ w, Calls Tryd.prog 55 #[.int .u64 (v : Int)] w fun e w' => e = .returned (.int .i64 (o : Int)) ∧ w = w'
set_option maxHeartbeats 4000000 in
theorem ones64_any (v : Nat) (hv : v < 16) : Ones64 v (onesN v) := by
  refine of16 (P := fun v => Ones64 v (onesN v)) ?_ ?_ ?_ ?_ ?_ ?_ ?_ ?_ ?_ ?_ ?_ ?_ ?_ ?_ ?_ ?_ v hv
  all_goals
    intro w
    go_enter Tryd.func55, Tryd.ntmps55
    go_wp2
    go_ret
    exact ⟨by kernel_rfl, rfl⟩
set_option maxHeartbeats 1000000 in
theorem ones_any (v : Nat) (hv : v < 16) (w : World) :
    Calls Tryd.prog 35 #[.int .u64 (v : Int)] w fun e w' => e = .returned (.int .i64 (onesN v : Int)) ∧ w = w' := by
  have H := Lib.hid (ones64_any v hv)
  go_enter Tryd.func35, Tryd.ntmps35
  go_wp2_with (go_at_call 55; refine (H.out _).mono ?_; rintro _ _ ⟨rfl, rfl⟩)
  go_ret
  exact ⟨rfl, rfl⟩
set_option maxHeartbeats 1000000 in
theorem count_any (v : Nat) (hv : v < 16) (w : World) :
    Calls Tryd.prog 22 #[.int .i64 (v : Int)] w fun e w' => e = .returned (.int .i64 (onesN v : Int)) ∧ w = w' := by
  have H := Lib.hid (ones_any v hv)
  go_enter Tryd.func22, Tryd.ntmps22
  go_wp2_with (go_at_call 35; refine (H.out _).mono ?_; rintro _ _ ⟨rfl, rfl⟩)
  go_ret
  exact ⟨rfl, rfl⟩
theorem setTo_full (p : Nat → Bool) {n : Nat} (hn : n ≤ 6) : setTo p (2 ^ n) &&& ~~~ fullB n = 0#64 := andNot_zero.2 fun k hk h => by
  rw [bt_setTo p hk] at h
  simp at h
  rw [bt_full hn hk]; simp; exact h.1
set_option maxRecDepth 20000 in
set_option maxHeartbeats 4000000 in
theorem among_any (F : Nat) (c : Value) (p : Nat → Bool) (n : Nat) (hn : n ≤ 6) (w : World)
    (hF : ∀ args W, (callFunc F args).run Tryd.prog W = .ok (.enter F args) W)
    (hp : ∀ W (v : Nat), Ext w W → v < 2 ^ n → Calls Tryd.prog F #[.int .i64 (v : Int), c] W fun e w' => e = .returned (.bool (p v)) ∧ Qu W w') :
    Calls Tryd.prog 20 #[.int .i64 (n : Int), .func (.func F) #[] #[c]] w fun e w' => RetN (amongF n p) e w w' := by
  have HP := Lib.hid hp
  have HT := Lib.hid (fromTable_any (setTo p (2 ^ n)) n hn (setTo_full p hn))
  have h63 : n < 63 := by omega
  have hpw := pow6 hn
  have HA : Hid (amongF n p = decF n (setTo p (2 ^ n))) := Lib.hid rfl
  clear hp
  go_enter Tryd.func20, Tryd.ntmps20
  go_wp2
  go_loopw [5, 11] (fun s i wr => ∃ k : Nat, k ≤ 2 ^ n ∧ i = .int .i64 (k : Int) ∧ s = .int .u64 (un (setTo p k)) ∧ Ext w wr) (fun _ i _ => 2 ^ n - (intOf i).toNat)
  case atStart => exact ⟨0, Nat.zero_le _, rfl, rfl, Ext.refl _⟩
  case round =>
    obtain ⟨k, hk, rfl, rfl, hE⟩ := hrel
    have hk64 : k ≤ 64 := by omega
    by_cases hlt : k < 2 ^ n
    · have hd1 : decide ((k : Int) < p2 n) = true := decide_eq_true (by unfold p2; omega)
      have HE := Lib.hid hE
      have HST : Hid (setTo p (k + 1) = if p k then setTo p k ||| 1#64 <<< k else setTo p k) := Lib.hid rfl
      have HV := Lib.hid (HP.out wr k hE hlt)
      cases hb : p k
      · have HS : Hid (setTo p (k + 1) = setTo p k) := Lib.hid (by rw [HST.out, hb]; simp)
        rw [hb] at HV
        clear HST hb
        go_wp2_with fail
        refine HV.out.mono ?_
        rintro _ w6 ⟨rfl, hq⟩
        dsimp only
        go_wp2_with fail
        go_roundw
        case rel => exact ⟨k + 1, hlt, by go_num, by rw [HS.out], HE.out.trans hq.ext⟩
        case measure => simp [intOf]; omega
      · have HS : Hid (setTo p (k + 1) = setTo p k ||| 1#64 <<< k) := Lib.hid (by rw [HST.out, hb]; simp)
        rw [hb] at HV
        clear HST hb
        go_wp2_with fail
        refine HV.out.mono ?_
        rintro _ w6 ⟨rfl, hq⟩
        dsimp only
        go_wp2_with fail
        go_roundw
        case rel => exact ⟨k + 1, hlt, by go_num, by rw [HS.out], HE.out.trans hq.ext⟩
        case measure => simp [intOf]; omega
    · have hd1 : decide ((k : Int) < p2 n) = false := decide_eq_false (by unfold p2; omega)
      have hkk : 2 ^ n = k := by omega
      rw [hkk] at HT HA
      clear hkk hpw
      go_wp2_with (go_at_call 34; refine (HT.out _).mono ?_; rintro _ w6 ⟨a6, c6, rfl, h6, hE6⟩)
      go_ret
      rw [HA.out]
      exact ⟨a6, c6, rfl, h6, hE.trans hE6⟩
theorem cf_tally1 (args : Array Value) (W : World) : (callFunc 21 args).run Tryd.prog W = .ok (.enter 21 args) W := by
  simp [callFunc, Tryd.func21, Tryd.f21]
theorem cf_passes1 (args : Array Value) (W : World) : (callFunc 23 args).run Tryd.prog W = .ok (.enter 23 args) W := by
  simp [callFunc, Tryd.func23, Tryd.f23]
set_option maxHeartbeats 1000000 in
theorem tally1_any (v k b : Nat) (hv : v < 16) (w : World) (h1 : w.cell? ⟨b, 0, none⟩ = some (.int .i64 (k : Int))) :
    Calls Tryd.prog 21 #[.int .i64 (v : Int), .pointer (some ⟨b, 0, none⟩)] w fun e w' => e = .returned (.bool (onesN v == k)) ∧ Qu w w' := by
  have H := Lib.hid (count_any v hv)
  have hl := World.block_lt_of_cell? _ _ h1
  generalize onesN v = o at *
  have hq : ((o : Int) == (k : Int)) = (o == k) := by
    rw [Bool.eq_iff_iff]; simp
    omega
  go_enter Tryd.func21, Tryd.ntmps21
  go_wp2_with fail
  go_quiet ((go_at_call 22; exact Calls.quiet_of_same ((H.out _).mono fun _ _ h => ⟨h.1, h.2.symm⟩)))
  go_wp2
  go_ret
  exact ⟨rfl, (Qu.refl _).drewN _⟩
set_option maxHeartbeats 1000000 in
theorem passes1_any (v k b : Nat) (hv : v < 16) (w : World) (h1 : w.cell? ⟨b, 0, none⟩ = some (.int .i64 (k : Int))) :
    Calls Tryd.prog 23 #[.int .i64 (v : Int), .pointer (some ⟨b, 0, none⟩)] w fun e w' => e = .returned (.bool (decide (k ≤ onesN v))) ∧ Qu w w' := by
  have H := Lib.hid (count_any v hv)
  have hl := World.block_lt_of_cell? _ _ h1
  generalize onesN v = o at *
  have hq : decide ((k : Int) ≤ (o : Int)) = decide (k ≤ o) := by
    rw [Bool.eq_iff_iff]; simp
  go_enter Tryd.func23, Tryd.ntmps23
  go_wp2_with fail
  go_quiet ((go_at_call 22; exact Calls.quiet_of_same ((H.out _).mono fun _ _ h => ⟨h.1, h.2.symm⟩)))
  go_wp2
  go_ret
  exact ⟨rfl, (Qu.refl _).drewN _⟩
/-- A formula and an error. -/
def RetNe (l : List Nd) (c : Int) (e : Ending) (w w' : World) : Prop := ∃ a k, e = .returned (.tuple #[.slice a l.length k, .int .i64 c]) ∧ RN w' a l ∧ Ext w w'
theorem btw_yes {x lo hi : Int} (h : lo ≤ x ∧ x ≤ hi) : btw x lo hi = true := by simp [btw, h]
theorem btw_no {x lo hi : Int} (h : ¬ (lo ≤ x ∧ x ≤ hi)) : btw x lo hi = false := by
  simp only [btw, Bool.and_eq_false_iff, decide_eq_false_iff_not]; omega
theorem pow16 {n : Nat} (h : n ≤ 4) : 2 ^ n ≤ 16 := by
  rcases (show n = 0 ∨ n = 1 ∨ n = 2 ∨ n = 3 ∨ n = 4 by omega) with rfl | rfl | rfl | rfl | rfl <;> decide
set_option maxHeartbeats 1000000 in
theorem tally_any (n k : Nat) (hn : 2 ≤ n ∧ n ≤ 4) (hk : k ≤ n) (w : World) :
    Calls Tryd.prog 6 #[.int .i64 (n : Int), .int .i64 (k : Int)] w fun e w' => RetNe (tallyF n k) 0 e w w' := by
  have hE0 := (Ext.refl w).alloc (.cells #[.int .i64 (k : Int)] 3)
  have z1 : (w.alloc (.cells #[.int .i64 (k : Int)] 3)).cell? ⟨w.heap.size, 0, none⟩ = some (.int .i64 (k : Int)) := by simp
  have HA := Lib.hid (among_any 21 (.pointer (some ⟨w.heap.size, 0, none⟩)) (fun v => onesN v == k) n (by omega) (w.alloc (.cells #[.int .i64 (k : Int)] 3)) cf_tally1 fun W v hW hv => tally1_any v k w.heap.size (by have := pow16 hn.2; omega) W (hW.cell z1))
  have HF : Hid (tallyF n k = amongF n fun v => onesN v == k) := Lib.hid rfl
  have hb1 : btw (n : Int) 2 4 = true := btw_yes (by omega)
  have hb2 : btw (k : Int) 0 (n : Int) = true := btw_yes (by omega)
  go_enter Tryd.func6, Tryd.ntmps6
  go_wp2_with (first | (go_at_call 19; refine (between_any _ _ _ _).mono ?_; rintro _ _ ⟨rfl, rfl⟩) | (go_at_call 20; refine HA.out.mono ?_; rintro _ w2 ⟨a2, c2, rfl, h2, hE2⟩))
  go_ret2
  rw [HF.out]
  exact ⟨a2, c2, rfl, h2, hE0.trans hE2⟩
set_option maxHeartbeats 1000000 in
theorem passes_any (n k : Nat) (hn : 2 ≤ n ∧ n ≤ 4) (hk : k ≤ n) (w : World) :
    Calls Tryd.prog 7 #[.int .i64 (n : Int), .int .i64 (k : Int)] w fun e w' => RetNe (passF n k) 0 e w w' := by
  have hE0 := (Ext.refl w).alloc (.cells #[.int .i64 (k : Int)] 3)
  have z1 : (w.alloc (.cells #[.int .i64 (k : Int)] 3)).cell? ⟨w.heap.size, 0, none⟩ = some (.int .i64 (k : Int)) := by simp
  have HA := Lib.hid (among_any 23 (.pointer (some ⟨w.heap.size, 0, none⟩)) (fun v => decide (k ≤ onesN v)) n (by omega) (w.alloc (.cells #[.int .i64 (k : Int)] 3)) cf_passes1 fun W v hW hv => passes1_any v k w.heap.size (by have := pow16 hn.2; omega) W (hW.cell z1))
  have HF : Hid (passF n k = amongF n fun v => decide (k ≤ onesN v)) := Lib.hid rfl
  have hb1 : btw (n : Int) 2 4 = true := btw_yes (by omega)
  have hb2 : btw (k : Int) 0 (n : Int) = true := btw_yes (by omega)
  go_enter Tryd.func7, Tryd.ntmps7
  go_wp2_with (first | (go_at_call 19; refine (between_any _ _ _ _).mono ?_; rintro _ _ ⟨rfl, rfl⟩) | (go_at_call 20; refine HA.out.mono ?_; rintro _ w2 ⟨a2, c2, rfl, h2, hE2⟩))
  go_ret2
  rw [HF.out]
  exact ⟨a2, c2, rfl, h2, hE0.trans hE2⟩
/-- What is seen in memory of the call's own, also behind stores into older blocks. -/
theorem agree_set3 {B b : Nat} {w5 W : World} (hb : b < B) (hw : Ext w5 W) (x y z : Value) : Agree B w5 (((W.setCell ⟨b, 0, none⟩ x).setCell ⟨b, 1, none⟩ y).setCell ⟨b, 2, none⟩ z) :=
  (Agree.ofExt hw).trans (Agree.set3 W hb x y z) hw.size
theorem agree_up {B C : Nat} {w5 W2 w'' : World} (h : Agree C w5 W2) (ha : Agree B W2 w'') (hB : B ≤ C) (hs : w5.heap.size ≤ W2.heap.size) : Agree C w5 w'' := h.trans (ha.mono hB) hs
theorem size_set3 (w : World) (b : Nat) (x y z : Value) : (((w.setCell ⟨b, 0, none⟩ x).setCell ⟨b, 1, none⟩ y).setCell ⟨b, 2, none⟩ z).heap.size = w.heap.size := by simp [World.setCell]
end Wt

/- Walk: announce of package secrets. -/
namespace Wt
open Go Go.RowKit Go.Maps Go.Proofs Fm

/-- Four cells hold a model and a world. -/
structure PAt (w : World) (b : Nat) (x y z t : Value) : Prop where
  c0 : w.cell? ⟨b, 0, none⟩ = some x
  c1 : w.cell? ⟨b, 1, none⟩ = some y
  c2 : w.cell? ⟨b, 2, none⟩ = some z
  c3 : w.cell? ⟨b, 3, none⟩ = some t
  fz : ∀ o, w.frozen? ⟨b, o, none⟩ = false
section
variable {w w' : World} {b : Nat} {x y z t : Value}
theorem PAt.keep (h : PAt w b x y z t) (e : w'.heap[b]? = w.heap[b]?) : PAt w' b x y z t :=
  ⟨(World.cell?_of_block (w := w) e).trans h.c0, (World.cell?_of_block (w := w) e).trans h.c1, (World.cell?_of_block (w := w) e).trans h.c2, (World.cell?_of_block (w := w) e).trans h.c3, fun o => (World.frozen?_of_block (w := w) e).trans (h.fz o)⟩
theorem PAt.lt (h : PAt w b x y z t) : b < w.heap.size := World.block_lt_of_cell? _ _ h.c0
theorem PAt.ext (h : PAt w b x y z t) (e : Ext w w') : PAt w' b x y z t := h.keep (e.block _ h.lt)
theorem PAt.new (w : World) (x y z t : Value) (T : Nat) : PAt (w.alloc (.cells #[x, y, z, t] T)) w.heap.size x y z t := ⟨by simp, by simp, by simp, by simp, fun o => by first | (simp; done) | (simp [World.frozen?]; done)⟩
theorem PAt.set4 (h : PAt w b x y z t) (p q r s : Value) : PAt ((((w.setCell ⟨b, 0, none⟩ p).setCell ⟨b, 1, none⟩ q).setCell ⟨b, 2, none⟩ r).setCell ⟨b, 3, none⟩ s) b p q r s := by
  obtain ⟨h0, h1, h2, h3, h4⟩ := h
  have n0 : (w.setCell ⟨b, 0, none⟩ p).cell? ⟨b, 0, none⟩ = some p := World.cell?_setCell_same _ _ _ h0
  have n1 : ((w.setCell ⟨b, 0, none⟩ p).setCell ⟨b, 1, none⟩ q).cell? ⟨b, 1, none⟩ = some q := World.cell?_setCell_same _ _ _ (by rw [World.cell?_setCell_other _ _ _ _ (by simp)]; exact h1)
  have n2 : (((w.setCell ⟨b, 0, none⟩ p).setCell ⟨b, 1, none⟩ q).setCell ⟨b, 2, none⟩ r).cell? ⟨b, 2, none⟩ = some r := World.cell?_setCell_same _ _ _ (by rw [World.cell?_setCell_other _ _ _ _ (by simp), World.cell?_setCell_other _ _ _ _ (by simp)]; exact h2)
  refine ⟨?_, ?_, ?_, World.cell?_setCell_same _ _ _ (by rw [World.cell?_setCell_other _ _ _ _ (by simp), World.cell?_setCell_other _ _ _ _ (by simp), World.cell?_setCell_other _ _ _ _ (by simp)]; exact h3), fun o => by rw [World.frozen?_setCell, World.frozen?_setCell, World.frozen?_setCell, World.frozen?_setCell]; exact h4 o⟩
  · rw [World.cell?_setCell_other _ _ _ _ (by simp), World.cell?_setCell_other _ _ _ _ (by simp), World.cell?_setCell_other _ _ _ _ (by simp)]; exact n0
  · rw [World.cell?_setCell_other _ _ _ _ (by simp), World.cell?_setCell_other _ _ _ _ (by simp)]; exact n1
  · rw [World.cell?_setCell_other _ _ _ _ (by simp)]; exact n2
theorem PAt.other {b' k : Nat} {u : Value} (h : PAt w b x y z t) (hb : b ≠ b') : PAt (w.setCell ⟨b', k, none⟩ u) b x y z t := h.keep (heap_setCell_other w ⟨b', k, none⟩ b u (by simpa using hb))
theorem PAt.other4 {b' : Nat} {p q r s : Value} (h : PAt w b x y z t) (hb : b ≠ b') : PAt ((((w.setCell ⟨b', 0, none⟩ p).setCell ⟨b', 1, none⟩ q).setCell ⟨b', 2, none⟩ r).setCell ⟨b', 3, none⟩ s) b x y z t := (((h.other hb).other hb).other hb).other hb
end
theorem Agree.set4 {B b : Nat} (w : World) (h : b < B) (x y z t : Value) : Agree B w ((((w.setCell ⟨b, 0, none⟩ x).setCell ⟨b, 1, none⟩ y).setCell ⟨b, 2, none⟩ z).setCell ⟨b, 3, none⟩ t) :=
  (Agree.set3 w h x y z).trans (Agree.set h t) (by simp [World.setCell])
theorem Ext.set4 {a w : World} (h : Ext a w) {b : Nat} (hb : a.heap.size ≤ b) (x y z t : Value) : Ext a ((((w.setCell ⟨b, 0, none⟩ x).setCell ⟨b, 1, none⟩ y).setCell ⟨b, 2, none⟩ z).setCell ⟨b, 3, none⟩ t) := (h.set3 hb x y z).setCell hb t
theorem size_set4 (w : World) (b : Nat) (x y z t : Value) : ((((w.setCell ⟨b, 0, none⟩ x).setCell ⟨b, 1, none⟩ y).setCell ⟨b, 2, none⟩ z).setCell ⟨b, 3, none⟩ t).heap.size = w.heap.size := by simp [World.setCell]
/-- A pointed model. -/
def RetPt (p : Mo × Int) (e : Ending) (w w' : World) : Prop := ∃ va ra vc rc, e = .returned (.agg #[.int .i64 p.1.worlds, .slice va p.1.val.length vc, .slice ra p.1.rel.length rc, .int .i64 p.2]) ∧ (∀ w'', Agree w.heap.size w' w'' → RM w'' va ra p.1) ∧ Ext w w'
/-- What has been announced: the model's memory lies behind the boxes. -/
structure AnS (w : World) (p : Mo × Int) (va ra : Option Addr) (vc rc : Nat) (wr : World) : Prop where
  e : Ext w wr
  box : PAt wr w.heap.size (.int .i64 p.1.worlds) (.slice va p.1.val.length vc) (.slice ra p.1.rel.length rc) (.int .i64 p.2)
  res : PAt wr (w.heap.size + 1) (.int .i64 0) (.slice none 0 0) (.slice none 0 0) (.int .i64 0)
  rm : ∀ w'', Agree (w.heap.size + 2) wr w'' → RM w'' va ra p.1
theorem annW_eq (M : Mo) (x : Int) (f : List Nd) (s : BitVec 64) (hs : s = if bt (holdsOf M f) x.toNat then holdsOf M f else ~~~ holdsOf M f &&& (1#64 <<< M.worlds.toNat - 1#64)) (hW : M.worlds < 64) : annW (M, x) f = (resM M s, posI (if resErr M s = 0 then memL s else []) x) := by
  unfold annW
  simp only
  rw [if_pos hW, ← hs]
def resN (M : Mo) (s : BitVec 64) : List Nat := if resErr M s = 0 then memL s else []
theorem resL_N (M : Mo) (s : BitVec 64) : resL M s = natI (resN M s) := by
  unfold resL resN
  split <;> rfl
theorem restrictN_any (M : Mo) (va ra : Option Addr) (vc rc : Nat) (s : BitVec 64) (w : World) (hm : RM w va ra M) (hT : Tab w) :
    Calls Tryd.prog 26 #[.agg #[.int .i64 M.worlds, .slice va M.val.length vc, .slice ra M.rel.length rc], .int .u64 (un s)] w fun e w' => ∃ va ra la vc rc lc, e = .returned (.tuple #[.agg #[.int .i64 (resM M s).worlds, .slice va (resM M s).val.length vc, .slice ra (resM M s).rel.length rc], .slice la (resN M s).length lc, .int .i64 (resErr M s)]) ∧ (∀ w'', Agree w.heap.size w' w'' → RM w'' va ra (resM M s) ∧ RI w'' la (natI (resN M s))) ∧ Ext w w' :=
  (restrict_any M va ra vc rc s w hm hT).mono fun e w' h => by
    obtain ⟨va, ra, la, vc, rc, lc, h1, h2, h3⟩ := h
    rw [resL_N, natI_len] at h1
    exact ⟨va, ra, la, vc, rc, lc, h1, fun w'' ha => by have h := h2 w'' ha; rw [resL_N] at h; exact h, h3⟩
theorem AnS.next {w w1 w2 w3 : World} {p : Mo × Int} {va ra : Option Addr} {vc rc : Nat} {x y z t : Value} (h1 : Ext w w1) (hsz : w.heap.size + 2 ≤ w1.heap.size) (h2 : Ext w1 w2) (h3 : Ext w2 w3) (box : PAt w3 w.heap.size x y z t) (res : PAt w3 (w.heap.size + 1) (.int .i64 0) (.slice none 0 0) (.slice none 0 0) (.int .i64 0)) (hk : ∀ w'', Agree w1.heap.size w2 w'' → RM w'' va ra p.1) :
    AnS w p va ra vc rc ((((w3.setCell ⟨w.heap.size, 0, none⟩ (.int .i64 p.1.worlds)).setCell ⟨w.heap.size, 1, none⟩ (.slice va p.1.val.length vc)).setCell ⟨w.heap.size, 2, none⟩ (.slice ra p.1.rel.length rc)).setCell ⟨w.heap.size, 3, none⟩ (.int .i64 p.2)) := by
  refine ⟨((h1.trans h2).trans h3).set4 (Nat.le_refl _) _ _ _ _, box.set4 _ _ _ _, res.other4 (by omega), fun w'' ha => hk w'' ?_⟩
  have h4 : Agree w1.heap.size w3 ((((w3.setCell ⟨w.heap.size, 0, none⟩ (.int .i64 p.1.worlds)).setCell ⟨w.heap.size, 1, none⟩ (.slice va p.1.val.length vc)).setCell ⟨w.heap.size, 2, none⟩ (.slice ra p.1.rel.length rc)).setCell ⟨w.heap.size, 3, none⟩ (.int .i64 p.2)) := Agree.set4 w3 (by omega) _ _ _ _
  have h5 := (Agree.ofExt (B := w1.heap.size) h3).trans h4 h3.size
  exact agree_up h5 ha hsz (by rw [size_set4]; exact h3.size)
set_option maxRecDepth 20000 in
set_option maxHeartbeats 4000000 in
theorem announce_any (N : Nat) (V : List (BitVec 64)) (R : List (List (BitVec 64))) (va ra : Option Addr) (vc rc : Nat) (x : Nat) (la : Option Addr) (lc : Nat) (f : List Nd) (w : World) (hN : N < 64) (_hx : x < 64) (hm : RM w va ra ⟨(N : Int), V, R⟩) (hl : RNN w la [f]) (hT : Tab w) :
    Calls Tryd.prog 46 #[.agg #[.int .i64 (N : Int), .slice va V.length vc, .slice ra R.length rc, .int .i64 (x : Int)], .slice la 1 lc] w fun e w' => RetPt (annW (⟨(N : Int), V, R⟩, (x : Int)) f) e w w' := by
  have hE0 : Ext w ((w.alloc (.cells #[.int .i64 (N : Int), .slice va V.length vc, .slice ra R.length rc, .int .i64 (x : Int)] 64)).alloc (.cells #[.int .i64 0, .slice none 0 0, .slice none 0 0, .int .i64 0] 64)) := ((Ext.refl w).alloc _).alloc _
  have hB0 := (PAt.new w (.int .i64 (N : Int)) (.slice va V.length vc) (.slice ra R.length rc) (.int .i64 (x : Int)) 64).ext ((Ext.refl _).alloc (.cells #[.int .i64 0, .slice none 0 0, .slice none 0 0, .int .i64 0] 64))
  have hR0 := PAt.new (w.alloc (.cells #[.int .i64 (N : Int), .slice va V.length vc, .slice ra R.length rc, .int .i64 (x : Int)] 64)) (.int .i64 0) (.slice none 0 0) (.slice none 0 0) (.int .i64 0) 64
  have hsz : ((w.alloc (.cells #[.int .i64 (N : Int), .slice va V.length vc, .slice ra R.length rc, .int .i64 (x : Int)] 64)).alloc (.cells #[.int .i64 0, .slice none 0 0, .slice none 0 0, .int .i64 0] 64)).heap.size = w.heap.size + 2 := by simp
  rw [show (w.alloc (.cells #[.int .i64 (N : Int), .slice va V.length vc, .slice ra R.length rc, .int .i64 (x : Int)] 64)).heap.size = w.heap.size + 1 by simp] at hR0
  have HHO := Lib.hid (fun W (h : RM W va ra ⟨(N : Int), V, R⟩) a c (hf : RN W a f) => holds_any ⟨(N : Int), V, R⟩ va ra vc rc a c f W h hf)
  have HRS := Lib.hid (fun s W (h : RM W va ra ⟨(N : Int), V, R⟩) (hT : Tab W) => restrictN_any ⟨(N : Int), V, R⟩ va ra vc rc s W h hT)
  have HAW := Lib.hid (fun s hs => annW_eq ⟨(N : Int), V, R⟩ (x : Int) f s hs (by show (N : Int) < 64; omega))
  have hNI : decide ((N : Int) < 64) = true := decide_eq_true (by omega)
  have HN1 : Hid (∀ s, (if resErr ⟨(N : Int), V, R⟩ s = 0 then memL s else []) = resN ⟨(N : Int), V, R⟩ s) := Lib.hid fun s => rfl
  generalize holdsOf ⟨(N : Int), V, R⟩ f = S at *
  generalize reqErr ⟨(N : Int), V, R⟩ f = er at *
  have HE0 := Lib.hid hE0
  have HB0 := Lib.hid hB0
  have HR0 := Lib.hid hR0
  have HSZ := Lib.hid hsz
  have HM := Lib.hid hm
  have HL := Lib.hid hl
  have HT := Lib.hid hT
  clear hE0 hB0 hR0 hsz hm hl hT
  go_enter Tryd.func46, Tryd.ntmps46
  go_wp2_with fail
  generalize (w.alloc (.cells #[.int .i64 (N : Int), .slice va V.length vc, .slice ra R.length rc, .int .i64 (x : Int)] 64)).alloc (.cells #[.int .i64 0, .slice none 0 0, .slice none 0 0, .int .i64 0] 64) = W0 at *
  go_loopw [14] (fun i wr => (i = .int .i64 0 ∧ wr = W0) ∨ (i = .int .i64 1 ∧ Hid (∃ va ra vc rc, AnS w (annW (⟨(N : Int), V, R⟩, (x : Int)) f) va ra vc rc wr))) (fun i _ => 1 - (intOf i).toNat)
  case atStart => exact .inl ⟨rfl, rfl⟩
  case round =>
    rcases hrel with ⟨rfl, rfl⟩ | ⟨rfl, HS⟩
    · obtain ⟨b, off, a', c', rfl, hb0, hc0, hf0⟩ := HL.out.get 0 (by simp)
      have hc := HE0.out.cell hc0
      have hb := World.block_lt_of_cell? _ _ hc
      have hf0 : RN w a' f := hf0
      have hc : wr.cell? ⟨b, off, none⟩ = some (Value.slice a' f.length c') := hc
      have HF := Lib.hid hf0
      obtain ⟨m0, m1, m2, m3, mf⟩ := HB0.out
      have hml := HB0.out.lt
      clear hb0 hc0 hf0 mf
      cases hbt : bt S x
      · have HAW2 := Lib.hid (HAW.out (~~~ S &&& (1#64 <<< N - 1#64)) (by rw [Int.toNat_natCast, hbt]; rfl))
        have HRN := Lib.hid (HN1.out (~~~ S &&& (1#64 <<< N - 1#64)))
        go_wp2_with (first | (go_at_call 25; refine (HHO.out _ (HM.out.ext' HE0.out) a' c' (HF.out.ext HE0.out)).mono ?_; rintro _ w1 ⟨rfl, hE1⟩; have q0 := hE1.cell m0; have q1 := hE1.cell m1; have q2 := hE1.cell m2; have q3 := hE1.cell m3; have ql := hE1.size; have HE1 := Lib.hid hE1; clear m0 m1 m2 m3 hE1) | (go_at_call 26; refine (HRS.out (~~~ S &&& (1#64 <<< N - 1#64)) _ ((HM.out.ext' HE0.out).ext' HE1.out) (HT.out.ext (HE0.out.trans HE1.out))).mono ?_; rintro _ w2 ⟨va2, ra2, la2, vc2, rc2, lc2, rfl, hk2, hE2⟩; have HK2 := Lib.hid hk2; have HE2 := Lib.hid hE2; clear hk2 hE2))
        have HE3 : Hid (Ext w2 (w2.alloc (.cells #[.int .i64 (resM ⟨(N : Int), V, R⟩ (~~~ S &&& (1#64 <<< N - 1#64))).worlds, .slice va2 (resM ⟨(N : Int), V, R⟩ (~~~ S &&& (1#64 <<< N - 1#64))).val.length vc2, .slice ra2 (resM ⟨(N : Int), V, R⟩ (~~~ S &&& (1#64 <<< N - 1#64))).rel.length rc2] 28))) := Lib.hid ((Ext.refl w2).alloc _)
        have hO3 := OutAt.new w2 (.int .i64 (resM ⟨(N : Int), V, R⟩ (~~~ S &&& (1#64 <<< N - 1#64))).worlds) (.slice va2 (resM ⟨(N : Int), V, R⟩ (~~~ S &&& (1#64 <<< N - 1#64))).val.length vc2) (.slice ra2 (resM ⟨(N : Int), V, R⟩ (~~~ S &&& (1#64 <<< N - 1#64))).rel.length rc2) 28
        have HRI := Lib.hid ((HK2.out _ (Agree.ofExt HE3.out)).2)
        have HAW3 : Hid (annW (⟨(N : Int), V, R⟩, (x : Int)) f = (resM ⟨(N : Int), V, R⟩ (~~~ S &&& (1#64 <<< N - 1#64)), posI (resN ⟨(N : Int), V, R⟩ (~~~ S &&& (1#64 <<< N - 1#64))) (x : Int))) := Lib.hid (by rw [HAW2.out, HRN.out])
        have HEW2 := Lib.hid ((HE0.out.trans HE1.out).trans HE2.out)
        have HBX := Lib.hid (((HB0.out.ext HE1.out).ext HE2.out).ext HE3.out)
        have HRX := Lib.hid (((HR0.out.ext HE1.out).ext HE2.out).ext HE3.out)
        have HSZ1 : Hid (w.heap.size + 2 ≤ w1.heap.size) := Lib.hid (by have := HSZ.out; have := HE1.out.size; omega)
        have HWL : Hid (w.heap.size < w2.heap.size) := Lib.hid (by have := HSZ.out; have := HE1.out.size; have := HE2.out.size; omega)
        generalize resM ⟨(N : Int), V, R⟩ (~~~ S &&& (1#64 <<< N - 1#64)) = A at *
        generalize resN ⟨(N : Int), V, R⟩ (~~~ S &&& (1#64 <<< N - 1#64)) = l at *
        generalize hw3 : w2.alloc (.cells #[.int .i64 A.worlds, .slice va2 A.val.length vc2, .slice ra2 A.rel.length rc2] 28) = w3 at *
        have HIX : Hid (∀ W, RI W la2 (natI l) → Calls Tryd.prog 13 #[.slice la2 l.length lc2, .int .i64 (x : Int)] W fun e w' => e = .returned (.int .i64 (posI l (x : Int))) ∧ w' = W) := Lib.hid (fun W h => (index_any l (x : Int) la2 lc2 W h).mono fun _ _ h => ⟨h.1, h.2.symm⟩)
        obtain ⟨o0, o1, o2, -⟩ := hO3
        obtain ⟨p0, p1, p2, p3, pf⟩ := HBX.out
        have pl := HBX.out.lt
        have ol : w2.heap.size < w3.heap.size := World.block_lt_of_cell? _ _ o0
        clear q0 q1 q2 q3 ql hml
        clear hw3
        refine wp_region_still_tail 6 (by kernel_rfl) (by kernel_rfl) ?_
        simp only [List.take_succ_cons, List.take_zero, List.drop_succ_cons, List.drop_zero]
        repeat still_step
        still_call (HIX.out _ (HRI.out.ext (Ext.refl _).drew))
        (repeat still_step)
        refine wpStill_nil ?_
        have HAN := Lib.hid (AnS.next (vc := vc2) (rc := rc2) (p := (A, posI l (x : Int))) (HE0.out.trans HE1.out) HSZ1.out HE2.out (HE3.out.trans (Ext.refl _).drew) (HBX.out.ext (Ext.refl _).drew) (HRX.out.ext (Ext.refl _).drew) fun w'' ha => (HK2.out w'' ha).1)
        obtain ⟨z0, z1, z2, z3, zf⟩ := HBX.out.ext (Ext.refl _).drew
        have zl := (HBX.out.ext (Ext.refl _).drew).lt
        have y0 := zf 0
        have y1 := zf 1
        have y2 := zf 2
        have y3 := zf 3
        clear p0 p1 p2 p3 pf pl o0 o1 o2 ol zf
        change wpList _ _ _ _ _ w3.drew
        generalize w3.drew = wd at *
        go_wp2
        go_roundw
        case rel => exact .inr ⟨rfl, Lib.hid ⟨va2, ra2, vc2, rc2, by rw [HAW3.out]; exact HAN.out⟩⟩
        case measure => simp [intOf]
      · have HAW2 := Lib.hid (HAW.out S (by rw [Int.toNat_natCast, hbt]; rfl))
        have HRN := Lib.hid (HN1.out S)
        go_wp2_with (first | (go_at_call 25; refine (HHO.out _ (HM.out.ext' HE0.out) a' c' (HF.out.ext HE0.out)).mono ?_; rintro _ w1 ⟨rfl, hE1⟩; have q0 := hE1.cell m0; have q1 := hE1.cell m1; have q2 := hE1.cell m2; have q3 := hE1.cell m3; have ql := hE1.size; have HE1 := Lib.hid hE1; clear m0 m1 m2 m3 hE1) | (go_at_call 26; refine (HRS.out S _ ((HM.out.ext' HE0.out).ext' HE1.out) (HT.out.ext (HE0.out.trans HE1.out))).mono ?_; rintro _ w2 ⟨va2, ra2, la2, vc2, rc2, lc2, rfl, hk2, hE2⟩; have HK2 := Lib.hid hk2; have HE2 := Lib.hid hE2; clear hk2 hE2))
        have HE3 : Hid (Ext w2 (w2.alloc (.cells #[.int .i64 (resM ⟨(N : Int), V, R⟩ S).worlds, .slice va2 (resM ⟨(N : Int), V, R⟩ S).val.length vc2, .slice ra2 (resM ⟨(N : Int), V, R⟩ S).rel.length rc2] 28))) := Lib.hid ((Ext.refl w2).alloc _)
        have hO3 := OutAt.new w2 (.int .i64 (resM ⟨(N : Int), V, R⟩ S).worlds) (.slice va2 (resM ⟨(N : Int), V, R⟩ S).val.length vc2) (.slice ra2 (resM ⟨(N : Int), V, R⟩ S).rel.length rc2) 28
        have HRI := Lib.hid ((HK2.out _ (Agree.ofExt HE3.out)).2)
        have HAW3 : Hid (annW (⟨(N : Int), V, R⟩, (x : Int)) f = (resM ⟨(N : Int), V, R⟩ S, posI (resN ⟨(N : Int), V, R⟩ S) (x : Int))) := Lib.hid (by rw [HAW2.out, HRN.out])
        have HEW2 := Lib.hid ((HE0.out.trans HE1.out).trans HE2.out)
        have HBX := Lib.hid (((HB0.out.ext HE1.out).ext HE2.out).ext HE3.out)
        have HRX := Lib.hid (((HR0.out.ext HE1.out).ext HE2.out).ext HE3.out)
        have HSZ1 : Hid (w.heap.size + 2 ≤ w1.heap.size) := Lib.hid (by have := HSZ.out; have := HE1.out.size; omega)
        have HWL : Hid (w.heap.size < w2.heap.size) := Lib.hid (by have := HSZ.out; have := HE1.out.size; have := HE2.out.size; omega)
        generalize resM ⟨(N : Int), V, R⟩ S = A at *
        generalize resN ⟨(N : Int), V, R⟩ S = l at *
        generalize hw3 : w2.alloc (.cells #[.int .i64 A.worlds, .slice va2 A.val.length vc2, .slice ra2 A.rel.length rc2] 28) = w3 at *
        have HIX : Hid (∀ W, RI W la2 (natI l) → Calls Tryd.prog 13 #[.slice la2 l.length lc2, .int .i64 (x : Int)] W fun e w' => e = .returned (.int .i64 (posI l (x : Int))) ∧ w' = W) := Lib.hid (fun W h => (index_any l (x : Int) la2 lc2 W h).mono fun _ _ h => ⟨h.1, h.2.symm⟩)
        obtain ⟨o0, o1, o2, -⟩ := hO3
        obtain ⟨p0, p1, p2, p3, pf⟩ := HBX.out
        have pl := HBX.out.lt
        have ol : w2.heap.size < w3.heap.size := World.block_lt_of_cell? _ _ o0
        clear q0 q1 q2 q3 ql hml
        clear hw3
        refine wp_region_still_tail 6 (by kernel_rfl) (by kernel_rfl) ?_
        simp only [List.take_succ_cons, List.take_zero, List.drop_succ_cons, List.drop_zero]
        repeat still_step
        still_call (HIX.out _ (HRI.out.ext (Ext.refl _).drew))
        (repeat still_step)
        refine wpStill_nil ?_
        have HAN := Lib.hid (AnS.next (vc := vc2) (rc := rc2) (p := (A, posI l (x : Int))) (HE0.out.trans HE1.out) HSZ1.out HE2.out (HE3.out.trans (Ext.refl _).drew) (HBX.out.ext (Ext.refl _).drew) (HRX.out.ext (Ext.refl _).drew) fun w'' ha => (HK2.out w'' ha).1)
        obtain ⟨z0, z1, z2, z3, zf⟩ := HBX.out.ext (Ext.refl _).drew
        have zl := (HBX.out.ext (Ext.refl _).drew).lt
        have y0 := zf 0
        have y1 := zf 1
        have y2 := zf 2
        have y3 := zf 3
        clear p0 p1 p2 p3 pf pl o0 o1 o2 ol zf
        change wpList _ _ _ _ _ w3.drew
        generalize w3.drew = wd at *
        go_wp2
        go_roundw
        case rel => exact .inr ⟨rfl, Lib.hid ⟨va2, ra2, vc2, rc2, by rw [HAW3.out]; exact HAN.out⟩⟩
        case measure => simp [intOf]
    · obtain ⟨va3, ra3, vc3, rc3, han⟩ := HS.out
      generalize hpe : annW (⟨(N : Int), V, R⟩, (x : Int)) f = p at *
      have HPE := Lib.hid hpe
      clear hpe
      obtain ⟨m0, m1, m2, m3, mf⟩ := han.box
      obtain ⟨r0, r1, r2, r3, rf⟩ := han.res
      have ml := han.box.lt
      have rl := han.res.lt
      have f0 := rf 0
      have f1 := rf 1
      have f2 := rf 2
      have f3 := rf 3
      have HAN := Lib.hid han
      clear mf rf han
      go_wp2_with fail
      have hEx := HAN.out.e.set4 (b := w.heap.size + 1) (by omega) (.int .i64 p.1.worlds) (.slice va3 p.1.val.length vc3) (.slice ra3 p.1.rel.length rc3) (.int .i64 p.2)
      obtain ⟨d0, d1, d2, d3, -⟩ := HAN.out.res.set4 (.int .i64 p.1.worlds) (.slice va3 p.1.val.length vc3) (.slice ra3 p.1.rel.length rc3) (.int .i64 p.2)
      have hag := Agree.set4 (B := w.heap.size + 2) (b := w.heap.size + 1) wr (by omega) (.int .i64 p.1.worlds) (.slice va3 p.1.val.length vc3) (.slice ra3 p.1.rel.length rc3) (.int .i64 p.2)
      have hsw := size_set4 wr (w.heap.size + 1) (.int .i64 p.1.worlds) (.slice va3 p.1.val.length vc3) (.slice ra3 p.1.rel.length rc3) (.int .i64 p.2)
      generalize (((wr.setCell ⟨w.heap.size + 1, 0, none⟩ (.int .i64 p.1.worlds)).setCell ⟨w.heap.size + 1, 1, none⟩ (.slice va3 p.1.val.length vc3)).setCell ⟨w.heap.size + 1, 2, none⟩ (.slice ra3 p.1.rel.length rc3)).setCell ⟨w.heap.size + 1, 3, none⟩ (.int .i64 p.2) = W2 at *
      refine bodyPost_ret (v := .agg #[.int .i64 p.1.worlds, .slice va3 p.1.val.length vc3, .slice ra3 p.1.rel.length rc3, .int .i64 p.2]) ?_ rfl ?_
      · rw [results_cell_one rfl]
        go_simp
      · rw [HPE.out]
        exact ⟨va3, ra3, vc3, rc3, rfl, fun w'' ha => HAN.out.rm w'' (agree_up hag ha (by omega) (by omega)), hEx⟩
end Wt
