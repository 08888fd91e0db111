/- Plain: the dialogue of sum and product (printed literals; by the kernel). -/
import Derived.Test.YtoacdccachhjdaaGreatDoorMACh
import Derived.Test.YtoacdccachhjdaaGreatDoorMACe
namespace Wt
open Go Go.RowKit Go.Maps Go.Proofs Fm

/-- A pair's sum or product. -/
def suV (kind : Nat) (p : Nat × Nat) : Nat := if kind = 1 then p.1 * p.2 else p.1 + p.2
/-- How many marked pairs have a value, of the first k. -/
def unqTo (L : List (Nat × Nat)) (mk : List Bool) (kind v : Nat) (k : Nat) : Nat := (List.range k).countP fun i => suV kind (nth L i) == v && nth mk i
def unq (L : List (Nat × Nat)) (mk : List Bool) (kind v : Nat) : Nat := unqTo L mk kind v L.length
def suA (L : List (Nat × Nat)) : List Bool := List.replicate L.length true
/-- Is the pair still there when the first k pairs were looked at? -/
def su1To (L : List (Nat × Nat)) (i k : Nat) : Bool := !(List.range k).any fun j => suV 0 (nth L j) == suV 0 (nth L i) && unq L (suA L) 1 (suV 1 (nth L j)) == 1
def su1 (L : List (Nat × Nat)) : List Bool := (List.range L.length).map fun i => su1To L i L.length
def su2 (L : List (Nat × Nat)) : List Bool := (List.range L.length).map fun i => nth (su1 L) i && unq L (su1 L) 1 (suV 1 (nth L i)) == 1
def su3 (L : List (Nat × Nat)) (w : Nat) : Bool := nth (su2 L) w && unq L (su2 L) 0 (suV 0 (nth L w)) == 1
def suN (L : List (Nat × Nat)) (w : Nat) : Nat := if nth (su2 L) w then 3 else if nth (su1 L) w then 2 else 1
def suX : List Nd := allTo (leaL 0 0 8) (leaL 0 0 8).length
def suY : List Nd := allTo (leaL 1 0 8) (leaL 1 0 8).length
def suF : List Nd := ccAnd (ccNot suY) (ccKnow 0 (ccNot suY))
def suSay : List (List Nd) := [suF, suY, suX]
/-- The dialogue is as arithmetic says. -/
def SumT (M : Mo) (L : List (Nat × Nat)) (l : List (List Nd)) (w : Nat) : Prop :=
  playErr M (w : Int) l = 0 ∧ (playOf M (w : Int) l).length = suN L w ∧ (nth (playOf M (w : Int) l) 0).1 = nth (su1 L) w ∧ (suN L w < 2 ∨ (nth (playOf M (w : Int) l) 1).1 = nth (su2 L) w) ∧ (suN L w < 3 ∨ (nth (playOf M (w : Int) l) 2).1 = su3 L w)
instance (M : Mo) (L : List (Nat × Nat)) (l : List (List Nd)) (w : Nat) : Decidable (SumT M L l w) := inferInstanceAs (Decidable (_ ∧ _ ∧ _ ∧ _ ∧ _))
/-! Literals. -/
def suXg : List Nd := [⟨3, 0, 0, 0, 0, 0⟩, ⟨9, 0, 0, 0, 0, 0⟩, ⟨4, 0, 0, 0, 0, 0⟩, ⟨9, 0, 0, 0, 2, 0⟩, ⟨6, 0, 0, 0, 1, 3⟩, ⟨3, 1, 0, 0, 0, 0⟩, ⟨9, 0, 0, 0, 5, 0⟩, ⟨4, 0, 0, 0, 5, 0⟩, ⟨9, 0, 0, 0, 7, 0⟩, ⟨6, 0, 0, 0, 6, 8⟩, ⟨5, 0, 0, 0, 4, 9⟩, ⟨3, 2, 0, 0, 0, 0⟩, ⟨9, 0, 0, 0, 11, 0⟩, ⟨4, 0, 0, 0, 11, 0⟩, ⟨9, 0, 0, 0, 13, 0⟩, ⟨6, 0, 0, 0, 12, 14⟩, ⟨5, 0, 0, 0, 10, 15⟩, ⟨3, 3, 0, 0, 0, 0⟩, ⟨9, 0, 0, 0, 17, 0⟩, ⟨4, 0, 0, 0, 17, 0⟩, ⟨9, 0, 0, 0, 19, 0⟩, ⟨6, 0, 0, 0, 18, 20⟩, ⟨5, 0, 0, 0, 16, 21⟩, ⟨3, 4, 0, 0, 0, 0⟩, ⟨9, 0, 0, 0, 23, 0⟩, ⟨4, 0, 0, 0, 23, 0⟩, ⟨9, 0, 0, 0, 25, 0⟩, ⟨6, 0, 0, 0, 24, 26⟩, ⟨5, 0, 0, 0, 22, 27⟩, ⟨3, 5, 0, 0, 0, 0⟩, ⟨9, 0, 0, 0, 29, 0⟩, ⟨4, 0, 0, 0, 29, 0⟩, ⟨9, 0, 0, 0, 31, 0⟩, ⟨6, 0, 0, 0, 30, 32⟩, ⟨5, 0, 0, 0, 28, 33⟩, ⟨3, 6, 0, 0, 0, 0⟩, ⟨9, 0, 0, 0, 35, 0⟩, ⟨4, 0, 0, 0, 35, 0⟩, ⟨9, 0, 0, 0, 37, 0⟩, ⟨6, 0, 0, 0, 36, 38⟩, ⟨5, 0, 0, 0, 34, 39⟩, ⟨3, 7, 0, 0, 0, 0⟩, ⟨9, 0, 0, 0, 41, 0⟩, ⟨4, 0, 0, 0, 41, 0⟩, ⟨9, 0, 0, 0, 43, 0⟩, ⟨6, 0, 0, 0, 42, 44⟩, ⟨5, 0, 0, 0, 40, 45⟩]
def suYg : List Nd := [⟨3, 0, 0, 0, 0, 0⟩, ⟨9, 1, 0, 0, 0, 0⟩, ⟨4, 0, 0, 0, 0, 0⟩, ⟨9, 1, 0, 0, 2, 0⟩, ⟨6, 0, 0, 0, 1, 3⟩, ⟨3, 1, 0, 0, 0, 0⟩, ⟨9, 1, 0, 0, 5, 0⟩, ⟨4, 0, 0, 0, 5, 0⟩, ⟨9, 1, 0, 0, 7, 0⟩, ⟨6, 0, 0, 0, 6, 8⟩, ⟨5, 0, 0, 0, 4, 9⟩, ⟨3, 2, 0, 0, 0, 0⟩, ⟨9, 1, 0, 0, 11, 0⟩, ⟨4, 0, 0, 0, 11, 0⟩, ⟨9, 1, 0, 0, 13, 0⟩, ⟨6, 0, 0, 0, 12, 14⟩, ⟨5, 0, 0, 0, 10, 15⟩, ⟨3, 3, 0, 0, 0, 0⟩, ⟨9, 1, 0, 0, 17, 0⟩, ⟨4, 0, 0, 0, 17, 0⟩, ⟨9, 1, 0, 0, 19, 0⟩, ⟨6, 0, 0, 0, 18, 20⟩, ⟨5, 0, 0, 0, 16, 21⟩, ⟨3, 4, 0, 0, 0, 0⟩, ⟨9, 1, 0, 0, 23, 0⟩, ⟨4, 0, 0, 0, 23, 0⟩, ⟨9, 1, 0, 0, 25, 0⟩, ⟨6, 0, 0, 0, 24, 26⟩, ⟨5, 0, 0, 0, 22, 27⟩, ⟨3, 5, 0, 0, 0, 0⟩, ⟨9, 1, 0, 0, 29, 0⟩, ⟨4, 0, 0, 0, 29, 0⟩, ⟨9, 1, 0, 0, 31, 0⟩, ⟨6, 0, 0, 0, 30, 32⟩, ⟨5, 0, 0, 0, 28, 33⟩, ⟨3, 6, 0, 0, 0, 0⟩, ⟨9, 1, 0, 0, 35, 0⟩, ⟨4, 0, 0, 0, 35, 0⟩, ⟨9, 1, 0, 0, 37, 0⟩, ⟨6, 0, 0, 0, 36, 38⟩, ⟨5, 0, 0, 0, 34, 39⟩, ⟨3, 7, 0, 0, 0, 0⟩, ⟨9, 1, 0, 0, 41, 0⟩, ⟨4, 0, 0, 0, 41, 0⟩, ⟨9, 1, 0, 0, 43, 0⟩, ⟨6, 0, 0, 0, 42, 44⟩, ⟨5, 0, 0, 0, 40, 45⟩]
def suFg : List Nd := [⟨3, 0, 0, 0, 0, 0⟩, ⟨9, 1, 0, 0, 0, 0⟩, ⟨4, 0, 0, 0, 0, 0⟩, ⟨9, 1, 0, 0, 2, 0⟩, ⟨6, 0, 0, 0, 1, 3⟩, ⟨3, 1, 0, 0, 0, 0⟩, ⟨9, 1, 0, 0, 5, 0⟩, ⟨4, 0, 0, 0, 5, 0⟩, ⟨9, 1, 0, 0, 7, 0⟩, ⟨6, 0, 0, 0, 6, 8⟩, ⟨5, 0, 0, 0, 4, 9⟩, ⟨3, 2, 0, 0, 0, 0⟩, ⟨9, 1, 0, 0, 11, 0⟩, ⟨4, 0, 0, 0, 11, 0⟩, ⟨9, 1, 0, 0, 13, 0⟩, ⟨6, 0, 0, 0, 12, 14⟩, ⟨5, 0, 0, 0, 10, 15⟩, ⟨3, 3, 0, 0, 0, 0⟩, ⟨9, 1, 0, 0, 17, 0⟩, ⟨4, 0, 0, 0, 17, 0⟩, ⟨9, 1, 0, 0, 19, 0⟩, ⟨6, 0, 0, 0, 18, 20⟩, ⟨5, 0, 0, 0, 16, 21⟩, ⟨3, 4, 0, 0, 0, 0⟩, ⟨9, 1, 0, 0, 23, 0⟩, ⟨4, 0, 0, 0, 23, 0⟩, ⟨9, 1, 0, 0, 25, 0⟩, ⟨6, 0, 0, 0, 24, 26⟩, ⟨5, 0, 0, 0, 22, 27⟩, ⟨3, 5, 0, 0, 0, 0⟩, ⟨9, 1, 0, 0, 29, 0⟩, ⟨4, 0, 0, 0, 29, 0⟩, ⟨9, 1, 0, 0, 31, 0⟩, ⟨6, 0, 0, 0, 30, 32⟩, ⟨5, 0, 0, 0, 28, 33⟩, ⟨3, 6, 0, 0, 0, 0⟩, ⟨9, 1, 0, 0, 35, 0⟩, ⟨4, 0, 0, 0, 35, 0⟩, ⟨9, 1, 0, 0, 37, 0⟩, ⟨6, 0, 0, 0, 36, 38⟩, ⟨5, 0, 0, 0, 34, 39⟩, ⟨3, 7, 0, 0, 0, 0⟩, ⟨9, 1, 0, 0, 41, 0⟩, ⟨4, 0, 0, 0, 41, 0⟩, ⟨9, 1, 0, 0, 43, 0⟩, ⟨6, 0, 0, 0, 42, 44⟩, ⟨5, 0, 0, 0, 40, 45⟩, ⟨4, 0, 0, 0, 46, 0⟩, ⟨9, 0, 0, 0, 47, 0⟩, ⟨5, 0, 0, 0, 47, 48⟩]
def suG : List (List Nd) := [suFg, suYg, suXg]
set_option maxHeartbeats 8000000
theorem suSay_eq : suSay = suG := by decide +kernel
def SumAll (l m : Nat) : Prop := sumE l m = 0 → ∀ w, w < (sumL l m).length → SumT (sumM l m) (sumL l m) suG w
instance (l m : Nat) : Decidable (SumAll l m) := inferInstanceAs (Decidable (_ → _))
def SumErr (l m : Nat) : Prop := sumE l m = 0 ∨ (sumE l m = 6 ∧ m < 2 * l + 1)
instance (l m : Nat) : Decidable (SumErr l m) := inferInstanceAs (Decidable (_ ∨ _))
theorem sum_err : ∀ l : _root_.Fin 3, ∀ m : _root_.Fin 12, SumErr (l.val + 1) (m.val + 5) := by decide +kernel
theorem sum_tab1 : ∀ m : _root_.Fin 12, SumAll 1 (m.val + 5) := by decide +kernel
theorem sum_tab2 : ∀ m : _root_.Fin 12, SumAll 2 (m.val + 5) := by decide +kernel
theorem sum_tab3 : ∀ m : _root_.Fin 12, SumAll 3 (m.val + 5) := by decide +kernel
theorem sum_law {l m w : Nat} (hl : 1 ≤ l ∧ l ≤ 3) (hm : 5 ≤ m ∧ m ≤ 16) (h0 : sumE l m = 0) (hw : w < (sumL l m).length) : SumT (sumM l m) (sumL l m) suSay w := by
  rw [suSay_eq]
  obtain ⟨d, rfl⟩ : ∃ d, m = d + 5 := ⟨m - 5, by omega⟩
  rcases (show l = 1 ∨ l = 2 ∨ l = 3 by omega) with rfl | rfl | rfl
  · exact sum_tab1 ⟨d, by omega⟩ h0 w hw
  · exact sum_tab2 ⟨d, by omega⟩ h0 w hw
  · exact sum_tab3 ⟨d, by omega⟩ h0 w hw
theorem sum_errs {l m : Nat} (hl : 1 ≤ l ∧ l ≤ 3) (hm : 5 ≤ m ∧ m ≤ 16) : sumE l m = 0 ∨ (sumE l m = 6 ∧ m < 2 * l + 1) := by
  obtain ⟨d, rfl⟩ : ∃ d, m = d + 5 := ⟨m - 5, by omega⟩
  obtain ⟨e, rfl⟩ : ∃ e, l = e + 1 := ⟨l - 1, by omega⟩
  exact sum_err ⟨e, by omega⟩ ⟨d, by omega⟩
theorem unqTo_step (L : List (Nat × Nat)) (mk : List Bool) (kind v k : Nat) : unqTo L mk kind v (k + 1) = unqTo L mk kind v k + if (suV kind (nth L k) == v && nth mk k) = true then 1 else 0 := by
  unfold unqTo
  rw [List.range_succ, List.countP_append]
  simp [List.countP_cons]
theorem unqTo_le (L : List (Nat × Nat)) (mk : List Bool) (kind v k : Nat) : unqTo L mk kind v k ≤ k := by
  unfold unqTo
  exact Nat.le_trans List.countP_le_length (by simp)
theorem su1To_step (L : List (Nat × Nat)) (i k : Nat) : su1To L i (k + 1) = (su1To L i k && !(suV 0 (nth L k) == suV 0 (nth L i) && unq L (suA L) 1 (suV 1 (nth L k)) == 1)) := by
  unfold su1To
  rw [List.range_succ, List.any_append]
  simp
end Wt

/- Walk: wittinglaw32.unique. -/
namespace Wt
open Go Go.RowKit Go.Maps Go.Proofs Fm

theorem RB.extZ {w w' : World} (h : Ext w w') {a : Option Addr} {l : List Bool} (r : RB w a l) : RB w' a l := ⟨r.len, fun k hk => let ⟨b, off, e, c⟩ := r.at_ k hk; ⟨b, off, e, h.cell c⟩⟩
set_option maxRecDepth 20000 in
set_option maxHeartbeats 8000000 in
theorem unique_any (L : List (Nat × Nat)) (mk : List Bool) (kind v : Nat) (a b : Option Addr) (c d : Nat) (w : World) (hL : RPe w a L) (hM : RB w b mk) (hml : mk.length = L.length) (hk : kind ≤ 1) (h16 : ∀ i, i < L.length → (nth L i).1 < 16 ∧ (nth L i).2 < 16) (hl : L.length ≤ 64) (_hv : v ≤ 1000) :
    Calls Tryz.prog 37 #[.slice a L.length c, .slice b L.length d, .int .i64 (kind : Int), .int .i64 (v : Int)] w fun e w' => e = .returned (.int .i64 ((unq L mk kind v : Nat) : Int)) ∧ Qu w w' := by
  have HL := Lib.hid hL
  have HM := Lib.hid hM
  have HML := Lib.hid hml
  have H16 := Lib.hid h16
  have HS := Lib.hid (unqTo_step L mk kind v)
  have HLE := Lib.hid (unqTo_le L mk kind v)
  have HU : Hid (unq L mk kind v = unqTo L mk kind v L.length) := Lib.hid rfl
  have H0 : Hid (unqTo L mk kind v 0 = 0) := Lib.hid rfl
  rw [HU.out]
  generalize unqTo L mk kind v = U at *
  clear hL hM hml h16
  go_enter Tryz.func37, Tryz.ntmps37
  go_wp2_with fail
  go_loopw [9, 10] (fun n i wr => ∃ k : Nat, k ≤ L.length ∧ i = .int .i64 (k : Int) ∧ n = .int .i64 ((U k : Nat) : Int) ∧ Hid (Qu w wr)) (fun _ i _ => L.length - (RowKit.intOf i).toNat)
  case atStart => exact ⟨0, Nat.zero_le _, rfl, by rw [H0.out]; rfl, Lib.hid (Qu.refl _)⟩
  case round =>
    obtain ⟨k, hk, rfl, rfl, HE⟩ := hrel
    by_cases hkl : k < L.length
    · obtain ⟨b1, o1, rfl, hb1, hc1, hd1⟩ := (RPe.ext HE.out.ext HL.out).get hkl
      obtain ⟨b2, o2, rfl, hb2, hc2⟩ := (RB.extZ HE.out.ext HM.out).get (k := k) (by rw [HML.out]; exact hkl)
      have HSK := Lib.hid (HS.out k)
      have hle := HLE.out k
      have hp := H16.out k hkl
      obtain ⟨p, hpe⟩ : ∃ p, p = nth L k := ⟨_, rfl⟩
      rw [← hpe] at hc1 hd1 HSK hp
      clear hpe
      obtain ⟨x, y⟩ := p
      dsimp only at hc1 hd1 hp
      obtain ⟨m, hm⟩ : ∃ m, m = nth mk k := ⟨_, rfl⟩
      rw [← hm] at hc2 HSK
      clear hm
      obtain ⟨o, ho⟩ : ∃ o, o = U k := ⟨_, rfl⟩
      rw [← ho] at HSK hle ⊢
      clear ho
      have hxy : x * y ≤ 15 * 15 := Nat.mul_le_mul (by omega) (by omega)
      have hxyi : ((x : Int) * (y : Int)) = ((x * y : Nat) : Int) := by simp
      obtain ⟨z, hz⟩ : ∃ z, z = x * y := ⟨_, rfl⟩
      rw [← hz] at hxy hxyi
      rcases (show kind = 0 ∨ kind = 1 by omega) with rfl | rfl
      · have hk9 : ((0 : Nat) : Int) = 0 := rfl
        by_cases he : x + y = v
        · cases m
          · have hcm : (((x : Int) + (y : Int)) == (v : Int)) = true := by simp; omega
            have HN : Hid (U (k + 1) = o) := Lib.hid (by rw [HSK.out, show suV 0 (x, y) = x + y from rfl, show (x + y == v) = true by simp; omega]; rfl)
            clear HSK hz he
            go_wp2_with fail
            go_quiet (fail)
            go_wp2_with fail
            go_roundw
            case rel => exact ⟨k + 1, hkl, by go_num, by rw [HN.out], Lib.hid (by first | exact HE.out | exact HE.out.drewN _ | exact (HE.out.drewN _).drewN _)⟩
            case measure => simp [RowKit.intOf]; omega
          · have hcm : (((x : Int) + (y : Int)) == (v : Int)) = true := by simp; omega
            have HN : Hid (U (k + 1) = o + 1) := Lib.hid (by rw [HSK.out, show suV 0 (x, y) = x + y from rfl, show (x + y == v) = true by simp; omega]; rfl)
            clear HSK hz he
            go_wp2_with fail
            go_quiet (fail)
            go_wp2_with fail
            go_roundw
            case rel => exact ⟨k + 1, hkl, by go_num, by rw [HN.out]; go_num, Lib.hid (by first | exact HE.out | exact HE.out.drewN _ | exact (HE.out.drewN _).drewN _)⟩
            case measure => simp [RowKit.intOf]; omega
        · have hcm : (((x : Int) + (y : Int)) == (v : Int)) = false := by simp; omega
          have HN : Hid (U (k + 1) = o) := Lib.hid (by rw [HSK.out, show suV 0 (x, y) = x + y from rfl, show (x + y == v) = false by simp; omega]; simp)
          clear HSK hz he
          go_wp2_with fail
          go_quiet (fail)
          go_wp2_with fail
          go_roundw
          case rel => exact ⟨k + 1, hkl, by go_num, by rw [HN.out], Lib.hid (by first | exact HE.out | exact HE.out.drewN _ | exact (HE.out.drewN _).drewN _)⟩
          case measure => simp [RowKit.intOf]; omega
      · have hk9 : ((1 : Nat) : Int) = 1 := rfl
        by_cases he : z = v
        · cases m
          · have hcm : (((z : Nat) : Int) == (v : Int)) = true := by simp; omega
            have HN : Hid (U (k + 1) = o) := Lib.hid (by rw [HSK.out, show suV 1 (x, y) = x * y from rfl, ← hz, show (z == v) = true by simp; omega]; rfl)
            clear HSK hz he
            go_wp2_with fail
            go_quiet (fail)
            go_wp2_with fail
            go_quiet (fail)
            go_wp2_with fail
            go_roundw
            case rel => exact ⟨k + 1, hkl, by go_num, by rw [HN.out], Lib.hid (by first | exact HE.out | exact HE.out.drewN _ | exact (HE.out.drewN _).drewN _)⟩
            case measure => simp [RowKit.intOf]; omega
          · have hcm : (((z : Nat) : Int) == (v : Int)) = true := by simp; omega
            have HN : Hid (U (k + 1) = o + 1) := Lib.hid (by rw [HSK.out, show suV 1 (x, y) = x * y from rfl, ← hz, show (z == v) = true by simp; omega]; rfl)
            clear HSK hz he
            go_wp2_with fail
            go_quiet (fail)
            go_wp2_with fail
            go_quiet (fail)
            go_wp2_with fail
            go_roundw
            case rel => exact ⟨k + 1, hkl, by go_num, by rw [HN.out]; go_num, Lib.hid (by first | exact HE.out | exact HE.out.drewN _ | exact (HE.out.drewN _).drewN _)⟩
            case measure => simp [RowKit.intOf]; omega
        · have hcm : (((z : Nat) : Int) == (v : Int)) = false := by simp; omega
          have HN : Hid (U (k + 1) = o) := Lib.hid (by rw [HSK.out, show suV 1 (x, y) = x * y from rfl, ← hz, show (z == v) = false by simp; omega]; simp)
          clear HSK hz he
          go_wp2_with fail
          go_quiet (fail)
          go_wp2_with fail
          go_quiet (fail)
          go_wp2_with fail
          go_roundw
          case rel => exact ⟨k + 1, hkl, by go_num, by rw [HN.out], Lib.hid (by first | exact HE.out | exact HE.out.drewN _ | exact (HE.out.drewN _).drewN _)⟩
          case measure => simp [RowKit.intOf]; omega
    · obtain rfl : k = L.length := by omega
      go_wp2_with fail
      go_ret
      exact ⟨rfl, HE.out⟩
end Wt

/- Walks: puzzles.Sums where there is no pair, and where it refuses. -/
namespace Wt
open Go Go.RowKit Go.Maps Go.Proofs Fm

set_option maxRecDepth 20000 in
set_option maxHeartbeats 8000000 in
theorem sums_none (l m : Nat) (hl : l ≤ 15) (hm : m ≤ 30) (hemp : sumL l m = []) (w : World) : Calls Tryz.prog 18 #[.int .i64 (l : Int), .int .i64 (m : Int)] w fun e w' => RetNm ⟨0, [], []⟩ [] 6 e w w' := by
  have hE3 : Ext w (((w.alloc (.cells #[.int .i64 (l : Int)] 3)).alloc (.cells #[.int .i64 (m : Int)] 3)).alloc (.cells #[.int .i64 0, .slice none 0 0, .slice none 0 0] 28)) := (((Ext.refl w).alloc _).alloc _).alloc _
  have HBL := Lib.hid ((Bx1.new w (.int .i64 (l : Int)) 3).ext (((Ext.refl _).alloc (.cells #[.int .i64 (m : Int)] 3)).alloc (.cells #[.int .i64 0, .slice none 0 0, .slice none 0 0] 28)))
  have HBM := Lib.hid (((Bx1.new (w.alloc (.cells #[.int .i64 (l : Int)] 3)) (.int .i64 (m : Int)) 3).ext ((Ext.refl _).alloc (.cells #[.int .i64 0, .slice none 0 0, .slice none 0 0] 28))).at (b' := w.heap.size + 1) (by simp))
  have HOR := Lib.hid (OutAt.new3 w (.cells #[.int .i64 (l : Int)] 3) (.cells #[.int .i64 (m : Int)] 3) (.int .i64 0) (.slice none 0 0) (.slice none 0 0) 28)
  have HE := Lib.hid hE3
  have HSZ : Hid ((((w.alloc (.cells #[.int .i64 (l : Int)] 3)).alloc (.cells #[.int .i64 (m : Int)] 3)).alloc (.cells #[.int .i64 0, .slice none 0 0, .slice none 0 0] 28)).heap.size = w.heap.size + 3) := Lib.hid (by simp)
  have d0 : decide ((l : Int) < 0) = false := decide_eq_false (by omega)
  have d1 : decide ((15 : Int) < (l : Int)) = false := decide_eq_false (by omega)
  have d2 : decide ((m : Int) < 0) = false := decide_eq_false (by omega)
  have d3 : decide ((30 : Int) < (m : Int)) = false := decide_eq_false (by omega)
  obtain ⟨n0, n1⟩ : (((w.alloc (.cells #[.int .i64 (l : Int)] 3)).alloc (.cells #[.int .i64 (m : Int)] 3)).alloc (.cells #[.int .i64 0, .slice none 0 0, .slice none 0 0] 28)).cell? ⟨w.heap.size, 0, none⟩ = some (.int .i64 (l : Int)) ∧ (((w.alloc (.cells #[.int .i64 (l : Int)] 3)).alloc (.cells #[.int .i64 (m : Int)] 3)).alloc (.cells #[.int .i64 0, .slice none 0 0, .slice none 0 0] 28)).cell? ⟨w.heap.size + 1, 0, none⟩ = some (.int .i64 (m : Int)) := ⟨HBL.out.c, HBM.out.c⟩
  have nl := World.block_lt_of_cell? _ _ n1
  dsimp only at nl
  have HEM := Lib.hid hemp
  clear hE3 hemp
  go_enter Tryz.func18, Tryz.ntmps18
  go_wp2_with fail
  generalize ((w.alloc (.cells #[.int .i64 (l : Int)] 3)).alloc (.cells #[.int .i64 (m : Int)] 3)).alloc (.cells #[.int .i64 0, .slice none 0 0, .slice none 0 0] 28) = w0 at *
  refine (pairs_any m 64 #[.pointer (some ⟨w.heap.size, 0, none⟩), .pointer (some ⟨w.heap.size + 1, 0, none⟩)] w0).mono ?_
  rintro _ w1 ⟨rfl, hw1⟩
  dsimp only
  have hE1 : Ext w0 w1 := by rw [hw1]; exact ((Ext.refl _).alloc _).alloc _
  have HE1 := Lib.hid hE1
  have b0 : w1.cell? ⟨w0.heap.size, 0, none⟩ = some (.int .i64 (m : Int)) := by
    rw [hw1]
    exact ((Bx1.new w0 (.int .i64 (m : Int)) 3).ext ((Ext.refl _).alloc _)).c
  have b1 : w1.cell? ⟨w0.heap.size + 1, 0, none⟩ = some (.func (.func 64) #[] #[.pointer (some ⟨w.heap.size, 0, none⟩), .pointer (some ⟨w.heap.size + 1, 0, none⟩)]) := by
    rw [hw1]
    exact ((Bx1.new (w0.alloc (.cells #[.int .i64 (m : Int)] 3)) (.func (.func 64) #[] #[.pointer (some ⟨w.heap.size, 0, none⟩), .pointer (some ⟨w.heap.size + 1, 0, none⟩)]) 75).at (b' := w0.heap.size + 1) (by simp)).c
  have HC := Lib.hid (collect_any w0.heap.size (w0.heap.size + 1) m 64 [.pointer (some ⟨w.heap.size, 0, none⟩), .pointer (some ⟨w.heap.size + 1, 0, none⟩)] (sumP l m) (by omega) w1 b0 b1 cf_sum1 fun W' x y h hx hy => sum1_any l m x y w.heap.size (w.heap.size + 1) (by omega) (by omega) W' ((HBL.out.ext HE1.out).ext h).c ((HBM.out.ext HE1.out).ext h).c)
  clear hw1 hE1 b0 b1 n0 n1 nl
  go_wp2_with fail
  refine HC.out.mono ?_
  rintro _ w2 ⟨la, lc, rfl, hrp, hE2⟩
  dsimp only
  have HRP := Lib.hid hrp
  have HE2 := Lib.hid (HE1.out.trans hE2)
  have HLO : Hid (w0.heap.size ≤ w1.heap.size) := Lib.hid HE1.out.size
  have HNL : Hid (prAll m (sumP l m) = []) := Lib.hid (show sumL l m = [] from HEM.out)
  rw [HNL.out]
  clear hrp hE2 HRP HNL HC
  have HO9 := Lib.hid (HOR.out.ext HE2.out)
  obtain ⟨r0, r1, r2, rfz⟩ := HO9.out
  have f0 := rfz 0
  have f1 := rfz 1
  have f2 := rfz 2
  have rl := HO9.out.lt
  have hs0 := HSZ.out
  clear rfz
  simp only [List.length_nil]
  go_wp2_with fail
  have hEx : Ext w (((w2.setCell ⟨w.heap.size + 1 + 1, 0, none⟩ (.int .i64 0)).setCell ⟨w.heap.size + 1 + 1, 1, none⟩ (.slice none 0 0)).setCell ⟨w.heap.size + 1 + 1, 2, none⟩ (.slice none 0 0)) := ext_set3Z (HE.out.trans HE2.out) (by omega) _ _ _
  have ho : OutAt w2 (w.heap.size + 1 + 1) (.int .i64 0) (.slice none 0 0) (.slice none 0 0) := HO9.out
  obtain ⟨e0, e1, e2, -⟩ := ((ho.set0 (.int .i64 0)).set1 (.slice none 0 0)).set2 (.slice none 0 0)
  clear r0 r1 r2 f0 f1 f2 rl
  generalize ((w2.setCell ⟨w.heap.size + 1 + 1, 0, none⟩ (.int .i64 0)).setCell ⟨w.heap.size + 1 + 1, 1, none⟩ (.slice none 0 0)).setCell ⟨w.heap.size + 1 + 1, 2, none⟩ (.slice none 0 0) = W2 at *
  refine bodyPost_ret (v := .tuple #[.agg #[.int .i64 0, .slice none 0 0, .slice none 0 0], .slice none 0 0, .int .i64 6]) ?_ rfl ?_
  · rw [results_cell_two rfl]
    go_simp
  · exact ⟨none, none, none, 0, 0, 0, rfl, (FrM.zero 0 W2 0).rm, RPe.nil _ _, hEx⟩
end Wt
