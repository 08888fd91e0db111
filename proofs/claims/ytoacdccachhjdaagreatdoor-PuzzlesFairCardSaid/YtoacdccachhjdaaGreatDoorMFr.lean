/- Plain: the fair models are equivalences, and who knows which card (by the kernel). -/
import Derived.Test.YtoacdccachhjdaaGreatDoorMACh
import Derived.Test.YtoacdccachhjdaaGreatDoorMABb
import Derived.Test.YtoacdccachhjdaaGreatDoorRows
import Derived.Test.YtoacdccachhjdaaGreatDoorCards
import Derived.Test.YtoacdccachhjdaaGreatDoorTie
import Derived.Test.YtoacdccachhjdaaGreatDoorMAAx
import Derived.ProofKit
import Derived.LaidMore
import Derived.SizedLaws
import Derived.SevenTiedAt
import Derived.OpenShut
namespace Wt
open Go Go.RowKit Go.Maps Go.Proofs Fm

/-- A relation of equal keys below a mask. -/
def seeRow (c s : Nat) : List (BitVec 64) := bldRow (2 ^ c) fun v => ((v &&& s : Nat) : Int)
set_option maxHeartbeats 4000000
theorem see_tab : ∀ c : _root_.Fin 5, ∀ s : _root_.Fin 16, c.val ≠ 0 → s.val < 2 ^ c.val → frHas (seeRow c.val s.val) 6 = true := by decide +kernel
theorem num_tab : ∀ c : _root_.Fin 4, frIn (numM (c.val + 1)) 6 = true := by decide +kernel
theorem dea_tab : ∀ c : _root_.Fin 4, frIn (deaM (c.val + 1) 4) 6 = true := by decide +kernel
theorem dea_len : ∀ c : _root_.Fin 4, (deaM (c.val + 1) 4).worlds = ((deaL (c.val + 1) 4).length : Int) ∧ (deaM (c.val + 1) 4).rel.length = c.val + 1 := by decide +kernel
def CardT (M : Mo) (p q : Nat) : Prop := reqErr M (allTo (leaL p (2 * q) 2) (leaL p (2 * q) 2).length) = 0 ∧ holdsOf M (allTo (leaL p (2 * q) 2) (leaL p (2 * q) 2).length) = if p = q then allW M.worlds.toNat else 0#64
instance (M : Mo) (p q : Nat) : Decidable (CardT M p q) := inferInstanceAs (Decidable (_ ∧ _))
theorem card_tab : ∀ c p q : _root_.Fin 4, p.val < c.val + 1 → q.val < c.val + 1 → CardT (deaM (c.val + 1) 4) p.val q.val := by decide +kernel
theorem see_in {c : Nat} (h1 : 1 ≤ c) (h4 : c ≤ 4) (L : List Nat) (hL : ∀ a, a < c → nth L a < 2 ^ c) : frIn (senM c L) 6 = true := by
  have h16 : 2 ^ c ≤ 2 ^ 4 := Nat.pow_le_pow_right (by omega) h4
  have hp := Nat.two_pow_pos c
  have ok : MoOk (senM c L) (List.range (2 ^ c)).length := bldM_ok _ (by rw [List.length_range]; exact hp) (by simp; omega) (by omega) h4
  unfold frIn
  rw [show (moCheck (senM c L) == 0) = true by simp [ok.check]]
  simp only [show (propsE 6 == 0) = true by decide, Bool.true_and, List.all_eq_true]
  intro r hr
  obtain ⟨a, ha, rfl⟩ := List.mem_map.1 (show r ∈ (List.range c).map fun a => bldRow (List.range (2 ^ c)).length fun v => ((v &&& nth L a : Nat) : Int) from hr)
  rw [List.length_range]
  have h := see_tab ⟨c, by omega⟩ ⟨nth L a, by have := hL a (List.mem_range.1 ha); omega⟩ (by dsimp only; omega) (hL a (List.mem_range.1 ha))
  exact h
end Wt

/- The walk of PuzzlesFair. -/
namespace Wt
open Go Go.RowKit Go.Maps Go.Proofs Fm

/-- A model in memory, told by its numbers. -/
theorem frS5_any (M : Mo) (h6 : frIn M 6 = true) (va ra : Option Addr) (vc rc : Nat) (w : World) (hT : Tab w) (hm : RM w va ra M) :
    Calls Tryz.prog 47 #[.agg #[.int .i64 M.worlds, .slice va M.val.length vc, .slice ra M.rel.length rc], .int .i64 6] w fun e w' => e = .returned (.bool true) ∧ Ext w w' := by
  have h := frInA_any 6 M va ra vc rc w hT hm
  rw [h6] at h
  exact h
theorem box4Z (w : World) (zs : List Nat) (_hz : zs.length = 4) (T : Nat) : ∀ i, i < 4 → (w.alloc (.cells #[.int .u8 ((nth zs 0 : Nat) : Int), .int .u8 ((nth zs 1 : Nat) : Int), .int .u8 ((nth zs 2 : Nat) : Int), .int .u8 ((nth zs 3 : Nat) : Int)] T)).cell? ⟨w.heap.size, i, none⟩ = some (.int .u8 ((nth zs i : Nat) : Int)) := fun i hi => by
  match i, hi with
  | 0, _ => simp
  | 1, _ => simp
  | 2, _ => simp
  | 3, _ => simp
def faL (c : Nat) (zs : List Nat) : List Nat := (List.range c).map fun i => nth zs i % 2 ^ c
theorem faL_at {c i : Nat} (zs : List Nat) (h : i < c) : nth (faL c zs) i = nth zs i % 2 ^ c := by
  unfold faL
  rw [nth_mapN _ _ (by simpa using h), nth_range h]
def RetM5 (A : Mo) (W : Int) (e : Ending) (w w' : World) : Prop := ∃ va ra vc rc, e = .returned (.tuple #[.agg #[.int .i64 W, .slice va A.val.length vc, .slice ra A.rel.length rc], .int .i64 0]) ∧ RM w' va ra A ∧ Ext w w'
set_option maxRecDepth 20000 in
set_option maxHeartbeats 16000000 in
theorem puzzlesFair_any (s : Nat) (zs : List Nat) (hs : s ≤ 255) (hzl : zs.length = 4) (hz255 : ∀ i, i < 4 → nth zs i ≤ 255) (w : World) (hT : Tab w) :
    Calls Tryz.prog 10 #[.int .u8 (s : Int), .agg #[.int .u8 ((nth zs 0 : Nat) : Int), .int .u8 ((nth zs 1 : Nat) : Int), .int .u8 ((nth zs 2 : Nat) : Int), .int .u8 ((nth zs 3 : Nat) : Int)]] w fun e w' => e = .returned (.bool true) ∧ Ext w w' := by
  have hm1 : (s : Int).tmod 4 = ((s % 4 : Nat) : Int) := (Int.ofNat_tmod s 4).symm
  obtain ⟨c, hc⟩ : ∃ c, c = s % 4 + 1 := ⟨_, rfl⟩
  have hc1 : 1 ≤ c := by omega
  have hc4 : c ≤ 4 := by omega
  have hm2 : (1 : Int) + ((s % 4 : Nat) : Int) = (c : Int) := by omega
  generalize s % 4 = r at *
  have h63 : c < 63 := by omega
  have hr4 : r < 4 := by omega
  obtain ⟨q, hq⟩ : ∃ q : Nat, q = 2 ^ c := ⟨_, rfl⟩
  have hp : p2 c = (q : Int) := by rw [hq]; rfl
  have hq16 : 2 ≤ q ∧ q ≤ 16 := by
    have h1 : 2 ^ c ≤ 2 ^ 4 := Nat.pow_le_pow_right (by omega) hc4
    have h2 : 2 ^ 1 ≤ 2 ^ c := Nat.pow_le_pow_right (by omega) hc1
    omega
  have hLl : (faL c zs).length = c := by simp [faL]
  have HLA : Hid (∀ a, a < c → nth (faL c zs) a = nth zs a % q) := Lib.hid fun a ha => by rw [faL_at zs ha, hq]
  have HLQ : Hid (∀ a, a < c → nth (faL c zs) a < 2 ^ c) := Lib.hid fun a ha => by rw [faL_at zs ha]; exact Nat.mod_lt _ (Nat.two_pow_pos c)
  have HZ := Lib.hid hz255
  have hE0 : Ext w (w.alloc (.cells #[.int .u8 ((nth zs 0 : Nat) : Int), .int .u8 ((nth zs 1 : Nat) : Int), .int .u8 ((nth zs 2 : Nat) : Int), .int .u8 ((nth zs 3 : Nat) : Int)] 76)) := (Ext.refl w).alloc _
  have HBX := Lib.hid (box4Z w zs hzl 76)
  have HT := Lib.hid (hT.ext hE0)
  have HE0 := Lib.hid hE0
  obtain ⟨i0, hi1, hz0, hz1, hz2⟩ := info_parts int_info
  clear hT hq hc hE0 hz255
  go_enter Tryz.func10, Tryz.ntmps10
  go_wp2_with fail
  generalize w.alloc (.cells #[.int .u8 ((nth zs 0 : Nat) : Int), .int .u8 ((nth zs 1 : Nat) : Int), .int .u8 ((nth zs 2 : Nat) : Int), .int .u8 ((nth zs 3 : Nat) : Int)] 76) = w0 at *
  go_loopw [6, 7] (fun v i wr => ∃ k : Nat, k ≤ c ∧ i = .int .i64 (k : Int) ∧ Hid (GL w0 3 iv (natI ((faL c zs).take k)) v wr)) (fun _ i _ => c - (RowKit.intOf i).toNat)
  case atStart => exact ⟨0, Nat.zero_le _, rfl, Lib.hid ⟨Ext.refl _, World.ownsRow_nil _ _ _ _⟩⟩
  case round =>
    obtain ⟨k, hk, rfl, HG⟩ := hrel
    by_cases hkc : k < c
    · have hbc := HG.out.e.cell (HBX.out k (by omega))
      have hbl := World.block_lt_of_cell? _ _ hbc
      have hml : k < (faL c zs).length := by rw [hLl]; exact hkc
      have HTK : Hid (natI ((faL c zs).take (k + 1)) = natI ((faL c zs).take k) ++ [((nth zs k % q : Nat) : Int)]) := Lib.hid (by rw [take_nthZ hml, HLA.out k hkc]; simp [natI])
      have hz := HZ.out k (by omega)
      have hmz : ((nth zs k : Nat) : Int).tmod (q : Int) = ((nth zs k % q : Nat) : Int) := (Int.ofNat_tmod _ q).symm
      have hmq : nth zs k % q < 16 := Nat.lt_of_lt_of_le (Nat.mod_lt _ (by omega)) hq16.2
      have hq0 : ((q : Int) == 0) = false := by simp; omega
      have hq0' : (q : Int) ≠ 0 := by omega
      have hnl : (natI ((faL c zs).take k)).length = k := by rw [natI_len, List.length_take]; omega
      have HO : Hid (∀ o, (wr.alloc o).ownsRow w0.heap.size 3 1 u6 (natI ((faL c zs).take k)).length ((natI ((faL c zs).take k)).map iv)) := Lib.hid fun o => (HG.out.ext' ((Ext.refl wr).alloc o)).own
      have HPA : Hid (∀ o, GL w0 3 iv (natI ((faL c zs).take k)) u6 (wr.alloc o)) := Lib.hid fun o => HG.out.ext' ((Ext.refl wr).alloc o)
      generalize nth zs k % q = z at *
      generalize nth zs k = y at *
      have HONE : Hid (∀ u ∈ [Value.int .i64 (z : Int)], u.oneCell' = true) := Lib.hid (by simp [Value.oneCell'])
      have hsz1 : w0.heap.size ≤ wr.heap.size := HG.out.e.size
      have hF64 : (natI ((faL c zs).take k)).length ≤ 64 := by rw [hnl]; omega
      have HNL := Lib.hid hnl
      generalize natI ((faL c zs).take k) = F at *
      dsimp only at hbl
      clear hnl hml
      go_wp2_with (at_builtin; refine wpList_append_lies _ rfl _ _ 22 rfl w0.heap.size 3 i0 _ 1 8 Tryz.underlying22 hi1 hz0 hz1 hz2 rfl (by decide) u6 F.length _ rfl (HO.out _) ⟨wr.heap.size, 0, none⟩ 1 1 [.int .i64 (z : Int)] rfl rfl (cell_one_new _ _ _) HONE.out (by decide) (by unfold maxLen; omega) (by omega) (Nat.le_trans hsz1 (by simp)) (wr.heap.size + 1) (by simp) ?_; intro gx cap W1 hown hgrow hat hlt2; have hpush := (HPA.out _).push (x := (z : Int)) hown hgrow; have HPU := Lib.hid hpush; clear hpush hown hgrow hat)
      go_roundw
      case rel => exact ⟨k + 1, hkc, by go_num, Lib.hid (by rw [HTK.out]; exact HPU.out)⟩
      case measure => simp [RowKit.intOf]; omega
    · obtain rfl : k = c := by omega
      have hgl := HG.out
      rw [List.take_of_length_le (by rw [hLl]; exact Nat.le_refl _)] at hgl
      obtain ⟨sa, sc, hv0, hu0⟩ := RetI_of hgl (by rw [natI_len, hLl]; omega)
      rw [natI_len, hLl] at hv0
      subst hv0
      have HU := Lib.hid (hu0 wr fun _ _ _ => rfl)
      have HEL := Lib.hid (HE0.out.trans hgl.e)
      have HTR := Lib.hid (HT.out.ext hgl.e)
      clear hgl hu0 HG
      obtain ⟨d, hd⟩ : ∃ d, k = d + 1 := ⟨k - 1, by omega⟩
      have XS : Hid (∀ W a e, RI W a (natI (faL k zs)) → Calls Tryz.prog 12 #[.int .i64 (k : Int), .slice a k e] W fun e w' => RetRz (senM k (faL k zs)) 0 e W w') := Lib.hid fun W a e h => by
        have h1 := seen_ok k ⟨hc1, hc4⟩ (faL k zs) hLl HLQ.out a e W h
        rw [hLl] at h1
        exact h1
      have XN : Hid (∀ W, Calls Tryz.prog 15 #[.int .i64 (k : Int)] W fun e w' => RetNm (numM k) (numL k) 0 e W w') := Lib.hid fun W => numbers_any k hc1 (by omega) W
      have XD : Hid (∀ W, Calls Tryz.prog 20 #[.int .i64 (k : Int), .int .i64 4] W fun e w' => RetDl (deaM k 4) (deaL k 4) 0 e W w') := Lib.hid fun W => deal_any k 4 hc1 (by decide) hc4 W
      have HA6 : Hid (frIn (senM k (faL k zs)) 6 = true) := Lib.hid (see_in hc1 hc4 _ HLQ.out)
      have HB6 : Hid (frIn (numM k) 6 = true) := Lib.hid (by rw [hd]; exact num_tab ⟨d, by omega⟩)
      have HD6 : Hid (frIn (deaM k 4) 6 = true) := Lib.hid (by rw [hd]; exact dea_tab ⟨d, by omega⟩)
      have hdl := dea_len ⟨d, by omega⟩
      dsimp only at hdl
      rw [← hd] at hdl
      have HDL := Lib.hid hdl
      have XL : Hid (∀ a b, a < k → b < k → ∀ W, Calls Tryz.prog 33 #[.int .i64 (a : Int), .int .i64 (2 * (b : Int)), .int .i64 2] W fun e w' => RetNzZ (allTo (leaL a (2 * b) 2) (leaL a (2 * b) 2).length) e W w') := Lib.hid fun a b ha hb W => by
        have h := learned_any a (2 * b) 2 (by omega) (by decide) (by omega) W
        rw [show ((2 * b : Nat) : Int) = 2 * (b : Int) by omega] at h
        exact h
      have XH : Hid (∀ a b, a < k → b < k → ∀ W va ra vc rc fa fc, RM W va ra (deaM k 4) → RN W fa (allTo (leaL a (2 * b) 2) (leaL a (2 * b) 2).length) → Calls Tryz.prog 48 #[.agg #[.int .i64 (deaM k 4).worlds, .slice va (deaM k 4).val.length vc, .slice ra (deaM k 4).rel.length rc], .slice fa (allTo (leaL a (2 * b) 2) (leaL a (2 * b) 2).length).length fc] W fun e w' => RetP (.int .u64 (un (if a = b then allW (deaL k 4).length else 0#64))) 0 e W w') := Lib.hid fun a b ha hb W va ra vc rc fa fc hm hf => by
        have h := holds_any (deaM k 4) va ra vc rc fa fc _ W hm hf
        obtain ⟨h1, h2⟩ := card_tab ⟨d, by omega⟩ ⟨a, by omega⟩ ⟨b, by omega⟩ (by dsimp only; omega) (by dsimp only; omega)
        dsimp only at h1 h2
        rw [← hd] at h1 h2
        rw [hdl.1, Int.toNat_natCast] at h2
        rw [h1, h2] at h
        exact h
      have HN64 : Hid ((deaL k 4).length ≤ 64) := Lib.hid (deaL_ok ⟨k, by omega⟩ ⟨4, by omega⟩).1
      clear hdl hd
      generalize senM k (faL k zs) = MA at *
      generalize numM k = MB at *
      generalize numL k = LB at *
      generalize deaM k 4 = MD at *
      generalize deaL k 4 = LD at *
      go_wp2_with fail
      refine (XS.out _ _ _ HU.out).mono ?_
      rintro _ w1 ⟨va, ra, vc, rc, rfl, hm, hE1⟩
      have hA1 : Ext w1 (w1.alloc (.cells #[.int .i64 MA.worlds, .slice va MA.val.length vc, .slice ra MA.rel.length rc] 28)) := (Ext.refl w1).alloc _
      have HO1 := Lib.hid (OutAt.new w1 (.int .i64 MA.worlds) (.slice va MA.val.length vc) (.slice ra MA.rel.length rc) 28)
      have HM1 := Lib.hid (RM.ext hA1 hm)
      have HE1 := Lib.hid (HEL.out.trans (hE1.trans hA1))
      have HT1 := Lib.hid (HTR.out.ext (hE1.trans hA1))
      clear hm hE1 hA1
      dsimp only
      go_wp2_with fail
      generalize w1.alloc (.cells #[.int .i64 MA.worlds, .slice va MA.val.length vc, .slice ra MA.rel.length rc] 28) = w2 at *
      refine (XN.out _).mono ?_
      rintro _ w3 ⟨vb, rb, lb, vd, rd, ld, rfl, hm, -, hE3⟩
      have hA3 : Ext w3 (w3.alloc (.cells #[.int .i64 MB.worlds, .slice vb MB.val.length vd, .slice rb MB.rel.length rd] 28)) := (Ext.refl w3).alloc _
      have HO3 := Lib.hid (OutAt.new w3 (.int .i64 MB.worlds) (.slice vb MB.val.length vd) (.slice rb MB.rel.length rd) 28)
      have HM3 := Lib.hid (RM.ext hA3 hm)
      have HE3 := Lib.hid (hE3.trans hA3)
      clear hm hE3 hA3
      dsimp only
      go_wp2_with fail
      generalize w3.alloc (.cells #[.int .i64 MB.worlds, .slice vb MB.val.length vd, .slice rb MB.rel.length rd] 28) = w4 at *
      refine (XD.out _).mono ?_
      rintro _ w5 ⟨ve, re, le, vf, rf, lf, rfl, hm, -, hE5⟩
      have hA5 : Ext w5 (w5.alloc (.cells #[.int .i64 MD.worlds, .slice ve MD.val.length vf, .slice re MD.rel.length rf] 28)) := (Ext.refl w5).alloc _
      have HO5 := Lib.hid (OutAt.new w5 (.int .i64 MD.worlds) (.slice ve MD.val.length vf) (.slice re MD.rel.length rf) 28)
      have HM5 := Lib.hid (RM.ext hA5 hm)
      have HE5 := Lib.hid (HE3.out.trans (hE5.trans hA5))
      have HX5 := Lib.hid (hE5.trans hA5)
      clear hm hE5 hA5
      dsimp only
      go_upto_region 10 with fail
      generalize w5.alloc (.cells #[.int .i64 MD.worlds, .slice ve MD.val.length vf, .slice re MD.rel.length rf] 28) = w6 at *
      obtain ⟨o0, o1, o2, -⟩ := HO1.out.ext HE5.out
      have ol := World.block_lt_of_cell? _ _ o0
      dsimp only at ol
      go_wp2_with fail
      clear o0 o1 o2 ol
      refine (frS5_any MA HA6.out _ _ _ _ _ (HT1.out.ext HE5.out) (HM1.out.ext HE5.out)).mono ?_
      rintro _ w7 ⟨rfl, hE7⟩
      have HE7 := Lib.hid hE7
      clear hE7
      obtain ⟨o0, o1, o2, -⟩ := HO3.out.ext (HX5.out.trans HE7.out)
      have ol := World.block_lt_of_cell? _ _ o0
      dsimp only at ol ⊢
      go_wp2_with fail
      clear o0 o1 o2 ol
      refine (frS5_any MB HB6.out _ _ _ _ _ (HT1.out.ext (HE5.out.trans HE7.out)) (HM3.out.ext (HX5.out.trans HE7.out))).mono ?_
      rintro _ w8 ⟨rfl, hE8⟩
      have HE8 := Lib.hid (HE7.out.trans hE8)
      clear hE8
      obtain ⟨o0, o1, o2, -⟩ := HO5.out.ext HE8.out
      have ol := World.block_lt_of_cell? _ _ o0
      dsimp only at ol ⊢
      go_wp2_with fail
      clear o0 o1 o2 ol
      refine (frS5_any MD HD6.out _ _ _ _ _ (HT1.out.ext (HE5.out.trans HE8.out)) (HM5.out.ext HE8.out)).mono ?_
      rintro _ w9 ⟨rfl, hE9⟩
      have HE9 := Lib.hid (HE8.out.trans hE9)
      clear hE9
      obtain ⟨o0, o1, o2, -⟩ := HO5.out.ext HE9.out
      have ol := World.block_lt_of_cell? _ _ o0
      rw [HDL.out.1] at o0
      rw [HDL.out.2] at o2
      dsimp only at ol ⊢
      go_wp2_with fail
      have HL9 := Lib.hid (HE1.out.trans (HE5.out.trans HE9.out))
      clear o0 o1 o2 ol
      go_loopw [16] (fun i wr => ∃ a : Nat, a ≤ k ∧ i = .int .i64 (a : Int) ∧ Hid (Ext w9 wr)) (fun i _ => k - (RowKit.intOf i).toNat)
      case atStart => exact ⟨0, Nat.zero_le _, rfl, Lib.hid (Ext.refl _)⟩
      case round =>
        obtain ⟨a, ha, rfl, HX⟩ := hrel
        by_cases hak : a < k
        · go_wp2_with fail
          go_loopw [17] (fun i wz => ∃ b : Nat, b ≤ k ∧ i = .int .i64 (b : Int) ∧ Hid (Ext w9 wz)) (fun i _ => k - (RowKit.intOf i).toNat)
          case atStart => exact ⟨0, Nat.zero_le _, rfl, HX⟩
          case round =>
            rename World => wz
            obtain ⟨b, hb, rfl, HY⟩ := hrel
            by_cases hbk : b < k
            · have HLR := Lib.hid (XL.out a b hak hbk)
              by_cases hab : a = b
              · have hpq : ((a : Int) == (b : Int)) = true := by rw [hab]; simp
                have HXH := Lib.hid (XH.out a b hak hbk)
                have hxh := HXH.out
                rw [if_pos hab] at hxh
                clear HXH
                have HXH := Lib.hid hxh
                clear hxh
                subst hab
                generalize allTo (leaL a (2 * a) 2) (leaL a (2 * a) 2).length = FF at *
                go_wp2_with fail
                refine (HLR.out _).mono ?_
                rintro _ wa ⟨fa, fc, rfl, hf, hEa⟩
                have HEa := Lib.hid hEa
                clear hEa
                obtain ⟨o0, o1, o2, -⟩ := HO5.out.ext (HE9.out.trans (HY.out.trans HEa.out))
                have ol := World.block_lt_of_cell? _ _ o0
                dsimp only at ol ⊢
                go_wp2_with fail
                clear o0 o1 o2 ol
                refine (HXH.out _ _ _ _ _ _ _ (HM5.out.ext (HE9.out.trans (HY.out.trans HEa.out))) hf).mono ?_
                rintro _ wb ⟨rfl, hEb⟩
                have HEb := Lib.hid (HY.out.trans (HEa.out.trans hEb))
                clear hEb
                obtain ⟨o0, o1, o2, -⟩ := HO5.out.ext (HE9.out.trans HEb.out)
                have ol := World.block_lt_of_cell? _ _ o0
                rw [HDL.out.1] at o0
                dsimp only at ol ⊢
                go_wp2_with fail
                refine (r2AllZ_any LD.length _).mono ?_
                rintro _ _ ⟨rfl, rfl⟩
                have hnn : (un (allW LD.length) != un (allW LD.length)) = false := by simp
                dsimp only
                go_wp2_with fail
                go_roundw
                case rel => exact ⟨a + 1, hbk, by go_num, HEb⟩
                case measure => simp [RowKit.intOf]; omega
              · have hpq : ((a : Int) == (b : Int)) = false := by simp; omega
                have HXH := Lib.hid (XH.out a b hak hbk)
                have hxh := HXH.out
                rw [if_neg hab] at hxh
                clear HXH
                have HXH := Lib.hid hxh
                clear hxh hab
                generalize allTo (leaL a (2 * b) 2) (leaL a (2 * b) 2).length = FF at *
                go_wp2_with fail
                refine (HLR.out _).mono ?_
                rintro _ wa ⟨fa, fc, rfl, hf, hEa⟩
                have HEa := Lib.hid hEa
                clear hEa
                obtain ⟨o0, o1, o2, -⟩ := HO5.out.ext (HE9.out.trans (HY.out.trans HEa.out))
                have ol := World.block_lt_of_cell? _ _ o0
                dsimp only at ol ⊢
                go_wp2_with fail
                clear o0 o1 o2 ol
                refine (HXH.out _ _ _ _ _ _ _ (HM5.out.ext (HE9.out.trans (HY.out.trans HEa.out))) hf).mono ?_
                rintro _ wb ⟨rfl, hEb⟩
                have HEb := Lib.hid (HY.out.trans (HEa.out.trans hEb))
                clear hEb
                dsimp only
                go_wp2_with fail
                go_roundw
                case rel => exact ⟨b + 1, hbk, by go_num, HEb⟩
                case measure => simp [RowKit.intOf]; omega
            · obtain rfl : b = k := by omega
              go_wp2_with fail
              go_roundw
              case rel => exact ⟨a + 1, hak, by go_num, HY⟩
              case measure => simp [RowKit.intOf]; omega
        · obtain rfl : a = k := by omega
          go_wp2_with fail
          refine (awake32_any _ (HT1.out.ext (HE5.out.trans (HE9.out.trans HX.out)))).mono ?_
          rintro _ wa ⟨rfl, hEa⟩
          dsimp only
          go_wp2_with fail
          go_ret
          exact ⟨rfl, HL9.out.trans (HX.out.trans hEa)⟩
theorem puzzlesFair_int (s z0 z1 z2 z3 : Int) (bs : 0 ≤ s ∧ s ≤ 255) (b0 : 0 ≤ z0 ∧ z0 ≤ 255) (b1 : 0 ≤ z1 ∧ z1 ≤ 255) (b2 : 0 ≤ z2 ∧ z2 ≤ 255) (b3 : 0 ≤ z3 ∧ z3 ≤ 255) (w : World) (hT : Tab w) :
    Calls Tryz.prog 10 #[.int .u8 s, .agg #[.int .u8 z0, .int .u8 z1, .int .u8 z2, .int .u8 z3]] w fun e w' => e = .returned (.bool true) ∧ Ext w w' := by
  obtain ⟨s, rfl⟩ := Int.eq_ofNat_of_zero_le bs.1
  obtain ⟨z0, rfl⟩ := Int.eq_ofNat_of_zero_le b0.1
  obtain ⟨z1, rfl⟩ := Int.eq_ofNat_of_zero_le b1.1
  obtain ⟨z2, rfl⟩ := Int.eq_ofNat_of_zero_le b2.1
  obtain ⟨z3, rfl⟩ := Int.eq_ofNat_of_zero_le b3.1
  refine puzzlesFair_any s [z0, z1, z2, z3] (by omega) rfl (fun i hi => ?_) w hT
  match i, hi with
  | 0, _ => show z0 ≤ 255; omega
  | 1, _ => show z1 ≤ 255; omega
  | 2, _ => show z2 ≤ 255; omega
  | 3, _ => show z3 ≤ 255; omega
end Wt

/- The law PuzzlesFair returns true at every input, and its arguments read behind the call as they did before. the tied card: the library's table of TrailingZeros64 lies as the program's text lays it. -/
namespace Go.Proofs.YtoacdccachhjdaaGreatDoor
open Go.ChangeShapes Go.WideShapes Go.ChangeAt Go.WideMaps Go.WideElems Go.RowKit

theorem own : ownKnob Tryz.prog.godebug = none := by kernel_rfl
theorem laidOut : laidOutB Tryz.prog = true := by kernel_rfl
theorem okWide_arr {P : Program} {w : World} {r : Reach} {base : Nat} {t e : TypeId} {n : Nat} {v : Value} (ht : P.underlying t = some (.array n e)) (h : Value.okWide P w r base t v) : ∃ cs, v = .agg cs := by
  unfold Value.okWide at h
  rw [ht] at h
  obtain ⟨cs, h1, _⟩ := h
  exact ⟨cs, h1⟩
set_option maxRecDepth 100000 in
theorem open_uint84 {H : Type} {enc : TypeId × Value → H} {w : World} {v : Value} {d : DataW H} {p : List MemPlace} {r : Reach} {b0 : Nat} (hval : Value.okWide Tryz.prog w r b0 76 v) (h : DataW.Trod enc Tryz.prog w 0 (fun _ => true) true 76 v d p) :
    ∃ z0 z1 z2 z3 : Int, v = .agg #[.int .u8 z0, .int .u8 z1, .int .u8 z2, .int .u8 z3] ∧ (0 ≤ z0 ∧ z0 ≤ 255) ∧ (0 ≤ z1 ∧ z1 ≤ 255) ∧ (0 ≤ z2 ∧ z2 ≤ 255) ∧ (0 ≤ z3 ∧ z3 ≤ 255) := by
  have hc0 : Tryz.prog.cellsOf 5 = 1 := by kernel_rfl
  have hc3 : Tryz.prog.cellsOf 76 = 4 := by kernel_rfl
  obtain ⟨cs, rfl⟩ := okWide_arr Tryz.underlying76 hval
  obtain ⟨fuel, h⟩ := h
  obtain ⟨xs, m, _, _, hl, hxl, hi⟩ := DataW.trod_array Tryz.underlying76 h
  rw [hc3] at hl
  match xs, hxl with
  | [y0, y1, y2, y3], _ =>
    have u0 := hi 0 (by omega)
    have u1 := hi 1 (by omega)
    have u2 := hi 2 (by omega)
    have u3 := hi 3 (by omega)
    simp only [hc0, List.getElem?_cons_zero, List.getElem?_cons_succ] at u0 u1 u2 u3
    obtain ⟨z0, hi0, _, w0⟩ := DataW.trod_int Tryz.underlying5 u0
    obtain ⟨z1, hi1, _, w1⟩ := DataW.trod_int Tryz.underlying5 u1
    obtain ⟨z2, hi2, _, w2⟩ := DataW.trod_int Tryz.underlying5 u2
    obtain ⟨z3, hi3, _, w3⟩ := DataW.trod_int Tryz.underlying5 u3
    have hcl : (Value.agg cs).cells.toList = [.int .u8 z0, .int .u8 z1, .int .u8 z2, .int .u8 z3] := by
      generalize (Value.agg cs).cells.toList = L at hl hi0 hi1 hi2 hi3
      match L, hl with
      | [c0, c1, c2, c3], _ =>
        simp at hi0 hi1 hi2 hi3
        rw [hi0, hi1, hi2, hi3]
    have e2 : cs.toList = [.int .u8 z0, .int .u8 z1, .int .u8 z2, .int .u8 z3] := hcl
    have e3 : cs = #[.int .u8 z0, .int .u8 z1, .int .u8 z2, .int .u8 z3] := by
      apply Array.ext'
      rw [e2]
    have b0 := w0
    have b1 := w1
    have b2 := w2
    have b3 := w3
    simp [Lit.wf, IntKind.min, IntKind.max, IntKind.signed, IntKind.bits] at b0 b1 b2 b3
    exact ⟨z0, z1, z2, z3, by rw [e3], b0, b1, b2, b3⟩
theorem door_met (os : Os) (args : Array Value) : laidMetH Tryz.prog [("math/bits.deBruijn64tab", Rows.laid_math_bits_deBruijn64tab)] ((World.doorLaid Tryz.prog 400 os).forCall (fun _ _ => 0) ⟨#[], args, []⟩).memory := by
  rw [MakeChecks.laidMetH_plain _ _ _ (by kernel_rfl)]
  exact laidMet_of_run' 8 (by kernel_rfl) (by kernel_rfl)
set_option maxRecDepth 100000 in
set_option maxHeartbeats 1000000 in
theorem law_lifted (os : Os) (started : os.Started) (H : Type) (enc : TypeId × Value → H) :
    ReturnsInHanded {} Tryz.checked os 10 .any (fun w args => (Rows.puzzlesFairSpec.pre enc Tryz.prog Tryz.f10 Rows.puzzlesFairRow.domain false w args ∧ laidMetH Tryz.prog [("math/bits.deBruijn64tab", Rows.laid_math_bits_deBruijn64tab)] w) ∧ sizedMet enc Tryz.prog Tryz.f10 (OpenSpec.ofChange Rows.puzzlesFairSpec) false w args)
      (Rows.puzzlesFairSpec.post enc Tryz.prog Tryz.f10 false true false false) := by
  refine returnsInHanded_of_change_and (C := Tryz.checked) (X := fun w _ => laidMetH Tryz.prog [("math/bits.deBruijn64tab", Rows.laid_math_bits_deBruijn64tab)] w) (fun _ _ _ hh h => h.of_heap hh) own started (by kernel_rfl) Tryz.func10
    (ChangeSpec.witness_shaped (enc := enc) (C := Tryz.checked) (os := os) (X := fun w _ => laidMetH Tryz.prog [("math/bits.deBruijn64tab", Rows.laid_math_bits_deBruijn64tab)] w) false (World.doorLaid Tryz.prog 400 os) #[.int .u8 0, .agg #[.int .u8 0, .int .u8 0, .int .u8 0, .int .u8 0]] 8 rfl (World.shaped_of_RefB (by kernel_rfl) (by kernel_rfl)) (by kernel_rfl) (by kernel_rfl) (by kernel_rfl) (door_met os _)) ?_
  intro W base args ds gs before hval0 hW _ hsz0 hL _
  have hT := of_laid hL
  have hval : ∀ (j : Nat) t v, Tryz.f10.params[j]? = some t → args[j]? = some v → Value.okWide Tryz.prog W .any base t v := hval0
  have hsz : (DataW.weightsEach Tryz.prog (Tryz.f10.params.toList ++ Rows.puzzlesFairSpec.plain.varTypes Tryz.prog) (ds ++ gs)).all (· ≤ reachBytes) = true := hsz0
  have hW' := hW
  obtain ⟨p, q, hA0, hV, rfl, hfz, hnd⟩ := hW
  have hA : DataW.TrodAll enc Tryz.prog W 0 (fun _ => true) true Tryz.f10.params.toList args.toList ds p := hA0
  rw [Tryz.params10] at hA hval hsz
  obtain ⟨v0, v1, d0, d1, p0, p1, rfl, rfl, rfl, h0, h1⟩ := trodAll_two hA
  obtain ⟨rfl, rfl⟩ := trodVars_none hV
  have hv0 : Rows.puzzlesFairSpec.plain.varTypes Tryz.prog = [] := rfl
  rw [hv0] at hsz
  have hz : ∀ n ∈ DataW.weightsEach Tryz.prog [5, 76] [d0, d1], n ≤ reachBytes := fun n hn => by
    have := List.all_eq_true.1 hsz n (by simpa using hn)
    simpa using this
  have k0 := h0
  have k1 := h1
  obtain ⟨s, rfl, rfl, rfl, ws⟩ := open_int Tryz.underlying5 (hval 0 5 v0 rfl rfl) h0
  have bs := ws
  simp [Lit.wf, IntKind.min, IntKind.max, IntKind.signed, IntKind.bits] at bs
  obtain ⟨z0, z1, z2, z3, rfl, bz0, bz1, bz2, bz3⟩ := open_uint84 (hval 1 76 v1 rfl rfl) h1
  have hl1 : ∀ y ∈ p1, y.block < W.heap.size := fun y hy => by simpa using hW'.lt y (by simp [hy])
  refine (Wt.puzzlesFair_int s z0 z1 z2 z3 bs bz0 bz1 bz2 bz3 W hT).mono fun e W' he => ?_
  obtain ⟨rfl, hE⟩ := he
  have bel : Below W.heap.size W W' := hE
  refine ⟨_, rfl, ⟨_, _, _, [], [] ++ (p1), [], hW', trodAll_mk1 (shut_bool Tryz.underlying4 true), trodAll_mk2 (shut_int Tryz.underlying5 ws) (Below.trod laidOut (by kernel_rfl) (of_decide_eq_true (by kernel_rfl)) k1 bel (fun y hy => hl1 y (by simpa using hy))), rfl, bel.frame _, fun h => by cases h⟩⟩
theorem puzzlesFair_holds : Rows.PuzzlesFairSaid :=
  OpenClaim.holds_of_wide 10 Tryz.f10 rfl rfl rfl rfl rfl rfl rfl ⟨rfl, rfl, rfl, rfl, rfl⟩ rfl rfl rfl rfl rfl (by kernel_rfl) Tryz.func10 (by kernel_rfl)
    (of_decide_eq_true (by kernel_rfl)) (by unfold Func.isWrapper; first | (rw [if_pos (by decide +kernel)]; kernel_rfl) | (rw [if_neg (by decide +kernel)]; exact ⟨rfl, rfl⟩))
    (fun os started H enc _ => law_lifted os started H enc)
theorem puzzlesFair_card_holds : Rows.PuzzlesFairCardSaid :=
  Claim7.holds_tied_plain_at .later [] [.data] true Rows.puzzlesFairCard.stood.harness false
    puzzlesFair_holds (fun _ h => by cases h) (by kernel_rfl) (fun _ h => by cases h) puzzlesFair_row_tie rfl ⟨rfl, rfl⟩ (by kernel_rfl) rfl
    (fun f fn hf hfn => by
      obtain rfl : f = 10 := Option.some.inj ((show Tryz.prog.funcNamed "witting/wittinglaw32.PuzzlesFair" = some 10 by kernel_rfl).symm.trans hf) |>.symm
      obtain rfl : fn = Tryz.f10 := (Option.some.inj (Tryz.func10.symm.trans hfn)).symm
      exact ⟨by kernel_rfl, fun j t ht => by
        rw [Tryz.params10] at ht
        have hm : t ∈ [5, 76] := by simpa using Array.mem_of_getElem? ht
        have hall : ([5, 76].all fun u => !Tryz.prog.wantsStandIn u) = true := by kernel_rfl
        exact (show Tryz.prog.wantsStandIn t = false by simpa using List.all_eq_true.1 hall t hm)⟩)
    (by kernel_rfl)
#print axioms puzzlesFair_card_holds
end Go.Proofs.YtoacdccachhjdaaGreatDoor
